/- Package vm: values: dup, load, swap, store. · Package vm: values: swap and store. · Package vm: values: swap, less, eq. · Package vm: values: swap, less. -/
import Derived.Test.YtndpgdegcbaigaaGreatDoorQ03
namespace Go.Proofs.YtndpgdegcbaigaaGreatDoor
open Go Go.RowKit

section
variable {p : Nat} {prog : List Ins} {view : List File} {c : Cfg} {steps : Int} {done : Bool} {fault : Int} {sb cb : Option Nat} {w : World}

theorem last_one {α : Type} {st : List α} (hk : 1 ≤ st.length) : ∃ xs v, st = xs ++ [v] := ⟨_, _, (List.dropLast_concat_getLast (by intro e; rw [e] at hk; simp at hk)).symm⟩

/-- The last value of a machine's stack, where it lies. -/
theorem Mach.top {xs : List Val} {v : Val} (h : Mach w p prog view c steps done fault sb cb) (hs : c.stack = xs ++ [v]) : ∃ (b o sc : Nat),
    w.cell? ⟨p, 3, none⟩ = some (.slice (some ⟨b, o, none⟩) (xs.length + 1) sc) ∧ ValAt w b (o + xs.length * 3) v ∧ xs.length + 1 ≤ sc ∧ b < w.heap.size := by
  obtain ⟨sa, sc, c3, h4, e4, hp, hz⟩ := h.stackOf
  have hlen : c.stack.length = xs.length + 1 := by rw [hs]; simp
  have hA : Arr TVal w sa c.stack.length sc c.stack := Arr.of_own rfl h4
  have hcap := hA.cap
  obtain ⟨b, o, rfl, hb, hv⟩ := hA.valAt (by omega)
  rw [hlen] at c3 hcap
  exact ⟨b, o, sc, c3, hv xs.length v (by rw [hs]; simp), hcap, hb⟩

set_option maxHeartbeats 1000000 in
set_option maxRecDepth 20000 in
theorem values_dup (n : Int) (s : ByteArray) (hb64 : c.stack.length ≤ 64) (h : Mach w p prog view c steps done fault sb cb) :
    Calls Tryz.prog 72 #[.pointer (some ⟨p, 0, none⟩), vIns ⟨5, n, s⟩] w (Did w p prog view steps done fault sb cb (execValues ⟨5, n, s⟩ c)) := by
  have hx : execValues ⟨5, n, s⟩ c = takeA 1 c fun vs _ => pushV (vs.getD 0 default) c := rfl
  rw [hx, takeA]
  by_cases hk : 1 ≤ c.stack.length
  · rw [if_pos hk]
    obtain ⟨xs, v, hs⟩ := last_one hk
    have hl : c.stack.drop (c.stack.length - 1) = [v] := by rw [hs]; simp
    have hxs : xs.length + 1 ≤ 64 := by rw [hs] at hb64; simpa using hb64
    rw [hl, List.getD_cons_zero]
    have hlow := h.low
    obtain ⟨b, o, sc, c3, ⟨q0, q1, q2⟩, hsc, hb⟩ := h.top hs
    have hz : ∀ o, w.frozen? ⟨p, o, none⟩ = false := h.stackOf.choose_spec.choose_spec.2.2.2.2
    by_cases hfull : c.stack.length < 64
    · rw [pushV, if_pos hfull]
      go_enter Tryz.func72, Tryz.ntmps72
      go_wp2_with (go_at_call 95; refine (need_ok 1 (h.keep (by ((repeat (first | exact Ext.refl _ | assumption | refine Ext.drew' ?_ | refine Ext.alloc' ?_ _ | (with_reducible refine Ext.trans ?_ (Ext.drewN _ _)) | refine Ext.trans ?_ (by assumption))); done))) hk).mono ?_; rintro e w' ⟨rfl, rfl⟩)
      (refine wp_region_mixed 13 (by kernel_rfl) (by kernel_rfl) ?_; simp only [List.take_succ_cons, List.take_zero, List.drop_succ_cons, List.drop_zero]; (repeat (go_big_quiet_step (fail))); refine wpQuiet_nil ?_)
      go_wp2_with (go_at_call 89; refine (push_ok _ (h.keep (by ((repeat (first | exact Ext.refl _ | assumption | refine Ext.drew' ?_ | refine Ext.alloc' ?_ _ | (with_reducible refine Ext.trans ?_ (Ext.drewN _ _)) | refine Ext.trans ?_ (by assumption))); done))) hfull).mono ?_; rintro e w' ⟨rfl, hD⟩)
      go_end0
      exact ⟨rfl, hD.after (by ((repeat (first | exact Ext.refl _ | assumption | refine Ext.drew' ?_ | refine Ext.alloc' ?_ _ | (with_reducible refine Ext.trans ?_ (Ext.drewN _ _)) | refine Ext.trans ?_ (by assumption))); done))⟩
    · rw [pushV, if_neg hfull]
      go_enter Tryz.func72, Tryz.ntmps72
      go_wp2_with (go_at_call 95; refine (need_ok 1 (h.keep (by ((repeat (first | exact Ext.refl _ | assumption | refine Ext.drew' ?_ | refine Ext.alloc' ?_ _ | (with_reducible refine Ext.trans ?_ (Ext.drewN _ _)) | refine Ext.trans ?_ (by assumption))); done))) hk).mono ?_; rintro e w' ⟨rfl, rfl⟩)
      (refine wp_region_mixed 13 (by kernel_rfl) (by kernel_rfl) ?_; simp only [List.take_succ_cons, List.take_zero, List.drop_succ_cons, List.drop_zero]; (repeat (go_big_quiet_step (fail))); refine wpQuiet_nil ?_)
      go_wp2_with (go_at_call 89; refine (push_no _ (h.keep (by ((repeat (first | exact Ext.refl _ | assumption | refine Ext.drew' ?_ | refine Ext.alloc' ?_ _ | (with_reducible refine Ext.trans ?_ (Ext.drewN _ _)) | refine Ext.trans ?_ (by assumption))); done))) hfull).mono ?_; rintro e w' ⟨rfl, rfl⟩)
      exact ⟨rfl, rfl, c, Does.same h (by ((repeat (first | exact Ext.refl _ | assumption | refine Ext.drew' ?_ | refine Ext.alloc' ?_ _ | (with_reducible refine Ext.trans ?_ (Ext.drewN _ _)) | refine Ext.trans ?_ (by assumption))); done))⟩
  · rw [if_neg hk]
    go_enter Tryz.func72, Tryz.ntmps72
    go_wp2_with (go_at_call 95; refine (need_no 1 (h.keep (by ((repeat (first | exact Ext.refl _ | assumption | refine Ext.drew' ?_ | refine Ext.alloc' ?_ _ | (with_reducible refine Ext.trans ?_ (Ext.drewN _ _)) | refine Ext.trans ?_ (by assumption))); done))) hk).mono ?_; rintro e w' ⟨rfl, rfl⟩)
    exact ⟨rfl, rfl, c, Does.same h (by ((repeat (first | exact Ext.refl _ | assumption | refine Ext.drew' ?_ | refine Ext.alloc' ?_ _ | (with_reducible refine Ext.trans ?_ (Ext.drewN _ _)) | refine Ext.trans ?_ (by assumption))); done))⟩

theorem Mach.cell {k : Nat} (h : Mach w p prog view c steps done fault sb cb) (hk : k < 16) : p < w.heap.size ∧ (∀ o, w.frozen? ⟨p, o, none⟩ = false) ∧ ValAt w p (5 + k * 3) (c.cells.getD k default) := by
  obtain ⟨⟨pa, va, oa, sa, ca, pc, vc, oc, sc, cc, hm, -⟩, -⟩ := h
  have hl : k < c.cells.length := by rw [hm.len]; exact hk
  obtain ⟨a1, a2, a3⟩ := hm.loc k _ (List.getElem?_eq_getElem hl)
  have e : c.cells.getD k default = c.cells[k] := by simp [List.getD, List.getElem?_eq_getElem hl]
  rw [e]
  exact ⟨hm.low, hm.free, a1, a2, a3⟩

set_option maxHeartbeats 1000000 in
set_option maxRecDepth 20000 in
theorem values_load (k : Nat) (s : ByteArray) (hk : k < 16) (h : Mach w p prog view c steps done fault sb cb) :
    Calls Tryz.prog 72 #[.pointer (some ⟨p, 0, none⟩), vIns ⟨7, k, s⟩] w (Did w p prog view steps done fault sb cb (execValues ⟨7, k, s⟩ c)) := by
  have hx : execValues ⟨7, k, s⟩ c = pushV (c.cells.getD k default) c := rfl
  rw [hx]
  obtain ⟨hlow, hz, q0, q1, q2⟩ := h.cell hk
  have hk2 : (k : Int) < 16 := by omega
  by_cases hfull : c.stack.length < 64
  · rw [pushV, if_pos hfull]
    go_enter Tryz.func72, Tryz.ntmps72
    go_wp2_with fail
    (refine wp_region_mixed 8 (by kernel_rfl) (by kernel_rfl) ?_; simp only [List.take_succ_cons, List.take_zero, List.drop_succ_cons, List.drop_zero]; (repeat (go_big_quiet_step (fail))); refine wpQuiet_nil ?_)
    go_wp2_with (go_at_call 89; refine (push_ok _ (h.keep (by ((repeat (first | exact Ext.refl _ | assumption | refine Ext.drew' ?_ | refine Ext.alloc' ?_ _ | (with_reducible refine Ext.trans ?_ (Ext.drewN _ _)) | refine Ext.trans ?_ (by assumption))); done))) hfull).mono ?_; rintro e w' ⟨rfl, hD⟩)
    go_end0
    exact ⟨rfl, hD.after (by ((repeat (first | exact Ext.refl _ | assumption | refine Ext.drew' ?_ | refine Ext.alloc' ?_ _ | (with_reducible refine Ext.trans ?_ (Ext.drewN _ _)) | refine Ext.trans ?_ (by assumption))); done))⟩
  · rw [pushV, if_neg hfull]
    go_enter Tryz.func72, Tryz.ntmps72
    go_wp2_with fail
    (refine wp_region_mixed 8 (by kernel_rfl) (by kernel_rfl) ?_; simp only [List.take_succ_cons, List.take_zero, List.drop_succ_cons, List.drop_zero]; (repeat (go_big_quiet_step (fail))); refine wpQuiet_nil ?_)
    go_wp2_with (go_at_call 89; refine (push_no _ (h.keep (by ((repeat (first | exact Ext.refl _ | assumption | refine Ext.drew' ?_ | refine Ext.alloc' ?_ _ | (with_reducible refine Ext.trans ?_ (Ext.drewN _ _)) | refine Ext.trans ?_ (by assumption))); done))) hfull).mono ?_; rintro e w' ⟨rfl, rfl⟩)
    exact ⟨rfl, rfl, c, Does.same h (by ((repeat (first | exact Ext.refl _ | assumption | refine Ext.drew' ?_ | refine Ext.alloc' ?_ _ | (with_reducible refine Ext.trans ?_ (Ext.drewN _ _)) | refine Ext.trans ?_ (by assumption))); done))⟩
end
end Go.Proofs.YtndpgdegcbaigaaGreatDoor

namespace Go.Proofs.YtndpgdegcbaigaaGreatDoor
open Go Go.RowKit

abbrev bVal2 (u v : Val) : Obj := .cells #[.bool u.text, .int .i64 u.n, .string u.s, .bool v.text, .int .i64 v.n, .string v.s] 75

/-- append of two values, at a step of a region. -/
theorem step_appendVal2 {ops : Array Oper} {o : Oper} {a : Act} {K : Act → World → Prop} {Q : Exit → Act → World → Prop} {E : Prop} {w W : World} (hgd : o.guard = none) (s x : Operand)
    (ho : o.op = .call { callee := .builtin .append, args := #[s, x], argTypes := #[61, 61] })
    (sv : Value) (n : Nat) (xs : List Value) (hs : a.eval s = sv) (hown : w.ownsRow 0 75 3 sv n xs) (eW : Ext w W) (B : Nat) (u v : Val) (hx : a.eval x = .slice (some ⟨B, 0, none⟩) 2 2)
    (hB : W.heap[B]? = some (bVal2 u v)) (hn : n ≤ 1048576)
    (h : ∀ g cap w1, w1.ownsRow 0 75 3 (.slice (some ⟨g, 0, none⟩) (n + 2) cap) (n + 2) (xs ++ (TVal.enc u ++ TVal.enc v)) → W.grownBy w1 sv.ownBlock → (sv.ownBlock = some g ∨ w.heap.size ≤ g) → g < w1.heap.size →
      K (a.put o.dst (.slice (some ⟨g, 0, none⟩) (n + 2) cap)) w1) :
    if Region.wanted o (yielded ops a.tmps) = true then Oper.wp Tryz.prog o a W K Q else E := by
  obtain ⟨i0, hi, hz0, hz1, hz2⟩ := info_parts Tryz.infoVal
  refine step_append_lies W hgd s x 61 ho 0 75 i0 _ 3 32 Tryz.underlying61 hi hz0 hz1 hz2 rfl (by decide) sv n xs hs (ownsRow_ext hown eW) ⟨B, 0, none⟩ 2 2 (TVal.enc u ++ TVal.enc v) hx rfl
    (World.news_of_block hB) (fun z hz => (List.mem_append.1 hz).elim (TVal.one u z) (TVal.one v z)) (by decide) (by unfold maxLen; omega) (by omega) (Nat.zero_le _) _ rfl fun g cap w1 h1 h2 h3 h4 => h g cap w1 h1 h2 (h3.imp id fun e => ?_) h4
  have := eW.size
  omega

section
variable {p : Nat} {prog : List Ins} {view : List File} {c : Cfg} {steps : Int} {done : Bool} {fault : Int} {sb cb : Option Nat} {w : World}

theorem Mach.stored {k : Nat} (h : Mach w p prog view c steps done fault sb cb) (hk : k < 16) (v : Val) :
    Does w p prog view { c with cells := c.cells.set k v } steps done fault sb cb (((w.setCell ⟨p, 5 + k * 3, none⟩ (.bool v.text)).setCell ⟨p, 5 + k * 3 + 1, none⟩ (.int .i64 v.n)).setCell ⟨p, 5 + k * 3 + 2, none⟩ (.string v.s)) := by
  have := h.celled (cells' := c.cells.set k v) (at' := c.at_) (steps' := steps) (done' := done) (fault' := fault) (W := ((w.setCell ⟨p, 5 + k * 3, none⟩ (.bool v.text)).setCell ⟨p, 5 + k * 3 + 1, none⟩ (.int .i64 v.n)).setCell ⟨p, 5 + k * 3 + 2, none⟩ (.string v.s))
    ((Fr.setCell (fun k => k = p) w _ _ rfl).trans ((Fr.setCell (fun k => k = p) _ _ _ rfl).trans (Fr.setCell (fun k => k = p) _ _ _ rfl) (fun _ _ h => h)) (fun _ _ h => h))
    (fun _ _ _ _ _ hm => hm.setLocal k hk v)
  exact this

theorem Next.boxd {w w1 : World} {sb' cb' : Option Nat} {c1 : Cfg} {x0 x1 x2 : Value} {t : TypeId} {z : Nat × Nat} (h : Mach w p prog view c steps done fault sb cb)
    (hN : Next (w.alloc (.cells #[x0, x1, x2] t z)).drew p prog view c1 steps done fault sb cb sb' cb' w1) :
    w.heap.size < w1.heap.size ∧ w1.cell? ⟨w.heap.size, 0, none⟩ = (w.alloc (.cells #[x0, x1, x2] t z)).cell? ⟨w.heap.size, 0, none⟩ ∧ w1.cell? ⟨w.heap.size, 1, none⟩ = (w.alloc (.cells #[x0, x1, x2] t z)).cell? ⟨w.heap.size, 1, none⟩ ∧ w1.cell? ⟨w.heap.size, 2, none⟩ = (w.alloc (.cells #[x0, x1, x2] t z)).cell? ⟨w.heap.size, 2, none⟩ :=
  Next.box h ⟨hN.m, ⟨hN.fr.os, hN.fr.tape, hN.fr.output, hN.fr.size, hN.fr.block⟩, hN.sub⟩

set_option maxHeartbeats 1000000 in
set_option maxRecDepth 20000 in
theorem values_store (k : Nat) (s : ByteArray) (hk16 : k < 16) (hb64 : c.stack.length ≤ 64) (h : Mach w p prog view c steps done fault sb cb) :
    Calls Tryz.prog 72 #[.pointer (some ⟨p, 0, none⟩), vIns ⟨8, k, s⟩] w (Did w p prog view steps done fault sb cb (execValues ⟨8, k, s⟩ c)) := by
  have hx : execValues ⟨8, k, s⟩ c = takeA 1 c fun vs c => .go { c with cells := c.cells.set k (vs.getD 0 default) } := rfl
  rw [hx, takeA]
  by_cases hk : 1 ≤ c.stack.length
  · rw [if_pos hk]
    obtain ⟨xs, v, hs⟩ := last_one hk
    have hl : c.stack.drop (c.stack.length - 1) = [v] := by rw [hs]; simp
    have hl2 : c.stack.take (c.stack.length - 1) = xs := by rw [hs]; simp
    have hxs : xs.length ≤ 64 := by rw [hs] at hb64; simp at hb64; omega
    rw [hl, hl2, List.getD_cons_zero]
    have hk2 : (k : Int) < 16 := by omega
    have hlow := h.low
    go_enter Tryz.func72, Tryz.ntmps72
    go_wp2_with (go_at_call 95; refine (need_ok 1 (h.keep (by ((repeat (first | exact Ext.refl _ | assumption | refine Ext.drew' ?_ | refine Ext.alloc' ?_ _ | (with_reducible refine Ext.trans ?_ (Ext.drewN _ _)) | refine Ext.trans ?_ (by assumption))); done))) hk).mono ?_; rintro e w' ⟨rfl, rfl⟩)
    go_region_with (go_at_call 96; refine (pop_calls xs v (h.keep (by ((repeat (first | exact Ext.refl _ | assumption | refine Ext.drew' ?_ | refine Ext.alloc' ?_ _ | (with_reducible refine Ext.trans ?_ (Ext.drewN _ _)) | refine Ext.trans ?_ (by assumption))); done))) hs hxs).mono ?_; rintro e w' ⟨rfl, sb', cb', hM, hF, hS⟩; obtain ⟨y1, y2, y3, y4, y5⟩ := hM.cell hk16; have hN : Next _ p prog view { c with stack := xs } steps done fault sb cb sb' cb' w' := ⟨hM, hF, hS⟩; obtain ⟨x9, x0, x1, x2⟩ := hN.boxd h)
    all_goals
      go_wp2
      go_end0
      exact ⟨rfl, (hN.does (hN.m.stored hk16 v)).after (by ((repeat (first | exact Ext.refl _ | assumption | refine Ext.drew' ?_ | refine Ext.alloc' ?_ _ | (with_reducible refine Ext.trans ?_ (Ext.drewN _ _)) | refine Ext.trans ?_ (by assumption))); done))⟩
  · rw [if_neg hk]
    go_enter Tryz.func72, Tryz.ntmps72
    go_wp2_with (go_at_call 95; refine (need_no 1 (h.keep (by ((repeat (first | exact Ext.refl _ | assumption | refine Ext.drew' ?_ | refine Ext.alloc' ?_ _ | (with_reducible refine Ext.trans ?_ (Ext.drewN _ _)) | refine Ext.trans ?_ (by assumption))); done))) hk).mono ?_; rintro e w' ⟨rfl, rfl⟩)
    exact ⟨rfl, rfl, c, Does.same h (by ((repeat (first | exact Ext.refl _ | assumption | refine Ext.drew' ?_ | refine Ext.alloc' ?_ _ | (with_reducible refine Ext.trans ?_ (Ext.drewN _ _)) | refine Ext.trans ?_ (by assumption))); done))⟩
end
end Go.Proofs.YtndpgdegcbaigaaGreatDoor

namespace Go.Proofs.YtndpgdegcbaigaaGreatDoor
open Go Go.RowKit

section
variable {p : Nat} {prog : List Ins} {view : List File} {c : Cfg} {steps : Int} {done : Bool} {fault : Int} {sb cb : Option Nat} {w : World}

theorem bytes_same {a b : ByteArray} (h : a.toList = b.toList) : a = b := by
  rw [ByteArray.toList_eq, ByteArray.toList_eq] at h
  obtain ⟨a⟩ := a
  obtain ⟨b⟩ := b
  exact congrArg ByteArray.mk (Array.toList_inj.1 h)

theorem val_ext {u v : Val} (h1 : u.text = v.text) (h2 : u.n = v.n) (h3 : u.s.toList = v.s.toList) : u = v := by
  obtain ⟨ut, un, us⟩ := u
  obtain ⟨vt, vn, vs⟩ := v
  obtain rfl := h1
  obtain rfl := h2
  obtain rfl := bytes_same h3
  rfl

theorem last_two {st : List Val} (hk : 2 ≤ st.length) : ∃ xs u v, st = (xs ++ [u]) ++ [v] := by
  obtain ⟨ys, v, rfl⟩ := last_one (st := st) (by omega)
  obtain ⟨xs, u, rfl⟩ := last_one (st := ys) (by simp at hk; omega)
  exact ⟨xs, u, v, rfl⟩

set_option maxHeartbeats 1000000 in
set_option maxRecDepth 20000 in
theorem values_eq (n : Int) (s : ByteArray) (hb64 : c.stack.length ≤ 64) (h : Mach w p prog view c steps done fault sb cb) :
    Calls Tryz.prog 72 #[.pointer (some ⟨p, 0, none⟩), vIns ⟨15, n, s⟩] w (Did w p prog view steps done fault sb cb (execValues ⟨15, n, s⟩ c)) := by
  have hx : execValues ⟨15, n, s⟩ c = takeA 2 c fun vs c => pushV (vTruth (decide (vs.getD 0 default = vs.getD 1 default))) c := rfl
  rw [hx, takeA]
  by_cases hk : 2 ≤ c.stack.length
  · rw [if_pos hk]
    obtain ⟨xs, u, v, hs⟩ := last_two hk
    have hl : c.stack.drop (c.stack.length - 2) = [u, v] := by rw [hs]; simp
    have hl2 : c.stack.take (c.stack.length - 2) = xs := by rw [hs]; simp
    have hxs : xs.length + 2 ≤ 64 := by rw [hs] at hb64; simp at hb64; omega
    have hxs1 : (xs ++ [u]).length ≤ 64 := by simp; omega
    have hlen : xs.length < 64 := by omega
    rw [hl, hl2, List.getD_cons_zero, List.getD_cons_succ, List.getD_cons_zero, pushV, if_pos hlen]
    go_enter Tryz.func72, Tryz.ntmps72
    go_wp2_with (first
      | (go_at_call 95; refine (need_ok 2 (h.keep (by ((repeat (first | exact Ext.refl _ | assumption | refine Ext.drew' ?_ | refine Ext.alloc' ?_ _ | (with_reducible refine Ext.trans ?_ (Ext.drewN _ _)) | refine Ext.trans ?_ (by assumption))); done))) hk).mono ?_; rintro e w' ⟨rfl, rfl⟩)
      | (go_at_call 96; refine (pop_calls xs u (hN.m.keep (by ((repeat (first | exact Ext.refl _ | assumption | refine Ext.drew' ?_ | refine Ext.alloc' ?_ _ | (with_reducible refine Ext.trans ?_ (Ext.drewN _ _)) | refine Ext.trans ?_ (by assumption))); done))) rfl (by omega)).mono ?_; rintro e w' ⟨rfl, sb2, cb2, hM2, hF2, hS2⟩; have hN2 : Next _ p prog view { c with stack := xs } steps done fault sb' cb' sb2 cb2 w' := ⟨hM2, hF2, hS2⟩)
      | (go_at_call 96; refine (pop_calls (xs ++ [u]) v (h.keep (by ((repeat (first | exact Ext.refl _ | assumption | refine Ext.drew' ?_ | refine Ext.alloc' ?_ _ | (with_reducible refine Ext.trans ?_ (Ext.drewN _ _)) | refine Ext.trans ?_ (by assumption))); done))) hs hxs1).mono ?_; rintro e w' ⟨rfl, sb', cb', hM, hF, hS⟩; have hN : Next _ p prog view { c with stack := xs ++ [u] } steps done fault sb cb sb' cb' w' := ⟨hM, hF, hS⟩)
      | (go_at_call 92; refine (truth_calls _ _).mono ?_; rintro e w' ⟨rfl, rfl⟩)
      | (go_at_call 89; refine (push_ok _ (hN2.m.keep (by ((repeat (first | exact Ext.refl _ | assumption | refine Ext.drew' ?_ | refine Ext.alloc' ?_ _ | (with_reducible refine Ext.trans ?_ (Ext.drewN _ _)) | refine Ext.trans ?_ (by assumption))); done))) hlen).mono ?_; rintro e w' ⟨rfl, hD⟩))
    all_goals
      go_end0
      first
        | (rw [show decide (u = v) = true from decide_eq_true (val_ext (by assumption) (by assumption) (by assumption))]; exact ⟨rfl, (hN.does (hN2.does (hD.after (by ((repeat (first | exact Ext.refl _ | assumption | refine Ext.drew' ?_ | refine Ext.alloc' ?_ _ | (with_reducible refine Ext.trans ?_ (Ext.drewN _ _)) | refine Ext.trans ?_ (by assumption))); done))))).after (by ((repeat (first | exact Ext.refl _ | assumption | refine Ext.drew' ?_ | refine Ext.alloc' ?_ _ | (with_reducible refine Ext.trans ?_ (Ext.drewN _ _)) | refine Ext.trans ?_ (by assumption))); done))⟩)
        | (rw [show decide (u = v) = false from decide_eq_false (by intro e; simp_all only [not_true_eq_false])]; exact ⟨rfl, (hN.does (hN2.does (hD.after (by ((repeat (first | exact Ext.refl _ | assumption | refine Ext.drew' ?_ | refine Ext.alloc' ?_ _ | (with_reducible refine Ext.trans ?_ (Ext.drewN _ _)) | refine Ext.trans ?_ (by assumption))); done))))).after (by ((repeat (first | exact Ext.refl _ | assumption | refine Ext.drew' ?_ | refine Ext.alloc' ?_ _ | (with_reducible refine Ext.trans ?_ (Ext.drewN _ _)) | refine Ext.trans ?_ (by assumption))); done))⟩)
  · rw [if_neg hk]
    go_enter Tryz.func72, Tryz.ntmps72
    go_wp2_with (go_at_call 95; refine (need_no 2 (h.keep (by ((repeat (first | exact Ext.refl _ | assumption | refine Ext.drew' ?_ | refine Ext.alloc' ?_ _ | (with_reducible refine Ext.trans ?_ (Ext.drewN _ _)) | refine Ext.trans ?_ (by assumption))); done))) hk).mono ?_; rintro e w' ⟨rfl, rfl⟩)
    exact ⟨rfl, rfl, c, Does.same h (by ((repeat (first | exact Ext.refl _ | assumption | refine Ext.drew' ?_ | refine Ext.alloc' ?_ _ | (with_reducible refine Ext.trans ?_ (Ext.drewN _ _)) | refine Ext.trans ?_ (by assumption))); done))⟩
end
end Go.Proofs.YtndpgdegcbaigaaGreatDoor

namespace Go.Proofs.YtndpgdegcbaigaaGreatDoor
open Go Go.RowKit

section
variable {p : Nat} {prog : List Ins} {view : List File} {c : Cfg} {steps : Int} {done : Bool} {fault : Int} {sb cb : Option Nat} {w : World}

set_option maxHeartbeats 1000000 in
set_option maxRecDepth 20000 in
theorem values_less (n : Int) (s : ByteArray) (hb64 : c.stack.length ≤ 64) (h : Mach w p prog view c steps done fault sb cb) :
    Calls Tryz.prog 72 #[.pointer (some ⟨p, 0, none⟩), vIns ⟨14, n, s⟩] w (Did w p prog view steps done fault sb cb (execValues ⟨14, n, s⟩ c)) := by
  have hx : execValues ⟨14, n, s⟩ c = takeA 2 c fun vs c => if (vs.getD 0 default).text = (vs.getD 1 default).text then pushV (vTruth (decide ((vs.getD 0 default).n < (vs.getD 1 default).n) || ltB (vs.getD 0 default).s (vs.getD 1 default).s)) c else .stop 41 := rfl
  rw [hx, takeA]
  by_cases hk : 2 ≤ c.stack.length
  · rw [if_pos hk]
    obtain ⟨xs, u, v, hs⟩ := last_two hk
    have hl : c.stack.drop (c.stack.length - 2) = [u, v] := by rw [hs]; simp
    have hl2 : c.stack.take (c.stack.length - 2) = xs := by rw [hs]; simp
    have hxs : xs.length + 2 ≤ 64 := by rw [hs] at hb64; simp at hb64; omega
    have hxs1 : (xs ++ [u]).length ≤ 64 := by simp; omega
    have hlen : xs.length < 64 := by omega
    rw [hl, hl2, List.getD_cons_zero, List.getD_cons_succ, List.getD_cons_zero]
    have hlt : ltB u.s v.s = Op.bytesLess u.s.toList v.s.toList := by rw [ltB, ByteArray.toList_eq, ByteArray.toList_eq]
    by_cases ht : u.text = v.text
    · rw [if_pos ht, pushV, if_pos hlen, hlt]
      have hbt : (u.text == v.text) = true := by simpa using ht
      go_enter Tryz.func72, Tryz.ntmps72
      go_wp2_with (first
        | (go_at_call 95; refine (need_ok 2 (h.keep (by ((repeat (first | exact Ext.refl _ | assumption | refine Ext.drew' ?_ | refine Ext.alloc' ?_ _ | (with_reducible refine Ext.trans ?_ (Ext.drewN _ _)) | refine Ext.trans ?_ (by assumption))); done))) hk).mono ?_; rintro e w' ⟨rfl, rfl⟩)
        | (go_at_call 96; refine (pop_calls xs u (hN.m.keep (by ((repeat (first | exact Ext.refl _ | assumption | refine Ext.drew' ?_ | refine Ext.alloc' ?_ _ | (with_reducible refine Ext.trans ?_ (Ext.drewN _ _)) | refine Ext.trans ?_ (by assumption))); done))) rfl (by omega)).mono ?_; rintro e w' ⟨rfl, sb2, cb2, hM2, hF2, hS2⟩; have hN2 : Next _ p prog view { c with stack := xs } steps done fault sb' cb' sb2 cb2 w' := ⟨hM2, hF2, hS2⟩)
        | (go_at_call 96; refine (pop_calls (xs ++ [u]) v (h.keep (by ((repeat (first | exact Ext.refl _ | assumption | refine Ext.drew' ?_ | refine Ext.alloc' ?_ _ | (with_reducible refine Ext.trans ?_ (Ext.drewN _ _)) | refine Ext.trans ?_ (by assumption))); done))) hs hxs1).mono ?_; rintro e w' ⟨rfl, sb', cb', hM, hF, hS⟩; have hN : Next _ p prog view { c with stack := xs ++ [u] } steps done fault sb cb sb' cb' w' := ⟨hM, hF, hS⟩)
        | (go_at_call 88; refine (unless_ok _ _).mono ?_; rintro e w' ⟨rfl, rfl⟩)
        | (go_at_call 92; refine (truth_calls _ _).mono ?_; rintro e w' ⟨rfl, rfl⟩)
        | (go_at_call 89; refine (push_ok _ (hN2.m.keep (by ((repeat (first | exact Ext.refl _ | assumption | refine Ext.drew' ?_ | refine Ext.alloc' ?_ _ | (with_reducible refine Ext.trans ?_ (Ext.drewN _ _)) | refine Ext.trans ?_ (by assumption))); done))) hlen).mono ?_; rintro e w' ⟨rfl, hD⟩))
      all_goals
        go_end0
        first
          | exact ⟨rfl, (hN.does (hN2.does (hD.after (by ((repeat (first | exact Ext.refl _ | assumption | refine Ext.drew' ?_ | refine Ext.alloc' ?_ _ | (with_reducible refine Ext.trans ?_ (Ext.drewN _ _)) | refine Ext.trans ?_ (by assumption))); done))))).after (by ((repeat (first | exact Ext.refl _ | assumption | refine Ext.drew' ?_ | refine Ext.alloc' ?_ _ | (with_reducible refine Ext.trans ?_ (Ext.drewN _ _)) | refine Ext.trans ?_ (by assumption))); done))⟩
          | (rw [show (decide (u.n < v.n) || Op.bytesLess u.s.toList v.s.toList) = true from by simp [*]]; exact ⟨rfl, (hN.does (hN2.does (hD.after (by ((repeat (first | exact Ext.refl _ | assumption | refine Ext.drew' ?_ | refine Ext.alloc' ?_ _ | (with_reducible refine Ext.trans ?_ (Ext.drewN _ _)) | refine Ext.trans ?_ (by assumption))); done))))).after (by ((repeat (first | exact Ext.refl _ | assumption | refine Ext.drew' ?_ | refine Ext.alloc' ?_ _ | (with_reducible refine Ext.trans ?_ (Ext.drewN _ _)) | refine Ext.trans ?_ (by assumption))); done))⟩)
    · rw [if_neg ht]
      have hbt : (u.text == v.text) = false := by simpa using ht
      go_enter Tryz.func72, Tryz.ntmps72
      go_wp2_with (first
        | (go_at_call 95; refine (need_ok 2 (h.keep (by ((repeat (first | exact Ext.refl _ | assumption | refine Ext.drew' ?_ | refine Ext.alloc' ?_ _ | (with_reducible refine Ext.trans ?_ (Ext.drewN _ _)) | refine Ext.trans ?_ (by assumption))); done))) hk).mono ?_; rintro e w' ⟨rfl, rfl⟩)
        | (go_at_call 96; refine (pop_calls xs u (hN.m.keep (by ((repeat (first | exact Ext.refl _ | assumption | refine Ext.drew' ?_ | refine Ext.alloc' ?_ _ | (with_reducible refine Ext.trans ?_ (Ext.drewN _ _)) | refine Ext.trans ?_ (by assumption))); done))) rfl (by omega)).mono ?_; rintro e w' ⟨rfl, sb2, cb2, hM2, hF2, hS2⟩; have hN2 : Next _ p prog view { c with stack := xs } steps done fault sb' cb' sb2 cb2 w' := ⟨hM2, hF2, hS2⟩)
        | (go_at_call 96; refine (pop_calls (xs ++ [u]) v (h.keep (by ((repeat (first | exact Ext.refl _ | assumption | refine Ext.drew' ?_ | refine Ext.alloc' ?_ _ | (with_reducible refine Ext.trans ?_ (Ext.drewN _ _)) | refine Ext.trans ?_ (by assumption))); done))) hs hxs1).mono ?_; rintro e w' ⟨rfl, sb', cb', hM, hF, hS⟩; have hN : Next _ p prog view { c with stack := xs ++ [u] } steps done fault sb cb sb' cb' w' := ⟨hM, hF, hS⟩)
        | (go_at_call 88; refine (unless_no _ _).mono ?_; rintro e w' ⟨rfl, rfl⟩))
      exact ⟨rfl, rfl, _, (hN.does (hN2.does (Does.same hN2.m (by ((repeat (first | exact Ext.refl _ | assumption | refine Ext.drew' ?_ | refine Ext.alloc' ?_ _ | (with_reducible refine Ext.trans ?_ (Ext.drewN _ _)) | refine Ext.trans ?_ (by assumption))); done))))).after (by ((repeat (first | exact Ext.refl _ | assumption | refine Ext.drew' ?_ | refine Ext.alloc' ?_ _ | (with_reducible refine Ext.trans ?_ (Ext.drewN _ _)) | refine Ext.trans ?_ (by assumption))); done))⟩
  · rw [if_neg hk]
    go_enter Tryz.func72, Tryz.ntmps72
    go_wp2_with (go_at_call 95; refine (need_no 2 (h.keep (by ((repeat (first | exact Ext.refl _ | assumption | refine Ext.drew' ?_ | refine Ext.alloc' ?_ _ | (with_reducible refine Ext.trans ?_ (Ext.drewN _ _)) | refine Ext.trans ?_ (by assumption))); done))) hk).mono ?_; rintro e w' ⟨rfl, rfl⟩)
    exact ⟨rfl, rfl, c, Does.same h (by ((repeat (first | exact Ext.refl _ | assumption | refine Ext.drew' ?_ | refine Ext.alloc' ?_ _ | (with_reducible refine Ext.trans ?_ (Ext.drewN _ _)) | refine Ext.trans ?_ (by assumption))); done))⟩

set_option maxHeartbeats 1000000 in
set_option maxRecDepth 20000 in
theorem values_swap (n : Int) (s : ByteArray) (hb64 : c.stack.length ≤ 64) (h : Mach w p prog view c steps done fault sb cb) :
    Calls Tryz.prog 72 #[.pointer (some ⟨p, 0, none⟩), vIns ⟨6, n, s⟩] w (Did w p prog view steps done fault sb cb (execValues ⟨6, n, s⟩ c)) := by
  have hx : execValues ⟨6, n, s⟩ c = takeA 2 c fun vs c => .go { c with stack := c.stack ++ [vs.getD 1 default, vs.getD 0 default] } := rfl
  rw [hx, takeA]
  by_cases hk : 2 ≤ c.stack.length
  · rw [if_pos hk]
    obtain ⟨xs, u, v, hs⟩ := last_two hk
    have hl : c.stack.drop (c.stack.length - 2) = [u, v] := by rw [hs]; simp
    have hl2 : c.stack.take (c.stack.length - 2) = xs := by rw [hs]; simp
    have hxs : xs.length + 2 ≤ 64 := by rw [hs] at hb64; simp at hb64; omega
    have hxs1 : (xs ++ [u]).length ≤ 64 := by simp; omega
    have hlen : xs.length < 64 := by omega
    rw [hl, hl2, List.getD_cons_zero, List.getD_cons_succ, List.getD_cons_zero]
    go_enter Tryz.func72, Tryz.ntmps72
    go_wp2_with (first
      | (go_at_call 95; refine (need_ok 2 (h.keep (by ((repeat (first | exact Ext.refl _ | assumption | refine Ext.drew' ?_ | refine Ext.alloc' ?_ _ | (with_reducible refine Ext.trans ?_ (Ext.drewN _ _)) | refine Ext.trans ?_ (by assumption))); done))) hk).mono ?_; rintro e w' ⟨rfl, rfl⟩)
      | (go_at_call 96; refine (pop_calls xs u (hN.m.keep (by ((repeat (first | exact Ext.refl _ | assumption | refine Ext.drew' ?_ | refine Ext.alloc' ?_ _ | (with_reducible refine Ext.trans ?_ (Ext.drewN _ _)) | refine Ext.trans ?_ (by assumption))); done))) rfl (by omega)).mono ?_; rintro e w' ⟨rfl, sb2, cb2, hM2, hF2, hS2⟩; have hN2 : Next _ p prog view { c with stack := xs } steps done fault sb' cb' sb2 cb2 w' := ⟨hM2, hF2, hS2⟩)
      | (go_at_call 96; refine (pop_calls (xs ++ [u]) v (h.keep (by ((repeat (first | exact Ext.refl _ | assumption | refine Ext.drew' ?_ | refine Ext.alloc' ?_ _ | (with_reducible refine Ext.trans ?_ (Ext.drewN _ _)) | refine Ext.trans ?_ (by assumption))); done))) hs hxs1).mono ?_; rintro e w' ⟨rfl, sb', cb', hM, hF, hS⟩; have hN : Next _ p prog view { c with stack := xs ++ [u] } steps done fault sb cb sb' cb' w' := ⟨hM, hF, hS⟩))
    obtain ⟨sa, sc, c3, h4, e4, hp, hz⟩ := hN2.m.stackOf
    dsimp only at c3 h4 e4
    have hne : some p ≠ Value.ownBlock (.slice sa xs.length sc) := by rw [e4]; exact fun e => hN2.m.sp e.symm
    have eW : Ext w' ((w'.alloc (bVal v)).alloc (bVal u)) := by ((repeat (first | exact Ext.refl _ | assumption | refine Ext.drew' ?_ | refine Ext.alloc' ?_ _ | (with_reducible refine Ext.trans ?_ (Ext.drewN _ _)) | refine Ext.trans ?_ (by assumption))); done)
    have fin : Aside (∀ (W : World) (g cap : Nat) (w1 : World), Ext w' W → w1.ownsRow 0 75 3 (.slice (some ⟨g, 0, none⟩) (xs.length + 2) cap) (xs.length + 2) (xs.flatMap TVal.enc ++ (TVal.enc v ++ TVal.enc u)) →
        W.grownBy w1 (Value.ownBlock (.slice sa xs.length sc)) → (Value.ownBlock (.slice sa xs.length sc) = some g ∨ w'.heap.size ≤ g) →
        Does w p prog view { c with stack := xs ++ [v, u] } steps done fault sb cb (w1.setCell ⟨p, 3, none⟩ (.slice (some ⟨g, 0, none⟩) (xs.length + 2) cap))) := by
      intro W g cap w1 eW h1 h2 h3
      have hl : (xs ++ [v, u]).length = xs.length + 2 := by simp
      have := hN2.m.stacked (st := xs ++ [v, u]) (a := some ⟨g, 0, none⟩) (cap := cap) (w1 := w1) (W := w1.setCell ⟨p, 3, none⟩ (.slice (some ⟨g, 0, none⟩) (xs.length + 2) cap))
        (Fr.after eW (Fr.grown h2 fun k hk => by rw [← e4]; exact hk)) (by rw [hl, List.flatMap_append]; simpa using h1)
        (fun k hk => by
          simp only [Value.ownBlock, Option.some.injEq] at hk
          subst hk
          rw [← e4]; exact h3) (by rw [hl]; exact Ext.refl _)
      exact (hN.does (hN2.does this)).after (by ((repeat (first | exact Ext.refl _ | assumption | refine Ext.drew' ?_ | refine Ext.alloc' ?_ _ | (with_reducible refine Ext.trans ?_ (Ext.drewN _ _)) | refine Ext.trans ?_ (by assumption))); done))
    have c3x : ∀ o1 o2 o3 : Obj, (((w'.alloc o1).alloc o2).alloc o3).cell? ⟨p, 3, none⟩ = some (.slice sa xs.length sc) := fun o1 o2 o3 =>
      ((show Ext w' (((w'.alloc o1).alloc o2).alloc o3) by ((repeat (first | exact Ext.refl _ | assumption | refine Ext.drew' ?_ | refine Ext.alloc' ?_ _ | (with_reducible refine Ext.trans ?_ (Ext.drewN _ _)) | refine Ext.trans ?_ (by assumption))); done)).cell (p := ⟨p, 3, none⟩) hp).trans c3
    go_region_law (refine step_appendVal2 rfl _ _ rfl _ _ _ rfl h4 (by ((repeat (first | exact Ext.refl _ | assumption | refine Ext.drew' ?_ | refine Ext.alloc' ?_ _ | (with_reducible refine Ext.trans ?_ (Ext.drewN _ _)) | refine Ext.trans ?_ (by assumption))); done)) _ v u rfl (new_block _ _ _ (by simp only [World.size_alloc])) (by omega) ?_; intro g cap w1 hown hgrow hat hlt; have z1 := far_cell hgrow (by ((repeat (first | exact Ext.refl _ | assumption | refine Ext.drew' ?_ | refine Ext.alloc' ?_ _ | (with_reducible refine Ext.trans ?_ (Ext.drewN _ _)) | refine Ext.trans ?_ (by assumption))); done)) hp hne c3; have z2 := far_free hgrow (by ((repeat (first | exact Ext.refl _ | assumption | refine Ext.drew' ?_ | refine Ext.alloc' ?_ _ | (with_reducible refine Ext.trans ?_ (Ext.drewN _ _)) | refine Ext.trans ?_ (by assumption))); done)) hp hne hz; have z3 := fin.out _ _ _ _ (by ((repeat (first | exact Ext.refl _ | assumption | refine Ext.drew' ?_ | refine Ext.alloc' ?_ _ | (with_reducible refine Ext.trans ?_ (Ext.drewN _ _)) | refine Ext.trans ?_ (by assumption))); done)) hown hgrow hat)
    all_goals
      go_wp2
      go_end0
      exact ⟨rfl, z3⟩
  · rw [if_neg hk]
    go_enter Tryz.func72, Tryz.ntmps72
    go_wp2_with (go_at_call 95; refine (need_no 2 (h.keep (by ((repeat (first | exact Ext.refl _ | assumption | refine Ext.drew' ?_ | refine Ext.alloc' ?_ _ | (with_reducible refine Ext.trans ?_ (Ext.drewN _ _)) | refine Ext.trans ?_ (by assumption))); done))) hk).mono ?_; rintro e w' ⟨rfl, rfl⟩)
    exact ⟨rfl, rfl, c, Does.same h (by ((repeat (first | exact Ext.refl _ | assumption | refine Ext.drew' ?_ | refine Ext.alloc' ?_ _ | (with_reducible refine Ext.trans ?_ (Ext.drewN _ _)) | refine Ext.trans ?_ (by assumption))); done))⟩
end
end Go.Proofs.YtndpgdegcbaigaaGreatDoor
