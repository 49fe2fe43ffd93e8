/- Package vm: moves: call and ret. · Package vm: found, files; what it asks of package tree stands as a statement of its own. · Package vm: files: path, read, write. · Package vm: a block made ahead of a call. -/
import Derived.Test.YtndpgdegcbaigaaGreatDoorQ07
namespace Go.Proofs.YtndpgdegcbaigaaGreatDoor
open Go Go.RowKit

section
variable {p : Nat} {prog : List Ins} {view : List File} {c : Cfg} {steps : Int} {done : Bool} {fault : Int} {sb cb : Option Nat} {w : World}

set_option maxHeartbeats 4000000 in
set_option maxRecDepth 20000 in
theorem moves_call (n : Int) (s : ByteArray) (h : Mach w p prog view c steps done fault sb cb) :
    Calls Tryz.prog 69 #[.pointer (some ⟨p, 0, none⟩), vIns ⟨19, n, s⟩] w (Did w p prog view steps done fault sb cb (execMoves ⟨19, n, s⟩ c)) := by
  have hx : execMoves ⟨19, n, s⟩ c = if c.calls.length < 16 then .go { c with calls := c.calls ++ [c.at_], at_ := n } else .stop 40 := rfl
  rw [hx]
  obtain ⟨ca, cc, c4, h5, e5, hp, hz, c53, c54, c55, c56⟩ := h.callsOf
  by_cases hl : c.calls.length < 16
  · rw [if_pos hl]
    have hl' : (c.calls.length : Int) < 16 := by omega
    have hne : some p ≠ Value.ownBlock (.slice ca c.calls.length cc) := by rw [e5]; exact fun e => h.cp e.symm
    have fin : Aside (∀ (W : World) (g cap : Nat) (w1 : World), Ext w W → w1.ownsRow 0 3 1 (.slice (some ⟨g, 0, none⟩) (c.calls.length + 1) cap) (c.calls.length + 1) (c.calls.flatMap TInt.enc ++ TInt.enc c.at_) →
        W.grownBy w1 (Value.ownBlock (.slice ca c.calls.length cc)) → (Value.ownBlock (.slice ca c.calls.length cc) = some g ∨ w.heap.size ≤ g) →
        Does w p prog view { c with calls := c.calls ++ [c.at_], at_ := n } steps done fault sb cb ((w1.setCell ⟨p, 4, none⟩ (.slice (some ⟨g, 0, none⟩) (c.calls.length + 1) cap)).setCell ⟨p, 53, none⟩ (.int .i64 n))) := by
      intro W g cap w1 eW h1 h2 h3
      have hl : (c.calls ++ [c.at_]).length = c.calls.length + 1 := by simp
      obtain ⟨sb', cb', hM, hF, hS⟩ := h.called (st := c.calls ++ [c.at_]) (a := some ⟨g, 0, none⟩) (cap := cap) (w1 := w1) (W := w1.setCell ⟨p, 4, none⟩ (.slice (some ⟨g, 0, none⟩) (c.calls.length + 1) cap))
        (Fr.after eW (Fr.grown h2 fun k hk => by rw [← e5]; exact hk)) (by rw [hl, List.flatMap_append]; simpa using h1)
        (fun k hk => by
          simp only [Value.ownBlock, Option.some.injEq] at hk
          subst hk
          rw [← e5]; exact h3) (by rw [hl]; exact Ext.refl _)
      exact Does.trans hF hS (hM.moved n)
    have hsz : w.heap.size < (w.alloc (.cells #[.int .i64 19, .int .i64 n, .string s] 38)).heap.size := by rw [World.size_alloc]; omega
    have cx : (w.alloc (.cells #[.int .i64 19, .int .i64 n, .string s] 38)).cell? ⟨w.heap.size, 1, none⟩ = some (.int .i64 n) := by
      rw [cell_of_row _ w.heap.size 1 _ 38 (0, 0) (heap_alloc_new w _)]; rfl
    have hneX : some w.heap.size ≠ Value.ownBlock (.slice ca c.calls.length cc) := by rw [e5]; exact fun e => by have := h.cb_lt e.symm; omega
    go_enter Tryz.func69, Tryz.ntmps69
    go_wp2_with (go_at_call 88; refine (unless_ok _ _).mono ?_; rintro e w' ⟨rfl, rfl⟩)
    have c4x : ∀ o1 o2 o3 : Obj, (((w.alloc o1).alloc o2).alloc o3).cell? ⟨p, 4, none⟩ = some (.slice ca c.calls.length cc) := fun o1 o2 o3 =>
      ((show Ext w (((w.alloc o1).alloc o2).alloc o3) by ((repeat (first | exact Ext.refl _ | assumption | refine Ext.drew' ?_ | refine Ext.alloc' ?_ _ | (with_reducible refine Ext.trans ?_ (Ext.drewN _ _)) | refine Ext.trans ?_ (by assumption))); done)).cell (p := ⟨p, 4, none⟩) hp).trans c4
    go_region_law (refine step_appendInt rfl _ _ rfl _ _ _ rfl h5 (by ((repeat (first | exact Ext.refl _ | assumption | refine Ext.drew' ?_ | refine Ext.alloc' ?_ _ | (with_reducible refine Ext.trans ?_ (Ext.drewN _ _)) | refine Ext.trans ?_ (by assumption))); done)) _ c.at_ rfl (new_block _ _ _ (by simp only [World.size_alloc])) (by omega) ?_; intro g cap w1 hown hgrow hat hlt; have z1 := far_cell hgrow (by ((repeat (first | exact Ext.refl _ | assumption | refine Ext.drew' ?_ | refine Ext.alloc' ?_ _ | (with_reducible refine Ext.trans ?_ (Ext.drewN _ _)) | refine Ext.trans ?_ (by assumption))); done)) hp hne c4; have z1' := far_cell hgrow (by ((repeat (first | exact Ext.refl _ | assumption | refine Ext.drew' ?_ | refine Ext.alloc' ?_ _ | (with_reducible refine Ext.trans ?_ (Ext.drewN _ _)) | refine Ext.trans ?_ (by assumption))); done)) hp hne c53; have z2 := far_free hgrow (by ((repeat (first | exact Ext.refl _ | assumption | refine Ext.drew' ?_ | refine Ext.alloc' ?_ _ | (with_reducible refine Ext.trans ?_ (Ext.drewN _ _)) | refine Ext.trans ?_ (by assumption))); done)) hp hne hz; have zx := far_cell (w := w.alloc (.cells #[.int .i64 19, .int .i64 n, .string s] 38)) hgrow (by ((repeat (first | exact Ext.refl _ | assumption | refine Ext.drew' ?_ | refine Ext.alloc' ?_ _ | (with_reducible refine Ext.trans ?_ (Ext.drewN _ _)) | refine Ext.trans ?_ (by assumption))); done)) hsz hneX cx; have zs := Nat.lt_of_lt_of_le hp (Nat.le_trans (show Ext w _ by ((repeat (first | exact Ext.refl _ | assumption | refine Ext.drew' ?_ | refine Ext.alloc' ?_ _ | (with_reducible refine Ext.trans ?_ (Ext.drewN _ _)) | refine Ext.trans ?_ (by assumption))); done)).size hgrow.size); have z3 := fin.out _ _ _ _ (by ((repeat (first | exact Ext.refl _ | assumption | refine Ext.drew' ?_ | refine Ext.alloc' ?_ _ | (with_reducible refine Ext.trans ?_ (Ext.drewN _ _)) | refine Ext.trans ?_ (by assumption))); done)) hown hgrow hat)
    all_goals
      go_wp2
      go_end0
      exact ⟨rfl, z3⟩
  · rw [if_neg hl]
    have hl' : ¬ (c.calls.length : Int) < 16 := by omega
    go_enter Tryz.func69, Tryz.ntmps69
    go_wp2_with (go_at_call 88; refine (unless_no_of (by first | (simp [*]; done) | (simp [*]; omega)) _ _).mono ?_; rintro e w' ⟨rfl, rfl⟩)
    exact ⟨rfl, rfl, c, Does.same h (by ((repeat (first | exact Ext.refl _ | assumption | refine Ext.drew' ?_ | refine Ext.alloc' ?_ _ | (with_reducible refine Ext.trans ?_ (Ext.drewN _ _)) | refine Ext.trans ?_ (by assumption))); done))⟩

theorem moves_ret_none (n : Int) (s : ByteArray) (hl : c.calls = []) (h : Mach w p prog view c steps done fault sb cb) :
    Calls Tryz.prog 69 #[.pointer (some ⟨p, 0, none⟩), vIns ⟨20, n, s⟩] w (Did w p prog view steps done fault sb cb (.stop 40)) := by
  obtain ⟨ca, cc, c4, h5, e5, hp, hz, c53, c54, c55, c56⟩ := h.callsOf
  rw [hl] at c4
  go_enter Tryz.func69, Tryz.ntmps69
  go_wp2_with (go_at_call 88; refine (unless_no _ _).mono ?_; rintro e w' ⟨rfl, rfl⟩)
  exact ⟨rfl, rfl, c, Does.same h (by ((repeat (first | exact Ext.refl _ | assumption | refine Ext.drew' ?_ | refine Ext.alloc' ?_ _ | (with_reducible refine Ext.trans ?_ (Ext.drewN _ _)) | refine Ext.trans ?_ (by assumption))); done))⟩

set_option maxHeartbeats 4000000 in
set_option maxRecDepth 20000 in
theorem moves_ret_some (n : Int) (s : ByteArray) (ys : List Int) (a : Int) (hs : c.calls = ys ++ [a]) (hl16 : c.calls.length ≤ 16) (h : Mach w p prog view c steps done fault sb cb) :
    Calls Tryz.prog 69 #[.pointer (some ⟨p, 0, none⟩), vIns ⟨20, n, s⟩] w (Did w p prog view steps done fault sb cb (.go { c with at_ := a, calls := ys })) := by
  obtain ⟨ca, cc, c4, h5, e5, hp, hz, c53, c54, c55, c56⟩ := h.callsOf
  have hlen : c.calls.length = ys.length + 1 := by rw [hs]; simp
  have hA : Arr TInt w ca c.calls.length cc c.calls := Arr.of_own rfl h5
  have hcap := hA.cap
  have hcb := hA.big
  obtain ⟨g, cap, hform, _, hglt⟩ := h5.form (by omega)
  simp only [Value.slice.injEq, true_and] at hform
  obtain ⟨rfl, rfl⟩ := hform
  obtain ⟨b, o, x, hbo, hx, q0⟩ := hA.int (i := ys.length) (by omega)
  cases hbo
  obtain rfl : x = a := by rw [hs] at hx; simpa using hx.symm
  rw [hlen] at c4 hcap h5 e5 hl16
  unfold maxLen at hcb
  have h5' : w.ownsRow 0 3 1 (.slice (some ⟨g, 0, none⟩) ys.length cc) ys.length (ys.flatMap TInt.enc) := by
    rw [hs, List.flatMap_append] at h5
    exact ownsRow_pop (flatMap_len TInt ys) h5
  have fin : Aside (∀ W, Ext ((w.setCell ⟨p, 53, none⟩ (.int .i64 x)).setCell ⟨p, 4, none⟩ (.slice (some ⟨g, 0, none⟩) ys.length cc)) W → Does w p prog view { c with at_ := x, calls := ys } steps done fault sb cb W) := fun W e => by
    obtain ⟨hM, hF, hS⟩ := h.celledM (cells' := c.cells) (at' := x) (Fr.setCell (fun k => k = p) w _ _ rfl) fun _ _ _ _ _ hm => hm.setAt x
    obtain ⟨sb2, cb2, hM2, hF2, hS2⟩ := hM.called (st := ys) (a := some ⟨g, 0, none⟩) (cap := cc) (Fr.refl _ _) (ownsRow_keep h5' fun b hb hlt => Below.heap_setCell _ _ _ _ (by
      rintro rfl
      have : cb = some b := by rw [← e5]; exact hb
      exact h.cp this)) (fun k hk => Or.inl (by
        have h1 : cb = some k := by rw [← e5]; exact hk
        exact h1)) e
    exact Does.trans hF hS ⟨sb2, cb2, hM2, hF2, hS2⟩
  have hl' : ((ys.length : Int) + 1 > 0) := by omega
  clear hlen hs hx h5 h5' e5 hA h
  simp only [Nat.zero_add] at q0
  go_enter Tryz.func69, Tryz.ntmps69
  go_wp2_with (go_at_call 88; refine (unless_ok_of (by first | (simp [*]; done) | (simp [*]; omega)) _ _).mono ?_; rintro e w' ⟨rfl, rfl⟩)
  go_region
  go_wp2
  go_region
  go_wp2
  go_end0
  exact ⟨rfl, fin.out _ (by ((repeat (first | exact Ext.refl _ | assumption | refine Ext.drew' ?_ | refine Ext.alloc' ?_ _ | (with_reducible refine Ext.trans ?_ (Ext.drewN _ _)) | refine Ext.trans ?_ (by assumption))); done))⟩

theorem moves_calls (x : Ins) (hop : x.op = 1 ∨ x.op = 17 ∨ x.op = 18 ∨ x.op = 19 ∨ x.op = 20 ∨ x.op = 30) (hb64 : c.stack.length ≤ 64) (hb16 : c.calls.length ≤ 16) (h : Mach w p prog view c steps done fault sb cb) :
    Calls Tryz.prog 69 #[.pointer (some ⟨p, 0, none⟩), vIns x] w (Did w p prog view steps done fault sb cb (execMoves x c)) := by
  obtain ⟨op, n, s⟩ := x
  simp only at hop
  rcases hop with rfl | rfl | rfl | rfl | rfl | rfl
  · exact moves_halt n s h
  · exact moves_jump n s h
  · exact moves_zero n s hb64 h
  · exact moves_call n s h
  · have hx : execMoves ⟨20, n, s⟩ c = match c.calls.getLast? with
      | some a => .go { c with at_ := a, calls := c.calls.dropLast }
      | none => .stop 40 := rfl
    rw [hx]
    by_cases hc : c.calls = []
    · rw [hc]; exact moves_ret_none n s hc h
    · have hs := (List.dropLast_concat_getLast hc).symm
      rw [List.getLast?_eq_some_getLast hc]
      exact moves_ret_some n s _ _ hs hb16 h
  · exact moves_fail n s h
end
end Go.Proofs.YtndpgdegcbaigaaGreatDoor

namespace Go.Proofs.YtndpgdegcbaigaaGreatDoor
open Go Go.RowKit

/-- What Get does, at a tree that can be. -/
def GetSays : Prop := ∀ (l : List File) (a : Option Addr) (c : Nat) (s : ByteArray) (w : World), treeGood l = true → s.size ≤ 1048576 → Arr TFile w a l.length c l → Globals w →
  Calls Tryz.prog 93 #[.agg #[.slice a l.length c], .string s] w fun e w' => e = .returned (.tuple #[.string (getF l s).1, .bool (getF l s).2]) ∧ Ext w w'
/-- What Put does. -/
def PutSays : Prop := ∀ (l : List File) (a : Option Addr) (c : Nat) (f : File) (w : World), l.length ≤ 1000 → (∀ g ∈ l, g.path.size ≤ 1048576 ∧ g.data.size ≤ 1048576) → f.path.size ≤ 1048576 → f.data.size ≤ 1048576 → Arr TFile w a l.length c l → Globals w →
  Calls Tryz.prog 19 #[.agg #[.slice a l.length c], vFile f] w fun e w' => ∃ a' c', e = .returned (.tuple #[.agg #[.slice a' (putF l f).1.length c'], .int .i64 (putF l f).2]) ∧
    Arr TFile w' a' (putF l f).1.length c' (putF l f).1 ∧ Ext w w' ∧ ∀ b o, a' = some ⟨b, o, none⟩ → (putF l f).1 ≠ [] → w.heap.size ≤ b

section
variable {p : Nat} {prog : List Ins} {view : List File} {c : Cfg} {steps : Int} {done : Bool} {fault : Int} {sb cb : Option Nat} {w : World}

set_option maxHeartbeats 1000000 in
theorem found_calls (s : ByteArray) (is : Bool) (h : Mach w p prog view c steps done fault sb cb) :
    Calls Tryz.prog 94 #[.pointer (some ⟨p, 0, none⟩), .string s, .bool is] w (Did w p prog view steps done fault sb cb (foundM s is c)) := by
  rw [foundM, two_stack]
  by_cases h63 : c.stack.length < 63
  · have hlen : c.stack.length < 64 := by omega
    have hlen2 : (c.stack ++ [vText s]).length < 64 := by simp; omega
    go_enter Tryz.func94, Tryz.ntmps94
    go_wp2_with (first | (go_at_call 89; refine (push_ok _ (hN2.m.keep (by ((repeat (first | exact Ext.refl _ | assumption | refine Ext.drew' ?_ | refine Ext.alloc' ?_ _ | (with_reducible refine Ext.trans ?_ (Ext.drewN _ _)) | refine Ext.trans ?_ (by assumption))); done))) hlen2).mono ?_; rintro e w' ⟨rfl, hD2⟩) | (go_at_call 89; refine (push_ok _ (h.keep (by ((repeat (first | exact Ext.refl _ | assumption | refine Ext.drew' ?_ | refine Ext.alloc' ?_ _ | (with_reducible refine Ext.trans ?_ (Ext.drewN _ _)) | refine Ext.trans ?_ (by assumption))); done))) hlen).mono ?_; rintro e w' ⟨rfl, sb2, cb2, hM2, hF2, hS2⟩; have hN2 : Next _ p prog view { c with stack := c.stack ++ [vText s] } steps done fault _ _ sb2 cb2 w' := ⟨hM2, hF2, hS2⟩) | (go_at_call 90; refine (text_calls _ _).mono ?_; rintro e w' ⟨rfl, rfl⟩) | (go_at_call 92; refine (truth_calls _ _).mono ?_; rintro e w' ⟨rfl, rfl⟩))
    go_end0
    rw [twoM, if_pos h63]
    exact ⟨rfl, (hN2.does (hD2.after (by ((repeat (first | exact Ext.refl _ | assumption | refine Ext.drew' ?_ | refine Ext.alloc' ?_ _ | (with_reducible refine Ext.trans ?_ (Ext.drewN _ _)) | refine Ext.trans ?_ (by assumption))); done)))).after (by ((repeat (first | exact Ext.refl _ | assumption | refine Ext.drew' ?_ | refine Ext.alloc' ?_ _ | (with_reducible refine Ext.trans ?_ (Ext.drewN _ _)) | refine Ext.trans ?_ (by assumption))); done))⟩
  · rw [twoM, if_neg h63]
    by_cases hlen : c.stack.length < 64
    · have hlen2 : ¬ (c.stack ++ [vText s]).length < 64 := by simp; omega
      go_enter Tryz.func94, Tryz.ntmps94
      go_wp2_with (first | (go_at_call 89; refine (push_no _ (hN2.m.keep (by ((repeat (first | exact Ext.refl _ | assumption | refine Ext.drew' ?_ | refine Ext.alloc' ?_ _ | (with_reducible refine Ext.trans ?_ (Ext.drewN _ _)) | refine Ext.trans ?_ (by assumption))); done))) hlen2).mono ?_; rintro e w' ⟨rfl, rfl⟩) | (go_at_call 89; refine (push_ok _ (h.keep (by ((repeat (first | exact Ext.refl _ | assumption | refine Ext.drew' ?_ | refine Ext.alloc' ?_ _ | (with_reducible refine Ext.trans ?_ (Ext.drewN _ _)) | refine Ext.trans ?_ (by assumption))); done))) hlen).mono ?_; rintro e w' ⟨rfl, sb2, cb2, hM2, hF2, hS2⟩; have hN2 : Next _ p prog view { c with stack := c.stack ++ [vText s] } steps done fault _ _ sb2 cb2 w' := ⟨hM2, hF2, hS2⟩) | (go_at_call 90; refine (text_calls _ _).mono ?_; rintro e w' ⟨rfl, rfl⟩) | (go_at_call 92; refine (truth_calls _ _).mono ?_; rintro e w' ⟨rfl, rfl⟩))
      exact ⟨rfl, rfl, _, (hN2.does (Does.same hN2.m (by ((repeat (first | exact Ext.refl _ | assumption | refine Ext.drew' ?_ | refine Ext.alloc' ?_ _ | (with_reducible refine Ext.trans ?_ (Ext.drewN _ _)) | refine Ext.trans ?_ (by assumption))); done)))).after (by ((repeat (first | exact Ext.refl _ | assumption | refine Ext.drew' ?_ | refine Ext.alloc' ?_ _ | (with_reducible refine Ext.trans ?_ (Ext.drewN _ _)) | refine Ext.trans ?_ (by assumption))); done))⟩
    · go_enter Tryz.func94, Tryz.ntmps94
      go_wp2_with (first | (go_at_call 89; refine (push_no _ (h.keep (by ((repeat (first | exact Ext.refl _ | assumption | refine Ext.drew' ?_ | refine Ext.alloc' ?_ _ | (with_reducible refine Ext.trans ?_ (Ext.drewN _ _)) | refine Ext.trans ?_ (by assumption))); done))) hlen).mono ?_; rintro e w' ⟨rfl, rfl⟩) | (go_at_call 90; refine (text_calls _ _).mono ?_; rintro e w' ⟨rfl, rfl⟩))
      exact ⟨rfl, rfl, c, Does.same h (by ((repeat (first | exact Ext.refl _ | assumption | refine Ext.drew' ?_ | refine Ext.alloc' ?_ _ | (with_reducible refine Ext.trans ?_ (Ext.drewN _ _)) | refine Ext.trans ?_ (by assumption))); done))⟩

/-- What a walk wants to know of what a machine sees and what it wrote. -/
theorem Mach.treesOf (h : Mach w p prog view c steps done fault sb cb) : ∃ (va oa : Option Addr) (vc oc : Nat),
    w.cell? ⟨p, 1, none⟩ = some (.slice va view.length vc) ∧ Arr TFile w va view.length vc view ∧ w.cell? ⟨p, 2, none⟩ = some (.slice oa c.out.length oc) ∧ Arr TFile w oa c.out.length oc c.out ∧ p < w.heap.size ∧ (∀ o, w.frozen? ⟨p, o, none⟩ = false) := by
  obtain ⟨⟨pa, va, oa, sa, ca, pc, vc, oc, sc, cc, hm, h1, h2, h3, h4, h5, e4, e5, n1, n2, n3⟩, sp, cp, scd⟩ := h
  exact ⟨va, oa, vc, oc, hm.c1, h2, hm.c2, h3, hm.low, hm.free⟩

/-- A call's Did is that of the caller. -/
theorem Next.did {w W : World} {sb' cb' : Option Nat} {c1 : Cfg} {w1 : World} {o : Out} {r : Ending} (h : Next w p prog view c1 steps done fault sb cb sb' cb' w1) (h2 : Did w1 p prog view steps done fault sb' cb' o r W) : Did w p prog view steps done fault sb cb o r W := by
  cases o with
  | go c => exact ⟨h2.1, h.does h2.2⟩
  | halt c => exact ⟨h2.1, h.does h2.2⟩
  | stop e => obtain ⟨h3, c, h4⟩ := h2; exact ⟨h3, c, h.does h4⟩
theorem Did.after {w0 W : World} {o : Out} {r : Ending} (e : Ext w0 w) (h : Did w p prog view steps done fault sb cb o r W) : Did w0 p prog view steps done fault sb cb o r W := by
  cases o with
  | go c => exact ⟨h.1, h.2.after e⟩
  | halt c => exact ⟨h.1, h.2.after e⟩
  | stop e' => obtain ⟨h3, c, h4⟩ := h; exact ⟨h3, c, h4.after e⟩

set_option maxHeartbeats 1000000 in
set_option maxRecDepth 20000 in
theorem files_count (n : Int) (s : ByteArray) (h : Mach w p prog view c steps done fault sb cb) :
    Calls Tryz.prog 71 #[.pointer (some ⟨p, 0, none⟩), vIns ⟨27, n, s⟩] w (Did w p prog view steps done fault sb cb (execFiles view ⟨27, n, s⟩ c)) := by
  have hx : execFiles view ⟨27, n, s⟩ c = pushV (vNum view.length) c := rfl
  rw [hx, pushV]
  obtain ⟨va, oa, vc, oc, c1, hv, c2, ho, hp, hz⟩ := h.treesOf
  by_cases hs : c.stack.length < 64
  · rw [if_pos hs]
    go_enter Tryz.func71, Tryz.ntmps71
    go_wp2_with (first | (go_at_call 91; refine (num_calls _ _).mono ?_; rintro e w' ⟨rfl, rfl⟩) | (go_at_call 89; refine (push_ok _ (h.keep (by ((repeat (first | exact Ext.refl _ | assumption | refine Ext.drew' ?_ | refine Ext.alloc' ?_ _ | (with_reducible refine Ext.trans ?_ (Ext.drewN _ _)) | refine Ext.trans ?_ (by assumption))); done))) hs).mono ?_; rintro e w' ⟨rfl, hD⟩))
    go_end0
    exact ⟨rfl, hD.after (by ((repeat (first | exact Ext.refl _ | assumption | refine Ext.drew' ?_ | refine Ext.alloc' ?_ _ | (with_reducible refine Ext.trans ?_ (Ext.drewN _ _)) | refine Ext.trans ?_ (by assumption))); done))⟩
  · rw [if_neg hs]
    go_enter Tryz.func71, Tryz.ntmps71
    go_wp2_with (first | (go_at_call 91; refine (num_calls _ _).mono ?_; rintro e w' ⟨rfl, rfl⟩) | (go_at_call 89; refine (push_no _ (h.keep (by ((repeat (first | exact Ext.refl _ | assumption | refine Ext.drew' ?_ | refine Ext.alloc' ?_ _ | (with_reducible refine Ext.trans ?_ (Ext.drewN _ _)) | refine Ext.trans ?_ (by assumption))); done))) hs).mono ?_; rintro e w' ⟨rfl, rfl⟩))
    exact ⟨rfl, rfl, c, Does.same h (by ((repeat (first | exact Ext.refl _ | assumption | refine Ext.drew' ?_ | refine Ext.alloc' ?_ _ | (with_reducible refine Ext.trans ?_ (Ext.drewN _ _)) | refine Ext.trans ?_ (by assumption))); done))⟩
end
end Go.Proofs.YtndpgdegcbaigaaGreatDoor

namespace Go.Proofs.YtndpgdegcbaigaaGreatDoor
open Go Go.RowKit

section
variable {p : Nat} {prog : List Ins} {view : List File} {c : Cfg} {steps : Int} {done : Bool} {fault : Int} {sb cb : Option Nat} {w : World}

theorem Did.ends {w' : World} {o : Out} {r : Ending} (h : Did w p prog view steps done fault sb cb o r w') : r = unit ∨ ∃ e, r = stopped e := by
  cases o with
  | go c => exact Or.inl h.1
  | halt c => exact Or.inl h.1
  | stop e => exact Or.inr ⟨e, h.1⟩

set_option maxHeartbeats 1000000 in
set_option maxRecDepth 20000 in
theorem files_path (n : Int) (s : ByteArray) (hb64 : c.stack.length ≤ 64) (_ : view.length ≤ 1000) (h : Mach w p prog view c steps done fault sb cb) :
    Calls Tryz.prog 71 #[.pointer (some ⟨p, 0, none⟩), vIns ⟨28, n, s⟩] w (Did w p prog view steps done fault sb cb (execFiles view ⟨28, n, s⟩ c)) := by
  have hx : execFiles view ⟨28, n, s⟩ c = takeK [false] c fun vs c => if 0 ≤ (vs.getD 0 default).n ∧ (vs.getD 0 default).n < view.length then foundM (view.getD (vs.getD 0 default).n.toNat default).path true c else foundM ⟨#[]⟩ false c := rfl
  rw [hx]
  cases hk : kindOK [false] c.stack with
  | true =>
    obtain ⟨xs, tops, hs, hl, ht, h1, h2⟩ := kindOK_split hk
    rw [takeK, if_pos hk, h1, h2]
    match tops, hl with
    | [u], _ =>
    simp only [List.getD_cons_zero]
    clear hx hk h1 h2
    by_cases hc : 0 ≤ u.n ∧ u.n < view.length
    · rw [if_pos hc]
      obtain ⟨c1, c2⟩ := hc
      obtain ⟨i, hi⟩ : ∃ i : Nat, u.n = i := ⟨u.n.toNat, by omega⟩
      have hi' : i < view.length := by omega
      rw [show u.n.toNat = i by omega]
      have hge : (u.n ≥ 0) := c1
      obtain ⟨f0, hf0⟩ : ∃ f0, view[i]? = some f0 := ⟨_, List.getElem?_eq_getElem hi'⟩
      have eget : view.getD i default = f0 := by simp [List.getD, hf0]
      rw [eget]
      clear eget
      go_enter Tryz.func71, Tryz.ntmps71
      go_wp2_with (first | ((go_at_call 87; refine (kinds_taken [false] ⟨#[110]⟩ rfl 1 (by decide) (h.keep (by ((repeat (first | exact Ext.refl _ | assumption | refine Ext.drew' ?_ | refine Ext.alloc' ?_ _ | (with_reducible refine Ext.trans ?_ (Ext.drewN _ _)) | refine Ext.trans ?_ (by assumption))); done))) hb64 xs [u] rfl hs ht).mono ?_; rintro e w' ⟨b, o, cp, sb', cb', rfl, hb, hv, hN⟩; obtain ⟨x9, x0, x1, x2⟩ := hN.box h; obtain ⟨q00, q01, q02⟩ := hv 0 u rfl); obtain ⟨va, oa, vc, oc, y1, hV, y2, ho, hp, hz⟩ := hN.m.treesOf; obtain ⟨fb, fo, fx, rfl, hfx, g0, g1⟩ := hV.file hi'; obtain rfl : fx = f0 := by (rw [hf0] at hfx; cases hfx; rfl)) | (go_at_call 94; refine (found_calls _ _ (hN.m.keep (by ((repeat (first | exact Ext.refl _ | assumption | refine Ext.drew' ?_ | refine Ext.alloc' ?_ _ | (with_reducible refine Ext.trans ?_ (Ext.drewN _ _)) | refine Ext.trans ?_ (by assumption))); done)))).mono ?_; intro r w' hD; rcases hD.ends with rfl | ⟨er, rfl⟩))
      · go_end0
        exact (hN.did (hD.after (by ((repeat (first | exact Ext.refl _ | assumption | refine Ext.drew' ?_ | refine Ext.alloc' ?_ _ | (with_reducible refine Ext.trans ?_ (Ext.drewN _ _)) | refine Ext.trans ?_ (by assumption))); done)))).after (by ((repeat (first | exact Ext.refl _ | assumption | refine Ext.drew' ?_ | refine Ext.alloc' ?_ _ | (with_reducible refine Ext.trans ?_ (Ext.drewN _ _)) | refine Ext.trans ?_ (by assumption))); done))
      · exact ⟨rfl, (hN.did (hD.after (by ((repeat (first | exact Ext.refl _ | assumption | refine Ext.drew' ?_ | refine Ext.alloc' ?_ _ | (with_reducible refine Ext.trans ?_ (Ext.drewN _ _)) | refine Ext.trans ?_ (by assumption))); done)))).after (by ((repeat (first | exact Ext.refl _ | assumption | refine Ext.drew' ?_ | refine Ext.alloc' ?_ _ | (with_reducible refine Ext.trans ?_ (Ext.drewN _ _)) | refine Ext.trans ?_ (by assumption))); done))⟩
    · rw [if_neg hc]
      by_cases c1 : u.n ≥ 0
      · have c2 : ¬ u.n < view.length := fun c2 => hc ⟨c1, c2⟩
        go_enter Tryz.func71, Tryz.ntmps71
        go_wp2_with (first | ((go_at_call 87; refine (kinds_taken [false] ⟨#[110]⟩ rfl 1 (by decide) (h.keep (by ((repeat (first | exact Ext.refl _ | assumption | refine Ext.drew' ?_ | refine Ext.alloc' ?_ _ | (with_reducible refine Ext.trans ?_ (Ext.drewN _ _)) | refine Ext.trans ?_ (by assumption))); done))) hb64 xs [u] rfl hs ht).mono ?_; rintro e w' ⟨b, o, cp, sb', cb', rfl, hb, hv, hN⟩; obtain ⟨x9, x0, x1, x2⟩ := hN.box h; obtain ⟨q00, q01, q02⟩ := hv 0 u rfl); obtain ⟨va, oa, vc, oc, y1, hV, y2, ho, hp, hz⟩ := hN.m.treesOf) | (go_at_call 94; refine (found_calls _ _ (hN.m.keep (by ((repeat (first | exact Ext.refl _ | assumption | refine Ext.drew' ?_ | refine Ext.alloc' ?_ _ | (with_reducible refine Ext.trans ?_ (Ext.drewN _ _)) | refine Ext.trans ?_ (by assumption))); done)))).mono ?_; intro r w' hD; rcases hD.ends with rfl | ⟨er, rfl⟩))
        · go_end0
          exact (hN.did (hD.after (by ((repeat (first | exact Ext.refl _ | assumption | refine Ext.drew' ?_ | refine Ext.alloc' ?_ _ | (with_reducible refine Ext.trans ?_ (Ext.drewN _ _)) | refine Ext.trans ?_ (by assumption))); done)))).after (by ((repeat (first | exact Ext.refl _ | assumption | refine Ext.drew' ?_ | refine Ext.alloc' ?_ _ | (with_reducible refine Ext.trans ?_ (Ext.drewN _ _)) | refine Ext.trans ?_ (by assumption))); done))
        · exact ⟨rfl, (hN.did (hD.after (by ((repeat (first | exact Ext.refl _ | assumption | refine Ext.drew' ?_ | refine Ext.alloc' ?_ _ | (with_reducible refine Ext.trans ?_ (Ext.drewN _ _)) | refine Ext.trans ?_ (by assumption))); done)))).after (by ((repeat (first | exact Ext.refl _ | assumption | refine Ext.drew' ?_ | refine Ext.alloc' ?_ _ | (with_reducible refine Ext.trans ?_ (Ext.drewN _ _)) | refine Ext.trans ?_ (by assumption))); done))⟩
      · go_enter Tryz.func71, Tryz.ntmps71
        go_wp2_with (first | ((go_at_call 87; refine (kinds_taken [false] ⟨#[110]⟩ rfl 1 (by decide) (h.keep (by ((repeat (first | exact Ext.refl _ | assumption | refine Ext.drew' ?_ | refine Ext.alloc' ?_ _ | (with_reducible refine Ext.trans ?_ (Ext.drewN _ _)) | refine Ext.trans ?_ (by assumption))); done))) hb64 xs [u] rfl hs ht).mono ?_; rintro e w' ⟨b, o, cp, sb', cb', rfl, hb, hv, hN⟩; obtain ⟨x9, x0, x1, x2⟩ := hN.box h; obtain ⟨q00, q01, q02⟩ := hv 0 u rfl); obtain ⟨va, oa, vc, oc, y1, hV, y2, ho, hp, hz⟩ := hN.m.treesOf) | (go_at_call 94; refine (found_calls _ _ (hN.m.keep (by ((repeat (first | exact Ext.refl _ | assumption | refine Ext.drew' ?_ | refine Ext.alloc' ?_ _ | (with_reducible refine Ext.trans ?_ (Ext.drewN _ _)) | refine Ext.trans ?_ (by assumption))); done)))).mono ?_; intro r w' hD; rcases hD.ends with rfl | ⟨er, rfl⟩))
        · go_end0
          exact (hN.did (hD.after (by ((repeat (first | exact Ext.refl _ | assumption | refine Ext.drew' ?_ | refine Ext.alloc' ?_ _ | (with_reducible refine Ext.trans ?_ (Ext.drewN _ _)) | refine Ext.trans ?_ (by assumption))); done)))).after (by ((repeat (first | exact Ext.refl _ | assumption | refine Ext.drew' ?_ | refine Ext.alloc' ?_ _ | (with_reducible refine Ext.trans ?_ (Ext.drewN _ _)) | refine Ext.trans ?_ (by assumption))); done))
        · exact ⟨rfl, (hN.did (hD.after (by ((repeat (first | exact Ext.refl _ | assumption | refine Ext.drew' ?_ | refine Ext.alloc' ?_ _ | (with_reducible refine Ext.trans ?_ (Ext.drewN _ _)) | refine Ext.trans ?_ (by assumption))); done)))).after (by ((repeat (first | exact Ext.refl _ | assumption | refine Ext.drew' ?_ | refine Ext.alloc' ?_ _ | (with_reducible refine Ext.trans ?_ (Ext.drewN _ _)) | refine Ext.trans ?_ (by assumption))); done))⟩
  | false =>
    rw [takeK_no hk]
    clear hx
    go_enter Tryz.func71, Tryz.ntmps71
    go_wp2_with (go_at_call 87; refine (kinds_fail [false] ⟨#[110]⟩ rfl (h.keep (by ((repeat (first | exact Ext.refl _ | assumption | refine Ext.drew' ?_ | refine Ext.alloc' ?_ _ | (with_reducible refine Ext.trans ?_ (Ext.drewN _ _)) | refine Ext.trans ?_ (by assumption))); done))) hb64 hk).mono ?_; rintro e w' ⟨rfl, hE⟩)
    exact ⟨rfl, rfl, c, Does.same h (Ext.trans (by ((repeat (first | exact Ext.refl _ | assumption | refine Ext.drew' ?_ | refine Ext.alloc' ?_ _ | (with_reducible refine Ext.trans ?_ (Ext.drewN _ _)) | refine Ext.trans ?_ (by assumption))); done)) hE)⟩

set_option maxHeartbeats 4000000 in
set_option maxRecDepth 20000 in
theorem files_read (hGet : GetSays) (n : Int) (s : ByteArray) (hb64 : c.stack.length ≤ 64) (hsz : ∀ v ∈ c.stack, v.s.size ≤ 2048) (hgood : treeGood view = true) (hg : Globals w) (ha : Apart p sb cb) (h : Mach w p prog view c steps done fault sb cb) :
    Calls Tryz.prog 71 #[.pointer (some ⟨p, 0, none⟩), vIns ⟨26, n, s⟩] w (Did w p prog view steps done fault sb cb (execFiles view ⟨26, n, s⟩ c)) := by
  have hx : execFiles view ⟨26, n, s⟩ c = takeK [true] c fun vs c => foundM (getF view (vs.getD 0 default).s).1 (getF view (vs.getD 0 default).s).2 c := rfl
  rw [hx]
  cases hk : kindOK [true] c.stack with
  | true =>
    obtain ⟨xs, tops, hs, hl, ht, h1, h2⟩ := kindOK_split hk
    rw [takeK, if_pos hk, h1, h2]
    match tops, hl with
    | [u], _ =>
    have hu : u.s.size ≤ 2048 := hsz u (by rw [hs]; simp)
    simp only [List.getD_cons_zero]
    clear hx hk h1 h2
    go_enter Tryz.func71, Tryz.ntmps71
    go_wp2_with ((go_at_call 87; refine (kinds_taken [true] ⟨#[116]⟩ rfl 1 (by decide) (h.keep (by ((repeat (first | exact Ext.refl _ | assumption | refine Ext.drew' ?_ | refine Ext.alloc' ?_ _ | (with_reducible refine Ext.trans ?_ (Ext.drewN _ _)) | refine Ext.trans ?_ (by assumption))); done))) hb64 xs [u] rfl hs ht).mono ?_; rintro e w' ⟨b, o, cp, sb', cb', rfl, hb, hv, hN⟩; obtain ⟨x9, x0, x1, x2⟩ := hN.box h; obtain ⟨q00, q01, q02⟩ := hv 0 u rfl); obtain ⟨va, oa, vc, oc, y1, hV, y2, ho, hp, hz⟩ := hN.m.treesOf; have hg' := hN.globals (hg.ext (by ((repeat (first | exact Ext.refl _ | assumption | refine Ext.drew' ?_ | refine Ext.alloc' ?_ _ | (with_reducible refine Ext.trans ?_ (Ext.drewN _ _)) | refine Ext.trans ?_ (by assumption))); done))) ha)
    go_region_with (go_at_call 93; refine (hGet view va vc u.s _ hgood (by omega) (hV.below (show Ext _ _ by ((repeat (first | exact Ext.refl _ | assumption | refine Ext.drew' ?_ | refine Ext.alloc' ?_ _ | (with_reducible refine Ext.trans ?_ (Ext.drewN _ _)) | refine Ext.trans ?_ (by assumption))); done))) (hg'.ext (by ((repeat (first | exact Ext.refl _ | assumption | refine Ext.drew' ?_ | refine Ext.alloc' ?_ _ | (with_reducible refine Ext.trans ?_ (Ext.drewN _ _)) | refine Ext.trans ?_ (by assumption))); done)))).mono ?_; rintro e w' ⟨rfl, hI⟩)
    all_goals
      go_wp2_with (go_at_call 94; refine (found_calls _ _ (hN.m.keep (by ((repeat (first | exact Ext.refl _ | assumption | refine Ext.drew' ?_ | refine Ext.alloc' ?_ _ | (with_reducible refine Ext.trans ?_ (Ext.drewN _ _)) | refine Ext.trans ?_ (by assumption))); done)))).mono ?_; intro r w' hD; rcases hD.ends with rfl | ⟨er, rfl⟩)
      · go_end0
        exact (hN.did (hD.after (by ((repeat (first | exact Ext.refl _ | assumption | refine Ext.drew' ?_ | refine Ext.alloc' ?_ _ | (with_reducible refine Ext.trans ?_ (Ext.drewN _ _)) | refine Ext.trans ?_ (by assumption))); done)))).after (by ((repeat (first | exact Ext.refl _ | assumption | refine Ext.drew' ?_ | refine Ext.alloc' ?_ _ | (with_reducible refine Ext.trans ?_ (Ext.drewN _ _)) | refine Ext.trans ?_ (by assumption))); done))
      · exact ⟨rfl, (hN.did (hD.after (by ((repeat (first | exact Ext.refl _ | assumption | refine Ext.drew' ?_ | refine Ext.alloc' ?_ _ | (with_reducible refine Ext.trans ?_ (Ext.drewN _ _)) | refine Ext.trans ?_ (by assumption))); done)))).after (by ((repeat (first | exact Ext.refl _ | assumption | refine Ext.drew' ?_ | refine Ext.alloc' ?_ _ | (with_reducible refine Ext.trans ?_ (Ext.drewN _ _)) | refine Ext.trans ?_ (by assumption))); done))⟩
  | false =>
    rw [takeK_no hk]
    clear hx
    go_enter Tryz.func71, Tryz.ntmps71
    go_wp2_with (go_at_call 87; refine (kinds_fail [true] ⟨#[116]⟩ rfl (h.keep (by ((repeat (first | exact Ext.refl _ | assumption | refine Ext.drew' ?_ | refine Ext.alloc' ?_ _ | (with_reducible refine Ext.trans ?_ (Ext.drewN _ _)) | refine Ext.trans ?_ (by assumption))); done))) hb64 hk).mono ?_; rintro e w' ⟨rfl, hE⟩)
    exact ⟨rfl, rfl, c, Does.same h (Ext.trans (by ((repeat (first | exact Ext.refl _ | assumption | refine Ext.drew' ?_ | refine Ext.alloc' ?_ _ | (with_reducible refine Ext.trans ?_ (Ext.drewN _ _)) | refine Ext.trans ?_ (by assumption))); done)) hE)⟩
end
end Go.Proofs.YtndpgdegcbaigaaGreatDoor

namespace Go.Proofs.YtndpgdegcbaigaaGreatDoor
open Go Go.RowKit

theorem Ext.set {a b : World} (h : Ext a b) {k o : Nat} (hk : a.heap.size ≤ k) (v : Value) : Ext a (b.setCell ⟨k, o, none⟩ v) :=
  ⟨h.os, h.tape, h.output, by rw [size_set]; exact h.size, fun i hi => (Below.heap_setCell _ _ _ _ (by simp only; omega)).trans (h.block i hi)⟩
/-- A block of one cell, made ahead of a call that only makes memory. -/
theorem new_kept {W w9 : World} {k : Nat} {v : Value} {t : TypeId} (hI : Ext W w9) (hW : W.heap[k]? = some (.cells #[v] t)) : w9.cell? ⟨k, 0, none⟩ = some v ∧ w9.frozen? ⟨k, 0, none⟩ = false ∧ k < w9.heap.size := by
  have hk : k < W.heap.size := (Array.getElem?_eq_some_iff.1 hW).1
  have h1 : w9.heap[k]? = some (.cells #[v] t) := (hI.block k hk).trans hW
  refine ⟨by rw [cell_of_row _ k 0 _ t (0, 0) h1]; rfl, ?_, Nat.lt_of_lt_of_le hk hI.size⟩
  simp [World.frozen?, h1]

/-- The answer's files lie behind a block that was made ahead of the call. -/
theorem new_arr {w w9 : World} {o0 : Obj} {a' : Option Addr} {c' : Nat} {l : List File} {v : Value} (hA : Arr TFile w9 a' l.length c' l) (hfr : ∀ b o, a' = some ⟨b, o, none⟩ → l ≠ [] → ((w.alloc o0).drew).heap.size ≤ b) :
    Arr TFile (w9.setCell ⟨w.heap.size, 0, none⟩ v) a' l.length c' l := hA.keep fun b o ha hx hlt => Below.heap_setCell _ _ _ _ (by
  have h1 := hfr b o ha hx
  have h2 : (w.alloc o0).drew.heap.size = w.heap.size + 1 := World.size_alloc _ _
  simp only; omega)

end Go.Proofs.YtndpgdegcbaigaaGreatDoor
