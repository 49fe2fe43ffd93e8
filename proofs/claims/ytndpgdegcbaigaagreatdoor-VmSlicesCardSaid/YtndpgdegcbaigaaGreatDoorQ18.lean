/- Package vm: step, where the instruction is one of values's. · What stays so in a machine, whatever instruction it does. Plain Lean over the model. · A machine's run, as plain Lean: a step, so many steps, what comes of a program. · Package vm: step, whatever the instruction. -/
import Derived.Test.YtndpgdegcbaigaaGreatDoorQ11
import Derived.Test.YtndpgdegcbaigaaGreatDoorQ07
import Derived.Lib.ItoaLen
import Derived.Test.YtndpgdegcbaigaaGreatDoorQ12
import Derived.Test.YtndpgdegcbaigaaGreatDoorQ13
import Derived.Test.YtndpgdegcbaigaaGreatDoorQ14
import Derived.Test.YtndpgdegcbaigaaGreatDoorQ15
import Derived.Test.YtndpgdegcbaigaaGreatDoorQ16
import Derived.Test.YtndpgdegcbaigaaGreatDoorQ17
import Derived.Test.YtndpgdegcbaigaaGreatDoorQ09
import Derived.Test.YtndpgdegcbaigaaGreatDoorQ10
namespace Go.Proofs.YtndpgdegcbaigaaGreatDoor
open Go Go.RowKit

section
variable {p : Nat} {prog : List Ins} {view : List File} {c : Cfg} {steps : Int} {done : Bool} {fault : Int} {sb cb : Option Nat} {w : World}

set_option maxHeartbeats 40000000 in
set_option maxRecDepth 20000 in
theorem step_values (k : Nat) (x : Ins) (hk : c.at_ = k) (hkx : prog[k]? = some x) (hpl : prog.length ≤ 100000) (hs0 : 0 ≤ steps) (hs1 : steps ≤ 100000) (hop : x.op ≠ 1 ∧ x.op ≠ 17 ∧ x.op ≠ 18 ∧ x.op ≠ 19 ∧ x.op ≠ 20 ∧ x.op ≠ 30 ∧ x.op ≠ 3 ∧ x.op ≠ 21 ∧ x.op ≠ 22 ∧ x.op ≠ 23 ∧ x.op ≠ 24 ∧ x.op ≠ 25 ∧ x.op ≠ 26 ∧ x.op ≠ 27 ∧ x.op ≠ 28 ∧ x.op ≠ 29)
    (O : Out) (h : Mach w p prog view c steps false 0 sb cb)
    (hcall : ∀ W, Mach W p prog view { c with at_ := (k : Int) + 1 } (steps + 1) false 0 sb cb → Fr (Foot p sb cb) w W → Calls Tryz.prog 72 #[.pointer (some ⟨p, 0, none⟩), vIns x] W (Did W p prog view (steps + 1) false 0 sb cb O)) :
    Calls Tryz.prog 44 #[.pointer (some ⟨p, 0, none⟩)] w fun r w' => r = unit ∧ Stepped w p prog view (steps + 1) sb cb O w' := by
  obtain ⟨ca, cc, c4, h5, e5, hp, hz, c53, c54, c55, c56⟩ := h.callsOf
  obtain ⟨pa, pc, c0, hP⟩ := h.progOf
  have hkl : k < prog.length := (List.getElem?_eq_some_iff.1 hkx).1
  obtain ⟨pb, po, y, rfl, hy, q0, q1, q2⟩ := hP.ins hkl
  obtain rfl : y = x := by rw [hkx] at hy; cases hy; rfl
  have hpb := hP.lt rfl (by intro e; rw [e] at hkl; simp at hkl)
  rw [hk] at c53
  have hkl' : (k : Int) < prog.length := by omega
  have hT := h.ticked ((k : Int) + 1) (steps + 1)
  have nbox : Aside (∀ O2 w2, Fr (Foot p sb cb) (((((w.setCell ⟨p, 53, none⟩ (.int .i64 ((k : Int) + 1))).setCell ⟨p, 54, none⟩ (.int .i64 (steps + 1))).alloc (.cells #[.pointer (some ⟨p, 0, none⟩)] 43)).alloc O2).drew) w2 →
      w2.cell? ⟨w.heap.size, 0, none⟩ = some (.pointer (some ⟨p, 0, none⟩)) ∧ w.heap.size < w2.heap.size) := box_kept h _ _
  have hnx : Aside (∀ O2, Next w p prog view { c with at_ := (k : Int) + 1 } (steps + 1) false 0 sb cb sb cb (((((w.setCell ⟨p, 53, none⟩ (.int .i64 ((k : Int) + 1))).setCell ⟨p, 54, none⟩ (.int .i64 (steps + 1))).alloc (.cells #[.pointer (some ⟨p, 0, none⟩)] 43)).alloc O2).drew)) :=
    fun O2 => hT.ext (by ((repeat (first | exact Ext.refl _ | assumption | refine Ext.drew' ?_ | refine Ext.alloc' ?_ _ | (with_reducible refine Ext.trans ?_ (Ext.drewN _ _)) | refine Ext.trans ?_ (by assumption))); done))
  clear hP h5 e5 c4 hT h
  have t0 : (y.op == 1) = false := by simpa using hop.1
  have t1 : (y.op == 17) = false := by simpa using hop.2.1
  have t2 : (y.op == 18) = false := by simpa using hop.2.2.1
  have t3 : (y.op == 19) = false := by simpa using hop.2.2.2.1
  have t4 : (y.op == 20) = false := by simpa using hop.2.2.2.2.1
  have t5 : (y.op == 30) = false := by simpa using hop.2.2.2.2.2.1
  have t6 : (y.op == 3) = false := by simpa using hop.2.2.2.2.2.2.1
  have t7 : (y.op == 21) = false := by simpa using hop.2.2.2.2.2.2.2.1
  have t8 : (y.op == 22) = false := by simpa using hop.2.2.2.2.2.2.2.2.1
  have t9 : (y.op == 23) = false := by simpa using hop.2.2.2.2.2.2.2.2.2.1
  have t10 : (y.op == 24) = false := by simpa using hop.2.2.2.2.2.2.2.2.2.2.1
  have t11 : (y.op == 25) = false := by simpa using hop.2.2.2.2.2.2.2.2.2.2.2.1
  have t12 : (y.op == 26) = false := by simpa using hop.2.2.2.2.2.2.2.2.2.2.2.2.1
  have t13 : (y.op == 27) = false := by simpa using hop.2.2.2.2.2.2.2.2.2.2.2.2.2.1
  have t14 : (y.op == 28) = false := by simpa using hop.2.2.2.2.2.2.2.2.2.2.2.2.2.2.1
  have t15 : (y.op == 29) = false := by simpa using hop.2.2.2.2.2.2.2.2.2.2.2.2.2.2.2
  clear hop
  have hmf : ∀ (fn : Fn) (first cap : Array Value) (w : World), (Instr.makeFunc fn first cap).run Tryz.prog w = .ok (.func fn first cap) w := fun _ _ _ _ => rfl
  go_enter_defers Tryz.func44, Tryz.ntmps44
  go_wp2
  go_region
  go_wp2_with (go_at_call 72; refine (hcall _ (hnx.out _).m (hnx.out _).fr).mono ?_; intro r w2 hD; rcases O with c2 | c2 | e2; (obtain ⟨rfl, sb2, cb2, hM2, hF2, hS2⟩ := hD; obtain ⟨b1, b2⟩ := nbox.out _ _ hF2; obtain ⟨ca2, cc2, d4, d5, f5, gp, gz, d53, d54, d55, d56⟩ := hM2.callsOf; obtain ⟨pa2, pc2, d0, hP2⟩ := hM2.progOf; have hN2 := (hnx.out _).join hF2 hS2 hM2); rotate_left; (obtain ⟨rfl, sb2, cb2, hM2, hF2, hS2⟩ := hD; obtain ⟨b1, b2⟩ := nbox.out _ _ hF2; obtain ⟨ca2, cc2, d4, d5, f5, gp, gz, d53, d54, d55, d56⟩ := hM2.callsOf; obtain ⟨pa2, pc2, d0, hP2⟩ := hM2.progOf; have hN2 := (hnx.out _).join hF2 hS2 hM2); rotate_left; (obtain ⟨rfl, c2, sb2, cb2, hM2, hF2, hS2⟩ := hD; obtain ⟨b1, b2⟩ := nbox.out _ _ hF2; have hN2 := (hnx.out _).join hF2 hS2 hM2); rotate_left)
  · go_quiet (fail)
    by_cases hend : c2.at_ = prog.length
    · have hend' : (c2.at_ == (prog.length : Int)) = true := by simpa using hend
      go_wp2
      refine leaves_cons (f := 68) (args := #[.pointer (some ⟨w.heap.size, 0, none⟩)]) (by simp) (by simp [go_sem]) ?_
      refine (catch_idle _ _).mono ?_
      rintro e u' w'' ⟨rfl, rfl, rfl⟩
      simp [Leaves, settle, results, Tryz.results44, go_sem]
      exact hN2.endGo hend nq
    · have hend' : (c2.at_ == (prog.length : Int)) = false := by simpa using hend
      go_wp2
      refine leaves_cons (f := 68) (args := #[.pointer (some ⟨w.heap.size, 0, none⟩)]) (by simp) (by simp [go_sem]) ?_
      refine (catch_idle _ _).mono ?_
      rintro e u' w'' ⟨rfl, rfl, rfl⟩
      simp [Leaves, settle, results, Tryz.results44, go_sem]
      exact hN2.stayGo hend nq
  · go_quiet (fail)
    by_cases hend : c2.at_ = prog.length
    · have hend' : (c2.at_ == (prog.length : Int)) = true := by simpa using hend
      go_wp2
      refine leaves_cons (f := 68) (args := #[.pointer (some ⟨w.heap.size, 0, none⟩)]) (by simp) (by simp [go_sem]) ?_
      refine (catch_idle _ _).mono ?_
      rintro e u' w'' ⟨rfl, rfl, rfl⟩
      simp [Leaves, settle, results, Tryz.results44, go_sem]
      exact hN2.endHalt nq
    · have hend' : (c2.at_ == (prog.length : Int)) = false := by simpa using hend
      go_wp2
      refine leaves_cons (f := 68) (args := #[.pointer (some ⟨w.heap.size, 0, none⟩)]) (by simp) (by simp [go_sem]) ?_
      refine (catch_idle _ _).mono ?_
      rintro e u' w'' ⟨rfl, rfl, rfl⟩
      simp [Leaves, settle, results, Tryz.results44, go_sem]
      exact hN2.stayHalt nq
  · refine leaves_cons (f := 68) (args := #[.pointer (some ⟨w.heap.size, 0, none⟩)]) (by simp) (by simp [go_sem]) ?_
    refine (catch_stop _ e2 _ hM2 b1).mono ?_
    rintro e u' w'' ⟨rfl, rfl, hD⟩
    simp [Leaves, settle, results, Tryz.results44, go_sem]
    exact ⟨c2, hN2.does hD⟩
end
end Go.Proofs.YtndpgdegcbaigaaGreatDoor

namespace Go.Proofs.YtndpgdegcbaigaaGreatDoor
open Go Go.RowKit

structure COK (len : Nat) (c : Cfg) : Prop where
  st : c.stack.length ≤ 64
  vals : ∀ v ∈ c.stack, ValOK v
  calls : c.calls.length ≤ 16
  places : ∀ a ∈ c.calls, 0 ≤ a ∧ a ≤ len
  cl : c.cells.length = 16
  cells : ∀ v ∈ c.cells, ValOK v
  outl : c.out.length ≤ 32
  outs : ∀ g ∈ c.out, g.path.size ≤ 2048 ∧ g.data.size ≤ 2048
  at0 : 0 ≤ c.at_
  at1 : c.at_ ≤ len

def Out.all (P : Cfg → Prop) : Out → Prop
  | .go c => P c
  | .halt c => P c
  | .stop _ => True

section
variable {len : Nat} {c : Cfg}

theorem vNum_ok {n : Int} (h : inI n) : ValOK (vNum n) := ⟨h, by show (0 : Nat) ≤ 2048; omega, rfl⟩
theorem vText_ok {s : ByteArray} (h : s.size ≤ 2048) : ValOK (vText s) := ⟨by show inI 0; constructor <;> decide, h, rfl⟩
theorem vTruth_ok (b : Bool) : ValOK (vTruth b) := vNum_ok (by cases b <;> (constructor <;> decide))
theorem default_ok : ValOK default := vNum_ok (n := 0) (by constructor <;> decide)
theorem wrap64_in (n : Int) : inI (wrap64 n) := by unfold wrap64 inI; omega

theorem getD_ok {vs : List Val} (h : ∀ v ∈ vs, ValOK v) (i : Nat) : ValOK (vs.getD i default) := by
  rw [List.getD_eq_getElem?_getD]
  cases hi : vs[i]? with
  | none => exact default_ok
  | some v => exact h v (List.mem_of_getElem? hi)

theorem pushV_ok {v : Val} (hv : ValOK v) (h : COK len c) : (pushV v c).all (COK len) := by
  unfold pushV
  split
  · rename_i hl
    exact ⟨by simp; omega, fun u hu => by
      rcases List.mem_append.1 hu with hu | hu
      · exact h.vals u hu
      · simp at hu; subst hu; exact hv, h.calls, h.places, h.cl, h.cells, h.outl, h.outs, h.at0, h.at1⟩
  · trivial

theorem bind_ok {o : Out} {k : Cfg → Out} {P : Cfg → Prop} (h : o.all P) (hk : ∀ c, P c → (k c).all P) : (o.bind k).all P := by
  cases o with
  | go c => exact hk c h
  | halt c => exact h
  | stop e => trivial

theorem COK.cut (h : COK len c) (n : Nat) : COK len { c with stack := c.stack.take n } :=
  ⟨by show (c.stack.take n).length ≤ 64; rw [List.length_take]; have := h.st; omega, fun v hv => h.vals v (List.mem_of_mem_take hv), h.calls, h.places, h.cl, h.cells, h.outl, h.outs, h.at0, h.at1⟩

theorem takeK_ok {signs : List Bool} {k : List Val → Cfg → Out} (h : COK len c) (hk : ∀ vs c', (∀ v ∈ vs, ValOK v) → vs.map (·.text) = signs → COK len c' → c'.stack.length + signs.length ≤ 64 → (k vs c').all (COK len)) : (takeK signs c k).all (COK len) := by
  unfold takeK
  split
  · rename_i hkind
    have h2 := hkind
    simp only [kindOK, Bool.and_eq_true, decide_eq_true_eq, beq_iff_eq] at h2
    refine hk _ _ (fun v hv => h.vals v (List.mem_of_mem_drop hv)) h2.2 (h.cut _) ?_
    show (c.stack.take _).length + _ ≤ 64
    rw [List.length_take]; have := h.st; omega
  · trivial
theorem takeA_ok {n : Nat} {k : List Val → Cfg → Out} (h : COK len c) (hk : ∀ vs c', (∀ v ∈ vs, ValOK v) → COK len c' → c'.stack.length + n ≤ 64 → (k vs c').all (COK len)) : (takeA n c k).all (COK len) := by
  unfold takeA
  split
  · refine hk _ _ (fun v hv => h.vals v (List.mem_of_mem_drop hv)) (h.cut _) ?_
    show (c.stack.take _).length + _ ≤ 64
    rw [List.length_take]; have := h.st; omega
  · trivial

theorem tmod_in {a b : Int} (h : inI a) : inI (a.tmod b) := by
  unfold inI at *
  have h1 : (a.tmod b).natAbs ≤ a.natAbs := by rw [Int.natAbs_tmod]; exact Nat.mod_le _ _
  rcases Int.le_total 0 a with ha | ha
  · have h2 := Int.tmod_nonneg b ha
    omega
  · have h2 : a.tmod b ≤ 0 := by
      have := Int.tmod_nonneg b (show 0 ≤ -a by omega)
      rw [Int.neg_tmod] at this
      omega
    omega

theorem reckonM_in {op a b n : Int} (ha : inI a) (h : reckonM op a b = some n) : inI n := by
  unfold reckonM at h
  repeat' split at h
  all_goals first
    | (cases h; done)
    | (injection h with h; subst h; exact wrap64_in _)
    | (injection h with h; subst h; exact tmod_in ha)

theorem execMoves_ok {x : Ins} (hx : (x.op = 17 ∨ x.op = 18 ∨ x.op = 19) → 0 ≤ x.n ∧ x.n ≤ len) (h : COK len c) : (execMoves x c).all (COK len) := by
  unfold execMoves
  split
  · exact h
  · rename_i e
    have := hx (by omega)
    exact ⟨h.st, h.vals, h.calls, h.places, h.cl, h.cells, h.outl, h.outs, this.1, this.2⟩
  · rename_i e
    have := hx (by omega)
    refine takeK_ok h fun vs c' _ _ hc _ => ?_
    show COK len _
    split
    · exact ⟨hc.st, hc.vals, hc.calls, hc.places, hc.cl, hc.cells, hc.outl, hc.outs, this.1, this.2⟩
    · exact hc
  · rename_i e
    have := hx (by omega)
    split
    · rename_i hl
      exact ⟨h.st, h.vals, by simp; omega, fun a ha => by
        rcases List.mem_append.1 ha with ha | ha
        · exact h.places a ha
        · simp at ha; subst ha; exact ⟨h.at0, h.at1⟩, h.cl, h.cells, h.outl, h.outs, this.1, this.2⟩
    · trivial
  · split
    · rename_i a ha
      have hm : a ∈ c.calls := List.mem_of_getLast? ha
      exact ⟨h.st, h.vals, by show c.calls.dropLast.length ≤ 16; rw [List.length_dropLast]; have := h.calls; omega, fun b hb => h.places b ((List.dropLast_subset c.calls) hb), h.cl, h.cells, h.outl, h.outs, (h.places a hm).1, (h.places a hm).2⟩
    · trivial
  · trivial

theorem execTexts_ok {x : Ins} (hx : x.op = 3 → x.s.size ≤ 2048) (h : COK len c) : (execTexts x c).all (COK len) := by
  unfold execTexts
  split
  · rename_i e; exact pushV_ok (vText_ok (hx e)) h
  · refine takeK_ok h fun vs c' hv _ hc _ => ?_
    split
    · rename_i hs; exact pushV_ok (vText_ok (by rw [ByteArray.size_append]; exact hs)) hc
    · trivial
  · refine takeK_ok h fun vs c' hv _ hc _ => pushV_ok (vNum_ok ?_) hc
    have := (getD_ok hv 0).size
    constructor <;> omega
  · refine takeK_ok h fun vs c' hv _ hc _ => ?_
    split
    · refine pushV_ok (vText_ok ?_) hc
      have := (getD_ok hv 0).size
      rw [ByteArray.size_extract]; omega
    · trivial
  · refine takeK_ok h fun vs c' hv _ hc _ => pushV_ok (vText_ok ?_) hc
    have hn := (getD_ok hv 0).num
    have := Lib.itoa_length_le _ hn.1 hn.2
    show (Lib.itoa (vs.getD 0 default).n).toArray.size ≤ 2048
    rw [List.size_toArray]; omega
  · refine takeK_ok h fun vs c' hv _ hc _ => bind_ok (pushV_ok (vNum_ok ?_) hc) fun c2 h2 => pushV_ok (vTruth_ok _) h2
    unfold numM
    split
    · rename_i n hn
      split
      · exact atoiAll_in hn
      · constructor <;> decide
    · constructor <;> decide

theorem execValues_ok {x : Ins} (hx : x.op = 2 → inI x.n) (h : COK len c) : (execValues x c).all (COK len) := by
  unfold execValues
  split
  · rename_i e; exact pushV_ok (vNum_ok (hx e)) h
  · exact takeA_ok h fun vs c' hv hc _ => hc
  · exact takeA_ok h fun vs c' hv hc _ => pushV_ok (getD_ok hv 0) h
  · refine takeA_ok h fun vs c' hv hc hl => ?_
    exact ⟨by simp; omega, fun v hm => by
      rcases List.mem_append.1 hm with hm | hm
      · exact hc.vals v hm
      · simp at hm
        rcases hm with rfl | rfl
        · exact getD_ok hv 1
        · exact getD_ok hv 0, hc.calls, hc.places, hc.cl, hc.cells, hc.outl, hc.outs, hc.at0, hc.at1⟩
  · exact pushV_ok (getD_ok h.cells _) h
  · refine takeA_ok h fun vs c' hv hc hl => ?_
    exact ⟨hc.st, hc.vals, hc.calls, hc.places, by simpa using hc.cl, fun v hm => by
      rcases List.mem_or_eq_of_mem_set hm with hm | rfl
      · exact hc.cells v hm
      · exact getD_ok hv 0, hc.outl, hc.outs, hc.at0, hc.at1⟩
  · refine takeA_ok h fun vs c' hv hc hl => ?_
    split
    · exact pushV_ok (vTruth_ok _) hc
    · trivial
  · exact takeA_ok h fun vs c' hv hc hl => pushV_ok (vTruth_ok _) hc
  · exact takeK_ok h fun vs c' hv _ hc _ => pushV_ok (vTruth_ok _) hc
  · refine takeK_ok h fun vs c' hv _ hc _ => ?_
    split
    · rename_i r hr; exact pushV_ok (vNum_ok (reckonM_in (getD_ok hv 0).num hr)) hc
    · trivial

theorem insF_mem {f : File} : ∀ {l : List File} {g : File}, g ∈ insF f l → g = f ∨ g ∈ l
  | [], g, h => by simp [insF] at h; exact Or.inl h
  | k :: l, g, h => by
    unfold insF at h
    split at h
    · rcases List.mem_cons.1 h with h | h
      · exact Or.inl h
      · exact Or.inr h
    · rcases List.mem_cons.1 h with h | h
      · exact Or.inr (by rw [h]; exact List.mem_cons_self)
      · rcases insF_mem h with h | h
        · exact Or.inl h
        · exact Or.inr (List.mem_cons_of_mem _ h)
theorem insF_len {f : File} : ∀ {l : List File}, (insF f l).length = l.length + 1
  | [] => rfl
  | k :: l => by
    unfold insF
    split
    · simp
    · simp [insF_len (l := l)]
theorem foldl_insF : ∀ (l s : List File), (l.foldl (fun s f => insF f s) s).length = s.length + l.length ∧ ∀ g ∈ l.foldl (fun s f => insF f s) s, g ∈ s ∨ g ∈ l
  | [], s => ⟨by simp, fun g hg => Or.inl hg⟩
  | f :: l, s => by
    obtain ⟨h1, h2⟩ := foldl_insF l (insF f s)
    refine ⟨by rw [List.foldl_cons, h1, insF_len, List.length_cons]; omega, fun g hg => ?_⟩
    rcases h2 g hg with h | h
    · rcases insF_mem h with h | h
      · exact Or.inr (by rw [h]; exact List.mem_cons_self)
      · exact Or.inl h
    · exact Or.inr (List.mem_cons_of_mem _ h)
theorem sortF_len (l : List File) : (sortF l).length = l.length := by have := (foldl_insF l []).1; simpa [sortF] using this
theorem sortF_mem {l : List File} {g : File} (h : g ∈ sortF l) : g ∈ l := by
  rcases (foldl_insF l []).2 g h with h | h
  · simp at h
  · exact h

theorem treeMake_small (l : List File) : (treeMake l).1.length ≤ 32 ∧ ∀ g ∈ (treeMake l).1, g.path.size ≤ 128 ∧ g.data.size ≤ 2048 := by
  unfold treeMake
  split
  · exact ⟨by simp, by simp⟩
  · rename_i hl
    split
    · exact ⟨by simp, by simp⟩
    · rename_i hn
      split
      · exact ⟨by simp, by simp⟩
      · split
        · exact ⟨by simp, by simp⟩
        · refine ⟨by show (sortF l).length ≤ 32; rw [sortF_len]; omega, fun g hg => ?_⟩
          have hm : g ∈ l := sortF_mem hg
          have he := List.findSome?_eq_none_iff.1 hn g hm
          unfold fileErr at he
          split at he
          · rename_i hp
            split at he
            · rename_i hd
              simp only [goodPath, Bool.and_eq_true, decide_eq_true_eq] at hp
              exact ⟨hp.1.1, hd⟩
            · cases he
          · cases he
theorem putF_small (l : List File) (f : File) : (putF l f).1.length ≤ 32 ∧ ∀ g ∈ (putF l f).1, g.path.size ≤ 128 ∧ g.data.size ≤ 2048 := by
  unfold putF
  split
  · exact treeMake_small _
  · exact ⟨by simp, by simp⟩
theorem treeGood_small {l : List File} (h : treeGood l = true) : l.length ≤ 32 ∧ ∀ g ∈ l, g.path.size ≤ 128 ∧ g.data.size ≤ 2048 := by
  simp only [treeGood, Bool.and_eq_true, beq_iff_eq] at h
  have := treeMake_small l
  rw [h.2] at this; exact this

theorem foundM_ok {s : ByteArray} {is : Bool} (hs : s.size ≤ 2048) (h : COK len c) : (foundM s is c).all (COK len) :=
  bind_ok (pushV_ok (vText_ok hs) h) fun _ h2 => pushV_ok (vTruth_ok _) h2

theorem execFiles_ok {x : Ins} {view : List File} (hv : treeGood view = true) (h : COK len c) : (execFiles view x c).all (COK len) := by
  obtain ⟨hv1, hv2⟩ := treeGood_small hv
  unfold execFiles
  split
  · refine takeK_ok h fun vs c' _ _ hc _ => foundM_ok ?_ hc
    unfold getF
    split
    · rename_i f hf; exact (hv2 f (List.mem_of_find?_eq_some hf)).2
    · show 0 ≤ 2048; omega
  · exact pushV_ok (vNum_ok (by constructor <;> omega)) h
  · refine takeK_ok h fun vs c' _ _ hc _ => ?_
    split
    · refine foundM_ok ?_ hc
      rw [List.getD_eq_getElem?_getD]
      cases hi : view[(vs.getD 0 default).n.toNat]? with
      | none => show 0 ≤ 2048; omega
      | some f => have := (hv2 f (List.mem_of_getElem? hi)).1; simp only [Option.getD_some]; omega
    · exact foundM_ok (by show 0 ≤ 2048; omega) hc
  · refine takeK_ok h fun vs c' _ _ hc _ => ?_
    split
    · have h2 := putF_small c'.out ⟨(vs.getD 0 default).s, (vs.getD 1 default).s⟩
      exact ⟨hc.st, hc.vals, hc.calls, hc.places, hc.cl, hc.cells, h2.1, fun g hg => ⟨by have := (h2.2 g hg).1; omega, (h2.2 g hg).2⟩, hc.at0, hc.at1⟩
    · trivial

/-- An instruction that Check lets through, among so many. -/
structure InsOK (len : Nat) (x : Ins) : Prop where
  low : 1 ≤ x.op
  high : x.op ≤ 30
  num : inI x.n
  text : x.s.size ≤ 256
  cell : x.op = 7 ∨ x.op = 8 → 0 ≤ x.n ∧ x.n < 16
  place : x.op = 17 ∨ x.op = 18 ∨ x.op = 19 → 0 ≤ x.n ∧ x.n < len

theorem InsOK.of {len : Nat} {x : Ins} (h : insOK len x = true) (hn : inI x.n) : InsOK len x := by
  unfold insOK at h
  simp only [Bool.and_eq_true, decide_eq_true_eq] at h
  obtain ⟨⟨h1, h2⟩, h3⟩ := h
  refine ⟨h1, h2, hn, ?_, fun hc => ?_, fun hc => ?_⟩
  · split at h3
    · simp only [decide_eq_true_eq] at h3; exact h3.2
    · simp only [Bool.and_eq_true, decide_eq_true_eq] at h3
      rw [h3.1]; show 0 ≤ 256; omega
  · have ht : takes x.op = 3 := by unfold takes; rcases hc with e | e <;> rw [e] <;> rfl
    rw [ht] at h3
    have h4 : x.s = ByteArray.empty ∧ (0 ≤ x.n ∧ x.n < 16) := by simpa using h3
    exact h4.2
  · have ht : takes x.op = 4 := by unfold takes; rcases hc with e | e | e <;> rw [e] <;> rfl
    rw [ht] at h3
    have h4 : x.s = ByteArray.empty ∧ (0 ≤ x.n ∧ x.n < (len : Int)) := by simpa using h3
    exact h4.2

theorem exec_ok {x : Ins} {view : List File} (hv : treeGood view = true) (hx : InsOK len x) (h : COK len c) : (exec view x c).all (COK len) := by
  unfold exec
  split
  · exact execMoves_ok (fun e => ⟨(hx.place e).1, by have := (hx.place e).2; omega⟩) h
  · split
    · exact execTexts_ok (fun _ => by have := hx.text; omega) h
    · split
      · exact execFiles_ok hv h
      · exact execValues_ok (fun _ => hx.num) h
end
end Go.Proofs.YtndpgdegcbaigaaGreatDoor

namespace Go.Proofs.YtndpgdegcbaigaaGreatDoor
open Go Go.RowKit

/-- A machine under way, or at its end; where it gave up, c says nothing. -/
structure Run where
  c : Cfg
  steps : Nat
  done : Bool
  fault : Int

def startC : Cfg := ⟨[], [], List.replicate 16 default, [], 0⟩
def start : Run := ⟨startC, 0, false, 0⟩

/-- One instruction. -/
def stepS (prog : List Ins) (view : List File) (s : Run) : Run :=
  match exec view (prog.getD s.c.at_.toNat default) { s.c with at_ := s.c.at_ + 1 } with
  | .go c => ⟨c, s.steps + 1, decide (c.at_ = prog.length), 0⟩
  | .halt c => ⟨c, s.steps + 1, true, 0⟩
  | .stop e => ⟨s.c, s.steps + 1, true, e⟩
/-- One instruction, and the fuel. -/
def tickS (prog : List Ins) (view : List File) (s : Run) : Run :=
  if (stepS prog view s).done = false ∧ (stepS prog view s).steps = 4096 then { stepS prog view s with done := true, fault := 45 } else stepS prog view s
/-- At most so many. -/
def runS (prog : List Ins) (view : List File) : Nat → Run → Run
  | 0, s => s
  | k + 1, s => if s.done then s else runS prog view k (tickS prog view s)

/-- What a program comes to: what it wrote, how many steps, the error. -/
def runM (prog : List Ins) (view : List File) : List File × Nat × Int :=
  if checkErr prog ≠ 0 then ([], 0, checkErr prog) else if treeGood view = false then ([], 0, 1) else
  ((if (runS prog view 4096 start).fault = 0 then (runS prog view 4096 start).c.out else []), (runS prog view 4096 start).steps, (runS prog view 4096 start).fault)

/-- What stays so in a run. -/
structure ROK (prog : List Ins) (s : Run) : Prop where
  cok : s.fault = 0 → COK prog.length s.c
  on : s.done = false → s.fault = 0 ∧ s.c.at_ < prog.length ∧ s.steps < 4096
  most : s.steps ≤ 4096

section
variable {prog : List Ins} {view : List File}

theorem start_ok (h : prog ≠ []) : ROK prog start :=
  ⟨fun _ => ⟨by simp [start, startC], by simp [start, startC], by simp [start, startC], by simp [start, startC], by simp [start, startC], fun v hv => by
      have : v = default := (List.mem_replicate.1 hv).2
      rw [this]; exact default_ok, by simp [start, startC], by simp [start, startC], by simp [start, startC], by simp [start, startC]⟩,
    fun _ => ⟨rfl, by have := List.length_pos_iff.2 h; show (0 : Int) < (prog.length : Int); omega, by simp [start]⟩, by simp [start]⟩

theorem tickS_ok (hv : treeGood view = true) (hp : ∀ x ∈ prog, InsOK prog.length x) {s : Run} (h : ROK prog s) (hd : s.done = false) : ROK prog (tickS prog view s) ∧ (tickS prog view s).steps = s.steps + 1 := by
  obtain ⟨h1, h2, h3⟩ := h.on hd
  have hc := h.cok h1
  have hat := hc.at0
  have hlt : s.c.at_.toNat < prog.length := by omega
  have hx : InsOK prog.length (prog.getD s.c.at_.toNat default) := hp _ (by
    rw [List.getD_eq_getElem?_getD, List.getElem?_eq_getElem hlt]; exact List.getElem_mem _)
  have hc1 : COK prog.length { s.c with at_ := s.c.at_ + 1 } := ⟨hc.st, hc.vals, hc.calls, hc.places, hc.cl, hc.cells, hc.outl, hc.outs, by show (0 : Int) ≤ s.c.at_ + 1; omega, by show s.c.at_ + 1 ≤ (prog.length : Int); omega⟩
  have hall := exec_ok hv hx hc1
  have hs : (stepS prog view s).steps = s.steps + 1 := by unfold stepS; split <;> rfl
  have hS : ((stepS prog view s).fault = 0 → COK prog.length (stepS prog view s).c) ∧ ((stepS prog view s).done = false → (stepS prog view s).fault = 0 ∧ (stepS prog view s).c.at_ < prog.length) := by
    unfold stepS
    revert hall
    cases exec view (prog.getD s.c.at_.toNat default) { s.c with at_ := s.c.at_ + 1 } with
    | go c =>
      intro hall
      refine ⟨fun _ => hall, fun hd => ⟨rfl, ?_⟩⟩
      have h4 : ¬ c.at_ = prog.length := by simpa using hd
      have h5 : COK prog.length c := hall
      have := h5.at1
      show c.at_ < _; omega
    | halt c => intro hall; exact ⟨fun _ => hall, fun hd => by simp at hd⟩
    | stop e => intro _; exact ⟨fun _ => hc, fun hd => by simp at hd⟩
  unfold tickS
  split
  · rename_i hf
    exact ⟨⟨fun h0 => by simp at h0, fun h0 => by simp at h0, by show (stepS prog view s).steps ≤ 4096; omega⟩, hs⟩
  · rename_i hf
    refine ⟨⟨hS.1, fun hd' => ⟨(hS.2 hd').1, (hS.2 hd').2, ?_⟩, by omega⟩, hs⟩
    have : ¬ (stepS prog view s).steps = 4096 := fun e => hf ⟨hd', e⟩
    omega

/-- No instruction gives up with no error. -/
def Out.loud : Out → Prop
  | .stop e => e ≠ 0
  | _ => True
theorem pushV_loud {v : Val} {c : Cfg} : (pushV v c).loud := by unfold pushV; split <;> simp [Out.loud]
theorem bind_loud {o : Out} {k : Cfg → Out} (h : o.loud) (hk : ∀ c, (k c).loud) : (o.bind k).loud := by
  cases o with
  | go c => exact hk c
  | halt c => trivial
  | stop e => exact h
theorem takeK_loud {signs : List Bool} {c : Cfg} {k : List Val → Cfg → Out} (hk : ∀ vs c, (k vs c).loud) : (takeK signs c k).loud := by
  unfold takeK
  split
  · exact hk _ _
  · show kindErr _ _ ≠ 0
    unfold kindErr; split <;> decide
theorem takeA_loud {n : Nat} {c : Cfg} {k : List Val → Cfg → Out} (hk : ∀ vs c, (k vs c).loud) : (takeA n c k).loud := by
  unfold takeA
  split
  · exact hk _ _
  · show (40 : Int) ≠ 0; decide
theorem exec_loud (view : List File) (x : Ins) (c : Cfg) : (exec view x c).loud := by
  unfold exec
  split
  · unfold execMoves
    split
    · trivial
    · trivial
    · exact takeK_loud fun vs c => trivial
    · split
      · trivial
      · show (40 : Int) ≠ 0; decide
    · split
      · trivial
      · show (40 : Int) ≠ 0; decide
    · show (44 : Int) ≠ 0; decide
  · split
    · unfold execTexts
      split
      · exact pushV_loud
      · refine takeK_loud fun vs c => ?_
        split
        · exact pushV_loud
        · show (43 : Int) ≠ 0; decide
      · exact takeK_loud fun vs c => pushV_loud
      · refine takeK_loud fun vs c => ?_
        split
        · exact pushV_loud
        · show (43 : Int) ≠ 0; decide
      · exact takeK_loud fun vs c => pushV_loud
      · exact takeK_loud fun vs c => bind_loud pushV_loud fun _ => pushV_loud
    · split
      · unfold execFiles
        split
        · exact takeK_loud fun vs c => bind_loud pushV_loud fun _ => pushV_loud
        · exact pushV_loud
        · refine takeK_loud fun vs c => ?_
          split
          · exact bind_loud pushV_loud fun _ => pushV_loud
          · exact bind_loud pushV_loud fun _ => pushV_loud
        · refine takeK_loud fun vs c => ?_
          split
          · trivial
          · rename_i h; exact h
      · unfold execValues
        split
        · exact pushV_loud
        · exact takeA_loud fun vs c => trivial
        · exact takeA_loud fun vs c => pushV_loud
        · exact takeA_loud fun vs c => trivial
        · exact pushV_loud
        · exact takeA_loud fun vs c => trivial
        · refine takeA_loud fun vs c => ?_
          split
          · exact pushV_loud
          · show (41 : Int) ≠ 0; decide
        · exact takeA_loud fun vs c => pushV_loud
        · exact takeK_loud fun vs c => pushV_loud
        · refine takeK_loud fun vs c => ?_
          split
          · exact pushV_loud
          · show (42 : Int) ≠ 0; decide

/-- As long as it is under way a run has done as many steps as it was let. -/
theorem runS_on (hv : treeGood view = true) (hp : ∀ x ∈ prog, InsOK prog.length x) : ∀ (k : Nat) (s : Run), ROK prog s → ROK prog (runS prog view k s) ∧ ((runS prog view k s).done = false → (runS prog view k s).steps = s.steps + k)
  | 0, s, h => ⟨h, fun _ => rfl⟩
  | k + 1, s, h => by
    unfold runS
    split
    · rename_i hd
      exact ⟨h, fun h0 => by rw [hd] at h0; cases h0⟩
    · rename_i hd
      have hd' : s.done = false := by simpa using hd
      obtain ⟨h1, h2⟩ := tickS_ok (view := view) hv hp h hd'
      obtain ⟨h3, h4⟩ := runS_on hv hp k _ h1
      exact ⟨h3, fun h0 => by rw [h4 h0, h2]; omega⟩
theorem runS_end (hv : treeGood view = true) (hp : ∀ x ∈ prog, InsOK prog.length x) (h : ROK prog start) : (runS prog view 4096 start).done = true := by
  obtain ⟨h1, h2⟩ := runS_on hv hp 4096 start h
  cases hd : (runS prog view 4096 start).done with
  | true => rfl
  | false =>
    have h3 := h2 hd
    have h4 := (h1.on hd).2.2
    have h5 : start.steps = 0 := rfl
    omega
end
end Go.Proofs.YtndpgdegcbaigaaGreatDoor

namespace Go.Proofs.YtndpgdegcbaigaaGreatDoor
open Go Go.RowKit

section
variable {p : Nat} {prog : List Ins} {view : List File} {c : Cfg} {steps : Int} {done : Bool} {fault : Int} {sb cb : Option Nat} {w : World}

set_option maxHeartbeats 1000000 in
set_option maxRecDepth 20000 in
theorem files_write (hPut : PutSays) (n : Int) (s : ByteArray) (hb64 : c.stack.length ≤ 64) (hsz : ∀ v ∈ c.stack, v.s.size ≤ 2048) (hol : c.out.length ≤ 32) (hos : ∀ g ∈ c.out, g.path.size ≤ 2048 ∧ g.data.size ≤ 2048) (hg : Globals w) (ha : Apart p sb cb) (h : Mach w p prog view c steps done fault sb cb) :
    Calls Tryz.prog 71 #[.pointer (some ⟨p, 0, none⟩), vIns ⟨29, n, s⟩] w (Did w p prog view steps done fault sb cb (execFiles view ⟨29, n, s⟩ c)) := by
  have hx : execFiles view ⟨29, n, s⟩ c = takeK [true, true] c fun vs c => if (putF c.out ⟨(vs.getD 0 default).s, (vs.getD 1 default).s⟩).2 = 0 then .go { c with out := (putF c.out ⟨(vs.getD 0 default).s, (vs.getD 1 default).s⟩).1 }
    else .stop (putF c.out ⟨(vs.getD 0 default).s, (vs.getD 1 default).s⟩).2 := rfl
  rw [hx]
  cases hk : kindOK [true, true] c.stack with
  | true =>
    obtain ⟨xs, tops, hs, hl, ht, h1, h2⟩ := kindOK_split hk
    rw [takeK, if_pos hk, h1, h2]
    match tops, hl with
    | [u, v], _ =>
    have hu : u.s.size ≤ 2048 := hsz u (by rw [hs]; simp)
    have hv' : v.s.size ≤ 2048 := hsz v (by rw [hs]; simp)
    simp only [List.getD_cons_zero, List.getD_cons_succ]
    by_cases hz0 : (putF c.out ⟨u.s, v.s⟩).2 = 0
    · rw [if_pos hz0]
      exact write_ok hPut n s xs u v _ rfl (by simpa using hz0) hs ht hu hv' hb64 hol hos hg ha h
    · rw [if_neg hz0]
      exact write_no hPut n s xs u v _ rfl (by simpa using hz0) hs ht hu hv' hb64 hol hos hg ha h
  | false =>
    rw [takeK_no hk]
    clear hx
    go_enter Tryz.func71, Tryz.ntmps71
    go_wp2_with (go_at_call 87; refine (kinds_fail [true, true] ⟨#[116, 116]⟩ rfl (h.keep (by ((repeat (first | exact Ext.refl _ | assumption | refine Ext.drew' ?_ | refine Ext.alloc' ?_ _ | (with_reducible refine Ext.trans ?_ (Ext.drewN _ _)) | refine Ext.trans ?_ (by assumption))); done))) hb64 hk).mono ?_; rintro e w' ⟨rfl, hE⟩)
    exact ⟨rfl, rfl, c, Does.same h (Ext.trans (by ((repeat (first | exact Ext.refl _ | assumption | refine Ext.drew' ?_ | refine Ext.alloc' ?_ _ | (with_reducible refine Ext.trans ?_ (Ext.drewN _ _)) | refine Ext.trans ?_ (by assumption))); done)) hE)⟩

theorem files_calls (hGet : GetSays) (hPut : PutSays) (x : Ins) (hop : x.op = 26 ∨ x.op = 27 ∨ x.op = 28 ∨ x.op = 29) (hgood : treeGood view = true) {len : Nat} (hc : COK len c) (hg : Globals w) (ha : Apart p sb cb) (h : Mach w p prog view c steps done fault sb cb) :
    Calls Tryz.prog 71 #[.pointer (some ⟨p, 0, none⟩), vIns x] w (Did w p prog view steps done fault sb cb (execFiles view x c)) := by
  obtain ⟨op, n, s⟩ := x
  have hsz : ∀ v ∈ c.stack, v.s.size ≤ 2048 := fun v hv => (hc.vals v hv).size
  simp only at hop
  rcases hop with rfl | rfl | rfl | rfl
  · exact files_read hGet n s hc.st hsz hgood hg ha h
  · exact files_count n s h
  · exact files_path n s hc.st (by have := (treeGood_small hgood).1; omega) h
  · exact files_write hPut n s hc.st hsz hc.outl hc.outs hg ha h

theorem Globals.fr (hg : Globals w) (ha : Apart p sb cb) {W : World} (hF : Fr (Foot p sb cb) w W) : Globals W :=
  hg.keep hF.size fun k hk => hF.block k (Nat.lt_of_lt_of_le hk hg.size) fun hf => by have := ha k hf; omega

/-- One step of a machine that is under way. -/
theorem step_calls (hGet : GetSays) (hPut : PutSays) (k : Nat) (x : Ins) (hk : c.at_ = k) (hkx : prog[k]? = some x) (hpl : prog.length ≤ 256) (hs0 : 0 ≤ steps) (hs1 : steps ≤ 5000)
    (hx : InsOK prog.length x) (hgood : treeGood view = true) (hc : COK prog.length c) (hg : Globals w) (ha : Apart p sb cb) (h : Mach w p prog view c steps false 0 sb cb) :
    Calls Tryz.prog 44 #[.pointer (some ⟨p, 0, none⟩)] w fun r w' => r = unit ∧ Stepped w p prog view (steps + 1) sb cb (exec view x { c with at_ := (k : Int) + 1 }) w' := by
  have hkl : k < prog.length := (List.getElem?_eq_some_iff.1 hkx).1
  have hc1 : COK prog.length { c with at_ := (k : Int) + 1 } := ⟨hc.st, hc.vals, hc.calls, hc.places, hc.cl, hc.cells, hc.outl, hc.outs, by show (0 : Int) ≤ (k : Int) + 1; omega, by show (k : Int) + 1 ≤ (prog.length : Int); omega⟩
  have h1 := hx.low
  have h2 := hx.high
  unfold exec
  by_cases c1 : x.op = 1 ∨ x.op = 17 ∨ x.op = 18 ∨ x.op = 19 ∨ x.op = 20 ∨ x.op = 30
  · rw [if_pos c1]
    have hh : (x.op = 1 ∨ x.op = 17 ∨ x.op = 18) ∨ (x.op = 19 ∨ x.op = 20 ∨ x.op = 30) := by omega
    rcases hh with hh | hh
    · exact step_movesa k x hk hkx (by omega) hs0 (by omega) hh _ h fun W hM hF => moves_calls x c1 hc.st hc.calls hM
    · exact step_movesb k x hk hkx (by omega) hs0 (by omega) hh _ h fun W hM hF => moves_calls x c1 hc.st hc.calls hM
  rw [if_neg c1]
  by_cases c2 : x.op = 3 ∨ x.op = 21 ∨ x.op = 22 ∨ x.op = 23 ∨ x.op = 24 ∨ x.op = 25
  · rw [if_pos c2]
    have hh : (x.op = 3 ∨ x.op = 21 ∨ x.op = 22) ∨ (x.op = 23 ∨ x.op = 24 ∨ x.op = 25) := by omega
    rcases hh with hh | hh
    · exact step_textsa k x hk hkx (by omega) hs0 (by omega) hh _ h fun W hM hF => texts_calls x c2 hc.st hc.vals (hg.fr ha hF) ha hM
    · exact step_textsb k x hk hkx (by omega) hs0 (by omega) hh _ h fun W hM hF => texts_calls x c2 hc.st hc.vals (hg.fr ha hF) ha hM
  rw [if_neg c2]
  by_cases c3 : x.op = 26 ∨ x.op = 27 ∨ x.op = 28 ∨ x.op = 29
  · rw [if_pos c3]
    have hh : (x.op = 26 ∨ x.op = 27) ∨ (x.op = 28 ∨ x.op = 29) := by omega
    rcases hh with hh | hh
    · exact step_filesa k x hk hkx (by omega) hs0 (by omega) hh _ h fun W hM hF => files_calls hGet hPut x c3 hgood hc1 (hg.fr ha hF) ha hM
    · exact step_filesb k x hk hkx (by omega) hs0 (by omega) hh _ h fun W hM hF => files_calls hGet hPut x c3 hgood hc1 (hg.fr ha hF) ha hM
  rw [if_neg c3]
  refine step_values k x hk hkx (by omega) hs0 (by omega) (by omega) _ h fun W hM hF => values_calls x ?_ hc.st hM
  by_cases e7 : x.op = 7 ∨ x.op = 8
  · exact Or.inr (Or.inr (Or.inr (Or.inr (Or.inl ⟨e7, hx.cell e7⟩))))
  · omega
end
end Go.Proofs.YtndpgdegcbaigaaGreatDoor
