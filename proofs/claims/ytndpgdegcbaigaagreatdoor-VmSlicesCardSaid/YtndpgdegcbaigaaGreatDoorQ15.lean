/- Package vm: step, where the instruction is one of texts's. -/
import Derived.Test.YtndpgdegcbaigaaGreatDoorQ11
namespace Go.Proofs.YtndpgdegcbaigaaGreatDoor
open Go Go.RowKit

section
variable {p : Nat} {prog : List Ins} {view : List File} {c : Cfg} {steps : Int} {done : Bool} {fault : Int} {sb cb : Option Nat} {w : World}

set_option maxHeartbeats 40000000 in
set_option maxRecDepth 20000 in
theorem step_textsb (k : Nat) (x : Ins) (hk : c.at_ = k) (hkx : prog[k]? = some x) (hpl : prog.length ≤ 100000) (hs0 : 0 ≤ steps) (hs1 : steps ≤ 100000) (hop : x.op = 23 ∨ x.op = 24 ∨ x.op = 25)
    (O : Out) (h : Mach w p prog view c steps false 0 sb cb)
    (hcall : ∀ W, Mach W p prog view { c with at_ := (k : Int) + 1 } (steps + 1) false 0 sb cb → Fr (Foot p sb cb) w W → Calls Tryz.prog 70 #[.pointer (some ⟨p, 0, none⟩), vIns x] W (Did W p prog view (steps + 1) false 0 sb cb O)) :
    Calls Tryz.prog 44 #[.pointer (some ⟨p, 0, none⟩)] w fun r w' => r = unit ∧ Stepped w p prog view (steps + 1) sb cb O w' := by
  obtain ⟨ca, cc, c4, h5, e5, hp, hz, c53, c54, c55, c56⟩ := h.callsOf
  obtain ⟨pa, pc, c0, hP⟩ := h.progOf
  have hkl : k < prog.length := (List.getElem?_eq_some_iff.1 hkx).1
  obtain ⟨pb, po, y, rfl, hy, q0, q1, q2⟩ := hP.ins hkl
  obtain rfl : y = x := by rw [hkx] at hy; cases hy; rfl
  have hpb := hP.lt rfl (by intro e; rw [e] at hkl; simp at hkl)
  rw [hk] at c53
  have hkl' : (k : Int) < prog.length := by omega
  have hT := h.ticked ((k : Int) + 1) (steps + 1)
  have nbox : Aside (∀ O2 w2, Fr (Foot p sb cb) (((((w.setCell ⟨p, 53, none⟩ (.int .i64 ((k : Int) + 1))).setCell ⟨p, 54, none⟩ (.int .i64 (steps + 1))).alloc (.cells #[.pointer (some ⟨p, 0, none⟩)] 43)).alloc O2).drew) w2 →
      w2.cell? ⟨w.heap.size, 0, none⟩ = some (.pointer (some ⟨p, 0, none⟩)) ∧ w.heap.size < w2.heap.size) := box_kept h _ _
  have hnx : Aside (∀ O2, Next w p prog view { c with at_ := (k : Int) + 1 } (steps + 1) false 0 sb cb sb cb (((((w.setCell ⟨p, 53, none⟩ (.int .i64 ((k : Int) + 1))).setCell ⟨p, 54, none⟩ (.int .i64 (steps + 1))).alloc (.cells #[.pointer (some ⟨p, 0, none⟩)] 43)).alloc O2).drew)) :=
    fun O2 => hT.ext (by ((repeat (first | exact Ext.refl _ | assumption | refine Ext.drew' ?_ | refine Ext.alloc' ?_ _ | (with_reducible refine Ext.trans ?_ (Ext.drewN _ _)) | refine Ext.trans ?_ (by assumption))); done))
  clear hP h5 e5 c4 hT h
  have hmf : ∀ (fn : Fn) (first cap : Array Value) (w : World), (Instr.makeFunc fn first cap).run Tryz.prog w = .ok (.func fn first cap) w := fun _ _ _ _ => rfl
  go_enter_defers Tryz.func44, Tryz.ntmps44
  go_wp2
  go_region
  rcases hop with hop | hop | hop
  · have t0 : (y.op == 1) = false := by rw [hop]; rfl
    have t1 : (y.op == 17) = false := by rw [hop]; rfl
    have t2 : (y.op == 18) = false := by rw [hop]; rfl
    have t3 : (y.op == 19) = false := by rw [hop]; rfl
    have t4 : (y.op == 20) = false := by rw [hop]; rfl
    have t5 : (y.op == 30) = false := by rw [hop]; rfl
    have t6 : (y.op == 3) = false := by rw [hop]; rfl
    have t7 : (y.op == 21) = false := by rw [hop]; rfl
    have t8 : (y.op == 22) = false := by rw [hop]; rfl
    have t9 : (y.op == 23) = true := by rw [hop]; rfl
    clear hop
    go_wp2_with (go_at_call 70; refine (hcall _ (hnx.out _).m (hnx.out _).fr).mono ?_; intro r w2 hD; rcases O with c2 | c2 | e2; (obtain ⟨rfl, sb2, cb2, hM2, hF2, hS2⟩ := hD; obtain ⟨b1, b2⟩ := nbox.out _ _ hF2; obtain ⟨ca2, cc2, d4, d5, f5, gp, gz, d53, d54, d55, d56⟩ := hM2.callsOf; obtain ⟨pa2, pc2, d0, hP2⟩ := hM2.progOf; have hN2 := (hnx.out _).join hF2 hS2 hM2); rotate_left; (obtain ⟨rfl, sb2, cb2, hM2, hF2, hS2⟩ := hD; obtain ⟨b1, b2⟩ := nbox.out _ _ hF2; obtain ⟨ca2, cc2, d4, d5, f5, gp, gz, d53, d54, d55, d56⟩ := hM2.callsOf; obtain ⟨pa2, pc2, d0, hP2⟩ := hM2.progOf; have hN2 := (hnx.out _).join hF2 hS2 hM2); rotate_left; (obtain ⟨rfl, c2, sb2, cb2, hM2, hF2, hS2⟩ := hD; obtain ⟨b1, b2⟩ := nbox.out _ _ hF2; have hN2 := (hnx.out _).join hF2 hS2 hM2); rotate_left)
    · go_quiet (fail)
      by_cases hend : c2.at_ = prog.length
      · have hend' : (c2.at_ == (prog.length : Int)) = true := by simpa using hend
        go_wp2
        refine leaves_cons (f := 68) (args := #[.pointer (some ⟨w.heap.size, 0, none⟩)]) (by simp) (by simp [go_sem]) ?_
        refine (catch_idle _ _).mono ?_
        rintro e u' w'' ⟨rfl, rfl, rfl⟩
        simp [Leaves, settle, results, Tryz.results44, go_sem]
        exact hN2.endGo hend nq
      · have hend' : (c2.at_ == (prog.length : Int)) = false := by simpa using hend
        go_wp2
        refine leaves_cons (f := 68) (args := #[.pointer (some ⟨w.heap.size, 0, none⟩)]) (by simp) (by simp [go_sem]) ?_
        refine (catch_idle _ _).mono ?_
        rintro e u' w'' ⟨rfl, rfl, rfl⟩
        simp [Leaves, settle, results, Tryz.results44, go_sem]
        exact hN2.stayGo hend nq
    · go_quiet (fail)
      by_cases hend : c2.at_ = prog.length
      · have hend' : (c2.at_ == (prog.length : Int)) = true := by simpa using hend
        go_wp2
        refine leaves_cons (f := 68) (args := #[.pointer (some ⟨w.heap.size, 0, none⟩)]) (by simp) (by simp [go_sem]) ?_
        refine (catch_idle _ _).mono ?_
        rintro e u' w'' ⟨rfl, rfl, rfl⟩
        simp [Leaves, settle, results, Tryz.results44, go_sem]
        exact hN2.endHalt nq
      · have hend' : (c2.at_ == (prog.length : Int)) = false := by simpa using hend
        go_wp2
        refine leaves_cons (f := 68) (args := #[.pointer (some ⟨w.heap.size, 0, none⟩)]) (by simp) (by simp [go_sem]) ?_
        refine (catch_idle _ _).mono ?_
        rintro e u' w'' ⟨rfl, rfl, rfl⟩
        simp [Leaves, settle, results, Tryz.results44, go_sem]
        exact hN2.stayHalt nq
    · refine leaves_cons (f := 68) (args := #[.pointer (some ⟨w.heap.size, 0, none⟩)]) (by simp) (by simp [go_sem]) ?_
      refine (catch_stop _ e2 _ hM2 b1).mono ?_
      rintro e u' w'' ⟨rfl, rfl, hD⟩
      simp [Leaves, settle, results, Tryz.results44, go_sem]
      exact ⟨c2, hN2.does hD⟩
  · have t0 : (y.op == 1) = false := by rw [hop]; rfl
    have t1 : (y.op == 17) = false := by rw [hop]; rfl
    have t2 : (y.op == 18) = false := by rw [hop]; rfl
    have t3 : (y.op == 19) = false := by rw [hop]; rfl
    have t4 : (y.op == 20) = false := by rw [hop]; rfl
    have t5 : (y.op == 30) = false := by rw [hop]; rfl
    have t6 : (y.op == 3) = false := by rw [hop]; rfl
    have t7 : (y.op == 21) = false := by rw [hop]; rfl
    have t8 : (y.op == 22) = false := by rw [hop]; rfl
    have t9 : (y.op == 23) = false := by rw [hop]; rfl
    have t10 : (y.op == 24) = true := by rw [hop]; rfl
    clear hop
    go_wp2_with (go_at_call 70; refine (hcall _ (hnx.out _).m (hnx.out _).fr).mono ?_; intro r w2 hD; rcases O with c2 | c2 | e2; (obtain ⟨rfl, sb2, cb2, hM2, hF2, hS2⟩ := hD; obtain ⟨b1, b2⟩ := nbox.out _ _ hF2; obtain ⟨ca2, cc2, d4, d5, f5, gp, gz, d53, d54, d55, d56⟩ := hM2.callsOf; obtain ⟨pa2, pc2, d0, hP2⟩ := hM2.progOf; have hN2 := (hnx.out _).join hF2 hS2 hM2); rotate_left; (obtain ⟨rfl, sb2, cb2, hM2, hF2, hS2⟩ := hD; obtain ⟨b1, b2⟩ := nbox.out _ _ hF2; obtain ⟨ca2, cc2, d4, d5, f5, gp, gz, d53, d54, d55, d56⟩ := hM2.callsOf; obtain ⟨pa2, pc2, d0, hP2⟩ := hM2.progOf; have hN2 := (hnx.out _).join hF2 hS2 hM2); rotate_left; (obtain ⟨rfl, c2, sb2, cb2, hM2, hF2, hS2⟩ := hD; obtain ⟨b1, b2⟩ := nbox.out _ _ hF2; have hN2 := (hnx.out _).join hF2 hS2 hM2); rotate_left)
    · go_quiet (fail)
      by_cases hend : c2.at_ = prog.length
      · have hend' : (c2.at_ == (prog.length : Int)) = true := by simpa using hend
        go_wp2
        refine leaves_cons (f := 68) (args := #[.pointer (some ⟨w.heap.size, 0, none⟩)]) (by simp) (by simp [go_sem]) ?_
        refine (catch_idle _ _).mono ?_
        rintro e u' w'' ⟨rfl, rfl, rfl⟩
        simp [Leaves, settle, results, Tryz.results44, go_sem]
        exact hN2.endGo hend nq
      · have hend' : (c2.at_ == (prog.length : Int)) = false := by simpa using hend
        go_wp2
        refine leaves_cons (f := 68) (args := #[.pointer (some ⟨w.heap.size, 0, none⟩)]) (by simp) (by simp [go_sem]) ?_
        refine (catch_idle _ _).mono ?_
        rintro e u' w'' ⟨rfl, rfl, rfl⟩
        simp [Leaves, settle, results, Tryz.results44, go_sem]
        exact hN2.stayGo hend nq
    · go_quiet (fail)
      by_cases hend : c2.at_ = prog.length
      · have hend' : (c2.at_ == (prog.length : Int)) = true := by simpa using hend
        go_wp2
        refine leaves_cons (f := 68) (args := #[.pointer (some ⟨w.heap.size, 0, none⟩)]) (by simp) (by simp [go_sem]) ?_
        refine (catch_idle _ _).mono ?_
        rintro e u' w'' ⟨rfl, rfl, rfl⟩
        simp [Leaves, settle, results, Tryz.results44, go_sem]
        exact hN2.endHalt nq
      · have hend' : (c2.at_ == (prog.length : Int)) = false := by simpa using hend
        go_wp2
        refine leaves_cons (f := 68) (args := #[.pointer (some ⟨w.heap.size, 0, none⟩)]) (by simp) (by simp [go_sem]) ?_
        refine (catch_idle _ _).mono ?_
        rintro e u' w'' ⟨rfl, rfl, rfl⟩
        simp [Leaves, settle, results, Tryz.results44, go_sem]
        exact hN2.stayHalt nq
    · refine leaves_cons (f := 68) (args := #[.pointer (some ⟨w.heap.size, 0, none⟩)]) (by simp) (by simp [go_sem]) ?_
      refine (catch_stop _ e2 _ hM2 b1).mono ?_
      rintro e u' w'' ⟨rfl, rfl, hD⟩
      simp [Leaves, settle, results, Tryz.results44, go_sem]
      exact ⟨c2, hN2.does hD⟩
  · have t0 : (y.op == 1) = false := by rw [hop]; rfl
    have t1 : (y.op == 17) = false := by rw [hop]; rfl
    have t2 : (y.op == 18) = false := by rw [hop]; rfl
    have t3 : (y.op == 19) = false := by rw [hop]; rfl
    have t4 : (y.op == 20) = false := by rw [hop]; rfl
    have t5 : (y.op == 30) = false := by rw [hop]; rfl
    have t6 : (y.op == 3) = false := by rw [hop]; rfl
    have t7 : (y.op == 21) = false := by rw [hop]; rfl
    have t8 : (y.op == 22) = false := by rw [hop]; rfl
    have t9 : (y.op == 23) = false := by rw [hop]; rfl
    have t10 : (y.op == 24) = false := by rw [hop]; rfl
    have t11 : (y.op == 25) = true := by rw [hop]; rfl
    clear hop
    go_wp2_with (go_at_call 70; refine (hcall _ (hnx.out _).m (hnx.out _).fr).mono ?_; intro r w2 hD; rcases O with c2 | c2 | e2; (obtain ⟨rfl, sb2, cb2, hM2, hF2, hS2⟩ := hD; obtain ⟨b1, b2⟩ := nbox.out _ _ hF2; obtain ⟨ca2, cc2, d4, d5, f5, gp, gz, d53, d54, d55, d56⟩ := hM2.callsOf; obtain ⟨pa2, pc2, d0, hP2⟩ := hM2.progOf; have hN2 := (hnx.out _).join hF2 hS2 hM2); rotate_left; (obtain ⟨rfl, sb2, cb2, hM2, hF2, hS2⟩ := hD; obtain ⟨b1, b2⟩ := nbox.out _ _ hF2; obtain ⟨ca2, cc2, d4, d5, f5, gp, gz, d53, d54, d55, d56⟩ := hM2.callsOf; obtain ⟨pa2, pc2, d0, hP2⟩ := hM2.progOf; have hN2 := (hnx.out _).join hF2 hS2 hM2); rotate_left; (obtain ⟨rfl, c2, sb2, cb2, hM2, hF2, hS2⟩ := hD; obtain ⟨b1, b2⟩ := nbox.out _ _ hF2; have hN2 := (hnx.out _).join hF2 hS2 hM2); rotate_left)
    · go_quiet (fail)
      by_cases hend : c2.at_ = prog.length
      · have hend' : (c2.at_ == (prog.length : Int)) = true := by simpa using hend
        go_wp2
        refine leaves_cons (f := 68) (args := #[.pointer (some ⟨w.heap.size, 0, none⟩)]) (by simp) (by simp [go_sem]) ?_
        refine (catch_idle _ _).mono ?_
        rintro e u' w'' ⟨rfl, rfl, rfl⟩
        simp [Leaves, settle, results, Tryz.results44, go_sem]
        exact hN2.endGo hend nq
      · have hend' : (c2.at_ == (prog.length : Int)) = false := by simpa using hend
        go_wp2
        refine leaves_cons (f := 68) (args := #[.pointer (some ⟨w.heap.size, 0, none⟩)]) (by simp) (by simp [go_sem]) ?_
        refine (catch_idle _ _).mono ?_
        rintro e u' w'' ⟨rfl, rfl, rfl⟩
        simp [Leaves, settle, results, Tryz.results44, go_sem]
        exact hN2.stayGo hend nq
    · go_quiet (fail)
      by_cases hend : c2.at_ = prog.length
      · have hend' : (c2.at_ == (prog.length : Int)) = true := by simpa using hend
        go_wp2
        refine leaves_cons (f := 68) (args := #[.pointer (some ⟨w.heap.size, 0, none⟩)]) (by simp) (by simp [go_sem]) ?_
        refine (catch_idle _ _).mono ?_
        rintro e u' w'' ⟨rfl, rfl, rfl⟩
        simp [Leaves, settle, results, Tryz.results44, go_sem]
        exact hN2.endHalt nq
      · have hend' : (c2.at_ == (prog.length : Int)) = false := by simpa using hend
        go_wp2
        refine leaves_cons (f := 68) (args := #[.pointer (some ⟨w.heap.size, 0, none⟩)]) (by simp) (by simp [go_sem]) ?_
        refine (catch_idle _ _).mono ?_
        rintro e u' w'' ⟨rfl, rfl, rfl⟩
        simp [Leaves, settle, results, Tryz.results44, go_sem]
        exact hN2.stayHalt nq
    · refine leaves_cons (f := 68) (args := #[.pointer (some ⟨w.heap.size, 0, none⟩)]) (by simp) (by simp [go_sem]) ?_
      refine (catch_stop _ e2 _ hM2 b1).mono ?_
      rintro e u' w'' ⟨rfl, rfl, hD⟩
      simp [Leaves, settle, results, Tryz.results44, go_sem]
      exact ⟨c2, hN2.does hD⟩
end
end Go.Proofs.YtndpgdegcbaigaaGreatDoor
