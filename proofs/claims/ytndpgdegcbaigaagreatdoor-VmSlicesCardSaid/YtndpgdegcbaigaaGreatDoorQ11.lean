/- Package vm: the closure that a step defers: idle, and behind a panic. · Package vm: step. -/
import Derived.Test.YtndpgdegcbaigaaGreatDoorQ07
import Derived.Defers
import Derived.Recover
import Derived.Laws.Pointers
import Derived.Test.YtndpgdegcbaigaaGreatDoorQ08
namespace Go.Proofs.YtndpgdegcbaigaaGreatDoor
open Go Go.RowKit

section
variable {p : Nat} {prog : List Ins} {view : List File} {c : Cfg} {steps : Int} {done : Bool} {fault : Int} {sb cb : Option Nat} {w : World}

omit p prog view c steps done fault sb cb w in
theorem tmps_lit (a v : Value) : #[a] ++ (Array.replicate 17 undef).setIfInBounds 3 v = #[a, undef, undef, undef, v, undef, undef, undef, undef, undef, undef, undef, undef, undef, undef, undef, undef, undef] := by
  apply Array.ext'
  simp [List.replicate_succ]

omit p prog view c steps done fault sb cb w in
theorem as_stop (v : Value) (w : World) : (Instr.typeAssert (.iface 96 v) 20 96 true).run Tryz.prog w = .ok (.tuple #[v, .bool true]) w := by kernel_rfl

theorem catch_idle (B : Nat) (w : World) :
    CallsD Tryz.prog 68 #[.pointer (some ⟨B, 0, none⟩)] .returning w fun e u' w' => e = .returned (.tuple #[]) ∧ u' = .returning ∧ w' = w := by
  refine callsD_of_wpS Tryz.func68 rfl fun c₀ cs hu => ?_
  apply wpS_seq
  apply wpS_region
  simp [wpOpsS, go_sem, recoverD, hu, Tryz.ntmps68, Exit.thenS]
  refine wpS_of_wp ?_
  rw [tmps_lit]
  go_wp2
  cases c₀
  simp_all [bodyPostS, results, Tryz.results68]

set_option maxRecDepth 20000 in
set_option maxHeartbeats 1000000 in
theorem catch_stop (B : Nat) (e : Int) (older : List PanicEntry) (h : Mach w p prog view c steps done fault sb cb) (hB : w.cell? ⟨B, 0, none⟩ = some (.pointer (some ⟨p, 0, none⟩))) :
    CallsD Tryz.prog 68 #[.pointer (some ⟨B, 0, none⟩)] (.panicking ({ v := .iface 96 (.agg #[.int .i64 e]), recovered := false } :: older)) w fun r u' w' =>
      r = .returned (.tuple #[]) ∧ u' = .panicking ({ v := .iface 96 (.agg #[.int .i64 e]), recovered := true } :: older) ∧ Does w p prog view c steps true e sb cb w' := by
  obtain ⟨ca, cc, c4, h5, e5, hp, hz, c53, c54, c55, c56⟩ := h.callsOf
  refine callsD_of_wpS Tryz.func68 rfl fun c₀ cs hu => ?_
  apply wpS_seq
  apply wpS_region
  simp [wpOpsS, go_sem, recoverD, hu, Tryz.ntmps68, Exit.thenS]
  refine wpS_of_wp ?_
  rw [tmps_lit]
  have hBl : B < w.heap.size := World.block_lt_of_cell? w ⟨B, 0, none⟩ hB
  have has := as_stop (.agg #[.int .i64 e]) w
  go_wp2
  go_region
  go_wp2
  obtain ⟨hM, hF, hS⟩ := h.celledM (cells' := c.cells) (at' := c.at_) (steps' := steps) (done' := true) (fault' := e) (W := (w.setCell ⟨p, 55, none⟩ (.bool true)).setCell ⟨p, 56, none⟩ (.int .i64 e))
    ((Fr.setCell (fun k => k = p) w _ _ rfl).trans (Fr.setCell (fun k => k = p) _ _ _ rfl) (fun _ _ h => h)) fun _ _ _ _ _ hm => (hm.setDone true).setFault e
  have hDoes : Does w p prog view c steps true e sb cb ((w.setCell ⟨p, 55, none⟩ (.bool true)).setCell ⟨p, 56, none⟩ (.int .i64 e)) := ⟨sb, cb, hM, hF, hS⟩
  have hD := hDoes.ext (show Ext _ ((((w.setCell ⟨p, 55, none⟩ (.bool true)).setCell ⟨p, 56, none⟩ (.int .i64 e)).alloc (.cells #[.int .i64 e] 96)).drew) by ((repeat (first | exact Ext.refl _ | assumption | refine Ext.drew' ?_ | refine Ext.alloc' ?_ _ | (with_reducible refine Ext.trans ?_ (Ext.drewN _ _)) | refine Ext.trans ?_ (by assumption))); done))
  simp [bodyPostS, results, Tryz.results68]
  exact hD
end
end Go.Proofs.YtndpgdegcbaigaaGreatDoor

namespace Go.Proofs.YtndpgdegcbaigaaGreatDoor
open Go Go.RowKit

section
variable {p : Nat} {prog : List Ins} {view : List File} {c : Cfg} {steps : Int} {done : Bool} {fault : Int} {sb cb : Option Nat} {w : World}

/-- What one step does to a machine that is under way. -/
def Stepped (w : World) (p : Nat) (prog : List Ins) (view : List File) (steps : Int) (sb cb : Option Nat) (o : Out) (w' : World) : Prop :=
  match o with
  | .go c => Does w p prog view c steps (decide (c.at_ = prog.length)) 0 sb cb w'
  | .halt c => Does w p prog view c steps true 0 sb cb w'
  | .stop e => ∃ c, Does w p prog view c steps true e sb cb w'

/-- What a walk wants to know of a machine's program. -/
theorem Mach.progOf (h : Mach w p prog view c steps done fault sb cb) : ∃ (pa : Option Addr) (pc : Nat),
    w.cell? ⟨p, 0, none⟩ = some (.slice pa prog.length pc) ∧ Arr TIns w pa prog.length pc prog := by
  obtain ⟨⟨pa, va, oa, sa, ca, pc, vc, oc, sc, cc, hm, h1, h2, h3, h4, h5, e4, e5, n1, n2, n3⟩, sp, cp, scd⟩ := h
  exact ⟨pa, pc, hm.c0, h1⟩

theorem Mach.ticked (h : Mach w p prog view c steps done fault sb cb) (k s : Int) : Next w p prog view { c with at_ := k } s done fault sb cb sb cb ((w.setCell ⟨p, 53, none⟩ (.int .i64 k)).setCell ⟨p, 54, none⟩ (.int .i64 s)) := by
  obtain ⟨hM, hF, hS⟩ := h.celledM (cells' := c.cells) (at' := k) (steps' := s) (done' := done) (fault' := fault) (W := (w.setCell ⟨p, 53, none⟩ (.int .i64 k)).setCell ⟨p, 54, none⟩ (.int .i64 s))
    ((Fr.setCell (fun k => k = p) w _ _ rfl).trans (Fr.setCell (fun k => k = p) _ _ _ rfl) (fun _ _ h => h)) fun _ _ _ _ _ hm => (hm.setAt k).setSteps s
  exact ⟨hM, hF, hS⟩
theorem Next.ext {sb' cb' : Option Nat} {w1 w2 : World} {c1 : Cfg} {s1 : Int} {d1 : Bool} {f1 : Int} (h : Next w p prog view c1 s1 d1 f1 sb cb sb' cb' w1) (e : Ext w1 w2) : Next w p prog view c1 s1 d1 f1 sb cb sb' cb' w2 :=
  ⟨h.m.keep e, h.fr.ext e, h.sub⟩

theorem box_kept (h : Mach w p prog view c steps done fault sb cb) (v1 v2 : Value) : ∀ O2 w2, Fr (Foot p sb cb) (((((w.setCell ⟨p, 53, none⟩ v1).setCell ⟨p, 54, none⟩ v2).alloc (.cells #[.pointer (some ⟨p, 0, none⟩)] 43)).alloc O2).drew) w2 →
    w2.cell? ⟨w.heap.size, 0, none⟩ = some (.pointer (some ⟨p, 0, none⟩)) ∧ w.heap.size < w2.heap.size := by
  intro O2 w2 hF
  have hs : ((w.setCell ⟨p, 53, none⟩ v1).setCell ⟨p, 54, none⟩ v2).heap.size = w.heap.size := by simp
  have h1 : (((w.setCell ⟨p, 53, none⟩ v1).setCell ⟨p, 54, none⟩ v2).alloc (.cells #[.pointer (some ⟨p, 0, none⟩)] 43)).heap[w.heap.size]? = some (.cells #[.pointer (some ⟨p, 0, none⟩)] 43) := new_block _ _ _ hs.symm
  have hlt := (Array.getElem?_eq_some_iff.1 h1).1
  have h2 := ((Ext.alloc (((w.setCell ⟨p, 53, none⟩ v1).setCell ⟨p, 54, none⟩ v2).alloc (.cells #[.pointer (some ⟨p, 0, none⟩)] 43)) O2).drew').block _ hlt
  have hlt2 := Nat.lt_of_lt_of_le hlt ((Ext.alloc (((w.setCell ⟨p, 53, none⟩ v1).setCell ⟨p, 54, none⟩ v2).alloc (.cells #[.pointer (some ⟨p, 0, none⟩)] 43)) O2).drew').size
  have h3 := hF.block _ hlt2 (fun hf => by
    rcases hf with hf | hf | hf
    · have := h.low; omega
    · have := h.sb_lt hf; omega
    · have := h.cb_lt hf; omega)
  refine ⟨?_, Nat.lt_of_lt_of_le hlt2 hF.size⟩
  rw [cell_of_row _ w.heap.size 0 _ 43 (0, 0) ((h3.trans h2).trans h1)]; rfl

/-- Two steps of a walk as one. -/
theorem Next.join {W w2 : World} {sb2 cb2 : Option Nat} {c1 c2 : Cfg} {s1 : Int} {d1 d2 : Bool} {f1 f2 : Int} {s2 : Int} (h : Next w p prog view c1 s1 d1 f1 sb cb sb cb W) (hF : Fr (Foot p sb cb) W w2) (hS : ∀ k, k < W.heap.size → Foot p sb2 cb2 k → Foot p sb cb k)
    (hM : Mach w2 p prog view c2 s2 d2 f2 sb2 cb2) : Next w p prog view c2 s2 d2 f2 sb cb sb2 cb2 w2 :=
  ⟨hM, h.fr.trans hF (fun _ _ h => h), fun k hk hf => hS k (Nat.lt_of_lt_of_le hk h.fr.size) hf⟩

section
variable {w2 : World} {sb2 cb2 : Option Nat} {c2 : Cfg} {s2 : Int}
theorem Next.endGo (h : Next w p prog view c2 s2 false 0 sb cb sb2 cb2 w2) (he : c2.at_ = prog.length) (n : Nat) : Stepped w p prog view s2 sb cb (.go c2) ((w2.drewN n).setCell ⟨p, 55, none⟩ (.bool true)) := by
  show Does w p prog view c2 s2 (decide (c2.at_ = (prog.length : Int))) 0 sb cb _
  rw [decide_eq_true he]
  exact h.does (((h.m.keep (Ext.drewN w2 n)).ended true).after (Ext.drewN _ _))
theorem Next.stayGo (h : Next w p prog view c2 s2 false 0 sb cb sb2 cb2 w2) (he : ¬ c2.at_ = prog.length) (n : Nat) : Stepped w p prog view s2 sb cb (.go c2) (w2.drewN n) := by
  show Does w p prog view c2 s2 (decide (c2.at_ = (prog.length : Int))) 0 sb cb _
  rw [decide_eq_false he]
  exact h.does (Does.same h.m (Ext.drewN _ _))
theorem Next.endHalt (h : Next w p prog view c2 s2 true 0 sb cb sb2 cb2 w2) (n : Nat) : Stepped w p prog view s2 sb cb (.halt c2) ((w2.drewN n).setCell ⟨p, 55, none⟩ (.bool true)) :=
  h.does (((h.m.keep (Ext.drewN w2 n)).ended true).after (Ext.drewN _ _))
theorem Next.stayHalt (h : Next w p prog view c2 s2 true 0 sb cb sb2 cb2 w2) (n : Nat) : Stepped w p prog view s2 sb cb (.halt c2) (w2.drewN n) :=
  h.does (Does.same h.m (Ext.drewN _ _))
end
end
end Go.Proofs.YtndpgdegcbaigaaGreatDoor
