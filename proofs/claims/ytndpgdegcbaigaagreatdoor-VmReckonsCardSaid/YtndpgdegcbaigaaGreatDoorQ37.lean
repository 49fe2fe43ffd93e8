/- VmReckons: the law's row and its tied card, proved: for every input the law returns true, under the premise that the listed package-level variables read as listed (the card ties them to the program's text). -/
import Derived.Test.YtndpgdegcbaigaaGreatDoorCards
import Derived.Test.YtndpgdegcbaigaaGreatDoorTie
import Derived.Test.YtndpgdegcbaigaaGreatDoorQ28
import Derived.Test.YtndpgdegcbaigaaGreatDoorQ36
namespace Go.Proofs.YtndpgdegcbaigaaGreatDoor
open Go.ChangeShapes Go.WideShapes Go.ChangeAt Go.WideMaps Go.WideElems Go.RowKit Go

set_option maxRecDepth 100000 in
theorem liftedReckons (os : Os) (started : os.Started) (H : Type) (enc : TypeId × Value → H) :
    ReturnsInHanded {} Tryz.checked os 8 .any (fun w args => (Rows.vmReckonsSpec.pre enc Tryz.prog Tryz.f8 [] false w args ∧ laidMetH Tryz.prog laid8 w) ∧ sizedMet enc Tryz.prog Tryz.f8 (OpenSpec.ofChange Rows.vmReckonsSpec) false w args)
      (Rows.vmReckonsSpec.post enc Tryz.prog Tryz.f8 false true false false) := by
  refine returns_law rfl started (by kernel_rfl) Tryz.func8 (by kernel_rfl)
    (fun t ht => by
      rw [Tryz.params8] at ht
      have hm : t ∈ [3, 3, 3] := by simpa using ht
      have hall : ([3, 3, 3].all fun u => Tryz.prog.readableRec u && decide (u < Tryz.prog.types.size)) = true := by kernel_rfl
      have := List.all_eq_true.1 hall t hm
      simpa using this)
    (ChangeSpec.witness_shaped (enc := enc) (C := Tryz.checked) (os := os) (X := fun w _ => laidMetH Tryz.prog laid8 w) false (World.laidAll Tryz.prog os laid8) #[.int .i64 0, .int .i64 0, .int .i64 0] 8 (World.laidAll_os _ _ _)
      (wit_shape os _) (by kernel_rfl) (by kernel_rfl) (by kernel_rfl) (wit_met os _)) ?_
  intro W base args ds before hval0 hA0 _ hg
  have hval : ∀ (j : Nat) t v, Tryz.f8.params[j]? = some t → args[j]? = some v → Value.okWide Tryz.prog W .any base t v := hval0
  have hA : DataW.TrodAll enc Tryz.prog W 0 (fun _ => true) true Tryz.f8.params.toList args.toList ds before := hA0
  rw [Tryz.params8] at hA hval
  clear hval0 hA0
  obtain ⟨v0, v1, v2, d0, d1, d2, p0, p1, p2, rfl, rfl, rfl, h0, h1, h2⟩ := trodAll_three hA
  obtain ⟨n0, rfl, rfl, _, wn0⟩ := open_int Tryz.underlying3 (hval 0 3 v0 rfl rfl) h0
  obtain ⟨n1, rfl, rfl, _, wn1⟩ := open_int Tryz.underlying3 (hval 1 3 v1 rfl rfl) h1
  obtain ⟨n2, rfl, rfl, _, wn2⟩ := open_int Tryz.underlying3 (hval 2 3 v2 rfl rfl) h2
  exact ⟨rfl, VmReckons_calls W hg n0 n1 n2 (in_of_wf wn1) (in_of_wf wn2)⟩

theorem vmReckons_holds : Rows.VmReckonsSaid :=
  OpenClaim.holds_of_wide 8 Tryz.f8 rfl rfl rfl rfl rfl rfl rfl ⟨rfl, rfl, rfl, rfl, rfl⟩ rfl rfl rfl rfl rfl (by kernel_rfl) Tryz.func8 (by kernel_rfl)
    (of_decide_eq_true (by kernel_rfl)) (by unfold Func.isWrapper; first | (rw [if_pos (by decide +kernel)]; kernel_rfl) | (rw [if_neg (by decide +kernel)]; exact ⟨rfl, rfl⟩))
    (fun os started H enc _ => liftedReckons os started H enc)

/-- The tied card. -/
theorem vmReckons_card : Rows.VmReckonsCardSaid :=
  Claim7.holds_tied_plain_at .later [] [.data, .data, .data, .data, .sentinel, .sentinel, .widerDeep, .pinned] true (true, "6ecd81e739ecb7dc2fbf0f71aa40497074ccc5877776f4a3194d88f5690ba3e3") true
    vmReckons_holds (fun _ h => by cases h) (by kernel_rfl) (fun _ h => by cases h) vmReckons_row_tie rfl ⟨rfl, rfl⟩ (by kernel_rfl) rfl
    (fun f fn hf hfn => by
      obtain rfl : f = 8 := Option.some.inj ((show Tryz.prog.funcNamed "sapling/saplinglaw10.VmReckons" = some 8 by kernel_rfl).symm.trans hf) |>.symm
      obtain rfl : fn = Tryz.f8 := (Option.some.inj (Tryz.func8.symm.trans hfn)).symm
      exact ⟨by kernel_rfl, fun j t ht => by
        rw [Tryz.params8] at ht
        have hm : t ∈ [3, 3, 3] := by simpa using Array.mem_of_getElem? ht
        have hall : ([3, 3, 3].all fun u => !Tryz.prog.wantsStandIn u) = true := by kernel_rfl
        exact (show Tryz.prog.wantsStandIn t = false by simpa using List.all_eq_true.1 hall t hm)⟩)
    (by kernel_rfl)
#print axioms vmReckons_card
end Go.Proofs.YtndpgdegcbaigaaGreatDoor
