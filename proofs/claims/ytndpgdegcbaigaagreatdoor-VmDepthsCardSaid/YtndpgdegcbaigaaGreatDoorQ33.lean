/- VmDepths: the law's row and its tied card, proved: for every input the law returns true, under the premise that the listed package-level variables read as listed (the card ties them to the program's text). -/
import Derived.Test.YtndpgdegcbaigaaGreatDoorCards
import Derived.Test.YtndpgdegcbaigaaGreatDoorTie
import Derived.Test.YtndpgdegcbaigaaGreatDoorQ28
import Derived.Test.YtndpgdegcbaigaaGreatDoorQ32
namespace Go.Proofs.YtndpgdegcbaigaaGreatDoor
open Go.ChangeShapes Go.WideShapes Go.ChangeAt Go.WideMaps Go.WideElems Go.RowKit Go

set_option maxRecDepth 100000 in
theorem liftedDepths (os : Os) (started : os.Started) (H : Type) (enc : TypeId × Value → H) :
    ReturnsInHanded {} Tryz.checked os 11 .any (fun w args => (Rows.vmDepthsSpec.pre enc Tryz.prog Tryz.f11 [] false w args ∧ laidMetH Tryz.prog laid8 w) ∧ sizedMet enc Tryz.prog Tryz.f11 (OpenSpec.ofChange Rows.vmDepthsSpec) false w args)
      (Rows.vmDepthsSpec.post enc Tryz.prog Tryz.f11 false true false false) := by
  refine returns_law rfl started (by kernel_rfl) Tryz.func11 (by kernel_rfl)
    (fun t ht => by
      rw [Tryz.params11] at ht
      have hm : t ∈ [3] := by simpa using ht
      have hall : ([3].all fun u => Tryz.prog.readableRec u && decide (u < Tryz.prog.types.size)) = true := by kernel_rfl
      have := List.all_eq_true.1 hall t hm
      simpa using this)
    (ChangeSpec.witness_shaped (enc := enc) (C := Tryz.checked) (os := os) (X := fun w _ => laidMetH Tryz.prog laid8 w) false (World.laidAll Tryz.prog os laid8) #[.int .i64 0] 8 (World.laidAll_os _ _ _)
      (wit_shape os _) (by kernel_rfl) (by kernel_rfl) (by kernel_rfl) (wit_met os _)) ?_
  intro W base args ds before hval0 hA0 _ hg
  have hval : ∀ (j : Nat) t v, Tryz.f11.params[j]? = some t → args[j]? = some v → Value.okWide Tryz.prog W .any base t v := hval0
  have hA : DataW.TrodAll enc Tryz.prog W 0 (fun _ => true) true Tryz.f11.params.toList args.toList ds before := hA0
  rw [Tryz.params11] at hA hval
  clear hval0 hA0
  obtain ⟨v0, d0, rfl, rfl, h0⟩ := trodAll_one hA
  obtain ⟨n, rfl, rfl, _, wn⟩ := open_int Tryz.underlying3 (hval 0 3 v0 rfl rfl) h0
  exact ⟨rfl, VmDepths_calls n (in_of_wf wn) W hg⟩

theorem vmDepths_holds : Rows.VmDepthsSaid :=
  OpenClaim.holds_of_wide 11 Tryz.f11 rfl rfl rfl rfl rfl rfl rfl ⟨rfl, rfl, rfl, rfl, rfl⟩ rfl rfl rfl rfl rfl (by kernel_rfl) Tryz.func11 (by kernel_rfl)
    (of_decide_eq_true (by kernel_rfl)) (by unfold Func.isWrapper; first | (rw [if_pos (by decide +kernel)]; kernel_rfl) | (rw [if_neg (by decide +kernel)]; exact ⟨rfl, rfl⟩))
    (fun os started H enc _ => liftedDepths os started H enc)

/-- The tied card. -/
theorem vmDepths_card : Rows.VmDepthsCardSaid :=
  Claim7.holds_tied_plain_at .later [] [.data, .data, .data, .data, .sentinel, .sentinel, .widerDeep, .pinned] true (true, "6ecd81e739ecb7dc2fbf0f71aa40497074ccc5877776f4a3194d88f5690ba3e3") true
    vmDepths_holds (fun _ h => by cases h) (by kernel_rfl) (fun _ h => by cases h) vmDepths_row_tie rfl ⟨rfl, rfl⟩ (by kernel_rfl) rfl
    (fun f fn hf hfn => by
      obtain rfl : f = 11 := Option.some.inj ((show Tryz.prog.funcNamed "sapling/saplinglaw10.VmDepths" = some 11 by kernel_rfl).symm.trans hf) |>.symm
      obtain rfl : fn = Tryz.f11 := (Option.some.inj (Tryz.func11.symm.trans hfn)).symm
      exact ⟨by kernel_rfl, fun j t ht => by
        rw [Tryz.params11] at ht
        have hm : t ∈ [3] := by simpa using Array.mem_of_getElem? ht
        have hall : ([3].all fun u => !Tryz.prog.wantsStandIn u) = true := by kernel_rfl
        exact (show Tryz.prog.wantsStandIn t = false by simpa using List.all_eq_true.1 hall t hm)⟩)
    (by kernel_rfl)
#print axioms vmDepths_card
end Go.Proofs.YtndpgdegcbaigaaGreatDoor
