/- VmFuel: the law's row and its tied card, proved: for every input the law returns true, under the premise that the listed package-level variables read as listed (the card ties them to the program's text). -/
import Derived.Test.YtndpgdegcbaigaaGreatDoorCards
import Derived.Test.YtndpgdegcbaigaaGreatDoorTie
import Derived.Test.YtndpgdegcbaigaaGreatDoorQ34
namespace Go.Proofs.YtndpgdegcbaigaaGreatDoor
open Go.ChangeShapes Go.WideShapes Go.ChangeAt Go.WideMaps Go.WideElems Go.RowKit Go

set_option maxRecDepth 100000 in
theorem liftedFuel (os : Os) (started : os.Started) (H : Type) (enc : TypeId × Value → H) :
    ReturnsInHanded {} Tryz.checked os 4 .any (fun w args => (Rows.vmFuelSpec.pre enc Tryz.prog Tryz.f4 [] false w args ∧ laidMetH Tryz.prog laid8 w) ∧ sizedMet enc Tryz.prog Tryz.f4 (OpenSpec.ofChange Rows.vmFuelSpec) false w args)
      (Rows.vmFuelSpec.post enc Tryz.prog Tryz.f4 false true false false) := by
  refine returns_law rfl started (by kernel_rfl) Tryz.func4 (by kernel_rfl)
    (fun t ht => by
      rw [Tryz.params4] at ht
      have hm : t ∈ [22, 25] := by simpa using ht
      have hall : ([22, 25].all fun u => Tryz.prog.readableRec u && decide (u < Tryz.prog.types.size)) = true := by kernel_rfl
      have := List.all_eq_true.1 hall t hm
      simpa using this)
    (ChangeSpec.witness_shaped (enc := enc) (C := Tryz.checked) (os := os) (X := fun w _ => laidMetH Tryz.prog laid8 w) false (World.laidAll Tryz.prog os laid8) #[.slice none 0 0, .agg #[.slice none 0 0]] 8 (World.laidAll_os _ _ _)
      (wit_shape os _) (by kernel_rfl) (by kernel_rfl) (by kernel_rfl) (wit_met os _)) ?_
  intro W base args ds before hval0 hA0 hw0 hg
  have hval : ∀ (j : Nat) t v, Tryz.f4.params[j]? = some t → args[j]? = some v → Value.okWide Tryz.prog W .any base t v := hval0
  have hA : DataW.TrodAll enc Tryz.prog W 0 (fun _ => true) true Tryz.f4.params.toList args.toList ds before := hA0
  have hw : (DataW.weightsEach Tryz.prog Tryz.f4.params.toList ds).all (· ≤ reachBytes) = true := hw0
  clear hw0
  rw [Tryz.params4] at hA hval hw
  clear hval0 hA0
  obtain ⟨v0, v1, d0, d1, p0, p1, rfl, rfl, rfl, h0, h1⟩ := trodAll_two hA
  obtain ⟨a, n, c, xs, rfl, hP, hin⟩ := open_prog (hval 0 22 v0 rfl rfl) h0 (weights_of hw (j := 0) rfl rfl)
  obtain ⟨b, n2, c2, ys, rfl, hV, hfs⟩ := open_view (hval 1 25 v1 rfl rfl) h1 (weights_of hw (j := 1) rfl rfl)
  exact ⟨rfl, VmFuel_calls W hg a b n c n2 c2 xs ys hP hV hin hfs⟩

theorem vmFuel_holds : Rows.VmFuelSaid :=
  OpenClaim.holds_of_wide 4 Tryz.f4 rfl rfl rfl rfl rfl rfl rfl ⟨rfl, rfl, rfl, rfl, rfl⟩ rfl rfl rfl rfl rfl (by kernel_rfl) Tryz.func4 (by kernel_rfl)
    (of_decide_eq_true (by kernel_rfl)) (by unfold Func.isWrapper; first | (rw [if_pos (by decide +kernel)]; kernel_rfl) | (rw [if_neg (by decide +kernel)]; exact ⟨rfl, rfl⟩))
    (fun os started H enc _ => liftedFuel os started H enc)

/-- The tied card. -/
theorem vmFuel_card : Rows.VmFuelCardSaid :=
  Claim7.holds_tied_plain_at .later [] [.data, .data, .data, .data, .sentinel, .sentinel, .widerDeep, .pinned] true (true, "6ecd81e739ecb7dc2fbf0f71aa40497074ccc5877776f4a3194d88f5690ba3e3") true
    vmFuel_holds (fun _ h => by cases h) (by kernel_rfl) (fun _ h => by cases h) vmFuel_row_tie rfl ⟨rfl, rfl⟩ (by kernel_rfl) rfl
    (fun f fn hf hfn => by
      obtain rfl : f = 4 := Option.some.inj ((show Tryz.prog.funcNamed "sapling/saplinglaw10.VmFuel" = some 4 by kernel_rfl).symm.trans hf) |>.symm
      obtain rfl : fn = Tryz.f4 := (Option.some.inj (Tryz.func4.symm.trans hfn)).symm
      exact ⟨by kernel_rfl, fun j t ht => by
        rw [Tryz.params4] at ht
        have hm : t ∈ [22, 25] := by simpa using Array.mem_of_getElem? ht
        have hall : ([22, 25].all fun u => !Tryz.prog.wantsStandIn u) = true := by kernel_rfl
        exact (show Tryz.prog.wantsStandIn t = false by simpa using List.all_eq_true.1 hall t hm)⟩)
    (by kernel_rfl)
#print axioms vmFuel_card
end Go.Proofs.YtndpgdegcbaigaaGreatDoor
