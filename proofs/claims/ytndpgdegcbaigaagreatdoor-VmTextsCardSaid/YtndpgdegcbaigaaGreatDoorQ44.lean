/- VmTexts: the law's row and its tied card, proved: for every input the law returns true, under the premise that the listed package-level variables read as listed (the card ties them to the program's text). -/
import Derived.Test.YtndpgdegcbaigaaGreatDoorCards
import Derived.Test.YtndpgdegcbaigaaGreatDoorTie
import Derived.Test.YtndpgdegcbaigaaGreatDoorQ38
import Derived.Test.YtndpgdegcbaigaaGreatDoorQ43
import Derived.ChangeMaps5
namespace Go.Proofs.YtndpgdegcbaigaaGreatDoor
open Go.ChangeShapes Go.WideShapes Go.ChangeAt Go.WideMaps Go.WideElems Go.RowKit Go

set_option maxRecDepth 100000 in
theorem liftedTexts (os : Os) (started : os.Started) (H : Type) (enc : TypeId × Value → H) :
    ReturnsInHanded {} Tryz.checked os 9 .any (fun w args => (Rows.vmTextsSpec.pre enc Tryz.prog Tryz.f9 [] false w args ∧ laidMetH Tryz.prog laid8 w) ∧ sizedMet enc Tryz.prog Tryz.f9 (OpenSpec.ofChange Rows.vmTextsSpec) false w args)
      (Rows.vmTextsSpec.post enc Tryz.prog Tryz.f9 false true false false) := by
  refine returns_law rfl started (by kernel_rfl) Tryz.func9 (by kernel_rfl)
    (fun t ht => by
      rw [Tryz.params9] at ht
      have hm : t ∈ [9, 9, 54] := by simpa using ht
      have hall : ([9, 9, 54].all fun u => Tryz.prog.readableRec u && decide (u < Tryz.prog.types.size)) = true := by kernel_rfl
      have := List.all_eq_true.1 hall t hm
      simpa using this)
    (ChangeSpec.witness_shaped (enc := enc) (C := Tryz.checked) (os := os) (X := fun w _ => laidMetH Tryz.prog laid8 w) false (World.laidAll Tryz.prog os laid8) #[.string ⟨#[]⟩, .string ⟨#[]⟩, .agg #[.int .i64 0, .int .i64 0]] 8 (World.laidAll_os _ _ _)
      (wit_shape os _) (by kernel_rfl) (by kernel_rfl) (by kernel_rfl) (wit_met os _)) ?_
  intro W base args ds before hval0 hA0 hw0 hg
  have hval : ∀ (j : Nat) t v, Tryz.f9.params[j]? = some t → args[j]? = some v → Value.okWide Tryz.prog W .any base t v := hval0
  have hA : DataW.TrodAll enc Tryz.prog W 0 (fun _ => true) true Tryz.f9.params.toList args.toList ds before := hA0
  have hw : (DataW.weightsEach Tryz.prog Tryz.f9.params.toList ds).all (· ≤ reachBytes) = true := hw0
  clear hw0
  rw [Tryz.params9] at hA hval hw
  clear hval0 hA0
  obtain ⟨v0, v1, v2, d0, d1, d2, p0, p1, p2, rfl, rfl, rfl, h0, h1, h2⟩ := trodAll_three hA
  obtain ⟨s0, rfl, rfl, _, _⟩ := Go.ChangeMaps.open_string Tryz.underlying9 (hval 0 9 v0 rfl rfl) h0
  obtain ⟨s1, rfl, rfl, _, _⟩ := Go.ChangeMaps.open_string Tryz.underlying9 (hval 1 9 v1 rfl rfl) h1
  obtain ⟨x, y, rfl, hx, hy⟩ := open_cut (hval 2 54 v2 rfl rfl) h2
  exact ⟨rfl, VmTexts_calls W hg s0 s1 x y hx hy (size_str (weights_of hw (j := 0) rfl rfl)) (size_str (weights_of hw (j := 1) rfl rfl))⟩

theorem vmTexts_holds : Rows.VmTextsSaid :=
  OpenClaim.holds_of_wide 9 Tryz.f9 rfl rfl rfl rfl rfl rfl rfl ⟨rfl, rfl, rfl, rfl, rfl⟩ rfl rfl rfl rfl rfl (by kernel_rfl) Tryz.func9 (by kernel_rfl)
    (of_decide_eq_true (by kernel_rfl)) (by unfold Func.isWrapper; first | (rw [if_pos (by decide +kernel)]; kernel_rfl) | (rw [if_neg (by decide +kernel)]; exact ⟨rfl, rfl⟩))
    (fun os started H enc _ => liftedTexts os started H enc)

/-- The tied card. -/
theorem vmTexts_card : Rows.VmTextsCardSaid :=
  Claim7.holds_tied_plain_at .later [] [.data, .data, .data, .data, .sentinel, .sentinel, .widerDeep, .pinned] true (true, "6ecd81e739ecb7dc2fbf0f71aa40497074ccc5877776f4a3194d88f5690ba3e3") true
    vmTexts_holds (fun _ h => by cases h) (by kernel_rfl) (fun _ h => by cases h) vmTexts_row_tie rfl ⟨rfl, rfl⟩ (by kernel_rfl) rfl
    (fun f fn hf hfn => by
      obtain rfl : f = 9 := Option.some.inj ((show Tryz.prog.funcNamed "sapling/saplinglaw10.VmTexts" = some 9 by kernel_rfl).symm.trans hf) |>.symm
      obtain rfl : fn = Tryz.f9 := (Option.some.inj (Tryz.func9.symm.trans hfn)).symm
      exact ⟨by kernel_rfl, fun j t ht => by
        rw [Tryz.params9] at ht
        have hm : t ∈ [9, 9, 54] := by simpa using Array.mem_of_getElem? ht
        have hall : ([9, 9, 54].all fun u => !Tryz.prog.wantsStandIn u) = true := by kernel_rfl
        exact (show Tryz.prog.wantsStandIn t = false by simpa using List.all_eq_true.1 hall t hm)⟩)
    (by kernel_rfl)
#print axioms vmTexts_card
end Go.Proofs.YtndpgdegcbaigaaGreatDoor
