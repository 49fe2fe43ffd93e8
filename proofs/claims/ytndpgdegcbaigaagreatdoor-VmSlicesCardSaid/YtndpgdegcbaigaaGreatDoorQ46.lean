/- VmSlices: the law's row and its tied card, proved: for every input the law returns true, under the premise that the listed package-level variables read as listed (the card ties them to the program's text). -/
import Derived.Test.YtndpgdegcbaigaaGreatDoorCards
import Derived.Test.YtndpgdegcbaigaaGreatDoorTie
import Derived.Test.YtndpgdegcbaigaaGreatDoorQ45
namespace Go.Proofs.YtndpgdegcbaigaaGreatDoor
open Go.ChangeShapes Go.WideShapes Go.ChangeAt Go.WideMaps Go.WideElems Go.RowKit Go

set_option maxRecDepth 100000 in
theorem liftedSlices (os : Os) (started : os.Started) (H : Type) (enc : TypeId × Value → H) :
    ReturnsInHanded {} Tryz.checked os 12 .any (fun w args => (Rows.vmSlicesSpec.pre enc Tryz.prog Tryz.f12 [] false w args ∧ laidMetH Tryz.prog laid8 w) ∧ sizedMet enc Tryz.prog Tryz.f12 (OpenSpec.ofChange Rows.vmSlicesSpec) false w args)
      (Rows.vmSlicesSpec.post enc Tryz.prog Tryz.f12 false true false false) := by
  refine returns_law rfl started (by kernel_rfl) Tryz.func12 (by kernel_rfl)
    (fun t ht => by
      rw [Tryz.params12] at ht
      have hm : t ∈ [22, 25, 57] := by simpa using ht
      have hall : ([22, 25, 57].all fun u => Tryz.prog.readableRec u && decide (u < Tryz.prog.types.size)) = true := by kernel_rfl
      have := List.all_eq_true.1 hall t hm
      simpa using this)
    (ChangeSpec.witness_shaped (enc := enc) (C := Tryz.checked) (os := os) (X := fun w _ => laidMetH Tryz.prog laid8 w) false (World.laidAll Tryz.prog os laid8) #[.slice none 0 0, .agg #[.slice none 0 0], .slice none 0 0] 8 (World.laidAll_os _ _ _)
      (wit_shape os _) (by kernel_rfl) (by kernel_rfl) (by kernel_rfl) (wit_met os _)) ?_
  intro W base args ds before hval0 hA0 hw0 hg
  have hval : ∀ (j : Nat) t v, Tryz.f12.params[j]? = some t → args[j]? = some v → Value.okWide Tryz.prog W .any base t v := hval0
  have hA : DataW.TrodAll enc Tryz.prog W 0 (fun _ => true) true Tryz.f12.params.toList args.toList ds before := hA0
  have hw : (DataW.weightsEach Tryz.prog Tryz.f12.params.toList ds).all (· ≤ reachBytes) = true := hw0
  clear hw0
  rw [Tryz.params12] at hA hval hw
  clear hval0 hA0
  obtain ⟨v0, v1, v2, d0, d1, d2, p0, p1, p2, rfl, rfl, rfl, h0, h1, h2⟩ := trodAll_three hA
  obtain ⟨a, n, c, xs, rfl, hP, hin⟩ := open_prog (hval 0 22 v0 rfl rfl) h0 (weights_of hw (j := 0) rfl rfl)
  obtain ⟨b, n2, c2, ys, rfl, hV, hfs⟩ := open_view (hval 1 25 v1 rfl rfl) h1 (weights_of hw (j := 1) rfl rfl)
  obtain ⟨d, n3, c3, ks, rfl, hK, hks⟩ := open_ints (hval 2 57 v2 rfl rfl) h2
  exact ⟨rfl, VmSlices_calls W hg a b d n c n2 c2 n3 c3 xs ys ks hP hV hK hin hfs hks⟩

theorem vmSlices_holds : Rows.VmSlicesSaid :=
  OpenClaim.holds_of_wide 12 Tryz.f12 rfl rfl rfl rfl rfl rfl rfl ⟨rfl, rfl, rfl, rfl, rfl⟩ rfl rfl rfl rfl rfl (by kernel_rfl) Tryz.func12 (by kernel_rfl)
    (of_decide_eq_true (by kernel_rfl)) (by unfold Func.isWrapper; first | (rw [if_pos (by decide +kernel)]; kernel_rfl) | (rw [if_neg (by decide +kernel)]; exact ⟨rfl, rfl⟩))
    (fun os started H enc _ => liftedSlices os started H enc)

/-- The tied card. -/
theorem vmSlices_card : Rows.VmSlicesCardSaid :=
  Claim7.holds_tied_plain_at .later [] [.data, .data, .data, .data, .sentinel, .sentinel, .widerDeep, .pinned] true (true, "6ecd81e739ecb7dc2fbf0f71aa40497074ccc5877776f4a3194d88f5690ba3e3") true
    vmSlices_holds (fun _ h => by cases h) (by kernel_rfl) (fun _ h => by cases h) vmSlices_row_tie rfl ⟨rfl, rfl⟩ (by kernel_rfl) rfl
    (fun f fn hf hfn => by
      obtain rfl : f = 12 := Option.some.inj ((show Tryz.prog.funcNamed "sapling/saplinglaw10.VmSlices" = some 12 by kernel_rfl).symm.trans hf) |>.symm
      obtain rfl : fn = Tryz.f12 := (Option.some.inj (Tryz.func12.symm.trans hfn)).symm
      exact ⟨by kernel_rfl, fun j t ht => by
        rw [Tryz.params12] at ht
        have hm : t ∈ [22, 25, 57] := by simpa using Array.mem_of_getElem? ht
        have hall : ([22, 25, 57].all fun u => !Tryz.prog.wantsStandIn u) = true := by kernel_rfl
        exact (show Tryz.prog.wantsStandIn t = false by simpa using List.all_eq_true.1 hall t hm)⟩)
    (by kernel_rfl)
#print axioms vmSlices_card
end Go.Proofs.YtndpgdegcbaigaaGreatDoor
