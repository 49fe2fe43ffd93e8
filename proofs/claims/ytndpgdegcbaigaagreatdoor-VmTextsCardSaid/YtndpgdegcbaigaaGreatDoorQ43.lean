/- VmTexts: all inputs. -/
import Derived.Test.YtndpgdegcbaigaaGreatDoorQ39
import Derived.Test.YtndpgdegcbaigaaGreatDoorQ40
import Derived.Test.YtndpgdegcbaigaaGreatDoorQ41
import Derived.Test.YtndpgdegcbaigaaGreatDoorQ42
namespace Go.Proofs.YtndpgdegcbaigaaGreatDoor
open Go Go.RowKit

set_option maxHeartbeats 8000000 in
set_option maxRecDepth 100000 in
theorem VmTexts_calls (w : World) (hg : Globals w) (a b : ByteArray) (x y : Int) (hx : inI x) (hy : inI y) (hsa : a.size ≤ 140737488351232) (hsb : b.size ≤ 140737488351232) :
    Calls Tryz.prog 9 #[.string a, .string b, .agg #[.int .i64 x, .int .i64 y]] w fun e w' => e = .returned (.bool true) ∧ Ext w w' := by
  by_cases ha : a.size ≤ 256
  · by_cases hb : b.size ≤ 256
    · by_cases h0 : x < 0
      · exact VmTexts_no1 w hg a b x y hx hy ha hb h0
      · by_cases h1 : x > y
        · exact VmTexts_no2 w hg a b x y hx hy ha hb h0 h1
        · by_cases h2 : y > (a.size : Int) + (b.size : Int)
          · exact VmTexts_no3 w hg a b x y hx hy ha hb h0 h1 h2
          · exact VmTexts_yes w hg a b x y hx hy ha hb (by omega)
    · have G := aside hg
      clear hg
      have za : ¬ (a.size : Int) > 256 := by omega
      have zb : (b.size : Int) > 256 := by omega
      go_enter Tryz.func9, Tryz.ntmps9
      go_wp2_with (go_at_call 13; refine (alive_calls _ (G.out.ext (by ((repeat (first | exact Ext.refl _ | assumption | refine Ext.drew' ?_ | refine Ext.alloc' ?_ _ | (with_reducible refine Ext.trans ?_ (Ext.drewN _ _)) | refine Ext.trans ?_ (by assumption))); done)))).mono ?_; rintro e w1 ⟨rfl, hE⟩; have E1 := aside (Ext.trans (show Ext w _ by ((repeat (first | exact Ext.refl _ | assumption | refine Ext.drew' ?_ | refine Ext.alloc' ?_ _ | (with_reducible refine Ext.trans ?_ (Ext.drewN _ _)) | refine Ext.trans ?_ (by assumption))); done)) hE); clear hE)
      exact bodyPost_ret (v := .bool true) (by simp [results, Tryz.results9, go_sem]) rfl ⟨rfl, E1.out⟩
  · have G := aside hg
    clear hg
    have za : (a.size : Int) > 256 := by omega
    go_enter Tryz.func9, Tryz.ntmps9
    go_wp2_with (go_at_call 13; refine (alive_calls _ (G.out.ext (by ((repeat (first | exact Ext.refl _ | assumption | refine Ext.drew' ?_ | refine Ext.alloc' ?_ _ | (with_reducible refine Ext.trans ?_ (Ext.drewN _ _)) | refine Ext.trans ?_ (by assumption))); done)))).mono ?_; rintro e w1 ⟨rfl, hE⟩; have E1 := aside (Ext.trans (show Ext w _ by ((repeat (first | exact Ext.refl _ | assumption | refine Ext.drew' ?_ | refine Ext.alloc' ?_ _ | (with_reducible refine Ext.trans ?_ (Ext.drewN _ _)) | refine Ext.trans ?_ (by assumption))); done)) hE); clear hE)
    exact bodyPost_ret (v := .bool true) (by simp [results, Tryz.results9, go_sem]) rfl ⟨rfl, E1.out⟩
end Go.Proofs.YtndpgdegcbaigaaGreatDoor
