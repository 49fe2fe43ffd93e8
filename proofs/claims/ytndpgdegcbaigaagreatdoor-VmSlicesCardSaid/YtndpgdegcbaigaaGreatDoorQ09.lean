/- Package vm: files: write. -/
import Derived.Test.YtndpgdegcbaigaaGreatDoorQ08
namespace Go.Proofs.YtndpgdegcbaigaaGreatDoor
open Go Go.RowKit

section
variable {p : Nat} {prog : List Ins} {view : List File} {c : Cfg} {steps : Int} {done : Bool} {fault : Int} {sb cb : Option Nat} {w : World}


set_option maxHeartbeats 40000000 in
set_option maxRecDepth 20000 in
theorem write_ok (hPut : PutSays) (n : Int) (s : ByteArray) (xs : List Val) (u v : Val) (res : List File × Int) (hres : putF c.out ⟨u.s, v.s⟩ = res) (hz1 : (res.2 == 0) = true) (hs : c.stack = xs ++ [u, v]) (ht : [u, v].map (·.text) = [true, true])
    (hu : u.s.size ≤ 2048) (hv' : v.s.size ≤ 2048) (hb64 : c.stack.length ≤ 64) (hol : c.out.length ≤ 32) (hos : ∀ g ∈ c.out, g.path.size ≤ 2048 ∧ g.data.size ≤ 2048) (hg : Globals w) (ha : Apart p sb cb) (h : Mach w p prog view c steps done fault sb cb) :
    Calls Tryz.prog 71 #[.pointer (some ⟨p, 0, none⟩), vIns ⟨29, n, s⟩] w (Did w p prog view steps done fault sb cb (.go { c with stack := xs, out := res.1 })) := by
  go_enter Tryz.func71, Tryz.ntmps71
  go_wp2_with ((go_at_call 87; refine (kinds_taken [true, true] ⟨#[116, 116]⟩ rfl 2 (by decide) (h.keep (by ((repeat (first | exact Ext.refl _ | assumption | refine Ext.drew' ?_ | refine Ext.alloc' ?_ _ | (with_reducible refine Ext.trans ?_ (Ext.drewN _ _)) | refine Ext.trans ?_ (by assumption))); done))) hb64 xs [u, v] rfl hs ht).mono ?_; rintro e w' ⟨b, o, cp, sb', cb', rfl, hb, hv, hN⟩; obtain ⟨x9, x0, x1, x2⟩ := hN.box h; obtain ⟨q00, q01, q02⟩ := hv 0 u rfl; obtain ⟨q10, q11, q12⟩ := hv 1 v rfl); obtain ⟨va, oa, vc, oc, y1, hV, y2, ho, hp, hz⟩ := hN.m.treesOf; have hg' := hN.globals (hg.ext (by ((repeat (first | exact Ext.refl _ | assumption | refine Ext.drew' ?_ | refine Ext.alloc' ?_ _ | (with_reducible refine Ext.trans ?_ (Ext.drewN _ _)) | refine Ext.trans ?_ (by assumption))); done))) ha)
  go_region_with (go_at_call 19; refine (hPut c.out oa oc ⟨u.s, v.s⟩ _ (by omega) (fun g hgm => ⟨by have := (hos g hgm).1; omega, by have := (hos g hgm).2; omega⟩) (by show u.s.size ≤ _; omega) (by show v.s.size ≤ _; omega) (ho.below (show Ext _ _ by ((repeat (first | exact Ext.refl _ | assumption | refine Ext.drew' ?_ | refine Ext.alloc' ?_ _ | (with_reducible refine Ext.trans ?_ (Ext.drewN _ _)) | refine Ext.trans ?_ (by assumption))); done))) (hg'.ext (by ((repeat (first | exact Ext.refl _ | assumption | refine Ext.drew' ?_ | refine Ext.alloc' ?_ _ | (with_reducible refine Ext.trans ?_ (Ext.drewN _ _)) | refine Ext.trans ?_ (by assumption))); done)))).mono ?_; rw [hres]; rintro e w9 ⟨a', c', rfl, hA, hI, hfr⟩; have hE : Ext w' w9 := Ext.trans (by ((repeat (first | exact Ext.refl _ | assumption | refine Ext.drew' ?_ | refine Ext.alloc' ?_ _ | (with_reducible refine Ext.trans ?_ (Ext.drewN _ _)) | refine Ext.trans ?_ (by assumption))); done)) hI; have z2 := (hE.cell (p := ⟨p, 2, none⟩) hp).trans y2; have z3 : ∀ o, w9.frozen? ⟨p, o, none⟩ = false := fun o => (hE.frozen (p := ⟨p, o, none⟩) hp).trans (hz o); have z4 := Nat.lt_of_lt_of_le hp hE.size; have hfr2 : ∀ b o, a' = some ⟨b, o, none⟩ → res.1 ≠ [] → w'.heap.size ≤ b := fun b o h1 h2 => Nat.le_trans (show Ext w' _ by ((repeat (first | exact Ext.refl _ | assumption | refine Ext.drew' ?_ | refine Ext.alloc' ?_ _ | (with_reducible refine Ext.trans ?_ (Ext.drewN _ _)) | refine Ext.trans ?_ (by assumption))); done)).size (hfr b o h1 h2); first | (obtain ⟨k1, k2, k3⟩ := new_kept hI (new_block w' (.cells #[.slice none 0 0] 25) _ rfl); have k4 := new_arr (v := .slice a' res.1.length c') hA hfr) | skip)
  all_goals
    go_wp2_with (go_at_call 88; refine (unless_ok_of (by first | (simp [*]; done) | (simp [*]; omega)) _ _).mono ?_; rintro e w' ⟨rfl, rfl⟩)
    go_end0
    first
      | (refine ⟨rfl, (hN.does (hN.m.written (out' := res.1) (a := a') (cap := c') hE hA hfr2 ?_)).after ?_⟩ <;> ((repeat (first | exact Ext.refl _ | assumption | refine Ext.drew' ?_ | refine Ext.alloc' ?_ _ | (with_reducible refine Ext.trans ?_ (Ext.drewN _ _)) | refine Ext.trans ?_ (by assumption))); done))
      | (refine ⟨rfl, (hN.does (hN.m.written (out' := res.1) (a := a') (cap := c') (hE.set (Nat.le_refl _) _) k4 hfr2 ?_)).after ?_⟩ <;> ((repeat (first | exact Ext.refl _ | assumption | refine Ext.drew' ?_ | refine Ext.alloc' ?_ _ | (with_reducible refine Ext.trans ?_ (Ext.drewN _ _)) | refine Ext.trans ?_ (by assumption))); done))
end
end Go.Proofs.YtndpgdegcbaigaaGreatDoor
