/- Package vm: texts: num, of a number's own text. · Package vm: texts: num, of another text. · Package vm: values and texts, whole. · Package vm: moves. -/
import Derived.Test.YtndpgdegcbaigaaGreatDoorQ06
namespace Go.Proofs.YtndpgdegcbaigaaGreatDoor
open Go Go.RowKit

section
variable {p : Nat} {prog : List Ins} {view : List File} {c : Cfg} {steps : Int} {done : Bool} {fault : Int} {sb cb : Option Nat} {w : World}

set_option maxHeartbeats 4000000 in
set_option maxRecDepth 20000 in
theorem num_own (n : Int) (s : ByteArray) (xs : List Val) (u : Val) (hb64 : c.stack.length ≤ 64) (hs : c.stack = xs ++ [u]) (ht : [u].map (·.text) = [true]) (hu : u.s.size ≤ 2048) {k : Int} (hkin : inI k) (hat : Lib.atoiAll u.s.data.toList = .ok k) (he : (Lib.itoa k == u.s.toList) = true) (hg : Globals w) (ha : Apart p sb cb) (h : Mach w p prog view c steps done fault sb cb) :
    Calls Tryz.prog 70 #[.pointer (some ⟨p, 0, none⟩), vIns ⟨25, n, s⟩] w (Did w p prog view steps done fault sb cb (twoM (vNum k) (vTruth true) { c with stack := xs })) := by
  have hlen : xs.length < 64 := by rw [hs] at hb64; simp at hb64; omega
  go_enter Tryz.func70, Tryz.ntmps70
  go_wp2_with (first | ((go_at_call 87; refine (kinds_taken [true] ⟨#[116]⟩ rfl 1 (by decide) (h.keep (by ((repeat (first | exact Ext.refl _ | assumption | refine Ext.drew' ?_ | refine Ext.alloc' ?_ _ | (with_reducible refine Ext.trans ?_ (Ext.drewN _ _)) | refine Ext.trans ?_ (by assumption))); done))) hb64 xs [u] rfl hs ht).mono ?_; rintro e w' ⟨b, o, cp, sb', cb', rfl, hb, hv, hN⟩; obtain ⟨x9, x0, x1, x2⟩ := hN.box h; obtain ⟨q00, q01, q02⟩ := hv 0 u rfl); have hg' := hN.globals (hg.ext (by ((repeat (first | exact Ext.refl _ | assumption | refine Ext.drew' ?_ | refine Ext.alloc' ?_ _ | (with_reducible refine Ext.trans ?_ (Ext.drewN _ _)) | refine Ext.trans ?_ (by assumption))); done))) ha) | (go_at_call 75; refine (AtoiEnds.yes hat (Atoi_calls _ (by omega) _ (by first | assumption | (refine Globals.ext hg' ?_; ((repeat (first | exact Ext.refl _ | assumption | refine Ext.drew' ?_ | refine Ext.alloc' ?_ _ | (with_reducible refine Ext.trans ?_ (Ext.drewN _ _)) | refine Ext.trans ?_ (by assumption))); done); done)))).mono ?_; rintro e w' ⟨hI, rfl⟩))
  have hb' : b < w'.heap.size := Nat.lt_of_lt_of_le hb hI.size
  have hgI : Globals w' := hg'.ext hI
  have y2 : w'.cell? ⟨b, o + 2, none⟩ = some (.string u.s) := (hI.cell (p := ⟨b, o + 2, none⟩) hb).trans (by simpa using q02)
  go_region_with (go_at_call 29; refine (Itoa_calls _ hkin _ (by refine Globals.ext hgI ?_; ((repeat (first | exact Ext.refl _ | assumption | refine Ext.drew' ?_ | refine Ext.alloc' ?_ _ | (with_reducible refine Ext.trans ?_ (Ext.drewN _ _)) | refine Ext.trans ?_ (by assumption))); done); done)).mono ?_; rintro e w2 ⟨rfl, hI2⟩; have y3 : w2.cell? ⟨b, o + 2, none⟩ = some (.string u.s) := (hI2.cell (p := ⟨b, o + 2, none⟩) hb').trans y2; have y4 : b < w2.heap.size := Nat.lt_of_lt_of_le hb' hI2.size)
  all_goals
    by_cases h63 : xs.length < 63
    · have hlen2 : (xs ++ [vNum k]).length < 64 := by simp; omega
      go_wp2_with (first | (go_at_call 89; refine (push_ok _ (hN2.m.keep (by ((repeat (first | exact Ext.refl _ | assumption | refine Ext.drew' ?_ | refine Ext.alloc' ?_ _ | (with_reducible refine Ext.trans ?_ (Ext.drewN _ _)) | refine Ext.trans ?_ (by assumption))); done))) hlen2).mono ?_; rintro e w' ⟨rfl, hD2⟩) | (go_at_call 89; refine (push_ok _ (hN.m.keep (by ((repeat (first | exact Ext.refl _ | assumption | refine Ext.drew' ?_ | refine Ext.alloc' ?_ _ | (with_reducible refine Ext.trans ?_ (Ext.drewN _ _)) | refine Ext.trans ?_ (by assumption))); done))) hlen).mono ?_; rintro e w' ⟨rfl, sb2, cb2, hM2, hF2, hS2⟩; have hN2 : Next _ p prog view { c with stack := xs ++ [vNum k] } steps done fault _ _ sb2 cb2 w' := ⟨hM2, hF2, hS2⟩) | (go_at_call 91; refine (num_calls _ _).mono ?_; rintro e w' ⟨rfl, rfl⟩) | (go_at_call 92; refine (truth_calls _ _).mono ?_; rintro e w' ⟨rfl, rfl⟩))
      go_end0
      rw [twoM, if_pos h63]
      exact ⟨rfl, (hN.does ((hN2.does (hD2.after (by ((repeat (first | exact Ext.refl _ | assumption | refine Ext.drew' ?_ | refine Ext.alloc' ?_ _ | (with_reducible refine Ext.trans ?_ (Ext.drewN _ _)) | refine Ext.trans ?_ (by assumption))); done)))).after (by ((repeat (first | exact Ext.refl _ | assumption | refine Ext.drew' ?_ | refine Ext.alloc' ?_ _ | (with_reducible refine Ext.trans ?_ (Ext.drewN _ _)) | refine Ext.trans ?_ (by assumption))); done)))).after (by ((repeat (first | exact Ext.refl _ | assumption | refine Ext.drew' ?_ | refine Ext.alloc' ?_ _ | (with_reducible refine Ext.trans ?_ (Ext.drewN _ _)) | refine Ext.trans ?_ (by assumption))); done))⟩
    · have hlen2 : ¬ (xs ++ [vNum k]).length < 64 := by simp; omega
      go_wp2_with (first | (go_at_call 89; refine (push_no _ (hN2.m.keep (by ((repeat (first | exact Ext.refl _ | assumption | refine Ext.drew' ?_ | refine Ext.alloc' ?_ _ | (with_reducible refine Ext.trans ?_ (Ext.drewN _ _)) | refine Ext.trans ?_ (by assumption))); done))) hlen2).mono ?_; rintro e w' ⟨rfl, rfl⟩) | (go_at_call 89; refine (push_ok _ (hN.m.keep (by ((repeat (first | exact Ext.refl _ | assumption | refine Ext.drew' ?_ | refine Ext.alloc' ?_ _ | (with_reducible refine Ext.trans ?_ (Ext.drewN _ _)) | refine Ext.trans ?_ (by assumption))); done))) hlen).mono ?_; rintro e w' ⟨rfl, sb2, cb2, hM2, hF2, hS2⟩; have hN2 : Next _ p prog view { c with stack := xs ++ [vNum k] } steps done fault _ _ sb2 cb2 w' := ⟨hM2, hF2, hS2⟩) | (go_at_call 91; refine (num_calls _ _).mono ?_; rintro e w' ⟨rfl, rfl⟩) | (go_at_call 92; refine (truth_calls _ _).mono ?_; rintro e w' ⟨rfl, rfl⟩))
      rw [twoM, if_neg h63]
      exact ⟨rfl, rfl, _, (hN.does ((hN2.does (Does.same hN2.m (by ((repeat (first | exact Ext.refl _ | assumption | refine Ext.drew' ?_ | refine Ext.alloc' ?_ _ | (with_reducible refine Ext.trans ?_ (Ext.drewN _ _)) | refine Ext.trans ?_ (by assumption))); done)))).after (by ((repeat (first | exact Ext.refl _ | assumption | refine Ext.drew' ?_ | refine Ext.alloc' ?_ _ | (with_reducible refine Ext.trans ?_ (Ext.drewN _ _)) | refine Ext.trans ?_ (by assumption))); done)))).after (by ((repeat (first | exact Ext.refl _ | assumption | refine Ext.drew' ?_ | refine Ext.alloc' ?_ _ | (with_reducible refine Ext.trans ?_ (Ext.drewN _ _)) | refine Ext.trans ?_ (by assumption))); done))⟩
end
end Go.Proofs.YtndpgdegcbaigaaGreatDoor

namespace Go.Proofs.YtndpgdegcbaigaaGreatDoor
open Go Go.RowKit

section
variable {p : Nat} {prog : List Ins} {view : List File} {c : Cfg} {steps : Int} {done : Bool} {fault : Int} {sb cb : Option Nat} {w : World}

set_option maxHeartbeats 4000000 in
set_option maxRecDepth 20000 in
theorem num_other (n : Int) (s : ByteArray) (xs : List Val) (u : Val) (hb64 : c.stack.length ≤ 64) (hs : c.stack = xs ++ [u]) (ht : [u].map (·.text) = [true]) (hu : u.s.size ≤ 2048) {k : Int} (hkin : inI k) (hat : Lib.atoiAll u.s.data.toList = .ok k) (he : (Lib.itoa k == u.s.toList) = false) (hg : Globals w) (ha : Apart p sb cb) (h : Mach w p prog view c steps done fault sb cb) :
    Calls Tryz.prog 70 #[.pointer (some ⟨p, 0, none⟩), vIns ⟨25, n, s⟩] w (Did w p prog view steps done fault sb cb (twoM (vNum 0) (vTruth false) { c with stack := xs })) := by
  have hlen : xs.length < 64 := by rw [hs] at hb64; simp at hb64; omega
  go_enter Tryz.func70, Tryz.ntmps70
  go_wp2_with (first | ((go_at_call 87; refine (kinds_taken [true] ⟨#[116]⟩ rfl 1 (by decide) (h.keep (by ((repeat (first | exact Ext.refl _ | assumption | refine Ext.drew' ?_ | refine Ext.alloc' ?_ _ | (with_reducible refine Ext.trans ?_ (Ext.drewN _ _)) | refine Ext.trans ?_ (by assumption))); done))) hb64 xs [u] rfl hs ht).mono ?_; rintro e w' ⟨b, o, cp, sb', cb', rfl, hb, hv, hN⟩; obtain ⟨x9, x0, x1, x2⟩ := hN.box h; obtain ⟨q00, q01, q02⟩ := hv 0 u rfl); have hg' := hN.globals (hg.ext (by ((repeat (first | exact Ext.refl _ | assumption | refine Ext.drew' ?_ | refine Ext.alloc' ?_ _ | (with_reducible refine Ext.trans ?_ (Ext.drewN _ _)) | refine Ext.trans ?_ (by assumption))); done))) ha) | (go_at_call 75; refine (AtoiEnds.yes hat (Atoi_calls _ (by omega) _ (by first | assumption | (refine Globals.ext hg' ?_; ((repeat (first | exact Ext.refl _ | assumption | refine Ext.drew' ?_ | refine Ext.alloc' ?_ _ | (with_reducible refine Ext.trans ?_ (Ext.drewN _ _)) | refine Ext.trans ?_ (by assumption))); done); done)))).mono ?_; rintro e w' ⟨hI, rfl⟩))
  have hb' : b < w'.heap.size := Nat.lt_of_lt_of_le hb hI.size
  have hgI : Globals w' := hg'.ext hI
  have y2 : w'.cell? ⟨b, o + 2, none⟩ = some (.string u.s) := (hI.cell (p := ⟨b, o + 2, none⟩) hb).trans (by simpa using q02)
  go_region_with (go_at_call 29; refine (Itoa_calls _ hkin _ (by refine Globals.ext hgI ?_; ((repeat (first | exact Ext.refl _ | assumption | refine Ext.drew' ?_ | refine Ext.alloc' ?_ _ | (with_reducible refine Ext.trans ?_ (Ext.drewN _ _)) | refine Ext.trans ?_ (by assumption))); done); done)).mono ?_; rintro e w2 ⟨rfl, hI2⟩; have y3 : w2.cell? ⟨b, o + 2, none⟩ = some (.string u.s) := (hI2.cell (p := ⟨b, o + 2, none⟩) hb').trans y2; have y4 : b < w2.heap.size := Nat.lt_of_lt_of_le hb' hI2.size)
  all_goals
    by_cases h63 : xs.length < 63
    · have hlen2 : (xs ++ [vNum 0]).length < 64 := by simp; omega
      go_wp2_with (first | (go_at_call 89; refine (push_ok _ (hN2.m.keep (by ((repeat (first | exact Ext.refl _ | assumption | refine Ext.drew' ?_ | refine Ext.alloc' ?_ _ | (with_reducible refine Ext.trans ?_ (Ext.drewN _ _)) | refine Ext.trans ?_ (by assumption))); done))) hlen2).mono ?_; rintro e w' ⟨rfl, hD2⟩) | (go_at_call 89; refine (push_ok _ (hN.m.keep (by ((repeat (first | exact Ext.refl _ | assumption | refine Ext.drew' ?_ | refine Ext.alloc' ?_ _ | (with_reducible refine Ext.trans ?_ (Ext.drewN _ _)) | refine Ext.trans ?_ (by assumption))); done))) hlen).mono ?_; rintro e w' ⟨rfl, sb2, cb2, hM2, hF2, hS2⟩; have hN2 : Next _ p prog view { c with stack := xs ++ [vNum 0] } steps done fault _ _ sb2 cb2 w' := ⟨hM2, hF2, hS2⟩) | (go_at_call 91; refine (num_calls _ _).mono ?_; rintro e w' ⟨rfl, rfl⟩) | (go_at_call 92; refine (truth_calls _ _).mono ?_; rintro e w' ⟨rfl, rfl⟩))
      go_end0
      rw [twoM, if_pos h63]
      exact ⟨rfl, (hN.does ((hN2.does (hD2.after (by ((repeat (first | exact Ext.refl _ | assumption | refine Ext.drew' ?_ | refine Ext.alloc' ?_ _ | (with_reducible refine Ext.trans ?_ (Ext.drewN _ _)) | refine Ext.trans ?_ (by assumption))); done)))).after (by ((repeat (first | exact Ext.refl _ | assumption | refine Ext.drew' ?_ | refine Ext.alloc' ?_ _ | (with_reducible refine Ext.trans ?_ (Ext.drewN _ _)) | refine Ext.trans ?_ (by assumption))); done)))).after (by ((repeat (first | exact Ext.refl _ | assumption | refine Ext.drew' ?_ | refine Ext.alloc' ?_ _ | (with_reducible refine Ext.trans ?_ (Ext.drewN _ _)) | refine Ext.trans ?_ (by assumption))); done))⟩
    · have hlen2 : ¬ (xs ++ [vNum 0]).length < 64 := by simp; omega
      go_wp2_with (first | (go_at_call 89; refine (push_no _ (hN2.m.keep (by ((repeat (first | exact Ext.refl _ | assumption | refine Ext.drew' ?_ | refine Ext.alloc' ?_ _ | (with_reducible refine Ext.trans ?_ (Ext.drewN _ _)) | refine Ext.trans ?_ (by assumption))); done))) hlen2).mono ?_; rintro e w' ⟨rfl, rfl⟩) | (go_at_call 89; refine (push_ok _ (hN.m.keep (by ((repeat (first | exact Ext.refl _ | assumption | refine Ext.drew' ?_ | refine Ext.alloc' ?_ _ | (with_reducible refine Ext.trans ?_ (Ext.drewN _ _)) | refine Ext.trans ?_ (by assumption))); done))) hlen).mono ?_; rintro e w' ⟨rfl, sb2, cb2, hM2, hF2, hS2⟩; have hN2 : Next _ p prog view { c with stack := xs ++ [vNum 0] } steps done fault _ _ sb2 cb2 w' := ⟨hM2, hF2, hS2⟩) | (go_at_call 91; refine (num_calls _ _).mono ?_; rintro e w' ⟨rfl, rfl⟩) | (go_at_call 92; refine (truth_calls _ _).mono ?_; rintro e w' ⟨rfl, rfl⟩))
      rw [twoM, if_neg h63]
      exact ⟨rfl, rfl, _, (hN.does ((hN2.does (Does.same hN2.m (by ((repeat (first | exact Ext.refl _ | assumption | refine Ext.drew' ?_ | refine Ext.alloc' ?_ _ | (with_reducible refine Ext.trans ?_ (Ext.drewN _ _)) | refine Ext.trans ?_ (by assumption))); done)))).after (by ((repeat (first | exact Ext.refl _ | assumption | refine Ext.drew' ?_ | refine Ext.alloc' ?_ _ | (with_reducible refine Ext.trans ?_ (Ext.drewN _ _)) | refine Ext.trans ?_ (by assumption))); done)))).after (by ((repeat (first | exact Ext.refl _ | assumption | refine Ext.drew' ?_ | refine Ext.alloc' ?_ _ | (with_reducible refine Ext.trans ?_ (Ext.drewN _ _)) | refine Ext.trans ?_ (by assumption))); done))⟩
end
end Go.Proofs.YtndpgdegcbaigaaGreatDoor

namespace Go.Proofs.YtndpgdegcbaigaaGreatDoor
open Go Go.RowKit

section
variable {p : Nat} {prog : List Ins} {view : List File} {c : Cfg} {steps : Int} {done : Bool} {fault : Int} {sb cb : Option Nat} {w : World}

set_option maxHeartbeats 1000000 in
set_option maxRecDepth 20000 in
theorem texts_num (n : Int) (s : ByteArray) (hb64 : c.stack.length ≤ 64) (hsz : ∀ v ∈ c.stack, v.s.size ≤ 2048) (hg : Globals w) (ha : Apart p sb cb) (h : Mach w p prog view c steps done fault sb cb) :
    Calls Tryz.prog 70 #[.pointer (some ⟨p, 0, none⟩), vIns ⟨25, n, s⟩] w (Did w p prog view steps done fault sb cb (execTexts ⟨25, n, s⟩ c)) := by
  have hx : execTexts ⟨25, n, s⟩ c = takeK [true] c fun vs c => (pushV (vNum (numM (vs.getD 0 default).s).1) c).bind (pushV (vTruth (numM (vs.getD 0 default).s).2)) := rfl
  rw [hx]
  cases hk : kindOK [true] c.stack with
  | true =>
    obtain ⟨xs, tops, hs, hl, ht, h1, h2⟩ := kindOK_split hk
    rw [takeK, if_pos hk, h1, h2]
    match tops, hl with
    | [u], _ =>
    have hu : u.s.size ≤ 2048 := hsz u (by rw [hs]; simp)
    simp only [List.getD_cons_zero]
    rw [two_stack]
    rcases hat : Lib.atoiAll u.s.data.toList with k | _ | _
    · by_cases he : itoaS k = u.s
      · have hnm : numM u.s = (k, true) := by unfold numM; rw [hat]; simp [he]
        rw [hnm]
        exact num_own n s xs u hb64 hs ht hu (atoiAll_in hat) hat (by rw [← he, ByteArray.toList_eq]; simp) hg ha h
      · have hnm : numM u.s = (0, false) := by unfold numM; rw [hat]; simp [he]
        rw [hnm]
        refine num_other n s xs u hb64 hs ht hu (atoiAll_in hat) hat ?_ hg ha h
        rw [beq_eq_false_iff_ne]
        intro e
        refine he (bytes_same ?_)
        rw [ByteArray.toList_eq]; simpa using e
    · have hnm : numM u.s = (0, false) := by unfold numM; rw [hat]
      rw [hnm]
      exact num_bad n s xs u hb64 hs ht hu (fun k hk => by rw [hat] at hk; cases hk) hg ha h
    · have hnm : numM u.s = (0, false) := by unfold numM; rw [hat]
      rw [hnm]
      exact num_bad n s xs u hb64 hs ht hu (fun k hk => by rw [hat] at hk; cases hk) hg ha h
  | false =>
    rw [takeK_no hk]
    clear hx
    go_enter Tryz.func70, Tryz.ntmps70
    go_wp2_with (go_at_call 87; refine (kinds_fail [true] ⟨#[116]⟩ rfl (h.keep (by ((repeat (first | exact Ext.refl _ | assumption | refine Ext.drew' ?_ | refine Ext.alloc' ?_ _ | (with_reducible refine Ext.trans ?_ (Ext.drewN _ _)) | refine Ext.trans ?_ (by assumption))); done))) hb64 hk).mono ?_; rintro e w' ⟨rfl, hE⟩)
    exact ⟨rfl, rfl, c, Does.same h (Ext.trans (by ((repeat (first | exact Ext.refl _ | assumption | refine Ext.drew' ?_ | refine Ext.alloc' ?_ _ | (with_reducible refine Ext.trans ?_ (Ext.drewN _ _)) | refine Ext.trans ?_ (by assumption))); done)) hE)⟩

/-- What stands on a machine's stack and in its cells. -/
structure ValOK (v : Val) : Prop where
  num : inI v.n
  size : v.s.size ≤ 2048
  plain : if v.text then v.n = 0 else v.s = ⟨#[]⟩

theorem texts_calls (x : Ins) (hop : x.op = 3 ∨ x.op = 21 ∨ x.op = 22 ∨ x.op = 23 ∨ x.op = 24 ∨ x.op = 25) (hb64 : c.stack.length ≤ 64) (hok : ∀ v ∈ c.stack, ValOK v) (hg : Globals w) (ha : Apart p sb cb) (h : Mach w p prog view c steps done fault sb cb) :
    Calls Tryz.prog 70 #[.pointer (some ⟨p, 0, none⟩), vIns x] w (Did w p prog view steps done fault sb cb (execTexts x c)) := by
  obtain ⟨op, n, s⟩ := x
  have hsz : ∀ v ∈ c.stack, v.s.size ≤ 2048 := fun v hv => (hok v hv).size
  have hin : ∀ v ∈ c.stack, inI v.n := fun v hv => (hok v hv).num
  simp only at hop
  rcases hop with rfl | rfl | rfl | rfl | rfl | rfl
  · exact texts_text n s h
  · exact texts_cat n s hb64 hsz h
  · exact texts_len n s hb64 h
  · exact texts_cut n s hb64 hsz h
  · exact texts_str n s hb64 hin hg ha h
  · exact texts_num n s hb64 hsz hg ha h

theorem values_calls (x : Ins) (hop : x.op = 2 ∨ x.op = 4 ∨ x.op = 5 ∨ x.op = 6 ∨ ((x.op = 7 ∨ x.op = 8) ∧ 0 ≤ x.n ∧ x.n < 16) ∨ (x.op = 9 ∨ x.op = 10 ∨ x.op = 11 ∨ x.op = 12 ∨ x.op = 13) ∨ x.op = 14 ∨ x.op = 15 ∨ x.op = 16)
    (hb64 : c.stack.length ≤ 64) (h : Mach w p prog view c steps done fault sb cb) :
    Calls Tryz.prog 72 #[.pointer (some ⟨p, 0, none⟩), vIns x] w (Did w p prog view steps done fault sb cb (execValues x c)) := by
  obtain ⟨op, n, s⟩ := x
  simp only at hop
  rcases hop with rfl | rfl | rfl | rfl | ⟨hop, h0, h1⟩ | hop | rfl | rfl | rfl
  · exact values_push n s h
  · exact values_pop n s hb64 h
  · exact values_dup n s hb64 h
  · exact values_swap n s hb64 h
  · obtain ⟨k, rfl⟩ : ∃ k : Nat, n = k := ⟨n.toNat, by omega⟩
    rcases hop with rfl | rfl
    · exact values_load k s (by omega) h
    · exact values_store k s (by omega) hb64 h
  · exact values_reckon op n s hop hb64 h
  · exact values_less n s hb64 h
  · exact values_eq n s hb64 h
  · exact values_not n s hb64 h
end
end Go.Proofs.YtndpgdegcbaigaaGreatDoor

namespace Go.Proofs.YtndpgdegcbaigaaGreatDoor
open Go Go.RowKit

theorem Tryz.infoInt : (Tryz.prog.info? 3).map (fun i => (i.zero, i.size, i.bytes)) = some (some (.int .i64 0), 1, 8) := by kernel_rfl

/-- append of one int, at a step of a region. -/
theorem step_appendInt {ops : Array Oper} {o : Oper} {a : Act} {K : Act → World → Prop} {Q : Exit → Act → World → Prop} {E : Prop} {w W : World} (hgd : o.guard = none) (s x : Operand)
    (ho : o.op = .call { callee := .builtin .append, args := #[s, x], argTypes := #[57, 57] })
    (sv : Value) (n : Nat) (xs : List Value) (hs : a.eval s = sv) (hown : w.ownsRow 0 3 1 sv n xs) (eW : Ext w W) (B : Nat) (v : Int) (hx : a.eval x = .slice (some ⟨B, 0, none⟩) 1 1)
    (hB : W.heap[B]? = some (.cells #[.int .i64 v] 3)) (hn : n ≤ 1048576)
    (h : ∀ g cap w1, w1.ownsRow 0 3 1 (.slice (some ⟨g, 0, none⟩) (n + 1) cap) (n + 1) (xs ++ TInt.enc v) → W.grownBy w1 sv.ownBlock → (sv.ownBlock = some g ∨ w.heap.size ≤ g) → g < w1.heap.size →
      K (a.put o.dst (.slice (some ⟨g, 0, none⟩) (n + 1) cap)) w1) :
    if Region.wanted o (yielded ops a.tmps) = true then Oper.wp Tryz.prog o a W K Q else E := by
  obtain ⟨i0, hi, hz0, hz1, hz2⟩ := info_parts Tryz.infoInt
  refine step_append_lies W hgd s x 57 ho 0 3 i0 _ 1 8 Tryz.underlying57 hi hz0 hz1 hz2 rfl (by decide) sv n xs hs (ownsRow_ext hown eW) ⟨B, 0, none⟩ 1 1 (TInt.enc v) hx rfl
    (World.news_of_block hB) (TInt.one v) (by decide) (by unfold maxLen; omega) (by omega) (Nat.zero_le _) _ rfl fun g cap w1 h1 h2 h3 h4 => h g cap w1 h1 h2 (h3.imp id fun e => ?_) h4
  have := eW.size
  omega

section
variable {p : Nat} {prog : List Ins} {view : List File} {c : Cfg} {steps : Int} {done : Bool} {fault : Int} {sb cb : Option Nat} {w : World}

theorem Mach.callsOf (h : Mach w p prog view c steps done fault sb cb) : ∃ (ca : Option Addr) (cc : Nat),
    w.cell? ⟨p, 4, none⟩ = some (.slice ca c.calls.length cc) ∧ w.ownsRow 0 3 1 (.slice ca c.calls.length cc) c.calls.length (c.calls.flatMap TInt.enc) ∧
    Value.ownBlock (.slice ca c.calls.length cc) = cb ∧ p < w.heap.size ∧ (∀ o, w.frozen? ⟨p, o, none⟩ = false) ∧ w.cell? ⟨p, 53, none⟩ = some (.int .i64 c.at_) ∧
    w.cell? ⟨p, 54, none⟩ = some (.int .i64 steps) ∧ w.cell? ⟨p, 55, none⟩ = some (.bool done) ∧ w.cell? ⟨p, 56, none⟩ = some (.int .i64 fault) := by
  obtain ⟨⟨pa, va, oa, sa, ca, pc, vc, oc, sc, cc, hm, h1, h2, h3, h4, h5, e4, e5, n1, n2, n3⟩, sp, cp, scd⟩ := h
  exact ⟨ca, cc, hm.c4, h5, e5, hm.low, hm.free, hm.c53, hm.c54, hm.c55, hm.c56⟩

/-- New cells of the block, the stack and the calls where they were. -/
theorem Mach.celledM {W : World} (h : Mach w p prog view c steps done fault sb cb) {cells' : List Val} {at' steps' : Int} {done' : Bool} {fault' : Int}
    (hF : Fr (fun k => k = p) w W)
    (hm' : ∀ pv vv ov sv cv, MBlk w p pv vv ov sv cv c.cells c.at_ steps done fault → MBlk W p pv vv ov sv cv cells' at' steps' done' fault') :
    Next w p prog view { c with cells := cells', at_ := at' } steps' done' fault' sb cb sb cb W := by
  obtain ⟨⟨pa, va, oa, sa, ca, pc, vc, oc, sc, cc, hm, h1, h2, h3, h4, h5, e4, e5, n1, n2, n3⟩, sp, cp, scd⟩ := h
  have hF3 : Fr (Foot p sb cb) w W := hF.mono fun k _ hk => Or.inl hk
  refine ⟨?_, hF3, fun _ _ h => h⟩
  refine Mach.put (pa := pa) (va := va) (oa' := oa) (sa' := sa) (ca' := ca) (pc := pc) (vc := vc) (oc' := oc) (sc' := sc) (cc' := cc) hF3 (fun _ _ h => h) h1 h2 n1 n2 (hm' _ _ _ _ _ hm) (h3.fr hF3 n3) n3 ?_ ?_ e4 e5 sp cp scd
  · exact ownsRow_keep h4 fun b hb' hlt => hF.block b hlt (by rintro rfl; exact sp (e4 ▸ hb'))
  · exact ownsRow_keep h5 fun b hb' hlt => hF.block b hlt (by rintro rfl; exact cp (e5 ▸ hb'))

theorem Mach.moved (h : Mach w p prog view c steps done fault sb cb) (k : Int) : Does w p prog view { c with at_ := k } steps done fault sb cb (w.setCell ⟨p, 53, none⟩ (.int .i64 k)) :=
  h.celled (cells' := c.cells) (at' := k) (Fr.setCell (fun k => k = p) w _ _ rfl) fun _ _ _ _ _ hm => hm.setAt k
theorem Mach.ended (h : Mach w p prog view c steps done fault sb cb) (b : Bool) : Does w p prog view c steps b fault sb cb (w.setCell ⟨p, 55, none⟩ (.bool b)) :=
  h.celled (cells' := c.cells) (at' := c.at_) (Fr.setCell (fun k => k = p) w _ _ rfl) fun _ _ _ _ _ hm => hm.setDone b

set_option maxHeartbeats 1000000 in
set_option maxRecDepth 20000 in
theorem moves_halt (n : Int) (s : ByteArray) (h : Mach w p prog view c steps done fault sb cb) :
    Calls Tryz.prog 69 #[.pointer (some ⟨p, 0, none⟩), vIns ⟨1, n, s⟩] w (Did w p prog view steps done fault sb cb (execMoves ⟨1, n, s⟩ c)) := by
  have hx : execMoves ⟨1, n, s⟩ c = .halt c := rfl
  rw [hx]
  obtain ⟨ca, cc, c4, h5, e5, hp, hz, c53, c54, c55, c56⟩ := h.callsOf
  go_enter Tryz.func69, Tryz.ntmps69
  go_wp2
  go_end0
  exact ⟨rfl, (h.ended true).ext (by ((repeat (first | exact Ext.refl _ | assumption | refine Ext.drew' ?_ | refine Ext.alloc' ?_ _ | (with_reducible refine Ext.trans ?_ (Ext.drewN _ _)) | refine Ext.trans ?_ (by assumption))); done))⟩

set_option maxHeartbeats 1000000 in
set_option maxRecDepth 20000 in
theorem moves_jump (n : Int) (s : ByteArray) (h : Mach w p prog view c steps done fault sb cb) :
    Calls Tryz.prog 69 #[.pointer (some ⟨p, 0, none⟩), vIns ⟨17, n, s⟩] w (Did w p prog view steps done fault sb cb (execMoves ⟨17, n, s⟩ c)) := by
  have hx : execMoves ⟨17, n, s⟩ c = .go { c with at_ := n } := rfl
  rw [hx]
  obtain ⟨ca, cc, c4, h5, e5, hp, hz, c53, c54, c55, c56⟩ := h.callsOf
  go_enter Tryz.func69, Tryz.ntmps69
  go_wp2
  go_end0
  exact ⟨rfl, (h.moved n).ext (by ((repeat (first | exact Ext.refl _ | assumption | refine Ext.drew' ?_ | refine Ext.alloc' ?_ _ | (with_reducible refine Ext.trans ?_ (Ext.drewN _ _)) | refine Ext.trans ?_ (by assumption))); done))⟩

set_option maxHeartbeats 1000000 in
set_option maxRecDepth 20000 in
theorem moves_fail (n : Int) (s : ByteArray) (h : Mach w p prog view c steps done fault sb cb) :
    Calls Tryz.prog 69 #[.pointer (some ⟨p, 0, none⟩), vIns ⟨30, n, s⟩] w (Did w p prog view steps done fault sb cb (execMoves ⟨30, n, s⟩ c)) := by
  have hx : execMoves ⟨30, n, s⟩ c = .stop 44 := rfl
  rw [hx]
  go_enter Tryz.func69, Tryz.ntmps69
  go_wp2_with (go_at_call 88; refine (unless_no _ _).mono ?_; rintro e w' ⟨rfl, rfl⟩)
  exact ⟨rfl, rfl, c, Does.same h (by ((repeat (first | exact Ext.refl _ | assumption | refine Ext.drew' ?_ | refine Ext.alloc' ?_ _ | (with_reducible refine Ext.trans ?_ (Ext.drewN _ _)) | refine Ext.trans ?_ (by assumption))); done))⟩

set_option maxHeartbeats 1000000 in
set_option maxRecDepth 20000 in
theorem moves_zero (n : Int) (s : ByteArray) (hb64 : c.stack.length ≤ 64) (h : Mach w p prog view c steps done fault sb cb) :
    Calls Tryz.prog 69 #[.pointer (some ⟨p, 0, none⟩), vIns ⟨18, n, s⟩] w (Did w p prog view steps done fault sb cb (execMoves ⟨18, n, s⟩ c)) := by
  have hx : execMoves ⟨18, n, s⟩ c = takeK [false] c fun vs c => .go (if (vs.getD 0 default).n = 0 then { c with at_ := n } else c) := rfl
  rw [hx]
  cases hk : kindOK [false] c.stack with
  | true =>
    obtain ⟨xs, tops, hs, hl, ht, h1, h2⟩ := kindOK_split hk
    rw [takeK, if_pos hk, h1, h2]
    match tops, hl with
    | [u], _ =>
    simp only [List.getD_cons_zero]
    clear hx hk h1 h2
    by_cases hu : u.n = 0
    · rw [if_pos hu]
      have hu' : (u.n == 0) = true := by simpa using hu
      go_enter Tryz.func69, Tryz.ntmps69
      go_wp2_with ((go_at_call 87; refine (kinds_taken [false] ⟨#[110]⟩ rfl 1 (by decide) (h.keep (by ((repeat (first | exact Ext.refl _ | assumption | refine Ext.drew' ?_ | refine Ext.alloc' ?_ _ | (with_reducible refine Ext.trans ?_ (Ext.drewN _ _)) | refine Ext.trans ?_ (by assumption))); done))) hb64 xs [u] rfl hs ht).mono ?_; rintro e w' ⟨b, o, cp, sb', cb', rfl, hb, hv, hN⟩; obtain ⟨x9, x0, x1, x2⟩ := hN.box h; obtain ⟨q00, q01, q02⟩ := hv 0 u rfl); obtain ⟨ca, cc, c4, h5, e5, hp, hz, c53, c54, c55, c56⟩ := hN.m.callsOf)
      go_end0
      exact ⟨rfl, (hN.does (hN.m.moved n)).after (by ((repeat (first | exact Ext.refl _ | assumption | refine Ext.drew' ?_ | refine Ext.alloc' ?_ _ | (with_reducible refine Ext.trans ?_ (Ext.drewN _ _)) | refine Ext.trans ?_ (by assumption))); done))⟩
    · rw [if_neg hu]
      have hu' : (u.n == 0) = false := by simpa using hu
      go_enter Tryz.func69, Tryz.ntmps69
      go_wp2_with (go_at_call 87; refine (kinds_taken [false] ⟨#[110]⟩ rfl 1 (by decide) (h.keep (by ((repeat (first | exact Ext.refl _ | assumption | refine Ext.drew' ?_ | refine Ext.alloc' ?_ _ | (with_reducible refine Ext.trans ?_ (Ext.drewN _ _)) | refine Ext.trans ?_ (by assumption))); done))) hb64 xs [u] rfl hs ht).mono ?_; rintro e w' ⟨b, o, cp, sb', cb', rfl, hb, hv, hN⟩; obtain ⟨x9, x0, x1, x2⟩ := hN.box h; obtain ⟨q00, q01, q02⟩ := hv 0 u rfl)
      go_end0
      exact ⟨rfl, (hN.does (Does.same hN.m (by ((repeat (first | exact Ext.refl _ | assumption | refine Ext.drew' ?_ | refine Ext.alloc' ?_ _ | (with_reducible refine Ext.trans ?_ (Ext.drewN _ _)) | refine Ext.trans ?_ (by assumption))); done)))).after (by ((repeat (first | exact Ext.refl _ | assumption | refine Ext.drew' ?_ | refine Ext.alloc' ?_ _ | (with_reducible refine Ext.trans ?_ (Ext.drewN _ _)) | refine Ext.trans ?_ (by assumption))); done))⟩
  | false =>
    rw [takeK_no hk]
    clear hx
    go_enter Tryz.func69, Tryz.ntmps69
    go_wp2_with (go_at_call 87; refine (kinds_fail [false] ⟨#[110]⟩ rfl (h.keep (by ((repeat (first | exact Ext.refl _ | assumption | refine Ext.drew' ?_ | refine Ext.alloc' ?_ _ | (with_reducible refine Ext.trans ?_ (Ext.drewN _ _)) | refine Ext.trans ?_ (by assumption))); done))) hb64 hk).mono ?_; rintro e w' ⟨rfl, hE⟩)
    exact ⟨rfl, rfl, c, Does.same h (Ext.trans (by ((repeat (first | exact Ext.refl _ | assumption | refine Ext.drew' ?_ | refine Ext.alloc' ?_ _ | (with_reducible refine Ext.trans ?_ (Ext.drewN _ _)) | refine Ext.trans ?_ (by assumption))); done)) hE)⟩
end
end Go.Proofs.YtndpgdegcbaigaaGreatDoor
