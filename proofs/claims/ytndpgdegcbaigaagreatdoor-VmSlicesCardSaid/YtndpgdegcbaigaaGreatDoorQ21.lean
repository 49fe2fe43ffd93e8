/- Package tree: the small ones: byPath, Make's and Put's closures; slices.Equal at files. · slices.Equal at files. · Package tree: Good, given what Make does. · Texts stand in one order. Plain Lean. · Rotations and merges of a row in its place, as plain Lean: what a stable sort's merge leans on. No program in sight. · A sorted list of files: what Make's sort may hand over, held against the plain model's own sort. Plain Lean. -/
import Derived.Test.YtndpgdegcbaigaaGreatDoorQ20
import Derived.Test.YtndpgdegcbaigaaGreatDoorQ04
import Derived.Test.YtndpgdegcbaigaaGreatDoorQ19
import Derived.Sort.LotA
import Derived.Shelf.SlSortCmp.Insertion
namespace Go.Proofs.YtndpgdegcbaigaaGreatDoor
open Go Go.RowKit

theorem beqB (a b : ByteArray) : (a == b) = decide (a = b) := by
  have h : (a == b) = (a.data == b.data) := by cases a; cases b; rfl
  rw [h]
  cases a; cases b
  rw [Bool.eq_iff_iff]
  simp

/-- How two files stand. -/
def cmpF (a b : File) : Int := Lib.compareBytes a.path.data.toList b.path.data.toList

theorem byPath_calls (a b : File) (w : World) : Calls Tryz.prog 60 #[vFile a, vFile b] w fun e w' => e = .returned (.int .i64 (cmpF a b)) ∧ Ext w w' := by
  go_enter Tryz.func60, Tryz.ntmps60
  go_wp2_with (go_at_call 82; refine (Tryz.strings_Compare a.path b.path _).mono ?_; rintro e w' ⟨rfl, rfl⟩)
  exact bodyPost_ret (v := .int .i64 (cmpF a b)) (by simp [results, Tryz.results60, go_sem, cmpF]) rfl ⟨rfl, by ((repeat (first | exact Ext.refl _ | assumption | refine Ext.drew' ?_ | refine Ext.alloc' ?_ _ | (with_reducible refine Ext.trans ?_ (Ext.drewN _ _)) | refine Ext.trans ?_ (by assumption))); done)⟩

theorem Put1_calls (f g : File) (B : Nat) (w : World) (h0 : w.cell? ⟨B, 0, none⟩ = some (.string f.path)) :
    Calls Tryz.prog 38 #[vFile g, .pointer (some ⟨B, 0, none⟩)] w fun e w' => e = .returned (.bool (g.path == f.path)) ∧ Ext w w' := by
  have hlt := World.block_lt_of_cell? w ⟨B, 0, none⟩ h0
  have he : (g.path == f.path) = (g.path.toList == f.path.toList) := by
    rw [beqB, Bool.eq_iff_iff]; simp only [beq_iff_eq, decide_eq_true_eq]
    exact ⟨fun e => by rw [e], bytes_same⟩
  rw [he]
  go_enter Tryz.func38, Tryz.ntmps38
  go_wp2
  exact bodyPost_ret (v := .bool (g.path.toList == f.path.toList)) (by simp [results, Tryz.results38, go_sem]) rfl ⟨rfl, by ((repeat (first | exact Ext.refl _ | assumption | refine Ext.drew' ?_ | refine Ext.alloc' ?_ _ | (with_reducible refine Ext.trans ?_ (Ext.drewN _ _)) | refine Ext.trans ?_ (by assumption))); done)⟩

set_option maxRecDepth 20000 in
set_option maxHeartbeats 1000000 in
theorem Make1_calls (f g : File) (B : Nat) (w : World) (h0 : w.cell? ⟨B, 0, none⟩ = some (.string f.path)) (hs : f.path.size ≤ 1048576) :
    Calls Tryz.prog 62 #[vFile g, .pointer (some ⟨B, 0, none⟩)] w fun e w' => e = .returned (.bool ((stroke f.path).isPrefixOf g.path.data.toList)) ∧ Ext w w' := by
  have hlt := World.block_lt_of_cell? w ⟨B, 0, none⟩ h0
  have he : (stroke f.path).isPrefixOf g.path.data.toList = Lib.hasPrefix g.path.data.toList (f.path ++ ⟨#[47]⟩ : ByteArray).data.toList := by
    unfold Lib.hasPrefix stroke
    simp
  rw [he]
  clear he
  obtain ⟨q, hq⟩ : ∃ q, (f.path ++ ⟨#[47]⟩ : ByteArray) = q := ⟨_, rfl⟩
  rw [hq]
  have hq2 : Aside ((f.path ++ ⟨#[47]⟩ : ByteArray) = q) := hq
  clear hq
  go_enter Tryz.func62, Tryz.ntmps62
  go_wp2_with (go_at_call 63; rw [hq2.out]; refine (Tryz.strings_HasPrefix g.path q _).mono ?_; rintro e w' ⟨rfl, rfl⟩)
  exact bodyPost_ret (v := .bool (Lib.hasPrefix g.path.data.toList q.data.toList)) (by simp [results, Tryz.results62, go_sem]) rfl ⟨rfl, by ((repeat (first | exact Ext.refl _ | assumption | refine Ext.drew' ?_ | refine Ext.alloc' ?_ _ | (with_reducible refine Ext.trans ?_ (Ext.drewN _ _)) | refine Ext.trans ?_ (by assumption))); done)⟩
end Go.Proofs.YtndpgdegcbaigaaGreatDoor

namespace Go.Proofs.YtndpgdegcbaigaaGreatDoor
open Go Go.RowKit

theorem file_ext {a b : File} (h1 : a.path.toList = b.path.toList) (h2 : a.data.toList = b.data.toList) : a = b := by
  obtain ⟨ap, ad⟩ := a
  obtain ⟨bp, bd⟩ := b
  obtain rfl := bytes_same h1
  obtain rfl := bytes_same h2
  rfl

set_option maxHeartbeats 2000000 in
theorem Equal_calls (xs ys : List File) (a b : Option Addr) (n m c d : Nat) (w : World) (hx : Arr TFile w a n c xs) (hy : Arr TFile w b m d ys) :
    Calls Tryz.prog 35 #[.slice a n c, .slice b m d] w fun e w' => e = .returned (.bool (decide (xs = ys))) ∧ Ext w w' := by
  have hxb := hx.bound
  have hyb := hy.bound
  by_cases hnm : n = m
  · subst hnm
    have X : Aside (Arr TFile w a n c xs) := hx
    have Y : Aside (Arr TFile w b n d ys) := hy
    clear hx hy
    go_enter Tryz.func35, Tryz.ntmps35
    go_wp2
    have e0 : Aside (Ext w w) := Ext.refl w
    go_loopg [13] n (fun gg s13 wr => ∃ j : Nat, j ≤ n ∧ n - j ≤ gg ∧ s13 = .int .i64 j ∧ Aside (Ext w wr) ∧ Aside (∀ i, i < j → xs[i]? = ys[i]?))
    case atStart => exact ⟨0, Nat.zero_le _, by omega, rfl, e0, (show Aside _ from fun i hi => absurd hi (Nat.not_lt_zero i))⟩
    case round =>
      obtain ⟨j, hj, hg, rfl, BW, hsame⟩ := hrel
      by_cases hlt : j < n
      · have hltz : (j : Int) < (n : Int) := by omega
        obtain ⟨xb, xo, x, rfl, hxj, x0, x1⟩ := (X.out.below BW.out).file hlt
        obtain ⟨yb, yo, y, rfl, hyj, y0, y1⟩ := (Y.out.below BW.out).file hlt
        have HX : Aside (xs[j]? = some x) := hxj
        have HY : Aside (ys[j]? = some y) := hyj
        clear hxj hyj
        by_cases hp : x.path.toList = y.path.toList
        · by_cases hd : x.data.toList = y.data.toList
          · have hxy : Aside (x = y) := file_ext hp hd
            go_wp2
            go_quiet (fail)
            go_wp2
            go_roundg (n - (j + 1))
            case measure => omega
            case rel => exact ⟨j + 1, by omega, by omega, by go_num, (show Aside _ from BW.out.trans (by ((repeat (first | exact Ext.refl _ | assumption | refine Ext.drew' ?_ | refine Ext.alloc' ?_ _ | (with_reducible refine Ext.trans ?_ (Ext.drewN _ _)) | refine Ext.trans ?_ (by assumption))); done))), (show Aside _ from fun i hi => by
              by_cases e : i = j
              · subst e; rw [HX.out, HY.out, hxy.out]
              · exact hsame.out i (by omega))⟩
          · have hne : Aside (xs ≠ ys) := (show Aside _ from fun e => by
              have h1 := HX.out
              rw [e, HY.out] at h1
              cases h1; exact hd rfl)
            go_wp2
            go_quiet (fail)
            go_wp2
            exact bodyPost_ret (v := .bool false) (by simp [results, Tryz.results35, go_sem]) rfl ⟨ret_bool (decide_eq_false hne.out).symm, BW.out.trans (by ((repeat (first | exact Ext.refl _ | assumption | refine Ext.drew' ?_ | refine Ext.alloc' ?_ _ | (with_reducible refine Ext.trans ?_ (Ext.drewN _ _)) | refine Ext.trans ?_ (by assumption))); done))⟩
        · have hne : Aside (xs ≠ ys) := (show Aside _ from fun e => by
            have h1 := HX.out
            rw [e, HY.out] at h1
            cases h1; exact hp rfl)
          go_wp2
          go_quiet (fail)
          go_wp2
          exact bodyPost_ret (v := .bool false) (by simp [results, Tryz.results35, go_sem]) rfl ⟨ret_bool (decide_eq_false hne.out).symm, BW.out.trans (by ((repeat (first | exact Ext.refl _ | assumption | refine Ext.drew' ?_ | refine Ext.alloc' ?_ _ | (with_reducible refine Ext.trans ?_ (Ext.drewN _ _)) | refine Ext.trans ?_ (by assumption))); done))⟩
      · obtain rfl : j = n := by omega
        have heq : Aside (xs = ys) := (show Aside _ from by
          refine List.ext_getElem? fun i => ?_
          by_cases hi : i < j
          · exact hsame.out i hi
          · have h1 := X.out.len
            have h2 := Y.out.len
            rw [List.getElem?_eq_none (by omega), List.getElem?_eq_none (by omega)])
        go_wp2
        exact bodyPost_ret (v := .bool true) (by simp [results, Tryz.results35, go_sem]) rfl ⟨ret_bool (decide_eq_true heq.out).symm, BW.out⟩
  · have hne : Aside (xs ≠ ys) := (show Aside _ from fun e => hnm (by rw [← hx.len, ← hy.len, e]))
    have hnm' : ((n : Int) != (m : Int)) = true := by simp; omega
    go_enter Tryz.func35, Tryz.ntmps35
    go_wp2
    exact bodyPost_ret (v := .bool false) (by simp [results, Tryz.results35, go_sem]) rfl ⟨ret_bool (decide_eq_false hne.out).symm, Ext.refl _⟩
end Go.Proofs.YtndpgdegcbaigaaGreatDoor

namespace Go.Proofs.YtndpgdegcbaigaaGreatDoor
open Go Go.RowKit

/-- What Make does. -/
def MakeSays : Prop := ∀ (l : List File) (a : Option Addr) (c : Nat) (w : World), l.length ≤ 1001 → (∀ g ∈ l, g.path.size ≤ 1048576 ∧ g.data.size ≤ 1048576) → Arr TFile w a l.length c l → Globals w →
  Calls Tryz.prog 34 #[.slice a l.length c] w (TreeErr w (treeMake l))

theorem listF_beq (a b : List File) : (a == b) = decide (a = b) := by
  rw [Bool.eq_iff_iff]; simp

set_option maxHeartbeats 2000000 in
theorem good_says (hMake : MakeSays) : GoodSays := by
  intro l a c w hl hs hA hg
  obtain ⟨R, hR⟩ : ∃ R, treeMake l = R := ⟨_, rfl⟩
  have hG : Aside (treeGood l = (R.2 == 0 && decide (R.1 = l))) := (show Aside _ from by
    show treeGood l = _
    unfold treeGood; rw [hR, listF_beq])
  by_cases h0 : R.2 = 0
  · have h0' : (R.2 == 0) = true := by simpa using h0
    go_enter Tryz.func18, Tryz.ntmps18
    go_wp2_with (first
      | (go_at_call 34; refine (hMake l a c _ (by omega) hs (hA.below (show Ext w _ by ((repeat (first | exact Ext.refl _ | assumption | refine Ext.drew' ?_ | refine Ext.alloc' ?_ _ | (with_reducible refine Ext.trans ?_ (Ext.drewN _ _)) | refine Ext.trans ?_ (by assumption))); done))) (hg.ext (by ((repeat (first | exact Ext.refl _ | assumption | refine Ext.drew' ?_ | refine Ext.alloc' ?_ _ | (with_reducible refine Ext.trans ?_ (Ext.drewN _ _)) | refine Ext.trans ?_ (by assumption))); done)))).mono ?_; rw [hR]; rintro e w1 ⟨a1, c1, rfl, hA1, hE1, hfr⟩; have hE0 : Ext w w1 := Ext.trans (by ((repeat (first | exact Ext.refl _ | assumption | refine Ext.drew' ?_ | refine Ext.alloc' ?_ _ | (with_reducible refine Ext.trans ?_ (Ext.drewN _ _)) | refine Ext.trans ?_ (by assumption))); done)) hE1; obtain ⟨k1, k2, k3⟩ := new_kept hE1 (new_block w (.cells #[.slice a l.length c] 25) _ rfl))
      | (go_at_call 35; refine (Equal_calls R.1 l a1 a _ _ _ _ _ (hA1.below (show Ext w1 _ by ((repeat (first | exact Ext.refl _ | assumption | refine Ext.drew' ?_ | refine Ext.alloc' ?_ _ | (with_reducible refine Ext.trans ?_ (Ext.drewN _ _)) | refine Ext.trans ?_ (by assumption))); done))) (hA.below (show Ext w _ by ((repeat (first | exact Ext.refl _ | assumption | refine Ext.drew' ?_ | refine Ext.alloc' ?_ _ | (with_reducible refine Ext.trans ?_ (Ext.drewN _ _)) | refine Ext.trans ?_ (by assumption))); done)))).mono ?_; rintro e w2 ⟨rfl, hE2⟩))
    exact bodyPost_ret (v := .bool (decide (R.1 = l))) (by simp [results, Tryz.results18, go_sem]) rfl ⟨ret_bool (by rw [hG.out, h0']; rfl), by ((repeat (first | exact Ext.refl _ | assumption | refine Ext.drew' ?_ | refine Ext.alloc' ?_ _ | (with_reducible refine Ext.trans ?_ (Ext.drewN _ _)) | refine Ext.trans ?_ (by assumption))); done)⟩
  · have h0' : (R.2 == 0) = false := by simpa using h0
    go_enter Tryz.func18, Tryz.ntmps18
    go_wp2_with (go_at_call 34; refine (hMake l a c _ (by omega) hs (hA.below (show Ext w _ by ((repeat (first | exact Ext.refl _ | assumption | refine Ext.drew' ?_ | refine Ext.alloc' ?_ _ | (with_reducible refine Ext.trans ?_ (Ext.drewN _ _)) | refine Ext.trans ?_ (by assumption))); done))) (hg.ext (by ((repeat (first | exact Ext.refl _ | assumption | refine Ext.drew' ?_ | refine Ext.alloc' ?_ _ | (with_reducible refine Ext.trans ?_ (Ext.drewN _ _)) | refine Ext.trans ?_ (by assumption))); done)))).mono ?_; rw [hR]; rintro e w1 ⟨a1, c1, rfl, hA1, hE1, hfr⟩; have hE0 : Ext w w1 := Ext.trans (by ((repeat (first | exact Ext.refl _ | assumption | refine Ext.drew' ?_ | refine Ext.alloc' ?_ _ | (with_reducible refine Ext.trans ?_ (Ext.drewN _ _)) | refine Ext.trans ?_ (by assumption))); done)) hE1)
    exact bodyPost_ret (v := .bool false) (by simp [results, Tryz.results18, go_sem]) rfl ⟨ret_bool (by rw [hG.out, h0']; rfl), by ((repeat (first | exact Ext.refl _ | assumption | refine Ext.drew' ?_ | refine Ext.alloc' ?_ _ | (with_reducible refine Ext.trans ?_ (Ext.drewN _ _)) | refine Ext.trans ?_ (by assumption))); done)⟩
end Go.Proofs.YtndpgdegcbaigaaGreatDoor

namespace Go.Proofs.YtndpgdegcbaigaaGreatDoor
open Go Go.RowKit

theorem cb_zero : ∀ (a b : List UInt8), Lib.compareBytes a b = 0 ↔ a = b
  | [], [] => by simp [Lib.compareBytes]
  | [], _ :: _ => by simp [Lib.compareBytes]
  | _ :: _, [] => by simp [Lib.compareBytes]
  | x :: a, y :: b => by
    unfold Lib.compareBytes
    by_cases h1 : x < y
    · rw [if_pos h1]
      refine ⟨fun h => by omega, fun h => ?_⟩
      cases h; exact absurd h1 (by simp)
    · rw [if_neg h1]
      by_cases h2 : y < x
      · rw [if_pos h2]
        refine ⟨fun h => by omega, fun h => ?_⟩
        cases h; exact absurd h2 (by simp)
      · rw [if_neg h2, cb_zero a b]
        have hxy : x = y := by
          rw [UInt8.lt_iff_toNat_lt] at h1 h2
          exact UInt8.toNat_inj.1 (by omega)
        subst hxy
        simp

theorem cb_swap : ∀ (a b : List UInt8), Lib.compareBytes a b < 0 ↔ 0 < Lib.compareBytes b a
  | [], [] => by simp [Lib.compareBytes]
  | [], _ :: _ => by simp [Lib.compareBytes]
  | _ :: _, [] => by simp [Lib.compareBytes]
  | x :: a, y :: b => by
    unfold Lib.compareBytes
    simp only [UInt8.lt_iff_toNat_lt]
    by_cases h1 : x.toNat < y.toNat
    · rw [if_pos h1, if_neg (show ¬ y.toNat < x.toNat by omega), if_pos h1]; omega
    · rw [if_neg h1]
      by_cases h2 : y.toNat < x.toNat
      · rw [if_pos h2, if_pos h2]; omega
      · rw [if_neg h2, if_neg h2, if_neg h1]; exact cb_swap a b

theorem cb_trans : ∀ (a b c : List UInt8), Lib.compareBytes a b < 0 → Lib.compareBytes b c < 0 → Lib.compareBytes a c < 0
  | [], [], _, h, _ => by simp [Lib.compareBytes] at h
  | [], _ :: _, [], _, h => by simp [Lib.compareBytes] at h
  | [], _ :: _, _ :: _, _, _ => by simp [Lib.compareBytes]
  | _ :: _, [], _, h, _ => by simp [Lib.compareBytes] at h
  | _ :: _, _ :: _, [], _, h => by simp [Lib.compareBytes] at h
  | x :: a, y :: b, z :: c, h1, h2 => by
    unfold Lib.compareBytes at *
    simp only [UInt8.lt_iff_toNat_lt] at *
    split at h1
    · split at h2
      · rw [if_pos (by omega)]; decide
      · split at h2
        · omega
        · rw [if_pos (by omega)]; decide
    · split at h1
      · omega
      · split at h2
        · rw [if_pos (by omega)]; decide
        · split at h2
          · omega
          · rw [if_neg (by omega), if_neg (by omega)]
            exact cb_trans a b c h1 h2

theorem less_cb : ∀ (a b : List UInt8), Op.bytesLess a b = decide (Lib.compareBytes a b < 0)
  | [], [] => by simp [Lib.compareBytes, Op.bytesLess]
  | [], _ :: _ => by simp [Lib.compareBytes, Op.bytesLess]
  | _ :: _, [] => by simp [Lib.compareBytes, Op.bytesLess]
  | x :: a, y :: b => by
    unfold Lib.compareBytes Op.bytesLess
    by_cases h1 : x < y
    · simp [h1]
    · by_cases h2 : y < x
      · have h3 : ¬ x = y := by rintro rfl; exact h1 h2
        simp [h1, h2, h3]
      · have hxy : x = y := by
          rw [UInt8.lt_iff_toNat_lt] at h1 h2
          exact UInt8.toNat_inj.1 (by omega)
        subst hxy
        simp [less_cb a b]

theorem cmpF_zero {a b : File} : cmpF a b = 0 ↔ a.path = b.path := by
  unfold cmpF
  rw [cb_zero]
  constructor
  · intro h
    obtain ⟨⟨⟨pa⟩⟩, _⟩ := a
    obtain ⟨⟨⟨pb⟩⟩, _⟩ := b
    simp only at h; subst h; rfl
  · intro h; rw [h]
theorem cmpF_swap {a b : File} : cmpF a b < 0 ↔ 0 < cmpF b a := cb_swap _ _
theorem cmpF_trans {a b c : File} (h1 : cmpF a b < 0) (h2 : cmpF b c < 0) : cmpF a c < 0 := cb_trans _ _ _ h1 h2
theorem cmpF_path {a b c : File} (h : b.path = c.path) : cmpF a b = cmpF a c := by unfold cmpF; rw [h]
theorem ltB_cmp (a b : File) : ltB a.path b.path = decide (cmpF a b < 0) := less_cb _ _
end Go.Proofs.YtndpgdegcbaigaaGreatDoor

namespace Go.Proofs.YtndpgdegcbaigaaGreatDoor
open Go.Sort

section
variable {α : Type} [Inhabited α]

/-- Two ranges of n places are exchanged. -/
def swF (d : Nat → α) (a b n k : Nat) : α := if a ≤ k ∧ k < a + n then d (k - a + b) else if b ≤ k ∧ k < b + n then d (k - b + a) else d k
/-- Two neighbouring ranges change places. -/
def rotF (d : Nat → α) (a m b k : Nat) : α := if a ≤ k ∧ k < a + (b - m) then d (k + (m - a)) else if a + (b - m) ≤ k ∧ k < b then d (k - (b - m)) else d k

omit [Inhabited α] in
theorem swF_zero (d : Nat → α) (a b k : Nat) : swF d a b 0 k = d k := by
  unfold swF; rw [if_neg (by omega), if_neg (by omega)]

theorem swF_step {d : Nat → α} {dk : Array α} {a b n : Nat} (h : ∀ k, dk[k]! = swF d a b n k) (hab : a + n < b) (hb : b + n < dk.size) (k : Nat) :
    (swp dk (a + n) (b + n))[k]! = swF d a b (n + 1) k := by
  rw [swp_get dk (show a + n < dk.size by omega) hb, h, h, h]
  unfold swF
  (repeat' split) <;> first | rfl | (exfalso; omega) | (congr 1; omega)

omit [Inhabited α] in
/-- The left range is the longer one. -/
theorem rot_left {d e : Nat → α} {m i j : Nat} (hj : j < i) (hi : i ≤ m) (h : ∀ k, e k = swF d (m - i) m j k) (k : Nat) : rotF e (m - (i - j)) m (m + j) k = rotF d (m - i) m (m + j) k := by
  unfold rotF
  rw [h, h, h]
  unfold swF
  (repeat' split) <;> first | rfl | (exfalso; omega) | (congr 1; omega)

omit [Inhabited α] in
/-- The right range is the longer one. -/
theorem rot_right {d e : Nat → α} {m i j : Nat} (hj : i < j) (hi : i ≤ m) (h : ∀ k, e k = swF d (m - i) (m + j - i) i k) (k : Nat) : rotF e (m - i) m (m + (j - i)) k = rotF d (m - i) m (m + j) k := by
  unfold rotF
  rw [h, h, h]
  unfold swF
  (repeat' split) <;> first | rfl | (exfalso; omega) | (congr 1; omega)

omit [Inhabited α] in
/-- Two ranges of one length. -/
theorem rot_same {d e : Nat → α} {m i : Nat} (hi : i ≤ m) (h : ∀ k, e k = swF d (m - i) m i k) (k : Nat) : e k = rotF d (m - i) m (m + i) k := by
  rw [h]
  unfold swF rotF
  (repeat' split) <;> first | rfl | (exfalso; omega) | (congr 1; omega)

omit [Inhabited α] in
theorem rotF_nil (d : Nat → α) (a m b k : Nat) (h : a = m ∨ m = b) : rotF d a m b k = d k := by
  unfold rotF
  (repeat' split) <;> first | rfl | (exfalso; omega) | (congr 1; omega)

variable {lt : α → α → Bool}

omit [Inhabited α] in
theorem SWO.asymm (hS : SWO lt) {x y : α} (h : lt x y = true) : lt y x = false := by
  cases h2 : lt y x with
  | false => rfl
  | true => have := hS.trans x y x h h2; rw [hS.irrefl] at this; cases this

omit [Inhabited α] in
/-- An ascending range, also at one place. -/
theorem sorted_le (hS : SWO lt) {a b : Nat} {d : Nat → α} (h : ∀ i j, a ≤ i → i < j → j < b → lt (d j) (d i) = false) {i j : Nat} (hi : a ≤ i) (hij : i ≤ j) (hj : j < b) : lt (d j) (d i) = false := by
  by_cases e : i = j
  · subst e; exact hS.irrefl _
  · exact h i j hi (by omega) hj

omit [Inhabited α] in
theorem lt_below (hS : SWO lt) {x y z : α} (h1 : lt x y = false) (h2 : lt x z = true) : lt y z = true := by
  cases h : lt y z with
  | true => rfl
  | false => have := hS.ntrans _ _ _ h1 h; rw [h2] at this; cases this
omit [Inhabited α] in
theorem lt_above (hS : SWO lt) {x y z : α} (h1 : lt x y = true) (h2 : lt z y = false) : lt x z = true := by
  cases h : lt x z with
  | true => rfl
  | false => have := hS.ntrans _ _ _ h h2; rw [h1] at this; cases this

/-- Where the merge's search begins and ends. -/
def lo0 (a m b : Nat) : Nat := if (a + b) / 2 < m then (a + b) / 2 + m - b else a
def hi0 (a m b : Nat) : Nat := if (a + b) / 2 < m then (a + b) / 2 else m

/-- What the search knows: up to lo the pairs stand well, from hi on they don't. -/
structure Srch (lt : α → α → Bool) (a m b : Nat) (d : Nat → α) (lo hi : Nat) : Prop where
  l : lo0 a m b ≤ lo
  h : hi ≤ hi0 a m b
  le : lo ≤ hi
  low : ∀ c, lo0 a m b ≤ c → c < lo → lt (d ((a + b) / 2 + m - 1 - c)) (d c) = false
  high : ∀ c, hi ≤ c → c < hi0 a m b → lt (d ((a + b) / 2 + m - 1 - c)) (d c) = true

omit [Inhabited α] in
theorem Srch.start {a m b : Nat} {d : Nat → α} (ham : a < m) (hmb : m < b) : Srch lt a m b d (lo0 a m b) (hi0 a m b) :=
  ⟨Nat.le_refl _, Nat.le_refl _, by unfold lo0 hi0; split <;> omega, fun c h1 h2 => by omega, fun c h1 h2 => by omega⟩

omit [Inhabited α] in
theorem Srch.up (hS : SWO lt) {a m b : Nat} {d : Nat → α} {lo hi c : Nat} (h : Srch lt a m b d lo hi) (ham : a < m) (hmb : m < b)
    (h1 : ∀ i j, a ≤ i → i < j → j < m → lt (d j) (d i) = false) (h2 : ∀ i j, m ≤ i → i < j → j < b → lt (d j) (d i) = false)
    (hl : lo ≤ c) (hc : c < hi) (ht : lt (d ((a + b) / 2 + m - 1 - c)) (d c) = false) : Srch lt a m b d (c + 1) hi :=
  ⟨by have := h.l; omega, h.h, by omega, fun e he1 he2 => by
    by_cases hlo : e < lo
    · exact h.low e he1 hlo
    · have hh := h.h
      have hll := h.l
      have b1 : lt (d c) (d e) = false := sorted_le hS h1 (by unfold lo0 at hll; split at hll <;> omega) (by omega) (by unfold hi0 at hh; split at hh <;> omega)
      have b2 : lt (d ((a + b) / 2 + m - 1 - e)) (d ((a + b) / 2 + m - 1 - c)) = false :=
        sorted_le hS h2 (by unfold hi0 at hh; split at hh <;> omega) (by omega) (by unfold lo0 at hll; split at hll <;> omega)
      exact hS.ntrans _ _ _ b2 (hS.ntrans _ _ _ ht b1), h.high⟩

omit [Inhabited α] in
theorem Srch.down (hS : SWO lt) {a m b : Nat} {d : Nat → α} {lo hi c : Nat} (h : Srch lt a m b d lo hi) (ham : a < m) (hmb : m < b)
    (h1 : ∀ i j, a ≤ i → i < j → j < m → lt (d j) (d i) = false) (h2 : ∀ i j, m ≤ i → i < j → j < b → lt (d j) (d i) = false)
    (hl : lo ≤ c) (hc : c < hi) (ht : lt (d ((a + b) / 2 + m - 1 - c)) (d c) = true) : Srch lt a m b d lo c :=
  ⟨h.l, by have := h.h; omega, hl, h.low, fun e he1 he2 => by
    by_cases hlo : hi ≤ e
    · exact h.high e hlo he2
    · have hh := h.h
      have hll := h.l
      have b1 : lt (d e) (d c) = false := sorted_le hS h1 (by unfold lo0 at hll; split at hll <;> omega) (by omega) (by unfold hi0 at hh; split at hh <;> omega)
      have b2 : lt (d ((a + b) / 2 + m - 1 - c)) (d ((a + b) / 2 + m - 1 - e)) = false :=
        sorted_le hS h2 (by unfold hi0 at hh; split at hh <;> omega) (by omega) (by unfold lo0 at hll; split at hll <;> omega)
      cases h3 : lt (d ((a + b) / 2 + m - 1 - e)) (d e) with
      | true => rfl
      | false =>
        have := hS.ntrans _ _ _ b2 (hS.ntrans _ _ _ h3 b1)
        rw [ht] at this; cases this⟩

/-- Where the search has ended: what the rotation brings. -/
structure Halves (lt : α → α → Bool) (a s mid e b : Nat) (d : Nat → α) : Prop where
  a_s : a ≤ s
  sm : s ≤ mid
  me : mid ≤ e
  eb : e ≤ b
  s1 : ∀ i j, a ≤ i → i < j → j < s → lt (d j) (d i) = false
  s2 : ∀ i j, s ≤ i → i < j → j < mid → lt (d j) (d i) = false
  s3 : ∀ i j, mid ≤ i → i < j → j < e → lt (d j) (d i) = false
  s4 : ∀ i j, e ≤ i → i < j → j < b → lt (d j) (d i) = false
  cross : ∀ i j, a ≤ i → i < mid → mid ≤ j → j < b → lt (d j) (d i) = false

omit [Inhabited α] in
theorem Srch.halves (hS : SWO lt) {a m b : Nat} {d d1 : Nat → α} {s : Nat} (h : Srch lt a m b d s s) (ham : a < m) (hmb : m < b)
    (h1 : ∀ i j, a ≤ i → i < j → j < m → lt (d j) (d i) = false) (h2 : ∀ i j, m ≤ i → i < j → j < b → lt (d j) (d i) = false)
    (hd : ∀ k, d1 k = rotF d s m ((a + b) / 2 + m - s) k) : Halves lt a s ((a + b) / 2) ((a + b) / 2 + m - s) b d1 := by
  have hh := h.h
  have hll := h.l
  have hlow := h.low
  have hhigh := h.high
  have f1 : a ≤ s := by unfold lo0 at hll; split at hll <;> omega
  have f2 : s ≤ (a + b) / 2 := by unfold hi0 at hh; split at hh <;> omega
  have f2m : s ≤ m := by unfold hi0 at hh; split at hh <;> omega
  have f4 : (a + b) / 2 + m - s ≤ b := by unfold lo0 at hll; split at hll <;> omega
  have v1 : ∀ k, k < s → d1 k = d k := fun k hk => by rw [hd]; unfold rotF; rw [if_neg (by omega), if_neg (by omega)]
  have v2 : ∀ k, s ≤ k → k < (a + b) / 2 → d1 k = d (k + (m - s)) := fun k hk hk2 => by rw [hd]; unfold rotF; rw [if_pos (by omega)]
  have v3 : ∀ k, (a + b) / 2 ≤ k → k < (a + b) / 2 + m - s → d1 k = d (k - ((a + b) / 2 - s)) := fun k hk hk2 => by
    rw [hd]; unfold rotF; rw [if_neg (by omega), if_pos (by omega)]; congr 1; omega
  have v4 : ∀ k, (a + b) / 2 + m - s ≤ k → d1 k = d k := fun k hk => by rw [hd]; unfold rotF; rw [if_neg (by omega), if_neg (by omega)]
  refine ⟨f1, f2, by omega, f4, ?_, ?_, ?_, ?_, ?_⟩
  · intro i j hi hij hj
    rw [v1 i (by omega), v1 j hj]; exact h1 i j hi hij (by omega)
  · intro i j hi hij hj
    rw [v2 i hi (by omega), v2 j (by omega) hj]; exact h2 _ _ (by omega) (by omega) (by omega)
  · intro i j hi hij hj
    rw [v3 i hi (by omega), v3 j (by omega) hj]; exact h1 _ _ (by omega) (by omega) (by omega)
  · intro i j hi hij hj
    rw [v4 i hi, v4 j (by omega)]; exact h2 _ _ (by omega) hij hj
  · intro i j hi hi2 hj hj2
    by_cases hi3 : i < s
    · rw [v1 i hi3]
      by_cases hj3 : j < (a + b) / 2 + m - s
      · rw [v3 j hj hj3]; exact sorted_le hS h1 hi (by omega) (by omega)
      · rw [v4 j (by omega)]
        have hc : lo0 a m b ≤ s - 1 := by unfold lo0 at *; split at hll <;> split <;> omega
        have hk := hlow (s - 1) hc (by omega)
        have b1 : lt (d j) (d ((a + b) / 2 + m - 1 - (s - 1))) = false := sorted_le hS h2 (by omega) (by omega) hj2
        have b2 : lt (d (s - 1)) (d i) = false := sorted_le hS h1 hi (by omega) (by omega)
        exact hS.ntrans _ _ _ b1 (hS.ntrans _ _ _ hk b2)
    · rw [v2 i (by omega) hi2]
      by_cases hj3 : j < (a + b) / 2 + m - s
      · rw [v3 j hj hj3]
        have hc : s < hi0 a m b := by unfold hi0 at *; split at hh <;> split <;> omega
        have hk := SWO.asymm hS (hhigh s (Nat.le_refl _) hc)
        have b1 : lt (d (j - ((a + b) / 2 - s))) (d s) = false := sorted_le hS h1 (by omega) (by omega) (by omega)
        have b2 : lt (d ((a + b) / 2 + m - 1 - s)) (d (i + (m - s))) = false := sorted_le hS h2 (by omega) (by omega) (by omega)
        exact hS.ntrans _ _ _ b1 (hS.ntrans _ _ _ hk b2)
      · rw [v4 j (by omega)]; exact sorted_le hS h2 (by omega) (by omega) hj2

omit [Inhabited α] in
/-- Where the search stands. -/
theorem Srch.bounds {a m b : Nat} {d : Nat → α} {lo hi c : Nat} (h : Srch lt a m b d lo hi) (ham : a < m) (hmb : m < b) (hl : lo ≤ c) (hc : c < hi) : a ≤ c ∧ c < m ∧ c < (a + b) / 2 + m ∧ m ≤ (a + b) / 2 + m - 1 - c ∧ (a + b) / 2 + m - 1 - c < b := by
  have hh := h.h
  have hll := h.l
  unfold hi0 at hh; unfold lo0 at hll
  split at hh <;> split at hll <;> omega
omit [Inhabited α] in
/-- Where it ends. -/
theorem Srch.ends {a m b : Nat} {d : Nat → α} {s : Nat} (h : Srch lt a m b d s s) (ham : a < m) (hmb : m < b) : a ≤ s ∧ s ≤ m ∧ s ≤ (a + b) / 2 ∧ m ≤ (a + b) / 2 + m - s ∧ (a + b) / 2 + m - s ≤ b ∧ a < (a + b) / 2 ∧ (a + b) / 2 < b := by
  have hh := h.h
  have hll := h.l
  unfold hi0 at hh; unfold lo0 at hll
  split at hh <;> split at hll <;> omega

/-- Where a half has one range alone it stands in order. -/
theorem Halves.left {a s mid e b : Nat} {d1 : Array α} (h : Halves lt a s mid e b (fun k => d1[k]!)) (hn : ¬ (a < s ∧ s < mid)) : SortedIn lt a mid d1 := by
  have h1 := h.a_s; have h2 := h.sm
  by_cases e1 : a = s
  · subst e1; exact h.s2
  · obtain rfl : s = mid := by omega
    exact h.s1
theorem Halves.right1 {a s mid e b : Nat} {d1 d2 : Array α} (h : Halves lt a s mid e b (fun k => d1[k]!)) (p : PermIn a mid d1 d2) : SortedIn lt mid e d2 := fun i j hi hij hj => by
  rw [p.2.1 i (Or.inr hi), p.2.1 j (Or.inr (by omega))]; exact h.s3 i j hi hij hj
theorem Halves.right2 {a s mid e b : Nat} {d1 d2 : Array α} (h : Halves lt a s mid e b (fun k => d1[k]!)) (p : PermIn a mid d1 d2) : SortedIn lt e b d2 := fun i j hi hij hj => by
  have := h.me
  rw [p.2.1 i (Or.inr (by omega)), p.2.1 j (Or.inr (by omega))]; exact h.s4 i j hi hij hj
theorem Halves.right {a s mid e b : Nat} {d1 d2 : Array α} (h : Halves lt a s mid e b (fun k => d1[k]!)) (hn : ¬ (mid < e ∧ e < b)) (p : PermIn a mid d1 d2) : SortedIn lt mid b d2 := by
  have h1 := h.me; have h2 := h.eb
  by_cases e1 : mid = e
  · subst e1; exact h.right2 p
  · obtain rfl : e = b := by omega
    exact h.right1 p

/-- Both halves put in order: the whole is. -/
theorem Halves.join {a s mid e b : Nat} {d1 d2 d3 : Array α} (h : Halves lt a s mid e b (fun k => d1[k]!)) (hb : b ≤ d1.size)
    (p2 : PermIn a mid d1 d2) (s2 : SortedIn lt a mid d2) (p3 : PermIn mid b d2 d3) (s3 : SortedIn lt mid b d3) : PermIn a b d1 d3 ∧ SortedIn lt a b d3 := by
  have hm1 : a ≤ mid := Nat.le_trans h.a_s h.sm
  have hm2 : mid ≤ b := Nat.le_trans h.me h.eb
  refine ⟨permIn_trans _ _ _ a b (permIn_mono _ _ a mid a b (Nat.le_refl _) hm2 hb p2) (permIn_mono _ _ mid b a b hm1 (Nat.le_refl _) (by rw [p2.1]; exact hb) p3), ?_⟩
  have c2 : ∀ j, mid ≤ j → j < b → ∀ i, a ≤ i → i < mid → lt d1[j]! d2[i]! = false := fun j hj hj2 =>
    permIn_all d1 d2 a mid (fun x => lt d1[j]! x = false) (by omega) p2 fun i hi hi2 => h.cross i j hi hi2 hj hj2
  have c3 : ∀ i, a ≤ i → i < mid → ∀ j, mid ≤ j → j < b → lt d3[j]! d2[i]! = false := fun i hi hi2 =>
    permIn_all d2 d3 mid b (fun x => lt x d2[i]! = false) (by rw [p2.1]; exact hb) p3 fun j hj hj2 => by
      rw [p2.2.1 j (Or.inr hj)]; exact c2 j hj hj2 i hi hi2
  intro i j hi hij hj
  by_cases hi2 : i < mid
  · by_cases hj2 : j < mid
    · rw [p3.2.1 i (Or.inl hi2), p3.2.1 j (Or.inl hj2)]; exact s2 i j hi hij hj2
    · rw [p3.2.1 i (Or.inl hi2)]; exact c3 i hi hi2 j (by omega) hj
  · exact s3 i j (by omega) hij hj

/-- One value is carried up from a to the place k: the ones between move down. -/
def carryUp (d : Nat → α) (a k x : Nat) : α := if a ≤ x ∧ x < k then d (x + 1) else if x = k then d a else d x
omit [Inhabited α] in
theorem carryUp_zero (d : Nat → α) (a x : Nat) : carryUp d a a x = d x := by
  unfold carryUp; rw [if_neg (by omega)]; split
  · rename_i h; rw [h]
  · rfl
theorem carryUp_step {d : Nat → α} {dk : Array α} {a k : Nat} (h : ∀ x, dk[x]! = carryUp d a k x) (ha : a ≤ k) (hk : k + 1 < dk.size) (x : Nat) : (swp dk k (k + 1))[x]! = carryUp d a (k + 1) x := by
  rw [swp_get dk (show k < dk.size by omega) hk, h, h, h]
  unfold carryUp
  by_cases h1 : x = k + 1
  · subst h1; rw [if_pos rfl, if_neg (by omega), if_pos rfl, if_neg (by omega), if_pos rfl]
  · rw [if_neg h1]
    by_cases h2 : x = k
    · subst h2; rw [if_pos rfl, if_neg (by omega), if_neg (by omega), if_pos (by omega)]
    · rw [if_neg h2]
      by_cases h3 : a ≤ x ∧ x < k
      · rw [if_pos h3, if_pos (by omega)]
      · rw [if_neg h3, if_neg h2, if_neg (by omega), if_neg h1]
omit [Inhabited α] in
theorem carryUp_sorted {a b i : Nat} {d e : Nat → α} (hi : a + 1 ≤ i) (hib : i ≤ b) (h2 : ∀ p q, a + 1 ≤ p → p < q → q < b → lt (d q) (d p) = false)
    (l : ∀ k, a + 1 ≤ k → k < i → lt (d a) (d k) = false) (g : ∀ k, i ≤ k → k < b → lt (d k) (d a) = false) (he : ∀ x, e x = carryUp d a (i - 1) x) :
    ∀ p q, a ≤ p → p < q → q < b → lt (e q) (e p) = false := by
  intro p q hp hpq hq
  rw [he, he]
  unfold carryUp
  by_cases p1 : p < i - 1
  · rw [if_pos (show a ≤ p ∧ p < i - 1 by omega)]
    by_cases q1 : q < i - 1
    · rw [if_pos (by omega)]; exact h2 _ _ (by omega) (by omega) (by omega)
    · rw [if_neg (by omega)]
      by_cases q2 : q = i - 1
      · rw [if_pos q2]; exact l _ (by omega) (by omega)
      · rw [if_neg q2]; exact h2 _ _ (by omega) (by omega) hq
  · rw [if_neg (show ¬ (a ≤ p ∧ p < i - 1) by omega), if_neg (show ¬ (a ≤ q ∧ q < i - 1) by omega), if_neg (show ¬ q = i - 1 by omega)]
    by_cases p2 : p = i - 1
    · rw [if_pos p2]; exact g _ (by omega) hq
    · rw [if_neg p2]; exact h2 _ _ (by omega) hpq hq

/-- One value is carried down from m to the place k: the ones between move up. -/
def carryDown (d : Nat → α) (m k x : Nat) : α := if k < x ∧ x ≤ m then d (x - 1) else if x = k then d m else d x
omit [Inhabited α] in
theorem carryDown_zero (d : Nat → α) (m x : Nat) : carryDown d m m x = d x := by
  unfold carryDown; rw [if_neg (by omega)]; split
  · rename_i h; rw [h]
  · rfl
theorem carryDown_step {d : Nat → α} {dk : Array α} {m k : Nat} (h : ∀ x, dk[x]! = carryDown d m (k + 1) x) (hk : k + 1 ≤ m) (hm : m < dk.size) (x : Nat) : (swp dk (k + 1) k)[x]! = carryDown d m k x := by
  rw [swp_get dk (show k + 1 < dk.size by omega) (show k < dk.size by omega), h, h, h]
  unfold carryDown
  by_cases h1 : x = k
  · subst h1; rw [if_pos rfl, if_neg (by omega), if_pos rfl, if_neg (by omega), if_pos rfl]
  · rw [if_neg h1]
    by_cases h2 : x = k + 1
    · subst h2; rw [if_pos rfl, if_neg (by omega), if_neg (by omega), if_pos (by omega)]; congr 1
    · rw [if_neg h2]
      by_cases h3 : k + 1 < x ∧ x ≤ m
      · rw [if_pos h3, if_pos (by omega)]
      · rw [if_neg h3, if_neg h2, if_neg (by omega), if_neg h1]
omit [Inhabited α] in
theorem carryDown_sorted {a m i : Nat} {d e : Nat → α} (hi : a ≤ i) (him : i ≤ m) (h1 : ∀ p q, a ≤ p → p < q → q < m → lt (d q) (d p) = false)
    (l : ∀ k, a ≤ k → k < i → lt (d m) (d k) = false) (g : ∀ k, i ≤ k → k < m → lt (d k) (d m) = false) (he : ∀ x, e x = carryDown d m i x) :
    ∀ p q, a ≤ p → p < q → q < m + 1 → lt (e q) (e p) = false := by
  intro p q hp hpq hq
  rw [he, he]
  unfold carryDown
  by_cases p1 : p < i
  · rw [if_neg (show ¬ (i < p ∧ p ≤ m) by omega), if_neg (show ¬ p = i by omega)]
    by_cases q1 : q < i
    · rw [if_neg (by omega), if_neg (by omega)]; exact h1 _ _ (by omega) (by omega) (by omega)
    · by_cases q2 : q = i
      · rw [if_neg (by omega), if_pos q2]; exact l _ (by omega) (by omega)
      · rw [if_pos (by omega)]; exact h1 _ _ (by omega) (by omega) (by omega)
  · rw [if_pos (show i < q ∧ q ≤ m by omega)]
    by_cases p2 : p = i
    · rw [if_neg (by omega), if_pos p2]; exact g _ (by omega) (by omega)
    · rw [if_pos (by omega)]; exact h1 _ _ (by omega) (by omega) (by omega)
end
end Go.Proofs.YtndpgdegcbaigaaGreatDoor

namespace Go.Proofs.YtndpgdegcbaigaaGreatDoor
open Go Go.RowKit

theorem cmpF_ntrans {x y z : File} (h1 : ¬ cmpF x y < 0) (h2 : ¬ cmpF y z < 0) : ¬ cmpF x z < 0 := by
  intro h3
  have h4 : ¬ 0 < cmpF y x := fun h => h1 (cmpF_swap.2 h)
  by_cases h5 : cmpF y x = 0
  · have hp := cmpF_zero.1 h5
    apply h2
    unfold cmpF at *
    rw [hp]; exact h3
  · have h6 : cmpF y x < 0 := by omega
    exact h2 (cmpF_trans h6 h3)
theorem cmpF_irrefl (x : File) : ¬ cmpF x x < 0 := by rw [cmpF_zero.2 rfl]; decide

theorem swoF : Go.Sort.SWO (ltOf cmpF) :=
  ⟨fun x => decide_eq_false (cmpF_irrefl x), fun _ _ _ h1 h2 => decide_eq_true (cmpF_trans (of_decide_eq_true h1) (of_decide_eq_true h2)),
    fun _ _ _ h1 h2 => decide_eq_false (cmpF_ntrans (of_decide_eq_false h1) (of_decide_eq_false h2))⟩

/-- The first stands not behind the second. -/
def leF (x y : File) : Prop := ¬ cmpF y x < 0
theorem leF_trans {x y z : File} (h1 : leF x y) (h2 : leF y z) : leF x z := cmpF_ntrans h2 h1
theorem leF_of_lt {x y : File} (h : cmpF x y < 0) : leF x y := fun h2 => cmpF_irrefl x (cmpF_trans h h2)

theorem insF_perm (f : File) : ∀ s : List File, (insF f s).Perm (f :: s)
  | [] => List.Perm.refl _
  | g :: gs => by
    unfold insF
    split
    · exact List.Perm.refl _
    · exact (List.Perm.cons g (insF_perm f gs)).trans (List.Perm.swap f g gs)
theorem insF_sorted (f : File) : ∀ s : List File, s.Pairwise leF → (insF f s).Pairwise leF
  | [], _ => List.pairwise_singleton _ _
  | g :: gs, h => by
    unfold insF
    obtain ⟨h1, h2⟩ := List.pairwise_cons.1 h
    split
    · rename_i hl
      rw [ltB_cmp] at hl
      have hfg := leF_of_lt (of_decide_eq_true hl)
      refine List.pairwise_cons.2 ⟨fun x hx => ?_, h⟩
      rcases List.mem_cons.1 hx with rfl | hx
      · exact hfg
      · exact leF_trans hfg (h1 x hx)
    · rename_i hl
      rw [ltB_cmp] at hl
      have hgf : leF g f := fun h => hl (decide_eq_true h)
      refine List.pairwise_cons.2 ⟨fun x hx => ?_, insF_sorted f gs h2⟩
      rcases List.mem_cons.1 ((insF_perm f gs).mem_iff.1 hx) with rfl | hx
      · exact hgf
      · exact h1 x hx

theorem sortF_both : ∀ (l s : List File), s.Pairwise leF → (l.foldl (fun s f => insF f s) s).Perm (l ++ s) ∧ (l.foldl (fun s f => insF f s) s).Pairwise leF
  | [], s, h => ⟨List.Perm.refl _, h⟩
  | f :: l, s, h => by
    obtain ⟨h1, h2⟩ := sortF_both l (insF f s) (insF_sorted f s h)
    refine ⟨h1.trans ?_, h2⟩
    refine (List.Perm.append_left l (insF_perm f s)).trans ?_
    exact List.perm_middle
theorem sortF_perm (l : List File) : (sortF l).Perm l := by
  have := (sortF_both l [] List.Pairwise.nil).1
  unfold sortF
  simpa using this
theorem sortF_sorted (l : List File) : (sortF l).Pairwise leF := (sortF_both l [] List.Pairwise.nil).2

/-- In a sorted list two that are alike stand beside one another. -/
theorem twice_iff : ∀ s : List File, s.Pairwise leF → (twice s = false ↔ s.Pairwise (fun x y => cmpF x y < 0))
  | [], _ => by simp [twice]
  | [f], _ => by simp [twice]
  | f :: g :: l, h => by
    obtain ⟨h1, h2⟩ := List.pairwise_cons.1 h
    have ih := twice_iff (g :: l) h2
    unfold twice
    rw [Bool.or_eq_false_iff, ih]
    constructor
    · rintro ⟨h3, h4⟩
      refine List.pairwise_cons.2 ⟨?_, h4⟩
      have hfg : cmpF f g < 0 := by
        have h5 : ¬ cmpF g f < 0 := h1 g (List.mem_cons_self ..)
        have h6 : cmpF f g ≠ 0 := fun h => by
          rw [beqB] at h3
          exact (of_decide_eq_false h3) (cmpF_zero.1 h)
        have h7 : ¬ 0 < cmpF f g := fun h => h5 (cmpF_swap.2 h)
        omega
      intro x hx
      rcases List.mem_cons.1 hx with rfl | hx
      · exact hfg
      · exact cmpF_trans hfg ((List.pairwise_cons.1 h4).1 x hx)
    · intro h3
      obtain ⟨h4, h5⟩ := List.pairwise_cons.1 h3
      refine ⟨?_, h5⟩
      rw [beqB]
      refine decide_eq_false fun e => ?_
      have := h4 g (List.mem_cons_self ..)
      rw [cmpF_zero.2 e] at this
      exact absurd this (by decide)

/-- Two strictly rising lists of the same files are one. -/
theorem rising_unique : ∀ (s t : List File), s.Pairwise (fun x y => cmpF x y < 0) → t.Pairwise (fun x y => cmpF x y < 0) → s.Perm t → s = t
  | [], t, _, _, hp => (List.Perm.nil_eq hp)
  | x :: s, [], _, _, hp => by have := hp.length_eq; simp at this
  | x :: s, y :: t, hs, ht, hp => by
    obtain ⟨h1, h2⟩ := List.pairwise_cons.1 hs
    obtain ⟨h3, h4⟩ := List.pairwise_cons.1 ht
    have hxy : x = y := by
      rcases List.mem_cons.1 (hp.mem_iff.1 (List.mem_cons_self ..)) with e | hx
      · exact e
      · rcases List.mem_cons.1 (hp.mem_iff.2 (List.mem_cons_self (a := y) (l := t))) with e | hy
        · exact e.symm
        · exact absurd (cmpF_trans (h1 y hy) (h3 x hx)) (cmpF_irrefl x)
    subst hxy
    rw [rising_unique s t h2 h4 (List.Perm.cons_inv hp)]

theorem pair_paths (s : List File) (hs : s.Pairwise leF) : s.Pairwise (fun x y => cmpF x y < 0) ↔ (s.map (·.path)).Nodup := by
  unfold List.Nodup
  rw [List.pairwise_map]
  constructor
  · intro h
    refine h.imp fun {x y} hxy e => ?_
    have e2 : cmpF x y = 0 := cmpF_zero.2 e
    omega
  · intro h
    refine (List.pairwise_and_iff.2 ⟨hs, h⟩).imp ?_
    rintro x y ⟨h1, h2⟩
    have h5 : ¬ cmpF y x < 0 := h1
    have h6 : cmpF x y ≠ 0 := fun h => h2 (cmpF_zero.1 h)
    have h7 : ¬ 0 < cmpF x y := fun h => h5 (cmpF_swap.2 h)
    omega

/-- Whatever sorted list of these files a sort hands over: Make goes on alike. -/
theorem sorted_like (l s : List File) (hp : s.Perm l) (hs : s.Pairwise leF) : twice s = twice (sortF l) ∧ (twice s = false → s = sortF l) := by
  have hps : s.Perm (sortF l) := hp.trans (sortF_perm l).symm
  have k1 := (twice_iff s hs).trans (pair_paths s hs)
  have k2 := (twice_iff (sortF l) (sortF_sorted l)).trans (pair_paths (sortF l) (sortF_sorted l))
  have k3 : (s.map (·.path)).Nodup ↔ ((sortF l).map (·.path)).Nodup := (hps.map _).nodup_iff
  refine ⟨?_, fun h => ?_⟩
  · have : (twice s = false) ↔ (twice (sortF l) = false) := k1.trans (k3.trans k2.symm)
    cases h1 : twice s <;> cases h2 : twice (sortF l) <;> simp_all
  · have h2 : twice (sortF l) = false := k2.2 (k3.1 (k1.1 h))
    exact rising_unique _ _ ((twice_iff s hs).1 h) ((twice_iff _ (sortF_sorted l)).1 h2) hps

/-- A row that is a permutation, and ascends. -/
theorem row_sorted (d d' : Array File) (hp : Go.Sort.PermIn 0 d.size d d') (hs : Go.Sort.SortedIn (ltOf cmpF) 0 d.size d') : d'.toList.Perm d.toList ∧ d'.toList.Pairwise leF := by
  obtain ⟨h1, _, h3⟩ := hp
  refine ⟨?_, ?_⟩
  · have e1 : d'.extract 0 d.size = d' := by rw [← h1]; simp
    have e2 : d.extract 0 d.size = d := by simp
    rw [e1, e2] at h3
    exact h3
  · rw [List.pairwise_iff_getElem]
    intro i j hi hj hij
    have hi' : i < d'.size := by simpa using hi
    have hj' : j < d'.size := by simpa using hj
    have := hs i j (Nat.zero_le _) hij (by omega)
    rw [getElem!_pos d' i hi', getElem!_pos d' j hj'] at this
    have h5 := of_decide_eq_false this
    show ¬ cmpF d'.toList[j] d'.toList[i] < 0
    simpa using h5

/-- The files of a good tree rise strictly. -/
theorem good_rising {l : List File} (h : treeGood l = true) : l.Pairwise (fun x y => cmpF x y < 0) := by
  unfold treeGood at h
  rw [Bool.and_eq_true] at h
  have h1 : (treeMake l).2 = 0 := by simpa using h.1
  have h2 : (treeMake l).1 = l := by simpa using h.2
  unfold treeMake at h1 h2
  split at h1
  · simp at h1
  · rename_i hlen
    rw [if_neg hlen] at h2
    cases hf : l.findSome? fileErr with
    | some e =>
      rw [hf] at h1 h2
      simp only at h1
      have : fileErr = fileErr := rfl
      obtain ⟨x, hx, hx2⟩ := List.exists_of_findSome?_eq_some hf
      unfold fileErr at hx2
      split at hx2
      · split at hx2
        · cases hx2
        · cases hx2; simp at h1
      · cases hx2; simp at h1
    | none =>
      rw [hf] at h1 h2
      simp only at h1 h2
      split at h1
      · simp at h1
      · rename_i ht
        rw [if_neg ht] at h2
        split at h1
        · simp at h1
        · rename_i hc
          rw [if_neg hc] at h2
          simp only at h2
          rw [← h2]
          exact (twice_iff _ (sortF_sorted l)).1 (by simpa using ht)
end Go.Proofs.YtndpgdegcbaigaaGreatDoor
