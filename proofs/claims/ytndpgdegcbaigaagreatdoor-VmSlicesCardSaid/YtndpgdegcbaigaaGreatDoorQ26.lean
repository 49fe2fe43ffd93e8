/- Package tree: Make: what it refuses ahead of its sort. · Package tree: Make: its sort, and what it asks of the sorted files. · slices.BinarySearchFunc at files that rise by their paths. -/
import Derived.Test.YtndpgdegcbaigaaGreatDoorQ25
import Derived.Test.YtndpgdegcbaigaaGreatDoorQ21
namespace Go.Proofs.YtndpgdegcbaigaaGreatDoor
open Go Go.RowKit

/-- The first file that is refused. -/
theorem findSome_first {e : Int} : ∀ l : List File, l.findSome? fileErr = some e → ∃ (q : Nat) (x : File), l[q]? = some x ∧ fileErr x = some e ∧ ∀ j y, j < q → l[j]? = some y → fileErr y = none
  | [], h => by simp at h
  | x :: l, h => by
    rw [List.findSome?_cons] at h
    cases hx : fileErr x with
    | some e' =>
      rw [hx] at h; cases h
      exact ⟨0, x, rfl, hx, fun j y hj => absurd hj (Nat.not_lt_zero j)⟩
    | none =>
      rw [hx] at h
      obtain ⟨q, y, h1, h2, h3⟩ := findSome_first l h
      refine ⟨q + 1, y, by simpa using h1, h2, fun j z hj hz => ?_⟩
      cases j with
      | zero => simp at hz; subst hz; exact hx
      | succ j => exact h3 j z (by omega) (by simpa using hz)

/-- The cells of a file's block, kept. -/
theorem new_kept2 {w w9 : World} {v0 v1 : Value} {t : TypeId} (hI : Ext (w.alloc (.cells #[v0, v1] t)) w9) : w9.cell? ⟨w.heap.size, 0, none⟩ = some v0 ∧ w9.cell? ⟨w.heap.size, 1, none⟩ = some v1 ∧ w.heap.size < w9.heap.size := by
  have hW : (w.alloc (.cells #[v0, v1] t)).heap[w.heap.size]? = some (.cells #[v0, v1] t) := new_block w _ _ rfl
  have hk := (Array.getElem?_eq_some_iff.1 hW).1
  have h1 := (hI.block _ hk).trans hW
  exact ⟨by rw [cell_of_row _ _ 0 _ t (0, 0) h1]; rfl, by rw [cell_of_row _ _ 1 _ t (0, 0) h1]; rfl, Nat.lt_of_lt_of_le hk hI.size⟩

/-- A tree that a call made ahead of its work: its cell. -/
structure TBox (p : Nat) (w : World) : Prop where
  cell : w.cell? ⟨p, 0, none⟩ = some (.slice none 0 0)
  free : w.frozen? ⟨p, 0, none⟩ = false
  low : p < w.heap.size
theorem TBox.new {w W : World} (h : Ext (w.alloc (.cells #[.slice none 0 0] 25)) W) : TBox w.heap.size W := by
  obtain ⟨k1, k2, k3⟩ := new_kept h (new_block w (.cells #[.slice none 0 0] 25) _ rfl)
  exact ⟨k1, k2, k3⟩

section
variable {l : List File} {w : World}

set_option maxHeartbeats 2000000 in
theorem Make_many (a : Option Addr) (c : Nat) (hl : l.length ≤ 1001) (h32 : 32 < l.length) : Calls Tryz.prog 34 #[.slice a l.length c] w (TreeErr w ([], 13)) := by
  have hz : (32 : Int) < (l.length : Int) := by omega
  go_enter Tryz.func34, Tryz.ntmps34
  go_wp2
  exact bodyPost_ret (v := .tuple #[.agg #[.slice none 0 0], .int .i64 13]) (by simp [results, Tryz.results34, go_sem]) rfl (TreeErr.nil (by ((repeat (first | exact Ext.refl _ | assumption | refine Ext.drew' ?_ | refine Ext.alloc' ?_ _ | (with_reducible refine Ext.trans ?_ (Ext.drewN _ _)) | refine Ext.trans ?_ (by assumption))); done)))

set_option maxHeartbeats 4000000 in
set_option maxRecDepth 20000 in
theorem Make_refused (a : Option Addr) (c : Nat) (e : Int) (hA : Arr TFile w a l.length c l) (hg : Globals w) (hs : ∀ g ∈ l, g.path.size ≤ 1048576 ∧ g.data.size ≤ 1048576) (h32 : l.length ≤ 32) (he : l.findSome? fileErr = some e) :
    Calls Tryz.prog 34 #[.slice a l.length c] w (TreeErr w ([], e)) := by
  obtain ⟨q, x, hq, hx, hall⟩ := findSome_first l he
  have X := aside hA
  have G := aside hg
  have HS := aside hs
  have HQ := aside hq
  have HX := aside hx
  have HALL := aside hall
  have hql : q < l.length := (List.getElem?_eq_some_iff.1 hq).1
  have hz : ¬ (32 : Int) < (l.length : Int) := by omega
  clear hA hg hs hq hx hall he
  go_enter Tryz.func34, Tryz.ntmps34
  go_wp2
  have e0 : Aside (Ext (w.alloc (.cells #[.slice none 0 0] 25)) (w.alloc (.cells #[.slice none 0 0] 25))) := aside (Ext.refl _)
  go_loopg [16] l.length (fun gg s16 wr => ∃ j : Nat, j ≤ q ∧ q - j ≤ gg ∧ s16 = .int .i64 j ∧ Aside (Ext (w.alloc (.cells #[.slice none 0 0] 25)) wr))
  case atStart => exact ⟨0, Nat.zero_le _, by omega, rfl, e0⟩
  case round =>
    obtain ⟨j, hj, hg1, rfl, BW⟩ := hrel
    have hjl : (j : Int) < (l.length : Int) := by omega
    obtain ⟨tb1, tb2, tb3⟩ := TBox.new BW.out
    obtain ⟨xb, xo, y, rfl, hy, y0, y1⟩ := (X.out.below (show Ext w wr from (Ext.alloc _ _).trans BW.out)).file (i := j) (by omega)
    have HY := aside hy
    have hys := HS.out y (List.mem_of_getElem? hy)
    have hG := aside (G.out.ext ((Ext.alloc w _).trans BW.out))
    obtain ⟨hys1, hys2⟩ := hys
    clear hy
    by_cases hjq : j < q
    · have hok : fileErr y = none := HALL.out j y hjq HY.out
      unfold fileErr at hok
      have hgp : goodPath y.path = true := by
        cases hgg : goodPath y.path with
        | true => rfl
        | false => rw [hgg] at hok; simp at hok
      have hgd : y.data.size ≤ 2048 := by
        rw [hgp] at hok; simp at hok; exact hok
      have hgdz : ¬ (2048 : Int) < (y.data.size : Int) := by omega
      clear hok
      go_wp2_with (go_at_call 58; refine (Good_calls y.path _ hys1 (hG.out.ext (by ((repeat (first | exact Ext.refl _ | assumption | refine Ext.drew' ?_ | refine Ext.alloc' ?_ _ | (with_reducible refine Ext.trans ?_ (Ext.drewN _ _)) | refine Ext.trans ?_ (by assumption))); done)))).mono ?_; rw [hgp]; rintro e1 w1 ⟨rfl, hE⟩; obtain ⟨k1, k2, k3⟩ := new_kept2 hE)
      go_roundg (q - (j + 1))
      case measure => omega
      case rel => exact ⟨j + 1, by omega, by omega, by go_num, (show Aside _ from BW.out.trans (Ext.trans (by ((repeat (first | exact Ext.refl _ | assumption | refine Ext.drew' ?_ | refine Ext.alloc' ?_ _ | (with_reducible refine Ext.trans ?_ (Ext.drewN _ _)) | refine Ext.trans ?_ (by assumption))); done)) hE))⟩
    · obtain rfl : j = q := by omega
      obtain rfl : x = y := Option.some.inj (HQ.out.symm.trans HY.out)
      have hok := HX.out
      unfold fileErr at hok
      cases hgg : goodPath x.path with
      | false =>
        have he10 : e = 10 := by rw [hgg] at hok; simp at hok; exact hok.symm
        clear hok
        have HE := aside he10
        clear he10
        go_wp2_with (go_at_call 58; refine (Good_calls x.path _ hys1 (hG.out.ext (by ((repeat (first | exact Ext.refl _ | assumption | refine Ext.drew' ?_ | refine Ext.alloc' ?_ _ | (with_reducible refine Ext.trans ?_ (Ext.drewN _ _)) | refine Ext.trans ?_ (by assumption))); done)))).mono ?_; rw [hgg]; rintro e1 w1 ⟨rfl, hE⟩; obtain ⟨k1, k2, k3⟩ := new_kept2 hE; have hE9 := aside (BW.out.trans (Ext.trans (Ext.alloc wr _) hE)); obtain ⟨tw1, tw2, tw3⟩ := TBox.new hE9.out)
        exact bodyPost_ret (v := .tuple #[.agg #[.slice none 0 0], .int .i64 10]) (by simp [results, Tryz.results34, go_sem, cell_set_same _ _ _ _ _ tw1]) rfl (by rw [HE.out]; exact TreeErr.nil (((Ext.alloc w _).trans hE9.out).set (Nat.le_refl _) _))
      | true =>
        have hgd : 2048 < x.data.size := by
          rw [hgg] at hok
          by_cases h : x.data.size ≤ 2048
          · simp [h] at hok
          · omega
        have he3 : e = 3 := by
          rw [hgg] at hok
          simp only [if_true] at hok
          rw [if_neg (by omega)] at hok
          exact (Option.some.inj hok).symm
        clear hok
        have HE := aside he3
        clear he3
        have hgdz : (2048 : Int) < (x.data.size : Int) := by omega
        go_wp2_with (go_at_call 58; refine (Good_calls x.path _ hys1 (hG.out.ext (by ((repeat (first | exact Ext.refl _ | assumption | refine Ext.drew' ?_ | refine Ext.alloc' ?_ _ | (with_reducible refine Ext.trans ?_ (Ext.drewN _ _)) | refine Ext.trans ?_ (by assumption))); done)))).mono ?_; rw [hgg]; rintro e1 w1 ⟨rfl, hE⟩; obtain ⟨k1, k2, k3⟩ := new_kept2 hE; have hE9 := aside (BW.out.trans (Ext.trans (Ext.alloc wr _) hE)); obtain ⟨tw1, tw2, tw3⟩ := TBox.new hE9.out)
        exact bodyPost_ret (v := .tuple #[.agg #[.slice none 0 0], .int .i64 3]) (by simp [results, Tryz.results34, go_sem, cell_set_same _ _ _ _ _ tw1]) rfl (by rw [HE.out]; exact TreeErr.nil (((Ext.alloc w _).trans hE9.out).set (Nat.le_refl _) _))
end
end Go.Proofs.YtndpgdegcbaigaaGreatDoor

namespace Go.Proofs.YtndpgdegcbaigaaGreatDoor
open Go Go.RowKit

theorem make_ok {l : List File} (h32 : l.length ≤ 32) (hn : l.findSome? fileErr = none) : treeMake l = if twice (sortF l) then ([], 11) else if clash (sortF l) then ([], 12) else (sortF l, 0) := by
  unfold treeMake
  rw [if_neg (by omega), hn]

theorem twice_at : ∀ (s : List File) (j : Nat) (x y : File), s[j]? = some x → s[j + 1]? = some y → x.path = y.path → twice s = true
  | [], j, x, y, h, _, _ => by simp at h
  | [f], j, x, y, _, h, _ => by simp at h
  | f :: g :: l, 0, x, y, h1, h2, h => by
    simp at h1 h2; subst h1; subst h2
    unfold twice
    rw [beqB, decide_eq_true h]; rfl
  | f :: g :: l, j + 1, x, y, h1, h2, h => by
    unfold twice
    rw [twice_at (g :: l) j x y (by simpa using h1) (by simpa using h2) h]; simp
theorem twice_no : ∀ (s : List File), (∀ (j : Nat) (x y : File), s[j]? = some x → s[j + 1]? = some y → x.path ≠ y.path) → twice s = false
  | [], _ => rfl
  | [f], _ => rfl
  | f :: g :: l, h => by
    unfold twice
    rw [beqB, decide_eq_false (h 0 f g rfl rfl), twice_no (g :: l) (fun j x y h1 h2 => h (j + 1) x y (by simpa using h1) (by simpa using h2))]; rfl

/-- Does a file stand right above this one? -/
def over (s : List File) (f : File) : Bool := s.any fun g => (stroke f.path).isPrefixOf g.path.data.toList
theorem clash_at {s : List File} {j : Nat} {x : File} (h : s[j]? = some x) (hx : over s x = true) : clash s = true :=
  List.any_eq_true.2 ⟨x, List.mem_of_getElem? h, hx⟩
theorem clash_no {s : List File} (h : ∀ (j : Nat) (x : File), s[j]? = some x → over s x = false) : clash s = false := by
  unfold clash
  rw [List.any_eq_false]
  intro x hx
  obtain ⟨j, hj, rfl⟩ := List.mem_iff_getElem.1 hx
  have := h j _ (List.getElem?_eq_getElem hj)
  unfold over at this
  rw [this]; simp

/-- Make's own test of a file, as slices.ContainsFunc wants it. -/
theorem over_pred (f : File) (hs : f.path.size ≤ 1048576) (B : Nat) (W : World) (h0 : W.cell? ⟨B, 0, none⟩ = some (.string f.path)) :
    PredB 62 #[.pointer (some ⟨B, 0, none⟩)] vFile (fun g => (stroke f.path).isPrefixOf g.path.data.toList) W := fun W' x hE =>
  Make1_calls f x B W' ((hE.cell (p := ⟨B, 0, none⟩) (World.block_lt_of_cell? _ _ h0)).trans h0) hs
theorem enters_over : Enters Tryz.prog 62 := enters_of Tryz.func62 (by kernel_rfl) rfl

/-- What Make answers of a sorted list. -/
def made (s : List File) : List File × Int := if twice s then ([], 11) else if clash s then ([], 12) else (s, 0)
theorem made_of {l s : List File} (h32 : l.length ≤ 32) (hn : l.findSome? fileErr = none) (hp : s.Perm l) (hs : s.Pairwise leF) : treeMake l = made s := by
  obtain ⟨h1, h2⟩ := sorted_like l s hp hs
  rw [make_ok h32 hn]
  unfold made
  cases ht : twice s with
  | true => rw [← h1, ht]; rfl
  | false => rw [← h1, ht, ← h2 ht]

section
variable {l : List File} {w : World}

set_option maxHeartbeats 8000000 in
set_option maxRecDepth 20000 in
theorem Make_sorts (a : Option Addr) (c : Nat) (hA : Arr TFile w a l.length c l) (hg : Globals w) (hs : ∀ g ∈ l, g.path.size ≤ 1048576 ∧ g.data.size ≤ 1048576) (h32 : l.length ≤ 32) (he : l.findSome? fileErr = none) :
    Calls Tryz.prog 34 #[.slice a l.length c] w (TreeErr w (treeMake l)) := by
  have X := aside hA
  have G := aside hg
  have HS := aside hs
  have HN := aside he
  have HALL := aside (List.findSome?_eq_none_iff.1 he)
  have hz : ¬ (32 : Int) < (l.length : Int) := by omega
  clear hA hg hs he
  go_enter Tryz.func34, Tryz.ntmps34
  go_wp2
  have e0 : Aside (Ext (w.alloc (.cells #[.slice none 0 0] 25)) (w.alloc (.cells #[.slice none 0 0] 25))) := aside (Ext.refl _)
  go_loopg [16] l.length (fun gg s16 wr => ∃ j : Nat, j ≤ l.length ∧ l.length - j ≤ gg ∧ s16 = .int .i64 j ∧ Aside (Ext (w.alloc (.cells #[.slice none 0 0] 25)) wr))
  case atStart => exact ⟨0, Nat.zero_le _, by omega, rfl, e0⟩
  case round =>
    obtain ⟨j, hj, hg1, rfl, BW⟩ := hrel
    by_cases hjl0 : j < l.length
    · have hjl : (j : Int) < (l.length : Int) := by omega
      obtain ⟨tb1, tb2, tb3⟩ := TBox.new BW.out
      obtain ⟨xb, xo, y, rfl, hy, y0, y1⟩ := (X.out.below (show Ext w wr from (Ext.alloc _ _).trans BW.out)).file (i := j) hjl0
      have HY := aside hy
      have hys := HS.out y (List.mem_of_getElem? hy)
      have hG := aside (G.out.ext ((Ext.alloc w _).trans BW.out))
      obtain ⟨hys1, hys2⟩ := hys
      have hok : fileErr y = none := HALL.out y (List.mem_of_getElem? hy)
      clear hy
      unfold fileErr at hok
      have hgp : goodPath y.path = true := by
        cases hgg : goodPath y.path with
        | true => rfl
        | false => rw [hgg] at hok; simp at hok
      have hgd : y.data.size ≤ 2048 := by
        rw [hgp] at hok; simp at hok; exact hok
      have hgdz : ¬ (2048 : Int) < (y.data.size : Int) := by omega
      clear hok
      go_wp2_with (go_at_call 58; refine (Good_calls y.path _ hys1 (hG.out.ext (by ((repeat (first | exact Ext.refl _ | assumption | refine Ext.drew' ?_ | refine Ext.alloc' ?_ _ | (with_reducible refine Ext.trans ?_ (Ext.drewN _ _)) | refine Ext.trans ?_ (by assumption))); done)))).mono ?_; rw [hgp]; rintro e1 w1 ⟨rfl, hE⟩; obtain ⟨k1, k2, k3⟩ := new_kept2 hE)
      go_roundg (l.length - (j + 1))
      case measure => omega
      case rel => exact ⟨j + 1, by omega, by omega, by go_num, (show Aside _ from BW.out.trans (Ext.trans (by ((repeat (first | exact Ext.refl _ | assumption | refine Ext.drew' ?_ | refine Ext.alloc' ?_ _ | (with_reducible refine Ext.trans ?_ (Ext.drewN _ _)) | refine Ext.trans ?_ (by assumption))); done)) hE))⟩
    · obtain rfl : j = l.length := by omega
      go_wp2_with (first
        | (go_at_call 37; refine (Clone_own l a _ c wr (X.out.below (show Ext w wr from (Ext.alloc _ _).trans BW.out)) (by omega)).mono ?_; rintro e1 w1 ⟨a1, c1, rfl, hA1, hE1, hfr1⟩; have A1 := aside hA1; have F1 := aside hfr1; have E1 := aside hE1; clear hA1 hE1 hfr1)
        | (go_at_call 59; refine (SortStable_calls l a1 c1 w1 h32 A1.out (fun b o h1 h2 => (F1.out b o h1 h2).2)).mono ?_; rintro e2 w2 ⟨rfl, s, hps, hss, hA2, hF2⟩))
      have hsl : s.length = l.length := hps.length_eq
      have SL := aside hsl
      have E2 : Aside (Ext (w.alloc (.cells #[.slice none 0 0] 25)) w2) := (show Aside _ from by
        have h1 := BW.out.trans E1.out
        exact Below.trans h1 (hF2.below h1.size fun k hk hd => by
          obtain ⟨o, ho, hne⟩ := hd
          have := (F1.out k o ho hne).1
          have := BW.out.size
          omega))
      have A2 := aside hA2
      have PS := aside hps
      have SS := aside hss
      have FRESH : Aside (∀ b o, a1 = some ⟨b, o, none⟩ → l ≠ [] → w.heap.size < b) := (show Aside _ from fun b o h1 h2 => by
        have := (F1.out b o h1 h2).1
        have h3 := BW.out.size
        rw [World.size_alloc] at h3
        omega)
      clear hsl hps hss hA2 hF2 E1 F1 A1
      have W2 : Aside (Ext w w2) := (show Aside _ from (Ext.alloc _ _).trans E2.out)
      have MADE : Aside (treeMake l = made s) := (show Aside _ from made_of h32 HN.out PS.out SS.out)
      have SIZES : Aside (∀ g ∈ s, g.path.size ≤ 1048576) := (show Aside _ from fun g hg => (HS.out g (PS.out.mem_iff.1 hg)).1)
      go_loopg [7] l.length (fun gg s7 wr2 => ∃ i : Nat, (i + 1 ≤ l.length ∨ i = 0) ∧ l.length - i ≤ gg ∧ s7 = .int .i64 ((i : Int) + 1) ∧ Aside (Ext w2 wr2) ∧ Aside (∀ (j : Nat) (x y : File), j < i → s[j]? = some x → s[j + 1]? = some y → x.path ≠ y.path))
      case atStart => exact ⟨0, Or.inr rfl, by omega, rfl, aside (Ext.refl _), (show Aside _ from fun j x y hj => absurd hj (Nat.not_lt_zero j))⟩
      case round =>
        obtain ⟨i, hi, hg2, rfl, BW2, NT⟩ := hrel
        obtain ⟨tb1, tb2, tb3⟩ := TBox.new (E2.out.trans BW2.out)
        by_cases hil : i + 1 < l.length
        · have hilz : (i : Int) + 1 < (l.length : Int) := by omega
          have hilz0 : (i : Int) < (l.length : Int) := by omega
          have hw0 : IntKind.i64.wrap (i : Int) = (i : Int) := by rw [IntKind.wrap_i64]; omega
          have hi0 : (0 : Int) ≤ (i : Int) + 1 := by omega
          have hi1 : ((i : Int) + 1).toNat = i + 1 := by omega
          obtain ⟨xb, xo, y, ha1, hy, y0, y1⟩ := (A2.out.below BW2.out).file (i := i + 1) hil
          obtain ⟨xb', xo', x, ha1', hx, x0, x1⟩ := (A2.out.below BW2.out).file (i := i) (by omega)
          rw [ha1] at ha1'
          obtain ⟨rfl, rfl⟩ : xb = xb' ∧ xo = xo' := by cases ha1'; exact ⟨rfl, rfl⟩
          subst ha1
          clear ha1' y1 x1
          have HY := aside hy
          have HX := aside hx
          clear hy hx
          by_cases hp : y.path.toList = x.path.toList
          · have ht : Aside (twice s = true) := (show Aside _ from twice_at s i x y HX.out HY.out (bytes_same hp).symm)
            go_wp2
            go_quiet (fail)
            go_wp2
            exact bodyPost_ret (v := .tuple #[.agg #[.slice none 0 0], .int .i64 11]) (by simp [results, Tryz.results34, go_sem, cell_set_same _ _ _ _ _ (show (wr.drewN nq).cell? ⟨w.heap.size, 0, none⟩ = _ from tb1)]) rfl (by rw [MADE.out]; unfold made; rw [ht.out]; exact TreeErr.nil (Ext.set (W2.out.trans (BW2.out.trans (Ext.drewN _ _))) (Nat.le_refl _) _))
          · have hpb : (y.path.toList == x.path.toList) = false := by simpa using hp
            have hne : Aside (x.path ≠ y.path) := (show Aside _ from fun e => hp (by rw [e]))
            go_wp2
            go_quiet (fail)
            go_wp2
            go_roundg (l.length - (i + 1))
            case measure => omega
            case rel => exact ⟨i + 1, Or.inl (by omega), by omega, by go_num, (show Aside _ from BW2.out.trans (by ((repeat (first | exact Ext.refl _ | assumption | refine Ext.drew' ?_ | refine Ext.alloc' ?_ _ | (with_reducible refine Ext.trans ?_ (Ext.drewN _ _)) | refine Ext.trans ?_ (by assumption))); done))), (show Aside _ from fun j u v hj h1 h2 => by
              by_cases e : j = i
              · subst e
                rw [HX.out] at h1; rw [HY.out] at h2
                cases h1; cases h2; exact hne.out
              · exact NT.out j u v (by omega) h1 h2)⟩
        · have hilz : ¬ (i : Int) + 1 < (l.length : Int) := by omega
          have ht : Aside (twice s = false) := (show Aside _ from twice_no s fun j x y h1 h2 => by
            have h3 := (List.getElem?_eq_some_iff.1 h2).1
            rw [SL.out] at h3
            exact NT.out j x y (by omega) h1 h2)
          go_wp2
          go_loopg [58] l.length (fun gg s58 wr3 => ∃ k : Nat, k ≤ l.length ∧ l.length - k ≤ gg ∧ s58 = .int .i64 k ∧ Aside (Ext w2 wr3) ∧ Aside (∀ (j : Nat) (x : File), j < k → s[j]? = some x → over s x = false))
          case atStart => exact ⟨0, Nat.zero_le _, by omega, rfl, BW2, (show Aside _ from fun j x hj => absurd hj (Nat.not_lt_zero j))⟩
          case round =>
            obtain ⟨k, hk, hg3, rfl, BW3, NO⟩ := hrel
            obtain ⟨tc1, tc2, tc3⟩ := TBox.new (E2.out.trans BW3.out)
            by_cases hkl : k < l.length
            · have hklz : (k : Int) < (l.length : Int) := by omega
              obtain ⟨xb, xo, x, ha1, hx, x0, x1⟩ := (A2.out.below BW3.out).file (i := k) hkl
              subst ha1
              have HX := aside hx
              have hxs := SIZES.out x (List.mem_of_getElem? hx)
              clear hx
              cases hov : over s x with
              | true =>
                have hc : Aside (clash s = true) := (show Aside _ from clash_at HX.out hov)
                have HOV : Aside (s.any (fun g => (stroke x.path).isPrefixOf g.path.data.toList) = true) := hov
                clear hov
                go_wp2_with (go_at_call 61; refine (ContainsFunc_File (fun g => (stroke x.path).isPrefixOf g.path.data.toList) 62 #[.pointer (some ⟨wr.heap.size, 0, none⟩)] enters_over _ _ _ s _ (over_pred x hxs wr.heap.size _ (new_kept2 (Ext.refl _)).1) (A2.out.below (show Ext w2 _ from BW3.out.trans (Ext.alloc _ _)))).mono ?_; rw [HOV.out]; rintro e5 w5 ⟨rfl, hE5⟩; have hE9 := aside (BW3.out.trans ((Ext.alloc _ _).trans hE5)); obtain ⟨tw1, tw2, tw3⟩ := TBox.new (E2.out.trans hE9.out))
                exact bodyPost_ret (v := .tuple #[.agg #[.slice none 0 0], .int .i64 12]) (by simp [results, Tryz.results34, go_sem, cell_set_same _ _ _ _ _ tw1]) rfl (by rw [MADE.out]; unfold made; rw [ht.out, hc.out]; exact TreeErr.nil (Ext.set (W2.out.trans hE9.out) (Nat.le_refl _) _))
              | false =>
                have HOV : Aside (s.any (fun g => (stroke x.path).isPrefixOf g.path.data.toList) = false) := hov
                have HOV2 := aside hov
                clear hov
                go_wp2_with (go_at_call 61; refine (ContainsFunc_File (fun g => (stroke x.path).isPrefixOf g.path.data.toList) 62 #[.pointer (some ⟨wr.heap.size, 0, none⟩)] enters_over _ _ _ s _ (over_pred x hxs wr.heap.size _ (new_kept2 (Ext.refl _)).1) (A2.out.below (show Ext w2 _ from BW3.out.trans (Ext.alloc _ _)))).mono ?_; rw [HOV.out]; rintro e5 w5 ⟨rfl, hE5⟩; have hE9 := aside (BW3.out.trans ((Ext.alloc _ _).trans hE5)))
                go_roundg (l.length - (k + 1))
                case measure => omega
                case rel => exact ⟨k + 1, by omega, by omega, by go_num, hE9, (show Aside _ from fun j y hj h1 => by
                  by_cases e : j = k
                  · subst e; rw [HX.out] at h1; cases h1; exact HOV2.out
                  · exact NO.out j y (by omega) h1)⟩
            · obtain rfl : k = l.length := by omega
              have hc : Aside (clash s = false) := (show Aside _ from clash_no fun j x h1 => NO.out j x (by have h3 := (List.getElem?_eq_some_iff.1 h1).1; rw [SL.out] at h3; exact h3) h1)
              have hfin : Aside (TreeErr w (treeMake l) (.returned (.tuple #[.agg #[.slice a1 l.length c1], .int .i64 0])) (wr.setCell ⟨w.heap.size, 0, none⟩ (.slice a1 l.length c1))) := (show Aside _ from by
                show TreeErr w (treeMake l) _ _
                rw [MADE.out]; unfold made; rw [ht.out, hc.out]
                have hne : s ≠ [] → l ≠ [] := fun h e => h (List.eq_nil_of_length_eq_zero (by rw [SL.out, e]; rfl))
                refine ⟨a1, c1, by rw [← SL.out]; rfl, ?_, Ext.set (W2.out.trans BW3.out) (Nat.le_refl _) _, fun b o h1 h2 => Nat.le_of_lt (FRESH.out b o h1 (hne h2))⟩
                show Arr TFile _ a1 s.length c1 s
                rw [SL.out]
                exact (A2.out.below BW3.out).keep fun b o h1 hx _ => Below.heap_setCell _ _ _ _ (by have := FRESH.out b o h1 (hne hx); simp only; omega))
              go_wp2
              exact bodyPost_ret (v := .tuple #[.agg #[.slice a1 l.length c1], .int .i64 0]) (by simp [results, Tryz.results34, go_sem, cell_set_same _ _ _ _ _ tc1]) rfl hfin.out
end

/-- What Make does. -/
theorem make_says : MakeSays := by
  intro l a c w hl hs hA hg
  by_cases h32 : l.length ≤ 32
  · cases he : l.findSome? fileErr with
    | none => exact Make_sorts a c hA hg hs h32 he
    | some e =>
      have : treeMake l = ([], e) := by unfold treeMake; rw [if_neg (by omega), he]
      rw [this]
      exact Make_refused a c e hA hg hs h32 he
  · have : treeMake l = ([], 13) := by unfold treeMake; rw [if_pos (by omega)]
    rw [this]
    exact Make_many a c hl (by omega)
theorem good_done : GoodSays := good_says make_says
end Go.Proofs.YtndpgdegcbaigaaGreatDoor

namespace Go.Proofs.YtndpgdegcbaigaaGreatDoor
open Go Go.RowKit

/-- The files rise by their paths. -/
def Rising (l : List File) : Prop := ∀ (i j : Nat) (x y : File), i < j → l[i]? = some x → l[j]? = some y → cmpF x y < 0

/-- Where a search ends: the place, and whether the file there has this path. -/
def Found (l : List File) (f : File) (i : Nat) (is : Bool) : Prop :=
  if is then ∃ x, l[i]? = some x ∧ x.path = f.path else ∀ x ∈ l, x.path ≠ f.path

theorem ext_grown (w : World) (n : Nat) (os : Array Obj) : Ext w (Go.Sort.grow (w.drewN n) os) := Lib.below_grow _ w (Nat.le_refl _) n os

set_option maxHeartbeats 4000000 in
theorem Search_calls (l : List File) (f : File) (a : Option Addr) (n c : Nat) (w : World) (hA : Arr TFile w a n c l) (hr : Rising l) (hn : n ≤ 1000) :
    Calls Tryz.prog 113 #[.slice a n c, vFile f, .func (.func 60) #[] #[]] w fun e w' => ∃ (i : Nat) (is : Bool), e = .returned (.tuple #[.int .i64 i, .bool is]) ∧ Found l f i is ∧ Ext w w' := by
  have X : Aside (Arr TFile w a n c l) := hA
  clear hA
  go_enter Tryz.func113, Tryz.ntmps113
  go_wp2
  have hO : Aside (w.alloc (.cells #[.string f.path, .string f.data] 34) = w.alloc (.cells #[.string f.path, .string f.data] 34)) := (show Aside _ from rfl)
  have e0 : Aside (Ext (w.alloc (.cells #[.string f.path, .string f.data] 34)) (w.alloc (.cells #[.string f.path, .string f.data] 34))) := Ext.refl _
  have hr' : Aside (Rising l) := hr
  clear hr
  go_loopg [9, 10] n (fun gg s9 s10 wr => ∃ lo hi : Nat, lo ≤ hi ∧ hi ≤ n ∧ hi - lo ≤ gg ∧ s9 = .int .i64 lo ∧ s10 = .int .i64 hi ∧ Aside (Ext (w.alloc (.cells #[.string f.path, .string f.data] 34)) wr) ∧
    Aside (∀ (k : Nat) (x : File), k < lo → l[k]? = some x → cmpF x f < 0) ∧ Aside (∀ (k : Nat) (x : File), hi ≤ k → l[k]? = some x → ¬ cmpF x f < 0))
  case atStart => exact ⟨0, n, Nat.zero_le _, Nat.le_refl _, by omega, rfl, rfl, e0, (show Aside _ from fun k x hk => absurd hk (Nat.not_lt_zero k)), (show Aside _ from fun k x hk hx => by
    have := (List.getElem?_eq_some_iff.1 hx).1
    have h2 := X.out.len
    omega)⟩
  case round =>
    obtain ⟨lo, hi, hlh, hhn, hg, rfl, rfl, BW, L1, L2⟩ := hrel
    have hbox := new_kept2 BW.out
    obtain ⟨bx0, bx1, bxl⟩ := hbox
    by_cases hlt : lo < hi
    · have hltz : (lo : Int) < (hi : Int) := by omega
      obtain ⟨h, hh⟩ : ∃ h : Nat, h = (lo + hi) / 2 := ⟨_, rfl⟩
      obtain ⟨xb, xo, x, rfl, hxj, x0, x1⟩ := (X.out.below (show Ext w wr from (Ext.alloc _ _).trans BW.out)).file (i := h) (by omega)
      have hm : ((lo : Int) + (hi : Int)) / 2 = (h : Int) := by omega
      have HX : Aside (l[h]? = some x) := hxj
      have hhl : (h : Int) < (n : Int) := by omega
      have hlh2 : lo ≤ h := by omega
      have hhh2 : h < hi := by omega
      clear hxj hh
      by_cases hc : cmpF x f < 0
      · go_wp2
        (refine wp_region_mixed 6 (by kernel_rfl) (by kernel_rfl) ?_; simp only [List.take_succ_cons, List.take_zero, List.drop_succ_cons, List.drop_zero]; (repeat (go_big_quiet_step (fail))); refine wpQuiet_nil ?_)
        go_wp2_with (go_at_call 60; refine (byPath_calls x f _).mono ?_; rintro e w' ⟨rfl, hE⟩)
        go_roundg (hi - (h + 1))
        case measure => omega
        case rel => exact ⟨h + 1, hi, by omega, by omega, by omega, by go_num, rfl, (show Aside _ from BW.out.trans (by ((repeat (first | exact Ext.refl _ | assumption | refine Ext.drew' ?_ | refine Ext.alloc' ?_ _ | (with_reducible refine Ext.trans ?_ (Ext.drewN _ _)) | refine Ext.trans ?_ (by assumption))); done))), (show Aside _ from fun k y hk hy => by
          by_cases e : k = h
          · subst e; rw [HX.out] at hy; cases hy; exact hc
          · exact cmpF_trans (hr'.out k h y x (by omega) hy HX.out) hc), L2⟩
      · go_wp2
        (refine wp_region_mixed 6 (by kernel_rfl) (by kernel_rfl) ?_; simp only [List.take_succ_cons, List.take_zero, List.drop_succ_cons, List.drop_zero]; (repeat (go_big_quiet_step (fail))); refine wpQuiet_nil ?_)
        go_wp2_with (go_at_call 60; refine (byPath_calls x f _).mono ?_; rintro e w' ⟨rfl, hE⟩)
        go_roundg (h - lo)
        case measure => omega
        case rel => exact ⟨lo, h, by omega, by omega, by omega, rfl, by go_num, (show Aside _ from BW.out.trans (by ((repeat (first | exact Ext.refl _ | assumption | refine Ext.drew' ?_ | refine Ext.alloc' ?_ _ | (with_reducible refine Ext.trans ?_ (Ext.drewN _ _)) | refine Ext.trans ?_ (by assumption))); done))), L1, (show Aside _ from fun k y hk hy => by
          by_cases e : k = h
          · subst e; rw [HX.out] at hy; cases hy; omega
          · have h3 := hr'.out h k x y (by omega) HX.out hy
            by_cases h2 : cmpF y f < 0
            · have h4 := cmpF_trans h3 h2
              omega
            · omega)⟩
    · obtain rfl : lo = hi := by omega
      by_cases hln : lo < n
      · have hlz : (lo : Int) < (n : Int) := by omega
        obtain ⟨xb, xo, x, rfl, hxj, x0, x1⟩ := (X.out.below (show Ext w wr from (Ext.alloc _ _).trans BW.out)).file (i := lo) hln
        have HX : Aside (l[lo]? = some x) := hxj
        clear hxj
        have xlt : xb < wr.heap.size := World.block_lt_of_cell? _ _ x0
        have cx0 := fun n os => cell_grown (a := ⟨xb, xo + lo * 2, none⟩) xlt x0 n os
        have cx1 := fun n os => cell_grown (a := ⟨xb, xo + lo * 2 + 1, none⟩) xlt x1 n os
        have cb0 := fun n os => cell_grown (a := ⟨w.heap.size, 0, none⟩) bxl bx0 n os
        have cb1 := fun n os => cell_grown (a := ⟨w.heap.size, 1, none⟩) bxl bx1 n os
        have hcg := fun n os => byPath_grown x f (Go.Sort.grow (wr.drewN n) os)
        obtain ⟨r, hr⟩ : ∃ r, cmpF x f = r := ⟨_, rfl⟩
        rw [hr] at hcg
        have HR := aside hr
        clear hr
        have mixed : Tryz.prog.follows .mixedOrders = true := by kernel_rfl
        clear x0 x1 bx0 bx1
        go_wp2
        go_quiet_grown (first | (go_at_call 60; refine Calls.grown_of (hcg _ _)))
        go_wp2
        have hfound : Aside (Found l f lo (r == 0)) := (show Aside _ from by
          show Found l f lo (r == 0)
          unfold Found
          by_cases hr0 : r = 0
          · subst hr0
            exact ⟨x, HX.out, cmpF_zero.1 HR.out⟩
          · rw [if_neg (by simpa using hr0)]
            intro y hy e
            obtain ⟨k, hk⟩ := List.mem_iff_getElem?.1 hy
            have hy0 : cmpF y f = 0 := cmpF_zero.2 e
            by_cases h1 : k < lo
            · have := L1.out k y h1 hk; omega
            · by_cases h2 : k = lo
              · subst h2
                rw [HX.out] at hk; cases hk
                rw [HR.out] at hy0; exact hr0 hy0
              · have h3 := hr'.out lo k x y (by omega) HX.out hk
                have h4 : cmpF x f < 0 := by rw [← cmpF_path e]; exact h3
                have := L2.out lo x (Nat.le_refl _) HX.out; omega)
        exact bodyPost_ret (v := .tuple #[.int .i64 lo, .bool (r == 0)]) (by simp [results, Tryz.results113, go_sem]) rfl ⟨lo, r == 0, rfl, hfound.out, (Ext.alloc _ _).trans (BW.out.trans (ext_grown _ _ _))⟩
      · have hlz : ¬ (lo : Int) < (n : Int) := by omega
        have hlzd : decide ((lo : Int) < (n : Int)) = false := decide_eq_false hlz
        have hfound : Aside (Found l f lo false) := (show Aside _ from by
          show Found l f lo false
          unfold Found
          rw [if_neg (by decide)]
          intro y hy e
          obtain ⟨k, hk⟩ := List.mem_iff_getElem?.1 hy
          have hy0 : cmpF y f = 0 := cmpF_zero.2 e
          have h2 := (List.getElem?_eq_some_iff.1 hk).1
          rw [X.out.len] at h2
          have := L1.out k y (by omega) hk
          omega)
        go_wp2
        go_quiet (fail)
        go_wp2
        exact bodyPost_ret (v := .tuple #[.int .i64 lo, .bool false]) (by simp [results, Tryz.results113, go_sem]) rfl ⟨lo, false, rfl, hfound.out, (Ext.alloc _ _).trans (BW.out.trans (by ((repeat (first | exact Ext.refl _ | assumption | refine Ext.drew' ?_ | refine Ext.alloc' ?_ _ | (with_reducible refine Ext.trans ?_ (Ext.drewN _ _)) | refine Ext.trans ?_ (by assumption))); done)))⟩

theorem search_get {l : List File} {f : File} {i : Nat} {is : Bool} (hr : Rising l) (h : Found l f i is) : (is = true → ∃ x, l[i]? = some x ∧ getF l f.path = (x.data, true)) ∧ (is = false → getF l f.path = (⟨#[]⟩, false)) := by
  unfold Found at h
  constructor
  · rintro rfl
    rw [if_pos rfl] at h
    obtain ⟨x, hx, hp⟩ := h
    refine ⟨x, hx, ?_⟩
    unfold getF
    cases hf : l.find? (fun f' => f'.path == f.path) with
    | none =>
      have := (List.find?_eq_none.1 hf) x (List.mem_of_getElem? hx)
      rw [beqB, decide_eq_true hp] at this; simp at this
    | some y =>
      have h1 := List.find?_some hf
      rw [beqB] at h1
      have h2 := of_decide_eq_true h1
      obtain ⟨k, hk⟩ := List.mem_iff_getElem?.1 (List.mem_of_find?_eq_some hf)
      have hik : i = k := by
        rcases Nat.lt_trichotomy i k with h3 | h3 | h3
        · have := hr i k x y h3 hx hk
          rw [cmpF_zero.2 (hp.trans h2.symm)] at this; omega
        · exact h3
        · have := hr k i y x h3 hk hx
          rw [cmpF_zero.2 (h2.trans hp.symm)] at this; omega
      subst hik
      rw [hx] at hk; cases hk
      rfl
  · rintro rfl
    rw [if_neg (by decide)] at h
    unfold getF
    rw [List.find?_eq_none.2 (fun x hx => by rw [beqB, decide_eq_false (h x hx)]; simp)]

theorem good_rises {l : List File} (h : treeGood l = true) : Rising l := fun i j x y hij hx hy => by
  have h1 := List.pairwise_iff_getElem.1 (good_rising h)
  obtain ⟨hi, rfl⟩ := List.getElem?_eq_some_iff.1 hx
  obtain ⟨hj, rfl⟩ := List.getElem?_eq_some_iff.1 hy
  exact h1 i j hi hj hij

theorem good_len {l : List File} (h : treeGood l = true) : l.length ≤ 32 := by
  unfold treeGood at h
  rw [Bool.and_eq_true] at h
  have h2 : (treeMake l).2 = 0 := by simpa using h.1
  by_cases h3 : 32 < l.length
  · unfold treeMake at h2
    rw [if_pos h3] at h2; simp at h2
  · omega

set_option maxHeartbeats 2000000 in
set_option maxRecDepth 20000 in
theorem get_says : GetSays := by
  intro l a c s w hg hs hA hgl
  have hr := good_rises hg
  have hl := good_len hg
  have X := aside hA
  have R := aside hr
  clear hA hr hg
  go_enter Tryz.func93, Tryz.ntmps93
  go_wp2_with fail
  go_at_call 113
  refine (Search_calls l ⟨s, ⟨#[]⟩⟩ a _ c _ (X.out.below (show Ext w _ by ((repeat (first | exact Ext.refl _ | assumption | refine Ext.drew' ?_ | refine Ext.alloc' ?_ _ | (with_reducible refine Ext.trans ?_ (Ext.drewN _ _)) | refine Ext.trans ?_ (by assumption))); done))) R.out (by omega)).mono ?_
  rintro e w1 ⟨i, is, rfl, hF, hE⟩
  have HF := aside hF
  obtain ⟨k1, k2, k3⟩ := new_kept hE (new_block w (.cells #[.slice a l.length c] 25) _ rfl)
  have hE1 := aside (show Ext w w1 from (Ext.alloc _ _).trans hE)
  clear hF hE
  cases is with
  | true =>
    obtain ⟨x, hx, hgx⟩ := (search_get R.out HF.out).1 rfl
    have HG := aside hgx
    have hil : i < l.length := (List.getElem?_eq_some_iff.1 hx).1
    obtain ⟨xb, xo, y, ha, hy, y0, y1⟩ := (X.out.below hE1.out).file (i := i) hil
    obtain rfl : x = y := Option.some.inj (hx.symm.trans hy)
    subst ha
    have hilz : (i : Int) < (l.length : Int) := by omega
    clear hx hy hgx
    go_wp2
    exact bodyPost_ret (v := .tuple #[.string x.data, .bool true]) (by simp [results, Tryz.results93, go_sem]) rfl ⟨by rw [show getF l s = (x.data, true) from HG.out], hE1.out⟩
  | false =>
    have HG := aside ((search_get R.out HF.out).2 rfl)
    go_wp2
    exact bodyPost_ret (v := .tuple #[.string ⟨#[]⟩, .bool false]) (by simp [results, Tryz.results93, go_sem]) rfl ⟨by rw [show getF l s = (⟨#[]⟩, false) from HG.out], hE1.out⟩
end Go.Proofs.YtndpgdegcbaigaaGreatDoor
