/- VmTexts: what the law's programs come to. Plain Lean over the model. · VmTexts: what the walks need. · An argument [2]int, opened. -/
import Derived.Test.YtndpgdegcbaigaaGreatDoorQ36
import Derived.Deep.RegionHeld3
import Derived.Deep.AppendLies
import Derived.Test.YtndpgdegcbaigaaGreatDoorQ34
import Derived.OpenShut
namespace Go.Proofs.YtndpgdegcbaigaaGreatDoor
open Go Go.RowKit

def begT (a b : ByteArray) : List Ins := [⟨3, 0, a⟩, ⟨3, 0, b⟩, ⟨21, 0, ⟨#[]⟩⟩]
def lenI : List Ins := [⟨22, 0, ⟨#[]⟩⟩]
def cutI (x y : Int) : List Ins := [⟨2, x, ⟨#[]⟩⟩, ⟨2, y, ⟨#[]⟩⟩, ⟨23, 0, ⟨#[]⟩⟩]

theorem empty0 : (⟨#[]⟩ : ByteArray) = ByteArray.empty := rfl
theorem name_small : nameA.size ≤ 256 := by decide

section
variable {a b : ByteArray} {x y : Int}
theorem text_ins (s : ByteArray) (hs : s.size ≤ 256) (n : Int) : insOK n ⟨3, 0, s⟩ = true := by
  simp [insOK, takes, hs]

theorem cat_go (ha : a.size ≤ 256) (hb : b.size ≤ 256) : exec [] ⟨21, 0, ⟨#[]⟩⟩ ⟨[vText a, vText b], [], cells0, [], 3⟩ = .go ⟨[vText (a ++ b)], [], cells0, [], 3⟩ := by
  show (if a.size + b.size ≤ 2048 then pushV (vText (a ++ b)) ⟨[], [], cells0, [], 3⟩ else .stop 43) = _
  rw [if_pos (by omega)]; rfl

/-- The three first steps, of any program that begins so. -/
theorem beg_way (ha : a.size ≤ 256) (hb : b.size ≤ 256) (t : List Ins) (ht : 0 < t.length) {k : Nat} {u : Run} (h : Way (begT a b ++ t) [] k ⟨⟨[vText (a ++ b)], [], cells0, [], 3⟩, 3, false, 0⟩ u) : Way (begT a b ++ t) [] (k + 3) start u := by
  have hl : ((begT a b ++ t).length : Int) = 3 + t.length := by rw [List.length_append]; show ((3 + t.length : Nat) : Int) = _; omega
  unfold start
  refine way_step (c' := ⟨[vText a], [], cells0, [], 1⟩) (x := ⟨3, 0, a⟩) rfl rfl (by show (1 : Int) ≠ _; omega) ?_
  refine way_step (c' := ⟨[vText a, vText b], [], cells0, [], 2⟩) (x := ⟨3, 0, b⟩) rfl rfl (by show (2 : Int) ≠ _; omega) ?_
  exact way_step (c' := ⟨[vText (a ++ b)], [], cells0, [], 3⟩) (x := ⟨21, 0, ⟨#[]⟩⟩) rfl (cat_go ha hb) (by show (3 : Int) ≠ _; omega) h

theorem check_beg (ha : a.size ≤ 256) (hb : b.size ≤ 256) (t : List Ins) (hl : t.length ≤ 100) (ht : ∀ n : Int, ∀ i ∈ t, insOK n i = true) : checkErr (begT a b ++ t) = 0 := by
  unfold checkErr
  have h1 : (begT a b ++ t).length = 3 + t.length := by rw [List.length_append]; rfl
  rw [if_neg (by omega)]
  have h2 : ¬ 0 ≤ checkAt (begT a b ++ t) := by
    unfold checkAt
    rw [idxP_miss (fun j i _ hi => ?_)]
    · decide
    · have hm := List.mem_of_getElem? hi
      rw [Bool.not_eq_false', ]
      rcases List.mem_append.1 hm with h | h
      · simp [begT] at h
        rcases h with rfl | rfl | rfl
        · exact text_ins a ha _
        · exact text_ins b hb _
        · simp [insOK, takes, empty0]
      · exact ht _ i h
  rw [if_neg h2]

theorem cat_run (ha : a.size ≤ 256) (hb : b.size ≤ 256) : runM (begT a b ++ tailT) [] = ([⟨nameA, a ++ b⟩], 7, 0) :=
  text_run (pre := begT a b) (k := 3) (by rw [ByteArray.size_append]; omega) (beg_way ha hb tailT (by decide) (.zero _)) (by omega) (check_beg ha hb _ (by decide) (fun n i hi => by
    simp [tailT] at hi
    rcases hi with rfl | rfl | rfl | rfl <;> simp [insOK, takes, empty0, name_small]))

theorem len_run (ha : a.size ≤ 256) (hb : b.size ≤ 256) : runM ((begT a b ++ lenI) ++ ⟨24, 0, ⟨#[]⟩⟩ :: tailT) [] = ([⟨nameA, itoaS ((a.size : Int) + b.size)⟩], 9, 0) := by
  have hin : inI ((a.size : Int) + b.size) := by unfold inI; omega
  refine num_run (pre := begT a b ++ lenI) (k := 4) (n := (a.size : Int) + b.size) (by
    have := Lib.itoa_length_le _ hin.1 hin.2
    show (Lib.itoa ((a.size : Int) + b.size)).toArray.size ≤ 2048
    rw [List.size_toArray]; omega) ?_ (by omega) ?_
  · rw [List.append_assoc]
    refine beg_way ha hb _ (by decide) (k := 1) ?_
    refine way_step (c' := ⟨[vNum ((a.size : Int) + b.size)], [], cells0, [], 4⟩) (x := ⟨22, 0, ⟨#[]⟩⟩) rfl ?_ (by show (4 : Int) ≠ 9; decide) (.zero _)
    show pushV (vNum ((a ++ b).size : Int)) ⟨[], [], cells0, [], 4⟩ = _
    rw [ByteArray.size_append, Int.natCast_add]; rfl
  · rw [List.append_assoc]
    exact check_beg ha hb _ (by decide) (fun n i hi => by
      simp [tailT, lenI] at hi
      rcases hi with rfl | rfl | rfl | rfl | rfl | rfl <;> simp [insOK, takes, empty0, name_small])

theorem cut_in : ∀ n : Int, ∀ i ∈ cutI x y ++ tailT, insOK n i = true := fun n i hi => by
  simp [tailT, cutI] at hi
  rcases hi with rfl | rfl | rfl | rfl | rfl | rfl | rfl <;> simp [insOK, takes, empty0, name_small]

theorem cut_way (ha : a.size ≤ 256) (hb : b.size ≤ 256) {k : Nat} {u : Run} (h : Way (begT a b ++ (cutI x y ++ tailT)) [] k ⟨⟨[vText (a ++ b), vNum x, vNum y], [], cells0, [], 5⟩, 5, false, 0⟩ u) : Way (begT a b ++ (cutI x y ++ tailT)) [] (k + 2 + 3) start u := by
  refine beg_way ha hb _ (by show 0 < 7; decide) (k := k + 2) ?_
  refine way_step (c' := ⟨[vText (a ++ b), vNum x], [], cells0, [], 4⟩) (x := ⟨2, x, ⟨#[]⟩⟩) rfl rfl (by show (4 : Int) ≠ 10; decide) ?_
  exact way_step (c' := ⟨[vText (a ++ b), vNum x, vNum y], [], cells0, [], 5⟩) (x := ⟨2, y, ⟨#[]⟩⟩) rfl rfl (by show (5 : Int) ≠ 10; decide) h

theorem cut_run (ha : a.size ≤ 256) (hb : b.size ≤ 256) (h : 0 ≤ x ∧ x ≤ y ∧ y ≤ (a.size : Int) + b.size) : runM ((begT a b ++ cutI x y) ++ tailT) [] = ([⟨nameA, (a ++ b).extract x.toNat y.toNat⟩], 10, 0) := by
  have hs : ((a ++ b).size : Int) = (a.size : Int) + b.size := by rw [ByteArray.size_append, Int.natCast_add]
  refine text_run (pre := begT a b ++ cutI x y) (k := 6) (by rw [ByteArray.size_extract]; omega) ?_ (by omega) ?_
  · rw [List.append_assoc]
    refine cut_way ha hb (k := 1) ?_
    refine way_step (c' := ⟨[vText ((a ++ b).extract x.toNat y.toNat)], [], cells0, [], 6⟩) (x := ⟨23, 0, ⟨#[]⟩⟩) rfl ?_ (by show (6 : Int) ≠ 10; decide) (.zero _)
    show (if 0 ≤ x ∧ x ≤ y ∧ y ≤ ((a ++ b).size : Int) then pushV (vText ((a ++ b).extract x.toNat y.toNat)) ⟨[], [], cells0, [], 6⟩ else .stop 43) = _
    rw [if_pos (by omega)]; rfl
  · rw [List.append_assoc]
    exact check_beg ha hb _ (by show 7 ≤ 100; decide) cut_in
theorem cut_stop (ha : a.size ≤ 256) (hb : b.size ≤ 256) (h : ¬ (0 ≤ x ∧ x ≤ y ∧ y ≤ (a.size : Int) + b.size)) : runM ((begT a b ++ cutI x y) ++ tailT) [] = ([], 6, 43) := by
  have hs : ((a ++ b).size : Int) = (a.size : Int) + b.size := by rw [ByteArray.size_append, Int.natCast_add]
  rw [List.append_assoc]
  have hw := cut_way (x := x) (y := y) ha hb (way_stop (x := ⟨23, 0, ⟨#[]⟩⟩) (e := 43) rfl (by
    show (if 0 ≤ x ∧ x ≤ y ∧ y ≤ ((a ++ b).size : Int) then pushV (vText ((a ++ b).extract x.toNat y.toNat)) ⟨[], [], cells0, [], 6⟩ else .stop 43) = _
    rw [if_neg (by omega)]))
  have h3 := Way.runM hw rfl (by omega) (check_beg ha hb _ (by show 7 ≤ 100; decide) cut_in) (by kernel_rfl)
  rw [h3]; rfl
end
end Go.Proofs.YtndpgdegcbaigaaGreatDoor

namespace Go.Proofs.YtndpgdegcbaigaaGreatDoor
open Go Go.RowKit

/-- A row of the call's own, made behind the place g, and what was there before. -/
structure Keep (W0 : World) (g : Nat) (xs : List Ins) (v : Value) (w : World) : Prop where
  own : w.ownsRow g 38 3 v xs.length (xs.flatMap TIns.enc)
  ext : Ext W0 w
  base : W0.heap.size ≤ g
  le : g ≤ w.heap.size

theorem Keep.start (W0 W : World) (hE : Ext W0 W) (g : Nat) (hg : g = W.heap.size) : Keep W0 g [] (.slice (some ⟨g, 0, none⟩) 0 0) (W.alloc (.cells #[] 38)) :=
  ⟨newrow_own2 W g hg [] #[] rfl 0 rfl (by omega), hE.trans (Ext.alloc _ _), by rw [hg]; exact hE.size, by rw [hg]; exact (Ext.alloc _ _).size⟩
theorem Keep.grow {W0 W1 w' : World} {g m : Nat} {xs ys : List Ins} {v v' : Value} (h : Keep W0 g xs v W1) (hm : ys.length = m) (hown : w'.ownsRow g 38 3 v' (xs.length + m) (xs.flatMap TIns.enc ++ ys.flatMap TIns.enc)) (hg : W1.grownBy w' v.ownBlock) : Keep W0 g (xs ++ ys) v' w' :=
  ⟨by rw [List.length_append, hm, List.flatMap_append]; exact hown, ext_grown_own h.own h.ext h.base hg, h.base, Nat.le_trans h.le hg.size⟩
theorem Keep.alloc {W0 w : World} {g : Nat} {xs : List Ins} {v : Value} (h : Keep W0 g xs v w) (o : Obj) : Keep W0 g xs v (w.alloc o) := ⟨h.own.alloc _, h.ext.trans (Ext.alloc _ _), h.base, Nat.le_trans h.le (Ext.alloc _ _).size⟩
theorem Keep.drew {W0 w : World} {g : Nat} {xs : List Ins} {v : Value} (h : Keep W0 g xs v w) : Keep W0 g xs v w.drew := ⟨h.own.drew, h.ext.drew', h.base, h.le⟩
abbrev cutO (x y : Int) : Obj := .cells #[.int .i64 2, .int .i64 x, .string ⟨#[]⟩, .int .i64 2, .int .i64 y, .string ⟨#[]⟩, .int .i64 23, .int .i64 0, .string ⟨#[]⟩] 38
theorem row_far {W w' : World} {g k : Nat} {v : Value} {ys : List Value} (hg : W.grownBy w' v.ownBlock) (hv : v.ownBlock = some g) (hk : k < W.heap.size) (hne : k ≠ g) (h : ∀ (j : Nat) (u : Value), ys[j]? = some u → W.cell? ((⟨k, 0, none⟩ : Addr).add j) = some u) (j : Nat) (u : Value) (hu : ys[j]? = some u) : w'.cell? ((⟨k, 0, none⟩ : Addr).add j) = some u := by
  have h1 := h j u hu
  rw [Addr.add_lit] at h1 ⊢
  rw [hg.cell_far ⟨k, 0 + j, none⟩ hk (by rw [hv]; simpa using hne)]
  exact h1
theorem cut_cells (w9 : World) (x y : Int) (j : Nat) (u : Value) (hu : ((cutI x y).flatMap TIns.enc)[j]? = some u) : (w9.alloc (cutO x y)).cell? ((⟨w9.heap.size, 0, none⟩ : Addr).add j) = some u := newrow_cells w9 (cutI x y) _ rfl j u hu
theorem rowB (w9 : World) (x y : Int) (j : Nat) (u : Value) (hu : ((cutI x y).flatMap TIns.enc)[j]? = some u) : ((w9.alloc (.cells #[] 38)).alloc (cutO x y)).drew.cell? ((⟨w9.heap.size + 1, 0, none⟩ : Addr).add j) = some u := by
  have h := cut_cells (w9.alloc (.cells #[] 38)) x y j u hu
  rw [World.size_alloc] at h
  exact h
theorem rowC (w9 : World) (x y : Int) (j : Nat) (u : Value) (hu : ((cutI x y).flatMap TIns.enc)[j]? = some u) : ((w9.alloc (cutO x y)).alloc (.cells #[] 38)).drew.cell? ((⟨w9.heap.size, 0, none⟩ : Addr).add j) = some u := by
  have h := cut_cells w9 x y j u hu
  rw [Addr.add_lit] at h ⊢
  have hl : w9.heap.size < (w9.alloc (cutO x y)).heap.size := by rw [World.size_alloc]; omega
  exact ((Ext.alloc (w9.alloc (cutO x y)) (.cells #[] 38)).cell (p := ⟨w9.heap.size, 0 + j, none⟩) hl).trans h
theorem Keep.own3 {W0 w : World} {g : Nat} {a b : ByteArray} {v : Value} (h : Keep W0 g ([] ++ begT a b) v w) : w.ownsRow g 38 3 v 3 ((begT a b).flatMap TIns.enc) := h.own
theorem Keep.grow3 {W0 W1 w' : World} {g : Nat} {a b : ByteArray} {x y : Int} {v v' : Value} (h : Keep W0 g ([] ++ begT a b) v W1) (hown : w'.ownsRow g 38 3 v' (3 + 3) ((begT a b).flatMap TIns.enc ++ (cutI x y).flatMap TIns.enc)) (hg : W1.grownBy w' v.ownBlock) : Keep W0 g (([] ++ begT a b) ++ cutI x y) v' w' := Keep.grow h rfl hown hg
theorem Keep.grow0 {W0 W1 w' : World} {g : Nat} {a b : ByteArray} {v v' : Value} (h : Keep W0 g [] v W1) (hown : w'.ownsRow g 38 3 v' (0 + 3) ([] ++ (begT a b).flatMap TIns.enc)) (hg : W1.grownBy w' v.ownBlock) : Keep W0 g ([] ++ begT a b) v' w' := Keep.grow h rfl hown hg
def Outs (W0 : World) (xs : List Ins) (e : Ending) (w' : World) : Prop := ∃ a c, e = .returned (.slice a xs.length c) ∧ Arr TIns w' a xs.length c xs ∧ Ext W0 w'
theorem Keep.out_false {W0 w : World} {g : Nat} {xs : List Ins} {v : Value} (h : Keep W0 g xs v w) (hl : xs.length ≤ 1000) : Calls Tryz.prog 28 #[v, .bool false] w (Outs W0 (xs ++ tailT)) := by
  refine Calls.mono (Go.Proofs.YtndpgdegcbaigaaGreatDoor.out_false w g xs.length v xs rfl hl h.own h.le) ?_
  intro e w' hO
  exact out_arr hO h.ext h.base
theorem Keep.out_true {W0 w : World} {g : Nat} {xs : List Ins} {v : Value} (h : Keep W0 g xs v w) (hl : xs.length ≤ 1000) : Calls Tryz.prog 28 #[v, .bool true] w (Outs W0 (xs ++ ⟨24, 0, ⟨#[]⟩⟩ :: tailT)) := by
  refine Calls.mono (Go.Proofs.YtndpgdegcbaigaaGreatDoor.out_true w g xs.length v xs rfl hl h.own h.le) ?_
  intro e w' hO
  exact out_arr hO h.ext h.base

abbrev begO (a b : ByteArray) : Obj := .cells #[.int .i64 3, .int .i64 0, .string a, .int .i64 3, .int .i64 0, .string b, .int .i64 21, .int .i64 0, .string ⟨#[]⟩] 38
theorem beg_arr (a b : ByteArray) (w W : World) (hE : Ext (w.alloc (begO a b)) W) : Arr TIns W (some ⟨w.heap.size, 0, none⟩) 3 3 (begT a b) :=
  arr_laid TIns (begT a b) w W 38 _ rfl (by show 3 ≤ maxLen; unfold maxLen; omega) hE
theorem ins_one (xs : List Ins) : ∀ v ∈ xs.flatMap TIns.enc, v.oneCell' = true := fun v hv => by
  obtain ⟨x, _, hx⟩ := List.mem_flatMap.1 hv
  exact TIns.one x v hx

theorem texts_in (a b : ByteArray) (t : List Ins) (ht : ∀ x ∈ t, inI x.n) : ∀ x ∈ begT a b ++ t, inI x.n := by
  have h0 : inI 0 := by constructor <;> decide
  intro x hx
  rcases List.mem_append.1 hx with h | h
  · simp [begT] at h
    rcases h with rfl | rfl | rfl <;> exact h0
  · exact ht x h

end Go.Proofs.YtndpgdegcbaigaaGreatDoor

namespace Go.Proofs.YtndpgdegcbaigaaGreatDoor
open Go Go.RowKit Go.ChangeShapes Go.WideShapes Go.Deep

section
variable {H : Type} {enc : TypeId × Value → H} {w : World} {base : Nat} {spare : Nat → Bool} {held : Bool}
set_option maxRecDepth 100000 in
theorem open_cut {v : Value} {d : DataW H} {p : List MemPlace} {r : Reach} {b0 : Nat} (hv : Value.okWide Tryz.prog w r b0 54 v) (hd : DataW.Trod enc Tryz.prog w base spare held 54 v d p) :
    ∃ x y : Int, v = .agg #[.int .i64 x, .int .i64 y] ∧ inI x ∧ inI y := by
  simp only [Value.okWide, Tryz.underlying54] at hv
  obtain ⟨cs, rfl, hsz, _⟩ := hv
  obtain ⟨l⟩ := cs
  have k2 : Tryz.prog.cellsOf 54 = 2 := by kernel_rfl
  have k1 : Tryz.prog.cellsOf 3 = 1 := by kernel_rfl
  match l, hsz.trans k2 with
  | [c0, c1], _ =>
  obtain ⟨fuel, hf⟩ := hd
  obtain ⟨ys, n', _, hy, _, hyl, hg⟩ := DataW.trod_array Tryz.underlying54 hf
  match ys, hyl with
  | [y0, y1], _ =>
  have h0 : DataW.trod enc Tryz.prog w base spare held n' 3 (([c0, c1].drop (0 * Tryz.prog.cellsOf 3)).take (Tryz.prog.cellsOf 3)) = some y0 := hg 0 (by omega)
  have h1 : DataW.trod enc Tryz.prog w base spare held n' 3 (([c0, c1].drop (1 * Tryz.prog.cellsOf 3)).take (Tryz.prog.cellsOf 3)) = some y1 := hg 1 (by omega)
  rw [k1] at h0 h1
  obtain ⟨i0, e0, rfl, w0⟩ := DataW.trod_int Tryz.underlying3 h0
  obtain ⟨i1, e1, rfl, w1⟩ := DataW.trod_int Tryz.underlying3 h1
  obtain rfl : c0 = .int .i64 i0 := by simpa using e0
  obtain rfl : c1 = .int .i64 i1 := by simpa using e1
  exact ⟨i0, i1, rfl, in_of_wf w0, in_of_wf w1⟩
theorem size_str {s : ByteArray} (hw : ∀ n ∈ (DataW.lit (.string s.data.toList) : DataW H).weights Tryz.prog 9, n ≤ reachBytes) : s.size ≤ 140737488351232 := by
  simp [DataW.weights] at hw
  exact hw
end
end Go.Proofs.YtndpgdegcbaigaaGreatDoor
