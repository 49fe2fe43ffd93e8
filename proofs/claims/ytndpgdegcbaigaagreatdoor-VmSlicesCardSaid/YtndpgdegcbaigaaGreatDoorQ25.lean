/- DERIVED: THE SHELF's CONTRACTS AT THIS DUMP, IN PLAIN WORDS (tools/lay-plain.mjs out of 'TryzIns.lean', which tools/lay-shelf.mjs wrote): THE SAME DECLARATIONS UNDER THE SAME NAMES: 'import', 'namespace', 'open', 'def', 'theorem' AND NOTHING ELSE: no command of the shelf's: FOR A HAND-IN. Each laying: the table of numbers ('.._ren') and one theorem, a field a fact of the dump's own or the kernel's comparison; each contract: ONE APPLICATION. · slices.SortStableFunc at files, at 32 of them or fewer: a permutation in order. · slices.Clone at files once more: what it makes may be turned; slices.SortStableFunc at such a row. -/
import Derived.Shelf.SlGeneric
import Derived.Shelf.SlSortCmp.InsertionK
import Derived.Ground.SlsfProg
import Derived.Test.YtndpgdegcbaigaaGreatDoorProg
import Derived.Test.YtndpgdegcbaigaaGreatDoorQ24
import Derived.Test.YtndpgdegcbaigaaGreatDoorQ21
import Derived.Test.YtndpgdegcbaigaaGreatDoorQ03
import Derived.Test.YtndpgdegcbaigaaGreatDoorQ19
namespace Go.Proofs
open Go.Shelf
def Tryz.insF0_ren : Go.Shelf.Ren := ⟨fun | 20 => 109 | n => n, fun | 24 => 34 | 22 => 23 | 3 => 3 | 25 => 91 | 4 => 4 | 0 => 0 | n => n, fun | n => n⟩
theorem Tryz.insF0 : Go.Proofs.SlLaysF0.n20 Tryz.prog Tryz.insF0_ren := {
  mixed := by kernel_rfl
  f20 := ⟨Tryz.f109.name, by decide, Tryz.func109.trans (congrArg some (by kernel_rfl))⟩
  t0 := Tryz.underlying0
  a0 := Tryz.isAgg0
  z0 := Tryz.sizeOf0
  v0 := Tryz.zeroValue0
  t3 := Tryz.underlying3
  a3 := Tryz.isAgg3
  z3 := Tryz.sizeOf3
  v3 := Tryz.zeroValue3
  t4 := Tryz.underlying4
  a4 := Tryz.isAgg4
  z4 := Tryz.sizeOf4
  v4 := Tryz.zeroValue4
  t22 := Tryz.underlying23
  a22 := Tryz.isAgg23
  z22 := Tryz.sizeOf23
  v22 := Tryz.zeroValue23
  t25 := Tryz.underlying91
  a25 := Tryz.isAgg91
  z25 := Tryz.sizeOf91
  v25 := Tryz.zeroValue91 }
end Go.Proofs

namespace Go.Proofs.YtndpgdegcbaigaaGreatDoor
open Go Go.RowKit Go.Sort Go.Lib

theorem byPath_grown : CmpG cmpF := by
  intro a b w
  show Calls Tryz.prog 60 #[vFile a, vFile b] w _
  go_enter Tryz.func60, Tryz.ntmps60
  go_wp2_with (go_at_call 82; refine (Tryz.strings_Compare a.path b.path _).mono ?_; rintro e w' ⟨rfl, rfl⟩)
  go_ret
  exact ⟨rfl, 0, _, by rw [alloc_eq_grow, alloc_eq_grow, grow_grow]; rfl⟩

theorem insertion_k (K : Nat) (hK : K = 2) (cf : File → File → Int) (hcf : CmpG cf) (hS : SWO (ltOf cf)) (blk off cap a b : Nat) (d : Array File) (w : World) (hH : HoldsK encF K w blk off d) (hblk : blk < w.heap.size) (hab : a ≤ b) (hb : b ≤ d.size) (hsz : d.size ≤ 1000) :
    Calls Tryz.prog 109 #[.slice (some ⟨blk, off, none⟩) d.size cap, .int .i64 a, .int .i64 b, .func (.func 60) #[] #[]] w (Merged cf K blk off a b d w) := by
  have h := AnyQ.insertionSortCmpFunc Tryz.insF0 K Tryz.isAgg34 (by rw [hK]; exact Tryz.sizeOf34) encF (by rw [hK]; exact fun _ => rfl) encF_one cf 60 #[] blk off cap a b d w
    (enters_of Tryz.func60 (by kernel_rfl) rfl) (fun m os dk _ x y => hcf x y _) hH hblk hab hb (by omega)
  refine Calls.mono h ?_
  rintro e w' ⟨he, n, os, hw⟩
  have hi := insertionSort_holds hS d a b hab hb
  exact ⟨he, n, os, _, hw, hi.1.1, hi.1, hi.2⟩

set_option maxHeartbeats 4000000 in
set_option maxRecDepth 100000 in
theorem stable_k (K : Nat) (hK : K = 2) (cf : File → File → Int) (hcf : CmpG cf) (hS : SWO (ltOf cf)) (blk off cap : Nat) (d : Array File) (w : World) (hH : HoldsK encF K w blk off d) (hblk : blk < w.heap.size) (hsz : d.size ≤ 32) :
    Calls Tryz.prog 81 #[.slice (some ⟨blk, off, none⟩) d.size cap, .int .i64 d.size, .func (.func 60) #[] #[]] w (Merged cf K blk off 0 d.size d w) := by
  by_cases h20 : d.size < 20
  · have c1 := aside (insertion_k K hK cf hcf hS blk off cap 0 d.size d w hH hblk (by omega) (Nat.le_refl _) (by omega))
    have hz : (d.size : Int) < 20 := by omega
    clear hH hK hS hcf
    go_enter Tryz.func81, Tryz.ntmps81
    go_wp2
    refine wp_loop_rounds 1 ?_
    rw [rounds_succ]
    go_wp2_with (go_at_call 109; refine c1.out.mono ?_; rintro e w1 ⟨rfl, hT⟩; have HT := aside hT; clear hT)
    refine wp_loop_rounds 1 ?_
    rw [rounds_succ]
    go_wp2
    go_end0
    exact ⟨rfl, HT.out⟩
  · have c1 := aside (insertion_k K hK cf hcf hS blk off cap 0 20 d w hH hblk (by omega) (by omega) (by omega))
    have c2 := aside (fun (d1 : Array File) (w1 : World) (h1 : HoldsK encF K w1 blk off d1) (h2 : blk < w1.heap.size) (hs : d1.size = d.size) => insertion_k K hK cf hcf hS blk off cap 20 d1.size d1 w1 h1 h2 (by omega) (Nat.le_refl _) (by omega))
    have c3 := aside (fun (d1 : Array File) (w1 : World) => sym_all K hK cf hcf hS 32 blk off cap 0 20 d1.size d1 w1)
    have HH := aside hH
    have HB := aside hblk
    have hz : ¬ (d.size : Int) < 20 := by omega
    have hz2 : (d.size : Int) < 40 := by omega
    clear hH hK hS hcf
    go_enter Tryz.func81, Tryz.ntmps81
    go_wp2
    refine wp_loop_rounds 2 ?_
    rw [rounds_succ]
    go_wp2_with fail
    go_at_call 109
    refine c1.out.mono ?_
    rintro e w1 ⟨rfl, m1, os1, d1, hw1, hs1, hp1⟩
    have HW1 := aside hw1
    have HS1 := aside hs1
    have HP1 := aside hp1
    have c2' := c2.out d1 w1 (by rw [HW1.out]; exact holdsK_sortWorldK_c encF K w blk off d d1 m1 os1 HH.out HB.out HS1.out) (by rw [HW1.out]; exact Nat.lt_of_lt_of_le HB.out (size_sortWorldK_c encF K w blk off m1 d1 os1)) HS1.out
    rw [HS1.out] at c2'
    have C2 := aside c2'
    clear hw1 hs1 hp1 c2'
    go_wp2_with fail
    rw [rounds_succ]
    go_wp2_with (go_at_call 109; refine C2.out.mono ?_; rintro e w2 ⟨rfl, hT⟩; have HT := aside hT; clear hT)
    obtain ⟨m2, os2, d2, hw2, hs2, hp2⟩ := turnsK_step HB.out HW1.out HS1.out ⟨rfl, HT.out⟩
    have HW2 := aside hw2
    have HS2 := aside hs2
    have HP2 := aside hp2
    have hperm : Aside (PermIn 0 d.size d d2) := (show Aside _ from permIn_trans _ _ _ _ _ (permIn_mono _ _ _ _ 0 d.size (Nat.le_refl _) (by omega) (Nat.le_refl _) HP1.out.1) (permIn_mono _ _ _ _ 0 d.size (by omega) (Nat.le_refl _) (by rw [HS1.out]; exact Nat.le_refl _) HP2.out.1))
    have hlow : Aside (SortedIn (ltOf cf) 0 20 d2) := (show Aside _ from fun i j hi hij hj => by
      rw [HP2.out.1.2.1 i (Or.inl (by omega)), HP2.out.1.2.1 j (Or.inl hj)]; exact HP1.out.2 i j hi hij hj)
    clear hw2 hs2 hp2
    by_cases he20 : d.size = 20
    · have hz3 : ¬ (20 : Int) < (d.size : Int) := by omega
      have HE := aside he20
      clear he20
      refine wp_loop_rounds 1 ?_
      rw [rounds_succ]
      go_wp2
      go_end0
      exact ⟨rfl, m2, os2, d2, HW2.out, HS2.out, hperm.out, by rw [HE.out]; exact hlow.out⟩
    · have hz3 : (20 : Int) < (d.size : Int) := by omega
      have c3' := c3.out d2 w2 (by rw [HS2.out]; omega) (by rw [HW2.out]; exact holdsK_sortWorldK_c encF K w blk off d d2 m2 os2 HH.out HB.out HS2.out) (by rw [HW2.out]; exact Nat.lt_of_lt_of_le HB.out (size_sortWorldK_c encF K w blk off m2 d2 os2)) (by omega) (by rw [HS2.out]; omega) (Nat.le_refl _) (by rw [HS2.out]; omega) hlow.out (by rw [HS2.out]; exact HP2.out.2)
      rw [HS2.out] at c3'
      have C3 := aside c3'
      clear c3'
      refine wp_loop_rounds 2 ?_
      rw [rounds_succ]
      go_wp2_with fail
      refine wp_loop_rounds 1 ?_
      rw [rounds_succ]
      go_wp2_with (go_at_call 110; refine C3.out.mono ?_; rintro e w3 ⟨rfl, hT⟩; have HT3 := aside hT; clear hT)
      rw [rounds_succ]
      go_wp2
      go_end0
      obtain ⟨m3, os3, d3, hw3, hs3, hp3⟩ := turnsK_step HB.out HW2.out HS2.out ⟨rfl, HT3.out⟩
      exact ⟨rfl, m3, os3, d3, hw3, hs3, permIn_trans _ _ _ _ _ hperm.out hp3.1, hp3.2⟩
end Go.Proofs.YtndpgdegcbaigaaGreatDoor

namespace Go.Proofs.YtndpgdegcbaigaaGreatDoor
open Go Go.RowKit Go.Sort

/-- A slice of the call's own: it reads as this list, and may be turned. -/
def NewOwn (w : World) (xs : List File) (e : Ending) (w' : World) : Prop :=
  ∃ a c, e = .returned (.slice a xs.length c) ∧ Arr TFile w' a xs.length c xs ∧ Ext w w' ∧ (∀ b o, a = some ⟨b, o, none⟩ → xs ≠ [] → w.heap.size ≤ b ∧ ∀ k, w'.frozen? ⟨b, k, none⟩ = false)

theorem NewOwn.of_own {w w' : World} {xs : List File} {e : TypeId} {v : Value} (h : w'.ownsRow w.heap.size e TFile.k v xs.length (xs.flatMap TFile.enc)) (he : Ext w w') : NewOwn w xs (.returned v) w' := by
  have h2 := h.2
  rcases h2 with ⟨rfl, h0⟩ | ⟨g, cap, cur, rfl, hb, hg, _⟩
  · exact ⟨none, 0, by rw [h0], Arr.of_own rfl (by rw [h0] at h ⊢; exact h), he, fun _ _ h => by cases h⟩
  · exact ⟨some ⟨g, 0, none⟩, cap, rfl, Arr.of_own rfl h, he, fun b o hb' _ => by cases hb'; exact ⟨hb, fun k => frozen_of hg k⟩⟩

/-- A slice of the call's own, as the kit says it. -/
def NewRow (w : World) (xs : List File) (e : Ending) (w' : World) : Prop := ∃ v, e = .returned v ∧ w'.ownsRow w.heap.size 34 TFile.k v xs.length (xs.flatMap TFile.enc) ∧ Ext w w'

theorem Clone_row (xs : List File) (a : Option Addr) (n c : Nat) (w : World) (h : Arr TFile w a n c xs) (hn : n ≤ 1048576) :
    Calls Tryz.prog 37 #[.slice a n c] w (NewRow w xs) := by
  have hl := h.len
  have hnil := fun w => Lib.run_eql_slice_nil (P := Tryz.prog) w 23 34 a n c 0 0 Tryz.underlying23
  cases a with
  | none =>
    obtain rfl : xs = [] := by
      cases xs with
      | nil => rfl
      | cons x xs => obtain ⟨b, o, ha, _⟩ := h.cells 0 x rfl; cases ha
    simp only [Option.isNone_none] at hnil
    go_enter Tryz.func37, Tryz.ntmps37
    go_wp2
    go_ret
    exact ⟨_, rfl, World.ownsRow_nil _ _ _ _, Ext.refl _⟩
  | some a =>
    simp only [Option.isNone_some] at hnil
    obtain ⟨b, o, hsp, hnews⟩ : ∃ b o, (xs ≠ [] → a = ⟨b, o, none⟩) ∧ ∀ j u, (xs.flatMap TFile.enc)[j]? = some u → w.cell? (a.add j) = some u := by
      cases xs with
      | nil => exact ⟨0, 0, fun h => absurd rfl h, fun j u h => by simp at h⟩
      | cons x xs =>
        obtain ⟨b, o, ha, _⟩ := h.cells 0 x rfl
        cases ha
        exact ⟨b, o, fun _ => rfl, fun j u hu => h.flat j u hu⟩
    obtain ⟨i0, hi, hz0, hz1, hz2⟩ := info_parts Tryz.infoCloneFile
    have eW : Ext w (w.alloc (.cells #[] 34)) := Ext.alloc _ _
    have ho : (w.alloc (.cells #[] 34)).ownsRow w.heap.size 34 2 (.slice (some ⟨w.heap.size, 0, none⟩) 0 0) 0 [] := World.ownsRow_made w #[] 0 (Nat.le_refl _) (by unfold maxLen; omega) rfl
    have L : Aside (xs.length = n) := hl
    have hlen : Aside ((xs.flatMap TFile.enc).length = n * 2) := by rw [flatMap_len, hl]; rfl
    clear hl h
    go_enter Tryz.func37, Tryz.ntmps37
    go_wp2_with (at_builtin; refine wpList_append_own _ rfl _ _ 23 rfl w.heap.size 34 i0 _ 2 32 Tryz.underlying23 hi hz0 hz1 hz2 rfl (by decide) _ _ _ rfl ho a n c (xs.flatMap TFile.enc) rfl hlen.out (fun j u hu => cell_later eW (hnews j u hu)) (flatMap_one TFile xs) (by unfold maxLen; omega) (by omega) (by simp) ?_; intro v' w1 hown hgrow _; have eW1 : Aside (Ext w w1) := Below.grown eW hgrow (by simp) (fun k hk => Nat.le_of_eq (Option.some.inj hk)))
    go_ret
    have hown' : w1.ownsRow w.heap.size 34 2 v' xs.length (xs.flatMap TFile.enc) := by rw [L.out]; simpa using hown
    exact ⟨v', rfl, hown', eW1.out⟩

theorem Clone_own (xs : List File) (a : Option Addr) (n c : Nat) (w : World) (h : Arr TFile w a n c xs) (hn : n ≤ 1048576) : Calls Tryz.prog 37 #[.slice a n c] w (NewOwn w xs) := by
  refine (Clone_row xs a n c w h hn).mono ?_
  rintro e w' ⟨v, rfl, h1, h2⟩
  exact NewOwn.of_own h1 h2


/-- A row in memory, as the sort's kit says it. -/
theorem holds_of_arr {w : World} {b o n c : Nat} {l : List File} (h : Arr TFile w (some ⟨b, o, none⟩) n c l) (hf : ∀ k, w.frozen? ⟨b, k, none⟩ = false) : HoldsK encF 2 w b o l.toArray := by
  intro j hj
  rw [size_flatK] at hj
  refine ⟨?_, hf _⟩
  rw [get_flatK _ _ _ _ hj]
  have hj' : j / 2 < n := by have := h.len; simp at hj; omega
  obtain ⟨b', o', x, ha, hx, x0, x1⟩ := h.file hj'
  cases ha
  have hx' : l.toArray[j / 2]! = x := by simp [hx]
  rw [hx']
  rcases Nat.mod_two_eq_zero_or_one j with h0 | h0
  · have e : o + j = o + j / 2 * 2 := by omega
    rw [e, h0]; exact x0
  · have e : o + j = o + j / 2 * 2 + 1 := by omega
    rw [e, h0]; exact x1

theorem arr_of_holds {w : World} {b o c : Nat} {d : Array File} (h : HoldsK encF 2 w b o d) (hc : d.size ≤ c) (hb : c ≤ maxLen) : Arr TFile w (some ⟨b, o, none⟩) d.size c d.toList :=
  ⟨by simp, hc, hb, fun i x hx => ⟨b, o, rfl, fun j u hu => by
    have hi : i < d.size := by have := (List.getElem?_eq_some_iff.1 hx).1; simpa using this
    have hxi : d[i]! = x := by rw [getElem!_pos d i hi]; rw [List.getElem?_eq_getElem (by simpa using hi)] at hx; simpa using hx
    match j, hu with
    | 0, hu => have := (HoldsK.cell (c := 0) h hi (by decide)).1; rw [hxi] at this; rw [show o + i * TFile.k + 0 = o + i * 2 + 0 from rfl, this]; exact hu
    | 1, hu => have := (HoldsK.cell (c := 1) h hi (by decide)).1; rw [hxi] at this; rw [show o + i * TFile.k + 1 = o + i * 2 + 1 from rfl, this]; exact hu
    | k + 2, hu => simp [TFile] at hu⟩⟩

theorem fr_sort {w : World} {K blk off m : Nat} {d : Array File} {os : Array Obj} (_ : blk < w.heap.size) : Fr (fun k => k = blk) w (sortWorldK encF K w blk off m d os) := by
  unfold sortWorldK putRowK putRow mapBlock grow Sort.ahead
  refine ⟨rfl, rfl, rfl, ?_, fun k hk hn => ?_⟩
  · simp
  · simp only [Array.getElem?_append, Array.size_modify, hk, if_true]
    rw [Array.getElem?_modify, if_neg (fun e => hn e.symm)]

/-- What a stable sort does to a row of files. -/
def SortEnd (l : List File) (a : Option Addr) (c : Nat) (w : World) (e : Ending) (w' : World) : Prop :=
  e = .returned (.tuple #[]) ∧ ∃ s : List File, s.Perm l ∧ s.Pairwise leF ∧ Arr TFile w' a l.length c s ∧ Fr (fun k => ∃ o, a = some ⟨k, o, none⟩ ∧ l ≠ []) w w'

theorem stable_none (p : Option Addr) (cap : Nat) (fv : Value) (w : World) : Calls Tryz.prog 81 #[.slice p 0 cap, .int .i64 0, fv] w fun e w' => e = .returned (.tuple #[]) ∧ w' = w := by
  have hi : ∀ W, Calls Tryz.prog 109 #[.slice p 0 cap, .int .i64 0, .int .i64 0, fv] W fun e w' => e = .returned (.tuple #[]) ∧ w' = W := fun W => by
    go_enter Tryz.func109, Tryz.ntmps109
    go_wp2
    refine wp_loop_rounds 1 ?_
    rw [rounds_succ]
    go_wp2
    go_end0
    exact ⟨rfl, rfl⟩
  go_enter Tryz.func81, Tryz.ntmps81
  go_wp2
  refine wp_loop_rounds 1 ?_
  rw [rounds_succ]
  go_wp2_with (go_at_call 109; refine (hi _).mono ?_; rintro e w' ⟨rfl, rfl⟩)
  refine wp_loop_rounds 1 ?_
  rw [rounds_succ]
  go_wp2
  go_end0
  exact ⟨rfl, rfl⟩

theorem SortStable_calls (l : List File) (a : Option Addr) (c : Nat) (w : World) (hl : l.length ≤ 32) (hA : Arr TFile w a l.length c l) (hf : ∀ b o, a = some ⟨b, o, none⟩ → l ≠ [] → ∀ k, w.frozen? ⟨b, k, none⟩ = false) :
    Calls Tryz.prog 59 #[.slice a l.length c, .func (.func 60) #[] #[]] w (SortEnd l a c w) := by
  cases l with
  | nil =>
    have h := stable_none a c (.func (.func 60) #[] #[]) w
    go_enter Tryz.func59, Tryz.ntmps59
    go_wp2_with (go_at_call 81; refine h.mono ?_; rintro e w' ⟨rfl, rfl⟩)
    go_end0
    exact ⟨rfl, [], List.Perm.refl _, List.Pairwise.nil, hA, Fr.refl _ _⟩
  | cons x l' =>
    have hne : x :: l' ≠ [] := by simp
    generalize x :: l' = L at hl hA hf hne ⊢
    obtain ⟨b, o, ha, hcl⟩ := hA.cells 0 (L[0]'(List.length_pos_iff.2 hne)) (List.getElem?_eq_getElem _)
    subst ha
    clear hcl
    have hH := holds_of_arr hA (hf b o rfl hne)
    have hb := hA.lt rfl hne
    have h := aside (stable_k 2 rfl cmpF byPath_grown swoF b o c L.toArray w hH hb (by simpa using hl))
    have hsz : L.toArray.size = L.length := by simp
    rw [hsz] at h
    have X := aside hA
    have HB := aside hb
    have HN := aside hne
    have HH := aside hH
    clear hsz hA hf hb hne hH
    go_enter Tryz.func59, Tryz.ntmps59
    go_wp2_with (go_at_call 81; refine h.out.mono ?_; rintro e w' ⟨rfl, hT⟩; have HT := aside hT; clear hT)
    go_end0
    obtain ⟨m, os, d', hw, hs, hp⟩ := HT.out
    have hp1 : PermIn 0 L.toArray.size L.toArray d' := by simpa using hp.1
    have hp2 : SortedIn (ltOf cmpF) 0 L.toArray.size d' := by simpa using hp.2
    obtain ⟨p1, p2⟩ := row_sorted L.toArray d' hp1 hp2
    have hH2 : HoldsK encF 2 w' b o d' := by rw [hw]; exact holdsK_sortWorldK_c encF 2 w b o L.toArray d' m os HH.out HB.out hs
    have hsl : d'.size = L.length := by rw [hs]; simp
    have hA2 := arr_of_holds (c := c) hH2 (by rw [hsl]; exact X.out.cap) X.out.big
    rw [hsl] at hA2
    refine ⟨rfl, d'.toList, by simpa using p1, p2, hA2, ?_⟩
    rw [hw]
    exact (fr_sort HB.out).mono fun k _ hk => ⟨o, by rw [hk], HN.out⟩
end Go.Proofs.YtndpgdegcbaigaaGreatDoor
