/- Package path: which runes a name has. · Names by bytes and by runes: the same. Plain Lean. · Package path: Name. · Splitting at strokes, as the library says it, is what pieces says. Plain Lean. · Package path: Good. -/
import Derived.Test.YtndpgdegcbaigaaGreatDoorQ06
import Derived.Test.YtndpgdegcbaigaaGreatDoorQ01
import Derived.Lib.TrimUEq
import Derived.Laws.EntriesVeiled
import Derived.Test.YtndpgdegcbaigaaGreatDoorQ08
import Derived.Lib.Split
import Derived.Lib.ReplaceLaws
namespace Go.Proofs.YtndpgdegcbaigaaGreatDoor
open Go Go.RowKit

/-- A rune of a name. -/
def nameR (x : Nat) : Bool := (decide (97 ≤ x) && decide (x ≤ 122)) || (decide (48 ≤ x) && decide (x ≤ 57)) || x == 45 || x == 95 || x == 46

set_option maxHeartbeats 4000000 in
theorem Name1_calls (x : Nat) (w : World) : Calls Tryz.prog 106 #[.int .i32 (x : Int)] w fun e w' => e = .returned (.bool (nameR x)) ∧ w = w' := by
  by_cases a1 : (x : Int) ≥ 97
  · by_cases a2 : (x : Int) ≤ 122
    · go_enter Tryz.func106, Tryz.ntmps106
      go_wp2
      all_goals
        refine bodyPost_ret (v := .bool (nameR x)) ?_ rfl ⟨rfl, rfl⟩
        simp [results, Tryz.results106, go_sem, nameR]
        try omega
        try (rw [Bool.eq_iff_iff]; simp; omega)
    · have a3 : (x : Int) ≥ 48 := by omega
      have a4 : ¬ (x : Int) ≤ 57 := by omega
      have a5 : ((x : Int) == 45) = false := by simp; omega
      have a6 : ((x : Int) == 95) = false := by simp; omega
      have a7 : ((x : Int) == 46) = false := by simp; omega
      go_enter Tryz.func106, Tryz.ntmps106
      go_wp2
      all_goals
        refine bodyPost_ret (v := .bool (nameR x)) ?_ rfl ⟨rfl, rfl⟩
        simp [results, Tryz.results106, go_sem, nameR]
        try omega
        try (rw [Bool.eq_iff_iff]; simp; omega)
  · by_cases a3 : (x : Int) ≥ 48
    · by_cases a4 : (x : Int) ≤ 57
      · skip
        go_enter Tryz.func106, Tryz.ntmps106
        go_wp2
        all_goals
          refine bodyPost_ret (v := .bool (nameR x)) ?_ rfl ⟨rfl, rfl⟩
          simp [results, Tryz.results106, go_sem, nameR]
          try omega
          try (rw [Bool.eq_iff_iff]; simp; omega)
      · skip
        have a5 : ((x : Int) == 45) = false := by simp; omega
        have a7 : ((x : Int) == 46) = false := by simp; omega
        go_enter Tryz.func106, Tryz.ntmps106
        go_wp2
        all_goals
          refine bodyPost_ret (v := .bool (nameR x)) ?_ rfl ⟨rfl, rfl⟩
          simp [results, Tryz.results106, go_sem, nameR]
          try omega
          try (rw [Bool.eq_iff_iff]; simp; omega)
    · skip
      have a6 : ((x : Int) == 95) = false := by simp; omega
      go_enter Tryz.func106, Tryz.ntmps106
      go_wp2
      all_goals
        refine bodyPost_ret (v := .bool (nameR x)) ?_ rfl ⟨rfl, rfl⟩
        simp [results, Tryz.results106, go_sem, nameR]
        try omega
        try (rw [Bool.eq_iff_iff]; simp; omega)


theorem Name2_calls (B : Nat) (x : Nat) (w : World) (hB : w.cell? ⟨B, 0, none⟩ = some (.func (.func 106) #[] #[])) :
    Calls Tryz.prog 108 #[.int .i32 (x : Int), .pointer (some ⟨B, 0, none⟩)] w fun e w' => e = .returned (.bool (!nameR x)) ∧ w = w' := by
  have hlt := World.block_lt_of_cell? w ⟨B, 0, none⟩ hB
  go_enter Tryz.func108, Tryz.ntmps108
  go_wp2_with (go_at_call 106; refine (Name1_calls x _).mono ?_; rintro e w' ⟨rfl, rfl⟩)
  exact bodyPost_ret (v := .bool (!nameR x)) (by simp [results, Tryz.results108, go_sem]) rfl ⟨rfl, rfl⟩
end Go.Proofs.YtndpgdegcbaigaaGreatDoor

namespace Go.Proofs.YtndpgdegcbaigaaGreatDoor
open Go Go.RowKit

theorem decodeN_high (n b0 b1 b2 b3 : Nat) (h : 128 ≤ b0) : 128 ≤ (Lib.decodeN n b0 b1 b2 b3).1 := by
  unfold Lib.decodeN
  repeat' split
  all_goals first
    | (simp only; omega)
    | omega

theorem nameB_R (c : UInt8) : nameB c = nameR c.toNat := by
  unfold nameB nameR
  rw [Bool.eq_iff_iff]
  simp only [Bool.or_eq_true, Bool.and_eq_true, decide_eq_true_eq, beq_iff_eq, UInt8.le_iff_toNat_le, ← UInt8.toNat_inj]
  rfl
theorem nameR_high {x : Nat} (h : 128 ≤ x) : nameR x = false := by
  unfold nameR
  rw [Bool.eq_false_iff]
  simp only [ne_eq, Bool.or_eq_true, Bool.and_eq_true, decide_eq_true_eq, beq_iff_eq]
  omega

theorem idx_from (s : ByteArray) : ∀ (f pos : Nat), s.data.toList.length ≤ pos + f → (Lib.idxFuncFrom (fun x => !nameR x) true s f pos < 0 ↔ ∀ i, pos ≤ i → ∀ c, s.data.toList[i]? = some c → nameB c = true)
  | 0, pos, h => by
    refine ⟨fun _ i hi c hc => ?_, fun _ => by unfold Lib.idxFuncFrom; decide⟩
    have := (List.getElem?_eq_some_iff.1 hc).1
    omega
  | f + 1, pos, h => by
    have hsz : s.size = s.data.toList.length := rfl
    unfold Lib.idxFuncFrom
    by_cases hp : pos < s.size
    · rw [if_pos hp]
      obtain ⟨b, hb⟩ : ∃ b, s.data.toList[pos]? = some b := ⟨_, List.getElem?_eq_getElem (by omega)⟩
      have hbD : s.data.toList.getD pos 0 = b := by rw [List.getD_eq_getElem?_getD, hb]; rfl
      rw [Lib.decode_N, hbD]
      by_cases h128 : b.toNat < 128
      · rw [Lib.decodeN_ascii _ _ _ _ _ h128]
        by_cases hn : nameB b = true
        · have hr : nameR b.toNat = true := by rw [← nameB_R]; exact hn
          simp only [hr, Bool.not_true, Bool.false_eq_true, if_false]
          rw [idx_from s f (pos + 1) (by omega)]
          refine ⟨fun h1 i hi c hc => ?_, fun h1 i hi => h1 i (by omega)⟩
          by_cases e : i = pos
          · subst e; rw [hb] at hc; cases hc; exact hn
          · exact h1 i (by omega) c hc
        · have hr : nameR b.toNat = false := by rw [← nameB_R]; simpa using hn
          simp only [hr, Bool.not_false, if_true]
          refine ⟨fun h1 => by omega, fun h1 => absurd (h1 pos (Nat.le_refl _) b hb) hn⟩
      · have hr := nameR_high (decodeN_high (s.data.toList.length - pos) b.toNat (s.data.toList.getD (pos + 1) 0).toNat (s.data.toList.getD (pos + 2) 0).toNat (s.data.toList.getD (pos + 3) 0).toNat (by omega))
        simp only [hr, Bool.not_false, if_true]
        refine ⟨fun h1 => by omega, fun h1 => ?_⟩
        have h2 := h1 pos (Nat.le_refl _) b hb
        rw [nameB_R, nameR_high (by omega)] at h2
        cases h2
    · rw [if_neg hp]
      refine ⟨fun _ i hi c hc => ?_, fun _ => by decide⟩
      have := (List.getElem?_eq_some_iff.1 hc).1
      omega

theorem idx_names (s : ByteArray) : decide (0 ≤ Lib.idxFunc (fun x => !nameR x) true s) = !(s.data.toList.all nameB) := by
  have h := idx_from s s.size 0 (by show s.data.toList.length ≤ 0 + s.data.size; simp)
  unfold Lib.idxFunc
  rw [Bool.eq_iff_iff]
  simp only [decide_eq_true_eq, Bool.not_eq_true', List.all_eq_false]
  constructor
  · intro h1
    by_cases h2 : ∃ x, x ∈ s.data.toList ∧ ¬ nameB x = true
    · exact h2
    · exfalso
      have := h.2 fun i _ c hc => by
        by_cases h3 : nameB c = true
        · exact h3
        · exact absurd ⟨c, List.mem_of_getElem? hc, h3⟩ h2
      omega
  · rintro ⟨x, hx, hn⟩
    obtain ⟨i, hi, rfl⟩ := List.mem_iff_getElem.1 hx
    by_cases h1 : Lib.idxFuncFrom (fun x => !nameR x) true s s.size 0 < 0
    · exact absurd (h.1 h1 i (Nat.zero_le _) _ (List.getElem?_eq_getElem hi)) hn
    · omega
end Go.Proofs.YtndpgdegcbaigaaGreatDoor

namespace Go.Proofs.YtndpgdegcbaigaaGreatDoor
open Go Go.RowKit

theorem enters108 : Enters Tryz.prog 108 := enters_of Tryz.func108 rfl rfl

theorem pred_Name (B : Nat) (w : World) (hB : w.cell? ⟨B, 0, none⟩ = some (.func (.func 106) #[] #[])) : PredAt Tryz.prog 108 #[.pointer (some ⟨B, 0, none⟩)] encR (fun x => !nameR x) w := by
  intro W x hb
  have hlt := World.block_lt_of_cell? w ⟨B, 0, none⟩ hB
  refine (Name2_calls B x W ((hb.cell (p := ⟨B, 0, none⟩) hlt).trans hB)).mono ?_
  rintro e w' ⟨rfl, rfl⟩
  exact ⟨rfl, 0, rfl⟩

set_option maxHeartbeats 2000000 in
set_option maxRecDepth 20000 in
theorem Name_calls (s : ByteArray) (w : World) : Calls Tryz.prog 80 #[.string s] w fun e w' => e = .returned (.bool (goodName s.data.toList)) ∧ Ext w w' := by
  have hmf : ∀ (fn : Fn) (first cap : Array Value) (w : World), (Instr.makeFunc fn first cap).run Tryz.prog w = .ok (.func fn first cap) w := fun _ _ _ _ => rfl
  have hsz : Aside (s.size = s.data.toList.length) := (show Aside _ from rfl)
  have hmt : Aside (s.toList = s.data.toList) := ByteArray.toList_eq s
  by_cases h0 : s.size = 0
  · have hE : s.toList.isEmpty = true := by rw [hmt.out, List.isEmpty_iff]; exact List.eq_nil_of_length_eq_zero (by rw [← hsz.out]; exact h0)
    go_enter Tryz.func80, Tryz.ntmps80
    go_wp2
    exact bodyPost_ret (v := .bool false) (by simp [results, Tryz.results80, go_sem]) rfl ⟨ret_bool (by unfold goodName; rw [← hsz.out, h0]; rfl), by ((repeat (first | exact Ext.refl _ | assumption | refine Ext.drew' ?_ | refine Ext.alloc' ?_ _ | (with_reducible refine Ext.trans ?_ (Ext.drewN _ _)) | refine Ext.trans ?_ (by assumption))); done)⟩
  · have hE : s.toList.isEmpty = false := by rw [hmt.out]; cases h : s.data.toList with
      | nil => exfalso; have h1 := hsz.out; rw [h] at h1; exact h0 h1
      | cons a l => rfl
    by_cases h32 : (s.size : Int) ≤ 32
    · have hpos : 0 < s.size := by omega
      have hhead : Aside (s.data.toList.head? = some s[0]) := (show Aside _ from by
        show s.data.toList.head? = some s[0]
        rw [List.head?_eq_getElem?]
        have : 0 < s.data.toList.length := by rw [← hsz.out]; exact hpos
        rw [List.getElem?_eq_getElem this]; rfl)
      by_cases hd : s[0].toNat = 46
      · go_enter Tryz.func80, Tryz.ntmps80
        go_wp2
        exact bodyPost_ret (v := .bool false) (by simp [results, Tryz.results80, go_sem]) rfl ⟨ret_bool (by unfold goodName; rw [hhead.out, show s[0] = 46 from UInt8.toNat_inj.1 hd]; simp), by ((repeat (first | exact Ext.refl _ | assumption | refine Ext.drew' ?_ | refine Ext.alloc' ?_ _ | (with_reducible refine Ext.trans ?_ (Ext.drewN _ _)) | refine Ext.trans ?_ (by assumption))); done)⟩
      · have hd' : (((s[0].toNat : Nat) : Int) != 46) = true := by simp; omega
        have hg : Aside (goodName s.data.toList = s.data.toList.all nameB) := (show Aside _ from by
          show goodName s.data.toList = s.data.toList.all nameB
          have h1 : s[0] ≠ 46 := fun e => hd (by rw [e]; rfl)
          have h2 : (s.data.toList.head? != some 46) = true := by rw [hhead.out]; simpa using h1
          have h3 := hsz.out
          have h4 : decide (0 < s.data.toList.length) = true := decide_eq_true (by omega)
          have h5 : decide (s.data.toList.length ≤ 32) = true := decide_eq_true (by omega)
          unfold goodName
          rw [h2, h4, h5]; simp)
        have hcell : Aside ((w.alloc (.cells #[.func (.func 106) #[] #[]] 129)).cell? ⟨w.heap.size, 0, none⟩ = some (.func (.func 106) #[] #[])) := (new_kept (Ext.refl _) (new_block w _ _ rfl)).1
        go_enter Tryz.func80, Tryz.ntmps80
        go_wp2_with (go_at_call 107; refine (Tryz.strings_ContainsFunc 108 #[.pointer (some ⟨w.heap.size, 0, none⟩)] enters108 (fun x => !nameR x) s _ (pred_Name _ _ hcell.out)).mono ?_; rw [idx_names]; rintro e w' ⟨rfl, hB⟩; have hB2 : Ext _ w' := hB)
        refine bodyPost_ret (v := .bool (s.data.toList.all nameB)) (by simp [results, Tryz.results80, go_sem]) rfl ⟨ret_bool hg.out.symm, ?_⟩
        ((repeat (first | exact Ext.refl _ | assumption | refine Ext.drew' ?_ | refine Ext.alloc' ?_ _ | (with_reducible refine Ext.trans ?_ (Ext.drewN _ _)) | refine Ext.trans ?_ (by assumption))); done)
    · go_enter Tryz.func80, Tryz.ntmps80
      go_wp2
      exact bodyPost_ret (v := .bool false) (by simp [results, Tryz.results80, go_sem]) rfl ⟨ret_bool (by unfold goodName; rw [show decide (s.data.toList.length ≤ 32) = false from decide_eq_false (by rw [← hsz.out]; omega)]; simp), by ((repeat (first | exact Ext.refl _ | assumption | refine Ext.drew' ?_ | refine Ext.alloc' ?_ _ | (with_reducible refine Ext.trans ?_ (Ext.drewN _ _)) | refine Ext.trans ?_ (by assumption))); done)⟩
end Go.Proofs.YtndpgdegcbaigaaGreatDoor

namespace Go.Proofs.YtndpgdegcbaigaaGreatDoor
open Go Go.RowKit

theorem index_stroke (c : UInt8) (l : List UInt8) : Lib.index (c :: l) [47] = if c = 47 then 0 else if Lib.index l [47] == -1 then -1 else Lib.index l [47] + 1 := by
  rw [Lib.index]
  by_cases h : c = 47
  · subst h; simp
  · rw [if_neg (by simp only [List.isPrefixOf, Bool.and_true, beq_iff_eq]; exact fun e => h e.symm), if_neg h]

theorem pieces_miss : ∀ {s : List UInt8}, Lib.index s [47] = -1 → pieces s = [s]
  | [], _ => rfl
  | c :: l, h => by
    rw [index_stroke] at h
    have hg := Lib.index_ge l [47]
    by_cases hc : c = 47
    · rw [if_pos hc] at h; omega
    · rw [if_neg hc] at h
      have hl : Lib.index l [47] = -1 := by
        split at h
        · rename_i e; exact eq_of_beq e
        · omega
      rw [pieces, if_neg hc, pieces_miss hl]

theorem pieces_hit : ∀ {s : List UInt8} {i : Nat}, Lib.index s [47] = i → pieces s = s.take i :: pieces (s.drop (i + 1))
  | [], i, h => by simp [Lib.index] at h
  | c :: l, i, h => by
    rw [index_stroke] at h
    by_cases hc : c = 47
    · rw [if_pos hc] at h
      obtain rfl : i = 0 := by omega
      rw [pieces, if_pos hc]; rfl
    · rw [if_neg hc] at h
      split at h
      · omega
      · have hg := Lib.index_ge l [47]
        obtain ⟨j, hj⟩ : ∃ j : Nat, Lib.index l [47] = j := ⟨(Lib.index l [47]).toNat, by
          rename_i e
          have : ¬ Lib.index l [47] = -1 := fun e2 => e (by rw [e2]; rfl)
          omega⟩
        obtain rfl : i = j + 1 := by omega
        rw [pieces, if_neg hc, pieces_hit hj]; rfl

theorem splitK_pieces : ∀ (n : Nat) (s : List UInt8), s.length ≤ n → Lib.splitK [47] 0 (Lib.count s [47]) s = pieces s
  | n, s, hn => by
    have hg := Lib.index_ge s [47]
    by_cases h : Lib.index s [47] = -1
    · rw [Lib.count_miss h, pieces_miss h]; rfl
    · obtain ⟨i, hi⟩ : ∃ i : Nat, Lib.index s [47] = i := ⟨(Lib.index s [47]).toNat, by omega⟩
      rw [Lib.count_hit (by simp) hi, Nat.add_comm, pieces_hit hi, Lib.splitK, if_neg (by rw [beq_iff_eq]; exact h), hi]
      simp only [Int.toNat_natCast, Nat.add_zero, List.length_cons, List.length_nil, Nat.zero_add]
      congr 1
      match n, hn with
      | 0, hn =>
        have : s = [] := List.eq_nil_of_length_eq_zero (by omega)
        subst this; simp [Lib.index] at h
      | n + 1, hn =>
        refine splitK_pieces n _ ?_
        rw [List.length_drop]
        match s, h with
        | [], h => simp
        | c :: l, h => simp at hn ⊢; omega

theorem pieces_len : ∀ (n : Nat) (s : List UInt8), s.length ≤ n → (pieces s).length = Lib.count s [47] + 1
  | n, s, hn => by
    have hg := Lib.index_ge s [47]
    by_cases h : Lib.index s [47] = -1
    · rw [Lib.count_miss h, pieces_miss h]; rfl
    · obtain ⟨i, hi⟩ : ∃ i : Nat, Lib.index s [47] = i := ⟨(Lib.index s [47]).toNat, by omega⟩
      rw [Lib.count_hit (by simp) hi, pieces_hit hi, List.length_cons]
      simp only [List.length_cons, List.length_nil, Nat.zero_add]
      match n, hn with
      | 0, hn =>
        have : s = [] := List.eq_nil_of_length_eq_zero (by omega)
        subst this; simp [Lib.index] at h
      | n + 1, hn =>
        rw [pieces_len n _ (by
          rw [List.length_drop]
          match s, h with
          | [], h => simp
          | c :: l, h => simp at hn ⊢; omega)]
        omega

theorem split_pieces (s : ByteArray) : (Lib.splitB ⟨#[47]⟩ 0 (Lib.countB s ⟨#[47]⟩) s).map (·.data.toList) = pieces s.data.toList := by
  rw [Lib.splitB_data]
  exact splitK_pieces _ _ (Nat.le_refl _)
end Go.Proofs.YtndpgdegcbaigaaGreatDoor

namespace Go.Proofs.YtndpgdegcbaigaaGreatDoor
open Go Go.RowKit

theorem enters79 : Enters Tryz.prog 79 := enters_of Tryz.func79 rfl rfl

theorem pred_Good (w : World) : PredB 79 #[] (Value.string ·) (fun p : ByteArray => !goodName p.data.toList) w := by
  intro W x _
  go_enter Tryz.func79, Tryz.ntmps79
  go_wp2_with (go_at_call 80; refine (Name_calls x _).mono ?_; rintro e w' ⟨rfl, hE⟩)
  exact bodyPost_ret (v := .bool (!goodName x.data.toList)) (by simp [results, Tryz.results79, go_sem]) rfl ⟨rfl, hE⟩

theorem arr_split (w : World) (xs : List ByteArray) (hx : xs.length ≤ maxLen) : Arr TStr (w.alloc (.cells (xs.map Value.string).toArray 9)) (some ⟨w.heap.size, 0, none⟩) xs.length xs.length xs := by
  refine ⟨rfl, Nat.le_refl _, hx, fun i x hi => ⟨w.heap.size, 0, rfl, fun j u hu => ?_⟩⟩
  have hj : j = 0 := by
    have := (List.getElem?_eq_some_iff.1 hu).1
    rw [TStr.len] at this; show j = 0; have h2 : TStr.k = 1 := rfl; omega
  subst hj
  have hu' : u = .string x := by simpa [TStr] using hu.symm
  subst hu'
  have hk : (w.alloc (.cells (xs.map Value.string).toArray 9)).heap[w.heap.size]? = some (.cells (xs.map Value.string).toArray 9) := new_block w _ _ rfl
  rw [cell_of_row _ w.heap.size _ _ 9 (0, 0) hk]
  have h1 : TStr.k = 1 := rfl
  simp [h1, hi]

theorem countB_mul_le' (s : ByteArray) : Lib.countB s ⟨#[47]⟩ ≤ s.size := by
  have := Lib.countB_mul_le ⟨#[47]⟩ (by decide) s.size s (Nat.le_refl _)
  have h2 : (⟨#[47]⟩ : ByteArray).size = 1 := rfl
  rw [h2, Nat.mul_one] at this; exact this

set_option maxHeartbeats 2000000 in
set_option maxRecDepth 20000 in
theorem Good_calls (s : ByteArray) (w : World) (hs : s.size ≤ 1048576) (hg : Globals w) : Calls Tryz.prog 58 #[.string s] w fun e w' => e = .returned (.bool (goodPath s)) ∧ Ext w w' := by
  obtain ⟨m, hm⟩ := hg.mx
  obtain ⟨xs, hxs⟩ : ∃ xs, Lib.splitB ⟨#[47]⟩ 0 (Lib.countB s ⟨#[47]⟩) s = xs := ⟨_, rfl⟩
  have hp : Aside (xs.map (·.data.toList) = pieces s.data.toList) := (show Aside _ from by rw [← hxs]; exact split_pieces s)
  have hlen : Lib.countB s ⟨#[47]⟩ + 1 = xs.length := by
    have h1 : (xs.map (·.data.toList)).length = xs.length := List.length_map _
    rw [← h1, hp.out, pieces_len _ _ (Nat.le_refl _)]; first | done | rfl
  have hlp : Aside ((pieces s.data.toList).length = xs.length) := (show Aside _ from by
    show (pieces s.data.toList).length = xs.length
    rw [← hp.out, List.length_map])
  have hall : Aside ((pieces s.data.toList).all goodName = !(xs.any fun p => !goodName p.data.toList)) := (show Aside _ from by
    show (pieces s.data.toList).all goodName = _
    rw [← hp.out, List.all_map, List.not_any_eq_all_not]
    congr 1; funext p; simp)
  have hcnt : xs.length ≤ maxLen := by
    have := countB_mul_le' s
    unfold maxLen; omega
  have hsp := Tryz.strings_Split s ⟨#[47]⟩ m w (by omega) hm (by decide)
  rw [hlen, hxs] at hsp
  by_cases h1 : (s.size : Int) ≤ 128
  · by_cases h2 : (xs.length : Int) ≤ 8
    · have hgp : Aside (goodPath s = !(xs.any fun p => !goodName p.data.toList)) := (show Aside _ from by
        show goodPath s = _
        unfold goodPath
        rw [← hall.out, hlp.out, decide_eq_true (show s.size ≤ 128 by omega), decide_eq_true (show xs.length ≤ 8 by omega)]; rfl)
      go_enter Tryz.func58, Tryz.ntmps58
      go_wp2_with (first
        | (go_at_call 77; refine hsp.mono ?_; rintro e w' ⟨rfl, rfl⟩)
        | (go_at_call 78; refine (ContainsFunc_Str (fun p : ByteArray => !goodName p.data.toList) 79 #[] enters79 _ _ _ xs _ (pred_Good _) (arr_split w xs hcnt)).mono ?_; rintro e w' ⟨rfl, hE⟩))
      exact bodyPost_ret (v := .bool (!(xs.any fun p => !goodName p.data.toList))) (by simp [results, Tryz.results58, go_sem]) rfl ⟨ret_bool hgp.out.symm, (Ext.alloc _ _).trans hE⟩
    · go_enter Tryz.func58, Tryz.ntmps58
      go_wp2_with (go_at_call 77; refine hsp.mono ?_; rintro e w' ⟨rfl, rfl⟩)
      exact bodyPost_ret (v := .bool false) (by simp [results, Tryz.results58, go_sem]) rfl ⟨ret_bool (by unfold goodPath; rw [hlp.out, decide_eq_false (show ¬ xs.length ≤ 8 by omega)]; simp), by ((repeat (first | exact Ext.refl _ | assumption | refine Ext.drew' ?_ | refine Ext.alloc' ?_ _ | (with_reducible refine Ext.trans ?_ (Ext.drewN _ _)) | refine Ext.trans ?_ (by assumption))); done)⟩
  · go_enter Tryz.func58, Tryz.ntmps58
    go_wp2_with (go_at_call 77; refine hsp.mono ?_; rintro e w' ⟨rfl, rfl⟩)
    exact bodyPost_ret (v := .bool false) (by simp [results, Tryz.results58, go_sem]) rfl ⟨ret_bool (by unfold goodPath; rw [decide_eq_false (show ¬ s.size ≤ 128 by omega)]; simp), by ((repeat (first | exact Ext.refl _ | assumption | refine Ext.drew' ?_ | refine Ext.alloc' ?_ _ | (with_reducible refine Ext.trans ?_ (Ext.drewN _ _)) | refine Ext.trans ?_ (by assumption))); done)⟩
end Go.Proofs.YtndpgdegcbaigaaGreatDoor
