/- slices.Clone at instructions, files and values: the same list in new memory. · A region that draws its order, whose first operations only read and whose last ones stand in one forced order: walked once, in the order of the text. · Package vm: kinds takes the last values, of these sorts. · Package vm: kinds by its signs; what an instruction's work answers, said once. · A region that draws its order, opens with one plain move, then only reads, and ends in a forced chain of calls: the move may stand anywhere among the calls; one walk serves all orders. · Package vm: one, two, three values taken by their kinds; reckon. · Package vm: values: arithmetic, not, pop, dup, load. -/
import Derived.Test.YtndpgdegcbaigaaGreatDoorQ01
import Derived.StillTailTactics
import Derived.Test.YtndpgdegcbaigaaGreatDoorQ02
namespace Go.Proofs.YtndpgdegcbaigaaGreatDoor
open Go Go.RowKit

theorem Tryz.infoCloneIns : (Tryz.prog.info? 38).map (fun i => (i.zero, i.size, i.bytes)) = some (some (.agg #[.int .i64 0, .int .i64 0, .string ⟨#[]⟩]), 3, 32) := by kernel_rfl
theorem Clone_Ins (xs : List Ins) (a : Option Addr) (n c : Nat) (w : World) (h : Arr TIns w a n c xs) (hn : n ≤ 1048576) :
    Calls Tryz.prog 43 #[.slice a n c] w fun e w' => NewArr TIns w xs e w' := by
  have hl := h.len
  have hnil := fun w => Lib.run_eql_slice_nil (P := Tryz.prog) w 22 38 a n c 0 0 Tryz.underlying22
  cases a with
  | none =>
    obtain rfl : xs = [] := by
      cases xs with
      | nil => rfl
      | cons x xs => obtain ⟨b, o, ha, _⟩ := h.cells 0 x rfl; cases ha
    simp only [Option.isNone_none] at hnil
    go_enter Tryz.func43, Tryz.ntmps43
    go_wp2
    go_ret
    exact ⟨none, 0, rfl, Arr.nil _ _ _ _ (by unfold maxLen; omega), Ext.refl _, fun _ _ h => by cases h⟩
  | some a =>
    simp only [Option.isNone_some] at hnil
    obtain ⟨b, o, hsp, hnews⟩ : ∃ b o, (xs ≠ [] → a = ⟨b, o, none⟩) ∧ ∀ j u, (xs.flatMap TIns.enc)[j]? = some u → w.cell? (a.add j) = some u := by
      cases xs with
      | nil => exact ⟨0, 0, fun h => absurd rfl h, fun j u h => by simp at h⟩
      | cons x xs =>
        obtain ⟨b, o, ha, _⟩ := h.cells 0 x rfl
        cases ha
        exact ⟨b, o, fun _ => rfl, fun j u hu => h.flat j u hu⟩
    obtain ⟨i0, hi, hz0, hz1, hz2⟩ := info_parts Tryz.infoCloneIns
    have eW : Ext w (w.alloc (.cells #[] 38)) := Ext.alloc _ _
    have ho : (w.alloc (.cells #[] 38)).ownsRow w.heap.size 38 3 (.slice (some ⟨w.heap.size, 0, none⟩) 0 0) 0 [] := World.ownsRow_made w #[] 0 (Nat.le_refl _) (by unfold maxLen; omega) rfl
    have L : Aside (xs.length = n) := hl
    have hlen : Aside ((xs.flatMap TIns.enc).length = n * 3) := by rw [flatMap_len, hl]; rfl
    clear hl h
    go_enter Tryz.func43, Tryz.ntmps43
    go_wp2_with (at_builtin; refine wpList_append_own _ rfl _ _ 22 rfl w.heap.size 38 i0 _ 3 32 Tryz.underlying22 hi hz0 hz1 hz2 rfl (by decide) _ _ _ rfl ho a n c (xs.flatMap TIns.enc) rfl hlen.out (fun j u hu => cell_later eW (hnews j u hu)) (flatMap_one TIns xs) (by unfold maxLen; omega) (by omega) (by simp) ?_; intro v' w1 hown hgrow _; have eW1 : Aside (Ext w w1) := Below.grown eW hgrow (by simp) (fun k hk => Nat.le_of_eq (Option.some.inj hk)))
    go_ret
    have hown' : w1.ownsRow w.heap.size 38 3 v' xs.length (xs.flatMap TIns.enc) := by rw [L.out]; simpa using hown
    exact NewArr.of_own (T := TIns) hown' eW1.out

theorem Tryz.infoCloneFile : (Tryz.prog.info? 34).map (fun i => (i.zero, i.size, i.bytes)) = some (some (.agg #[.string ⟨#[]⟩, .string ⟨#[]⟩]), 2, 32) := by kernel_rfl
theorem Clone_File (xs : List File) (a : Option Addr) (n c : Nat) (w : World) (h : Arr TFile w a n c xs) (hn : n ≤ 1048576) :
    Calls Tryz.prog 37 #[.slice a n c] w fun e w' => NewArr TFile w xs e w' := by
  have hl := h.len
  have hnil := fun w => Lib.run_eql_slice_nil (P := Tryz.prog) w 23 34 a n c 0 0 Tryz.underlying23
  cases a with
  | none =>
    obtain rfl : xs = [] := by
      cases xs with
      | nil => rfl
      | cons x xs => obtain ⟨b, o, ha, _⟩ := h.cells 0 x rfl; cases ha
    simp only [Option.isNone_none] at hnil
    go_enter Tryz.func37, Tryz.ntmps37
    go_wp2
    go_ret
    exact ⟨none, 0, rfl, Arr.nil _ _ _ _ (by unfold maxLen; omega), Ext.refl _, fun _ _ h => by cases h⟩
  | some a =>
    simp only [Option.isNone_some] at hnil
    obtain ⟨b, o, hsp, hnews⟩ : ∃ b o, (xs ≠ [] → a = ⟨b, o, none⟩) ∧ ∀ j u, (xs.flatMap TFile.enc)[j]? = some u → w.cell? (a.add j) = some u := by
      cases xs with
      | nil => exact ⟨0, 0, fun h => absurd rfl h, fun j u h => by simp at h⟩
      | cons x xs =>
        obtain ⟨b, o, ha, _⟩ := h.cells 0 x rfl
        cases ha
        exact ⟨b, o, fun _ => rfl, fun j u hu => h.flat j u hu⟩
    obtain ⟨i0, hi, hz0, hz1, hz2⟩ := info_parts Tryz.infoCloneFile
    have eW : Ext w (w.alloc (.cells #[] 34)) := Ext.alloc _ _
    have ho : (w.alloc (.cells #[] 34)).ownsRow w.heap.size 34 2 (.slice (some ⟨w.heap.size, 0, none⟩) 0 0) 0 [] := World.ownsRow_made w #[] 0 (Nat.le_refl _) (by unfold maxLen; omega) rfl
    have L : Aside (xs.length = n) := hl
    have hlen : Aside ((xs.flatMap TFile.enc).length = n * 2) := by rw [flatMap_len, hl]; rfl
    clear hl h
    go_enter Tryz.func37, Tryz.ntmps37
    go_wp2_with (at_builtin; refine wpList_append_own _ rfl _ _ 23 rfl w.heap.size 34 i0 _ 2 32 Tryz.underlying23 hi hz0 hz1 hz2 rfl (by decide) _ _ _ rfl ho a n c (xs.flatMap TFile.enc) rfl hlen.out (fun j u hu => cell_later eW (hnews j u hu)) (flatMap_one TFile xs) (by unfold maxLen; omega) (by omega) (by simp) ?_; intro v' w1 hown hgrow _; have eW1 : Aside (Ext w w1) := Below.grown eW hgrow (by simp) (fun k hk => Nat.le_of_eq (Option.some.inj hk)))
    go_ret
    have hown' : w1.ownsRow w.heap.size 34 2 v' xs.length (xs.flatMap TFile.enc) := by rw [L.out]; simpa using hown
    exact NewArr.of_own (T := TFile) hown' eW1.out

theorem Tryz.infoCloneVal : (Tryz.prog.info? 75).map (fun i => (i.zero, i.size, i.bytes)) = some (some (.agg #[.bool false, .int .i64 0, .string ⟨#[]⟩]), 3, 32) := by kernel_rfl
theorem Clone_Val (xs : List Val) (a : Option Addr) (n c : Nat) (w : World) (h : Arr TVal w a n c xs) (hn : n ≤ 1048576) :
    Calls Tryz.prog 112 #[.slice a n c] w fun e w' => NewArr TVal w xs e w' := by
  have hl := h.len
  have hnil := fun w => Lib.run_eql_slice_nil (P := Tryz.prog) w 61 75 a n c 0 0 Tryz.underlying61
  cases a with
  | none =>
    obtain rfl : xs = [] := by
      cases xs with
      | nil => rfl
      | cons x xs => obtain ⟨b, o, ha, _⟩ := h.cells 0 x rfl; cases ha
    simp only [Option.isNone_none] at hnil
    go_enter Tryz.func112, Tryz.ntmps112
    go_wp2
    go_ret
    exact ⟨none, 0, rfl, Arr.nil _ _ _ _ (by unfold maxLen; omega), Ext.refl _, fun _ _ h => by cases h⟩
  | some a =>
    simp only [Option.isNone_some] at hnil
    obtain ⟨b, o, hsp, hnews⟩ : ∃ b o, (xs ≠ [] → a = ⟨b, o, none⟩) ∧ ∀ j u, (xs.flatMap TVal.enc)[j]? = some u → w.cell? (a.add j) = some u := by
      cases xs with
      | nil => exact ⟨0, 0, fun h => absurd rfl h, fun j u h => by simp at h⟩
      | cons x xs =>
        obtain ⟨b, o, ha, _⟩ := h.cells 0 x rfl
        cases ha
        exact ⟨b, o, fun _ => rfl, fun j u hu => h.flat j u hu⟩
    obtain ⟨i0, hi, hz0, hz1, hz2⟩ := info_parts Tryz.infoCloneVal
    have eW : Ext w (w.alloc (.cells #[] 75)) := Ext.alloc _ _
    have ho : (w.alloc (.cells #[] 75)).ownsRow w.heap.size 75 3 (.slice (some ⟨w.heap.size, 0, none⟩) 0 0) 0 [] := World.ownsRow_made w #[] 0 (Nat.le_refl _) (by unfold maxLen; omega) rfl
    have L : Aside (xs.length = n) := hl
    have hlen : Aside ((xs.flatMap TVal.enc).length = n * 3) := by rw [flatMap_len, hl]; rfl
    clear hl h
    go_enter Tryz.func112, Tryz.ntmps112
    go_wp2_with (at_builtin; refine wpList_append_own _ rfl _ _ 61 rfl w.heap.size 75 i0 _ 3 32 Tryz.underlying61 hi hz0 hz1 hz2 rfl (by decide) _ _ _ rfl ho a n c (xs.flatMap TVal.enc) rfl hlen.out (fun j u hu => cell_later eW (hnews j u hu)) (flatMap_one TVal xs) (by unfold maxLen; omega) (by omega) (by simp) ?_; intro v' w1 hown hgrow _; have eW1 : Aside (Ext w w1) := Below.grown eW hgrow (by simp) (fun k hk => Nat.le_of_eq (Option.some.inj hk)))
    go_ret
    have hown' : w1.ownsRow w.heap.size 75 3 v' xs.length (xs.flatMap TVal.enc) := by rw [L.out]; simpa using hown
    exact NewArr.of_own (T := TVal) hown' eW1.out
end Go.Proofs.YtndpgdegcbaigaaGreatDoor

namespace Go.Proofs.YtndpgdegcbaigaaGreatDoor
open Go Go.RowKit

theorem still_of_quiet {P : Program} {ops : Array Oper} {w : World} {Q : Act → Prop} : ∀ (l : List Oper) (a : Act), wpQuiet P ops (fun w' => w' = w) Q l a → wpStill P ops w Q l a
  | [], _, h => h
  | o :: l, a, h => by
    unfold wpQuiet at h
    unfold wpStill
    split
    · rename_i hw
      rw [if_pos hw] at h
      obtain ⟨v, h1, h2⟩ := h
      have h3 := h1 w rfl
      unfold Oper.quietAt at h3
      unfold Oper.still
      generalize (execOp a.eval o).run P w = r at *
      cases r with
      | ok n w' =>
        cases n <;> simp only [Oper.quietUpon] at h3 <;> simp only [Oper.stillUpon]
        case value u => obtain ⟨rfl, rfl⟩ := h3; exact ⟨rfl, still_of_quiet l _ h2⟩
        case skip => obtain ⟨rfl, rfl⟩ := h3; exact ⟨rfl, still_of_quiet l _ h2⟩
        case enter f args => obtain ⟨rfl, hc⟩ := h3; exact ⟨rfl, v, hc, still_of_quiet l _ h2⟩
      | halt x w' => simp only [Oper.quietUpon] at h3
    · rename_i hw
      rw [if_neg hw] at h
      exact still_of_quiet l _ h

theorem wp_region_mixed {P : Program} {id : Nat} {Q : Exit → Act → World → Prop} {a : Act} {w : World} {l : List Oper} (n : Nat) (hm : P.follows .mixedOrders = true) (hB : Region.lexTailB .any l.toArray n = true)
    (h : wpQuiet P l.toArray (fun w' => w' = w.drew) (fun a' => wpList P l.toArray Q (l.drop n) a' w.drew) (l.take n) a) : (Code.region id l.toArray true).wp P Q a w :=
  wp_region_still_tail n hm hB (still_of_quiet _ _ h)
end Go.Proofs.YtndpgdegcbaigaaGreatDoor

namespace Go.Proofs.YtndpgdegcbaigaaGreatDoor
open Go Go.RowKit

theorem ownsRow_cut {w : World} {base : Nat} {e : TypeId} {size g cap n m : Nat} {xs last : List Value} (hx : xs.length = n * size)
    (h : w.ownsRow base e size (.slice (some ⟨g, 0, none⟩) (n + m) cap) (n + m) (xs ++ last)) : w.ownsRow base e size (.slice (some ⟨g, 0, none⟩) n cap) n xs := by
  obtain ⟨_, h2⟩ := h
  rcases h2 with ⟨h0, _⟩ | ⟨g', cap', cur, hv, hg, hh, hn, hcap, hsz, htake⟩
  · cases h0
  · cases hv
    refine ⟨hx, .inr ⟨g, cap, cur, rfl, hg, hh, by omega, hcap, hsz, ?_⟩⟩
    have h3 : (cur.toList.take ((n + m) * size)).take (n * size) = (xs ++ last).take (n * size) := by rw [htake]
    rw [List.take_take, Nat.min_eq_left (Nat.mul_le_mul_right _ (by omega))] at h3
    rw [h3, ← hx]
    simp

/-- The last ones of a slice. -/
theorem Arr.drop {α : Type} {T : Ty α} {w : World} {b o n c : Nat} {xs ys : List α} (h : Arr T w (some ⟨b, o, none⟩) n c (xs ++ ys)) {m k : Nat} (hm : xs.length = m) (hk : ys.length = k) :
    Arr T w (some ⟨b, o + m * T.k, none⟩) k (c - m) ys := by
  have hl := h.len
  have hc := h.cap
  rw [List.length_append] at hl
  refine ⟨hk, by omega, by have := h.big; omega, fun i x hx => ⟨b, _, rfl, fun j u hu => ?_⟩⟩
  obtain ⟨b', o', ha, hcell⟩ := h.cells (m + i) x (by rw [List.getElem?_append_right (by omega)]; rw [← hx]; congr 1; omega)
  cases ha
  have := hcell j u hu
  rw [Nat.add_mul] at this
  rw [← this]; congr 2; omega

/-- The last values, taken off a machine's stack, in new memory. -/
def Took (w : World) (p : Nat) (prog : List Ins) (view : List File) (c : Cfg) (steps : Int) (done : Bool) (fault : Int) (sb cb : Option Nat) (xs tops : List Val) (r : Ending) (w' : World) : Prop :=
  ∃ a cp, r = .returned (.slice a tops.length cp) ∧ Arr TVal w' a tops.length cp tops ∧ Does w p prog view { c with stack := xs } steps done fault sb cb w'

section
variable {p : Nat} {prog : List Ins} {view : List File} {c : Cfg} {steps : Int} {done : Bool} {fault : Int} {sb cb : Option Nat} {w : World}

/-- Is the i-th sign that of a text? -/
def signT (signs : ByteArray) (i : Nat) : Bool := if h : i < signs.size then ((signs[i].toNat : Int) == 116) else false

set_option maxHeartbeats 1000000 in
theorem kinds_short (signs : ByteArray) (h : Mach w p prog view c steps done fault sb cb) (hk : ¬ signs.size ≤ c.stack.length) :
    Calls Tryz.prog 87 #[.pointer (some ⟨p, 0, none⟩), .string signs] w fun r w' => r = stopped 40 ∧ w = w' := by
  go_enter Tryz.func87, Tryz.ntmps87
  go_wp2_with (go_at_call 95; refine (need_no signs.size h hk).mono ?_; rintro e w' ⟨rfl, rfl⟩)
  exact ⟨rfl, rfl, rfl⟩

set_option maxHeartbeats 1000000 in
theorem kinds_ok (signs : ByteArray) (xs tops : List Val) (h : Mach w p prog view c steps done fault sb cb) (hs : c.stack = xs ++ tops) (hk : signs.size = tops.length) (hk0 : 0 < tops.length) (hb64 : c.stack.length ≤ 64)
    (hok : ∀ i v, tops[i]? = some v → v.text = signT signs i) :
    Calls Tryz.prog 87 #[.pointer (some ⟨p, 0, none⟩), .string signs] w fun r w' => Took w p prog view c steps done fault sb cb xs tops r w' := by
  obtain ⟨sa, sc, c3, h4, e4, hp, hz⟩ := h.stackOf
  have hlen : c.stack.length = xs.length + tops.length := by rw [hs]; simp
  have hA : Arr TVal w sa c.stack.length sc c.stack := Arr.of_own rfl h4
  have hcap := hA.cap
  have hcb := hA.big
  unfold maxLen at hcb
  have hneed := need_ok signs.size h (by omega)
  rw [hlen] at c3 hcap h4 e4 hb64
  rw [hk] at hneed
  obtain ⟨g, cap, hform, _, hglt⟩ := h4.form (by omega)
  simp only [Value.slice.injEq, true_and] at hform
  obtain ⟨rfl, rfl⟩ := hform
  obtain ⟨n0, hn0⟩ : ∃ n0, xs.length = n0 := ⟨_, rfl⟩
  obtain ⟨k, hk'⟩ : ∃ k, tops.length = k := ⟨_, rfl⟩
  rw [hn0, hk'] at c3 hcap h4 e4 hb64
  rw [hk'] at hk hneed hk0
  clear hlen
  go_enter Tryz.func87, Tryz.ntmps87
  go_wp2_with (go_at_call 95; refine hneed.mono ?_; rintro e w' ⟨rfl, rfl⟩)
  go_quiet (fail)
  go_wp2_with fail
  have A0 : Aside (Arr TVal w (some ⟨g, 0, none⟩) c.stack.length sc c.stack) := hA
  have OK : Aside (∀ i v, tops[i]? = some v → v.text = signT signs i) := hok
  have HS : Aside (c.stack = xs ++ tops) := hs
  have N0 : Aside (xs.length = n0) := hn0
  have K0 : Aside (tops.length = k) := hk'
  have H4 : Aside (w.ownsRow 0 75 3 (.slice (some ⟨g, 0, none⟩) (n0 + k) sc) (n0 + k) (c.stack.flatMap TVal.enc)) := h4
  have E4 : Aside (Value.ownBlock (.slice (some ⟨g, 0, none⟩) (n0 + k) sc) = sb) := e4
  have eN : Aside (Ext w (w.drewN nq)) := Ext.drewN w nq
  clear hA hok hs hn0 hk' h4 e4
  go_loopg [28] k (fun gg s28 wr => ∃ j : Nat, j ≤ k ∧ k - j ≤ gg ∧ s28 = .int .i64 j ∧ Aside (Ext w wr))
  case atStart => exact ⟨0, Nat.zero_le _, by omega, rfl, eN⟩
  case round =>
    obtain ⟨j, hj, hg, rfl, BW⟩ := hrel
    by_cases hlt : j < k
    · have hltz : (j : Int) < (k : Int) := by omega
      obtain ⟨b, o, x, hbo, hx, q0, q1, q2⟩ := (A0.out.below BW.out).val (i := n0 + j) (by have := HS.out; have := K0.out; have := N0.out; rw [HS.out, List.length_append]; omega)
      cases hbo
      have ea : 0 + (n0 + j) * 3 = n0 * 3 + j * 3 := by omega
      rw [ea] at q0 q1 q2
      have hsj : j < signs.size := by omega
      have hbt : (x.text == ((signs[j].toNat : Int) == 116)) = true := by
        have h1 := OK.out j x (by have h2 := hx; rw [HS.out, List.getElem?_append_right (by have := N0.out; omega)] at h2; rw [← h2]; congr 1; have := N0.out; omega)
        rw [h1, signT, dif_pos hsj]; simp
      have X : Aside (c.stack[n0 + j]? = some x) := hx
      clear hx
      go_wp2
      go_region_with (go_at_call 88; refine (unless_ok _ _).mono ?_; rintro e w' ⟨rfl, rfl⟩)
      all_goals
        go_wp2
        go_roundg (k - (j + 1))
        case measure => omega
        case rel => exact ⟨j + 1, by omega, by omega, by go_num, (show Aside _ from BW.out.trans (by ((repeat (first | exact Ext.refl _ | assumption | refine Ext.drew' ?_ | refine Ext.alloc' ?_ _ | (with_reducible refine Ext.trans ?_ (Ext.drewN _ _)) | refine Ext.trans ?_ (by assumption))); done)))⟩
    · have hltz : ¬ (j : Int) < (k : Int) := by omega
      obtain rfl : j = k := by omega
      have hw := BW.out
      have bc3 : wr.cell? ⟨p, 3, none⟩ = some (.slice (some ⟨g, 0, none⟩) (n0 + j) sc) := (hw.cell (p := ⟨p, 3, none⟩) hp).trans c3
      have bz : ∀ o, wr.frozen? ⟨p, o, none⟩ = false := fun o => (hw.frozen (p := ⟨p, o, none⟩) hp).trans (hz o)
      have bp : p < wr.heap.size := Nat.lt_of_lt_of_le hp hw.size
      have hC : Arr TVal wr (some ⟨g, n0 * 3, none⟩) j (sc - n0) tops := by
        have h1 := A0.out.below hw
        rw [HS.out] at h1
        have := h1.drop N0.out K0.out
        rw [Nat.zero_add] at this
        exact this
      have hlt : p < wr.heap.size := bp
      have fin : Aside (∀ w' W a' c', Arr TVal w' a' tops.length c' tops → Ext wr w' → (∀ b o, a' = some ⟨b, o, none⟩ → tops ≠ [] → wr.heap.size ≤ b) → Ext (w'.setCell ⟨p, 3, none⟩ (.slice (some ⟨g, 0, none⟩) n0 sc)) W →
          Took w p prog view c steps done fault sb cb xs tops (.returned (.slice a' tops.length c')) W) := by
        intro w' W a' c' hN hE hfr eW
        refine ⟨a', c', rfl, ?_, ?_⟩
        · refine Arr.below (Arr.keep hN fun b o ha hx hlt' => ?_) eW
          have := hfr b o ha hx
          exact Below.heap_setCell _ _ _ _ (by simp only; omega)
        · have h4 := H4.out
          rw [HS.out, List.flatMap_append] at h4
          have h5 := ownsRow_ext (ownsRow_cut (by rw [flatMap_len, N0.out]; rfl) h4) (hw.trans hE)
          have := h.stacked (st := xs) (a := some ⟨g, 0, none⟩) (cap := sc) (w1 := w') (W := W) (Fr.of_ext (hw.trans hE)) (by rw [N0.out]; exact h5)
            (fun k hk => Or.inl (by rw [← E4.out]; exact hk)) (by rw [N0.out]; exact eW)
          exact this
      go_wp2_with (go_at_call 112; refine (Clone_Val tops _ _ _ _ hC (by omega)).mono ?_; rintro e w' ⟨a', c', rfl, hN, hE, hfr⟩; have d3 := (hE.cell (p := ⟨p, 3, none⟩) bp).trans bc3; have dz : ∀ o, w'.frozen? ⟨p, o, none⟩ = false := fun o => (hE.frozen (p := ⟨p, o, none⟩) bp).trans (bz o); have dp : p < w'.heap.size := Nat.lt_of_lt_of_le bp hE.size)
      go_region
      go_wp2
      go_ret
      exact fin.out _ _ _ _ hN hE hfr (by ((repeat (first | exact Ext.refl _ | assumption | refine Ext.drew' ?_ | refine Ext.alloc' ?_ _ | (with_reducible refine Ext.trans ?_ (Ext.drewN _ _)) | refine Ext.trans ?_ (by assumption))); done))


set_option maxHeartbeats 1000000 in
theorem kinds_bad (signs : ByteArray) (xs tops : List Val) (q : Nat) (y : Val) (h : Mach w p prog view c steps done fault sb cb) (hs : c.stack = xs ++ tops) (hk : signs.size = tops.length) (hb64 : c.stack.length ≤ 64)
    (hok : ∀ i v, i < q → tops[i]? = some v → v.text = signT signs i) (hy : tops[q]? = some y) (hno : y.text ≠ signT signs q) :
    Calls Tryz.prog 87 #[.pointer (some ⟨p, 0, none⟩), .string signs] w fun r w' => r = stopped 41 ∧ Ext w w' := by
  have hk0 : 0 < tops.length := by have := (List.getElem?_eq_some_iff.1 hy).1; omega
  have hqk : q < tops.length := (List.getElem?_eq_some_iff.1 hy).1
  obtain ⟨sa, sc, c3, h4, e4, hp, hz⟩ := h.stackOf
  have hlen : c.stack.length = xs.length + tops.length := by rw [hs]; simp
  have hA : Arr TVal w sa c.stack.length sc c.stack := Arr.of_own rfl h4
  have hcap := hA.cap
  have hcb := hA.big
  unfold maxLen at hcb
  have hneed := need_ok signs.size h (by omega)
  rw [hlen] at c3 hcap h4 e4 hb64
  rw [hk] at hneed
  obtain ⟨g, cap, hform, _, hglt⟩ := h4.form (by omega)
  simp only [Value.slice.injEq, true_and] at hform
  obtain ⟨rfl, rfl⟩ := hform
  obtain ⟨n0, hn0⟩ : ∃ n0, xs.length = n0 := ⟨_, rfl⟩
  obtain ⟨k, hk'⟩ : ∃ k, tops.length = k := ⟨_, rfl⟩
  rw [hn0, hk'] at c3 hcap h4 e4 hb64
  rw [hk'] at hk hneed hk0 hqk
  clear hlen
  have A0 : Aside (Arr TVal w (some ⟨g, 0, none⟩) c.stack.length sc c.stack) := hA
  have OK : Aside (∀ i v, i < q → tops[i]? = some v → v.text = signT signs i) := hok
  have HS : Aside (c.stack = xs ++ tops) := hs
  have N0 : Aside (xs.length = n0) := hn0
  have K0 : Aside (tops.length = k) := hk'
  have Y0 : Aside (tops[q]? = some y) := hy
  have NO : Aside (y.text ≠ signT signs q) := hno
  clear hA hok hs hn0 hk' h4 e4 hy hno
  go_enter Tryz.func87, Tryz.ntmps87
  go_wp2_with (go_at_call 95; refine hneed.mono ?_; rintro e w' ⟨rfl, rfl⟩)
  go_quiet (fail)
  go_wp2_with fail
  have eN : Aside (Ext w (w.drewN nq)) := Ext.drewN w nq
  go_loopg [28] k (fun gg s28 wr => ∃ j : Nat, j ≤ q ∧ k - j ≤ gg ∧ s28 = .int .i64 j ∧ Aside (Ext w wr))
  case atStart => exact ⟨0, Nat.zero_le _, by omega, rfl, eN⟩
  case round =>
    obtain ⟨j, hj, hg, rfl, BW⟩ := hrel
    have hltz : (j : Int) < (k : Int) := by omega
    obtain ⟨b, o, x, hbo, hx, q0, q1, q2⟩ := (A0.out.below BW.out).val (i := n0 + j) (by have := HS.out; have := K0.out; have := N0.out; rw [HS.out, List.length_append]; omega)
    cases hbo
    have ea : 0 + (n0 + j) * 3 = n0 * 3 + j * 3 := by omega
    rw [ea] at q0 q1 q2
    have hsj : j < signs.size := by omega
    have htj : tops[j]? = some x := by
      have h2 := hx; rw [HS.out, List.getElem?_append_right (by have := N0.out; omega)] at h2; rw [← h2]; congr 1; have := N0.out; omega
    by_cases hlt : j < q
    · have hbt : (x.text == ((signs[j].toNat : Int) == 116)) = true := by
        have h1 := OK.out j x hlt htj
        rw [h1, signT, dif_pos hsj]; simp
      clear hx htj
      go_wp2
      go_region_with (go_at_call 88; refine (unless_ok _ _).mono ?_; rintro e w' ⟨rfl, rfl⟩)
      all_goals
        go_wp2
        go_roundg (k - (j + 1))
        case measure => omega
        case rel => exact ⟨j + 1, by omega, by omega, by go_num, (show Aside _ from BW.out.trans (by ((repeat (first | exact Ext.refl _ | assumption | refine Ext.drew' ?_ | refine Ext.alloc' ?_ _ | (with_reducible refine Ext.trans ?_ (Ext.drewN _ _)) | refine Ext.trans ?_ (by assumption))); done)))⟩
    · obtain rfl : j = q := by omega
      have hbt : (x.text == ((signs[j].toNat : Int) == 116)) = false := by
        have h1 := NO.out
        have h2 := htj.symm.trans Y0.out
        cases h2
        rw [signT, dif_pos hsj] at h1
        simpa using h1
      clear hx htj
      go_wp2
      (refine wp_region_mixed 7 (by kernel_rfl) (by kernel_rfl) ?_; simp only [List.take_succ_cons, List.take_zero, List.drop_succ_cons, List.drop_zero]; (repeat (go_big_quiet_step (fail))); refine wpQuiet_nil ?_)
      go_wp2_with (go_at_call 88; refine (unless_no _ _).mono ?_; rintro e w' ⟨rfl, rfl⟩)
      exact ⟨rfl, rfl, BW.out.trans (by ((repeat (first | exact Ext.refl _ | assumption | refine Ext.drew' ?_ | refine Ext.alloc' ?_ _ | (with_reducible refine Ext.trans ?_ (Ext.drewN _ _)) | refine Ext.trans ?_ (by assumption))); done))⟩
end
end Go.Proofs.YtndpgdegcbaigaaGreatDoor

namespace Go.Proofs.YtndpgdegcbaigaaGreatDoor
open Go Go.RowKit

theorem first_part {α : Type} [DecidableEq α] : ∀ (l m : List α), l.length = m.length → l ≠ m → ∃ (q : Nat) (x y : α), l[q]? = some x ∧ m[q]? = some y ∧ x ≠ y ∧ ∀ i, i < q → l[i]? = m[i]?
  | [], [], _, h => absurd rfl h
  | [], _ :: _, h, _ => by simp at h
  | _ :: _, [], h, _ => by simp at h
  | a :: l, b :: m, hl, hne => by
    by_cases hab : a = b
    · subst hab
      obtain ⟨q, x, y, h1, h2, h3, h4⟩ := first_part l m (by simpa using hl) (fun e => hne (by rw [e]))
      exact ⟨q + 1, x, y, by simpa using h1, by simpa using h2, h3, fun i hi => by
        cases i with
        | zero => rfl
        | succ i => simpa using h4 i (by omega)⟩
    · exact ⟨0, a, b, rfl, rfl, hab, fun i hi => by omega⟩

/-- What an instruction's work does: it comes back, or gives up with an error, and the machine stands. -/
def Did (w : World) (p : Nat) (prog : List Ins) (view : List File) (steps : Int) (done : Bool) (fault : Int) (sb cb : Option Nat) (o : Out) (r : Ending) (w' : World) : Prop :=
  match o with
  | .go c => r = unit ∧ Does w p prog view c steps done fault sb cb w'
  | .halt c => r = unit ∧ Does w p prog view c steps true fault sb cb w'
  | .stop e => r = stopped e ∧ ∃ c, Does w p prog view c steps done fault sb cb w'

section
variable {p : Nat} {prog : List Ins} {view : List File} {c : Cfg} {steps : Int} {done : Bool} {fault : Int} {sb cb : Option Nat} {w : World}

theorem kinds_take (signs : List Bool) (sg : ByteArray) (hsg : (List.range sg.size).map (signT sg) = signs) (h0 : 0 < signs.length) (h : Mach w p prog view c steps done fault sb cb) (hb64 : c.stack.length ≤ 64) (xs tops : List Val)
    (hs : c.stack = xs ++ tops) (ht : tops.map (·.text) = signs) :
    Calls Tryz.prog 87 #[.pointer (some ⟨p, 0, none⟩), .string sg] w fun r w' => Took w p prog view c steps done fault sb cb xs tops r w' := by
  have hl : signs.length = sg.size := by rw [← hsg]; simp
  have hl2 : signs.length = tops.length := by rw [← ht]; simp
  refine kinds_ok sg xs tops h hs (by omega) (by omega) hb64 fun i v hv => ?_
  have h1 : signs[i]? = some v.text := by rw [← ht, List.getElem?_map, hv]; rfl
  rw [← hsg, List.getElem?_map] at h1
  have hi : i < sg.size := by have := (List.getElem?_eq_some_iff.1 hv).1; omega
  rw [List.getElem?_range hi] at h1
  simpa using h1.symm

theorem kinds_fail (signs : List Bool) (sg : ByteArray) (hsg : (List.range sg.size).map (signT sg) = signs) (h : Mach w p prog view c steps done fault sb cb) (hb64 : c.stack.length ≤ 64) (hno : kindOK signs c.stack = false) :
    Calls Tryz.prog 87 #[.pointer (some ⟨p, 0, none⟩), .string sg] w fun r w' => r = stopped (kindErr signs c.stack) ∧ Ext w w' := by
  have hl : signs.length = sg.size := by rw [← hsg]; simp
  by_cases hk : sg.size ≤ c.stack.length
  · have he : kindErr signs c.stack = 41 := by rw [kindErr, if_neg (by omega)]
    rw [he]
    have hne : (c.stack.drop (c.stack.length - signs.length)).map (·.text) ≠ signs := by
      intro e
      simp [kindOK, e] at hno
      omega
    have htl : (c.stack.drop (c.stack.length - signs.length)).length = signs.length := by rw [List.length_drop]; omega
    obtain ⟨q, x, y, h1, h2, h3, h4⟩ := first_part _ signs (by rw [List.length_map, htl]) hne
    rw [List.getElem?_map] at h1
    obtain ⟨v, hv, hvx⟩ := Option.map_eq_some_iff.1 h1
    have hsign : ∀ i s, signs[i]? = some s → s = signT sg i := by
      intro i s hi
      have hi' : i < sg.size := by have := (List.getElem?_eq_some_iff.1 hi).1; omega
      rw [← hsg, List.getElem?_map, List.getElem?_range hi'] at hi
      simpa using hi.symm
    refine kinds_bad sg _ _ q v h (List.take_append_drop (c.stack.length - signs.length) c.stack).symm (by omega) hb64 ?_ hv ?_
    · intro i u hi hu
      have h5 := h4 i hi
      rw [List.getElem?_map, hu] at h5
      exact hsign i _ h5.symm
    · rw [hvx, ← hsign q y h2]; exact h3
  · have he : kindErr signs c.stack = 40 := by rw [kindErr, if_pos (by omega)]
    rw [he]
    exact (kinds_short sg h hk).mono fun r w' ⟨h1, h2⟩ => ⟨h1, h2 ▸ Ext.refl _⟩

set_option maxHeartbeats 1000000 in
set_option maxRecDepth 20000 in
theorem values_push (n : Int) (s : ByteArray) (h : Mach w p prog view c steps done fault sb cb) :
    Calls Tryz.prog 72 #[.pointer (some ⟨p, 0, none⟩), vIns ⟨2, n, s⟩] w (Did w p prog view steps done fault sb cb (execValues ⟨2, n, s⟩ c)) := by
  have hx : execValues ⟨2, n, s⟩ c = pushV (vNum n) c := rfl
  rw [hx, pushV]
  by_cases hs : c.stack.length < 64
  · rw [if_pos hs]
    go_enter Tryz.func72, Tryz.ntmps72
    go_wp2_with (first | (go_at_call 91; refine (num_calls _ _).mono ?_; rintro e w' ⟨rfl, rfl⟩) | (go_at_call 89; refine (push_ok _ (h.keep (by ((repeat (first | exact Ext.refl _ | assumption | refine Ext.drew' ?_ | refine Ext.alloc' ?_ _ | (with_reducible refine Ext.trans ?_ (Ext.drewN _ _)) | refine Ext.trans ?_ (by assumption))); done))) hs).mono ?_; rintro e w' ⟨rfl, hD⟩))
    go_end0
    exact ⟨rfl, hD.after (by ((repeat (first | exact Ext.refl _ | assumption | refine Ext.drew' ?_ | refine Ext.alloc' ?_ _ | (with_reducible refine Ext.trans ?_ (Ext.drewN _ _)) | refine Ext.trans ?_ (by assumption))); done))⟩
  · rw [if_neg hs]
    go_enter Tryz.func72, Tryz.ntmps72
    go_wp2_with (first | (go_at_call 91; refine (num_calls _ _).mono ?_; rintro e w' ⟨rfl, rfl⟩) | (go_at_call 89; refine (push_no _ (h.keep (by ((repeat (first | exact Ext.refl _ | assumption | refine Ext.drew' ?_ | refine Ext.alloc' ?_ _ | (with_reducible refine Ext.trans ?_ (Ext.drewN _ _)) | refine Ext.trans ?_ (by assumption))); done))) hs).mono ?_; rintro e w' ⟨rfl, rfl⟩))
    exact ⟨rfl, rfl, c, Does.same h (by ((repeat (first | exact Ext.refl _ | assumption | refine Ext.drew' ?_ | refine Ext.alloc' ?_ _ | (with_reducible refine Ext.trans ?_ (Ext.drewN _ _)) | refine Ext.trans ?_ (by assumption))); done))⟩
end
end Go.Proofs.YtndpgdegcbaigaaGreatDoor

namespace Go.Proofs.YtndpgdegcbaigaaGreatDoor
open Go Go.RowKit

/-- Those of [m, n) are waited for by one of the first n + 1 behind them. -/
def sunkB (md : Region.Mode) (ops : Array Oper) (m n : Nat) : Bool :=
  (List.range n).all fun i => decide (i < m) || (List.range (n + 1)).any fun j => decide (i < j) && Region.waitsFor md ops j i

section
variable {P : Program} {ops : Array Oper} {md : Region.Mode} {w : World} {m n : Nat}

/-- The states of the head: those below m have run, none of the tail has, whatever has run had run what it waits for. -/
structure Heads (md : Region.Mode) (ops : Array Oper) (m n : Nat) (L : Array Bool) : Prop extends HeadInv md ops n L where
  front : ∀ i, i < m → L.getD i true = true

theorem Heads.step {i : Nat} {L : Array Bool} (h : Heads md ops m n L) (hi : i ∈ Region.ready md ops L) (hin : i < n) : Heads md ops m n (L.setIfInBounds i true) :=
  ⟨h.toHeadInv.set hi hin, fun k hk => by
    by_cases e : i = k
    · subst e
      have := (mem_ready.1 hi).1
      rw [h.front i hk] at this; cases this
    · rw [getD_set_ne true e]; exact h.front k hk⟩

/-- As long as one of the reads is left none of the tail can run. -/
theorem Heads.waits (hs : sunkB md ops m n = true) (hc : Region.chainB md ops n = true) {L : Array Bool} (h : Heads md ops m n L) {t : Nat} (ht : n ≤ t) (hr : t ∈ Region.ready md ops L) :
    ∀ i, i < n → L.getD i true = true := by
  obtain ⟨htu, ot, hot, hall⟩ := mem_ready.1 hr
  have htlt : t < ops.size := (Array.getElem?_eq_some_iff.1 hot).1
  have htn : t = n := by
    by_cases e : t = n
    · exact e
    · exfalso
      have h1 := List.all_eq_true.1 hc t (List.mem_range.2 htlt)
      simp only [Bool.or_eq_true, decide_eq_true_eq] at h1
      rcases h1 with h1 | h1
      · omega
      · obtain ⟨o', ho', e', he, hb, hon⟩ := Region.waitsFor_spec h1
        obtain rfl : o' = ot := Option.some.inj (ho'.symm.trans hot)
        have h2 := hall e' he hb
        rw [hon, getD_both (h.tail (t - 1) (by omega) (by omega))] at h2
        cases h2
  subst htn
  -- from the last one down
  have key : ∀ d i, t - i = d → i < t → L.getD i true = true := by
    intro d
    induction d using Nat.strongRecOn with
    | _ d ih =>
      intro i hd hi
      by_cases him : i < m
      · exact h.front i him
      have h1 := List.all_eq_true.1 hs i (List.mem_range.2 hi)
      simp only [Bool.or_eq_true, decide_eq_true_eq] at h1
      rcases h1 with h1 | h1
      · exact absurd h1 him
      · obtain ⟨j, hj, hj2⟩ := List.any_eq_true.1 h1
        simp only [Bool.and_eq_true, decide_eq_true_eq] at hj2
        obtain ⟨oj, hoj, e, he, hb, hon⟩ := Region.waitsFor_spec hj2.2
        have hjle : j ≤ t := by have := List.mem_range.1 hj; omega
        have hsz : ∀ k, k < ops.size → L.getD k false = true → L.getD k true = true := fun k hk hk2 => by
          have : k < L.size := by rw [h.size]; exact hk
          simp [this] at hk2 ⊢; exact hk2
        have hilt : i < ops.size := by omega
        by_cases hjt : j = t
        · subst hjt
          obtain rfl : oj = ot := Option.some.inj (hoj.symm.trans hot)
          have h2 := hall e he hb
          rw [hon] at h2
          exact hsz i hilt h2
        · have h3 := ih (t - j) (by omega) j rfl (by omega)
          have hjlt : j < ops.size := by omega
          have h3' : L.getD j false = true := by
            have : j < L.size := by rw [h.size]; exact hjlt
            simp [this] at h3 ⊢; exact h3
          have h4 := h.closed j oj hoj h3' e he hb
          rw [hon] at h4
          exact hsz i hilt h4
  exact fun i hi => key _ i rfl hi

/-- One of the reads, taken first. -/
theorem heads_first {i : Nat} {oi : Oper} {v : Value} {D : Array Bool → Act → Prop} (hi : ops[i]? = some oi) (hsel : ∀ (j : Nat) (o : Oper) cs b, ops[j]? = some o → o.op ≠ .select cs b)
    (hs : sunkB md ops m n = true) (hc : Region.chainB md ops n = true) (hin : i < n) (hdone : ∀ L a, D L a → ∀ j ∈ Region.ready md ops L, n ≤ j) :
    ∀ (f : Nat) (L : Array Bool) (a : Act), Heads md ops m n L →
      (∀ j oj, ops[j]? = some oj → j ≠ i → L.getD j true = false → (∀ e ∈ oj.after, Region.binds md e = true → e.on ≠ i) → oi.apart ops oj = true) →
      i ∈ Region.ready md ops L → YieldsAt P ops w oi v a →
      wpAnyL P md ops w n D f (L.setIfInBounds i true) (a.put oi.dst v) → wpAnyL P md ops w n D (f + 1) L a := by
  intro f
  induction f with
  | zero =>
    intro L a inv _ hr hy H
    have hun := (mem_ready.1 hr).1
    refine ⟨fun h => (by rw [h] at hr; cases hr), fun j hj => ?_⟩
    have hjn : j < n := by
      rcases Nat.lt_or_ge j n with h | h
      · exact h
      · have := inv.waits hs hc h hj i hin
        rw [hun] at this; cases this
    refine ⟨hjn, ?_⟩
    by_cases hji : j = i
    · subst hji; exact hy.stOp hi H
    · have := hdone _ _ H j (ready_mono hj hji)
      omega
  | succ f ih =>
    intro L a inv hfree hr hy H
    have hun := (mem_ready.1 hr).1
    refine ⟨fun h => (by rw [h] at hr; cases hr), fun j hj => ?_⟩
    have hjn : j < n := by
      rcases Nat.lt_or_ge j n with h | h
      · exact h
      · have := inv.waits hs hc h hj i hin
        rw [hun] at this; cases this
    refine ⟨hjn, ?_⟩
    by_cases hji : j = i
    · subst hji; exact hy.stOp hi H
    · have h1 := (H.2 j (ready_mono hj hji)).2
      obtain ⟨hjun, oj, hoj, hall⟩ := mem_ready.1 hj
      have hnot : ∀ e ∈ oj.after, Region.binds md e = true → e.on ≠ i := fun e he hb heq => by
        have h1 := hall e he hb
        rw [heq, getD_both hun] at h1
        cases h1
      have h2 := stOp_put hoj (hfree j oj hoj hji hjun hnot) (fun cs b => hsel i oi cs b hi) (fun cs b => hsel j oj cs b hoj) hy h1
      have hfree' : ∀ k ok, ops[k]? = some ok → k ≠ i → (L.setIfInBounds j true).getD k true = false →
          (∀ e ∈ ok.after, Region.binds md e = true → e.on ≠ i) → oi.apart ops ok = true := fun k ok hk hki hun hno => by
        refine hfree k ok hk hki ?_ hno
        by_cases hjk : j = k
        · subst hjk; exact hjun
        · rw [getD_set_ne true hjk] at hun; exact hun
      refine stOp_mono (fun a' h3 => ih (L.setIfInBounds j true) a' (inv.step hj hjn) hfree' (ready_mono hr (Ne.symm hji)) h3.1 ?_) h2
      rw [Array.setIfInBounds_comm _ _ hji]
      exact h3.2

theorem heads_lex {g : Nat} {D : Act → Prop} (hsel : Region.noSelect ops = true) (hs : sunkB md ops m n = true) (hc : Region.chainB md ops n = true) :
    ∀ (l : List Oper) (k : Nat) (L : Array Bool) (a : Act), (∀ j, j < l.length → l[j]? = ops[k + j]?) → k + l.length = n → Heads md ops m n L →
    Region.lexHead md ops g l.length k L = true → wpStill P ops w D l a →
    wpAnyL P md ops w n (fun L' a' => Region.seqB md ops g n L' = true ∧ D a') l.length L a
  | [], k, L, a, _, hk, _, hB, h => by
    have : k = n := by simpa using hk
    subst this
    exact ⟨by simpa [Region.lexHead] using hB, h⟩
  | o :: l, k, L, a, hl, hk, inv, hB, h => by
    have h0 : ops[k]? = some o := by simpa using (hl 0 (by simp)).symm
    simp only [List.length_cons, Region.lexHead, Bool.and_eq_true] at hB
    obtain ⟨⟨hr, hf⟩, hB'⟩ := hB
    have hkn : k < n := by simp only [List.length_cons] at hk; omega
    have hr' : k ∈ Region.ready md ops L := by simpa using hr
    have hst : stOp P ops w k (wpStill P ops w D l) a := by unfold stOp; simp only [h0]; exact h
    obtain ⟨v, hy, hK⟩ := yieldsAt_of_stOp h0 hst
    exact heads_first h0 (Region.noSelect_spec hsel) hs hc hkn (fun L' a' hL => seqB_ready hL.1) l.length L a inv (Region.free_spec h0 hf) hr' hy
      (heads_lex hsel hs hc l (k + 1) _ _ (fun j hj => by have := hl (j + 1) (by simp; omega); simpa [Nat.add_assoc, Nat.add_comm 1 j] using this) (by simp only [List.length_cons] at hk; omega) (inv.step hr' hkn) hB' hK)
end

/-- What the kernel reckons of such a region: its first one is free, then n - 1 reads, then a chain. -/
def movedB (ops : Array Oper) (n : Nat) : Bool :=
  Region.noSelect ops && decide (n < ops.size) && decide (0 < n) && sunkB .any ops 1 n && Region.chainB .any ops n &&
  (Region.ready .any ops (Array.replicate ops.size false)).contains 0 && Region.free .any ops (Array.replicate ops.size false) 0 &&
  (match ops[0]? with | some o => o.after.isEmpty | none => false) &&
  Region.lexHead .any ops (ops.size - n) (n - 1) 1 ((Array.replicate ops.size false).setIfInBounds 0 true)

theorem wp_region_moved {P : Program} {id : Nat} {Q : Exit → Act → World → Prop} {a : Act} {w : World} {o : Oper} {l : List Oper} (n : Nat) (x : Operand) (hm : P.follows .mixedOrders = true)
    (ho : o.op = .move x) (hg : o.guard = none) (hB : movedB (o :: l).toArray n = true)
    (hQ' : ∀ c (a : Act) v w, Q (.panic c) (a.put o.dst v) w → Q (.panic c) a w)
    (h : wpQuiet P (o :: l).toArray (fun w' => w' = w.drew) (fun a' => wpList P (o :: l).toArray Q ((o :: l).drop n) a' w.drew) ((o :: l).take n) a) : (Code.region id (o :: l).toArray true).wp P Q a w := by
  simp only [movedB, Bool.and_eq_true, decide_eq_true_eq] at hB
  obtain ⟨⟨⟨⟨⟨⟨⟨⟨hsel, hn⟩, hn0⟩, hs⟩, hc⟩, hr0⟩, hf0⟩, ha0⟩, hlex⟩ := hB
  have hsz : (o :: l).toArray.size = l.length + 1 := by simp
  have hn' : n < l.length + 1 := by rw [← hsz]; exact hn
  refine wp_region_any hm ?_
  rw [hsz]
  have h0 : (o :: l).toArray[0]? = some o := by simp
  have hy : Yields P (o :: l).toArray o (a.eval x) a := by
    refine .inl ⟨by simp [Region.wanted, hg], fun w => ?_⟩
    obtain ⟨op, dst, ty, pos, after, guard⟩ := o
    simp only at ho
    subst ho; rfl
  have hafter : o.after.isEmpty = true := by simpa [h0] using ha0
  refine wpAny_first h0 (Region.noSelect_spec hsel) (fun c a w hh => hQ' c a _ w hh) l.length _ a _ (Region.free_spec h0 (by rw [hsz] at hf0; exact hf0)) (by rw [hsz] at hr0; simpa using hr0) hy ?_
  have htl : (l.take (n - 1)).length = n - 1 := by simp; omega
  have hdl : ((o :: l).drop n).length = (o :: l).toArray.size - n := by simp
  have inv : Heads .any (o :: l).toArray 1 n ((Array.replicate (l.length + 1) false).setIfInBounds 0 true) := by
    refine ⟨⟨by simp, fun j oj hj hl' e he hb => ?_, fun t ht ht' => ?_⟩, fun i hi => ?_⟩
    · by_cases hj0 : 0 = j
      · subst hj0
        rw [h0] at hj; cases hj
        have : o.after = #[] := by simpa using hafter
        rw [this] at he; simp at he
      · rw [getD_set_ne false hj0, getD_replicate_false] at hl'; cases hl'
    · rw [getD_set_ne true (by omega)]
      exact getD_in (by simpa using ht') (getD_replicate_false _ _)
    · obtain rfl : i = 0 := by omega
      simp
  have hst : wpStill P (o :: l).toArray w.drew (fun a' => wpList P (o :: l).toArray Q ((o :: l).drop n) a' w.drew) (l.take (n - 1)) (a.put o.dst (a.eval x)) := by
    have h1 := still_of_quiet _ _ h
    obtain ⟨n', rfl⟩ : ∃ n', n = n' + 1 := ⟨n - 1, by omega⟩
    rw [List.take_succ_cons, wpStill] at h1
    have hw : Region.wanted o (yielded (o :: l).toArray a.tmps) = true := by simp [Region.wanted, hg]
    rw [if_pos hw, Oper.still] at h1
    have he : (execOp a.eval o).run P w.drew = .ok (.value (a.eval x)) w.drew := by
      obtain ⟨op, dst, ty, pos, after, guard⟩ := o
      simp only at ho
      subst ho; rfl
    rw [he, Oper.stillUpon_value] at h1
    exact h1
  have H := heads_lex (P := P) (w := { w with drawn := w.drawn + 1 }) (md := .any) (m := 1) (n := n) (g := (o :: l).toArray.size - n) hsel hs hc (l.take (n - 1)) 1 _ (a.put o.dst (a.eval x)) (fun j hj => by
    have hj' : j < n - 1 := by rw [htl] at hj; exact hj
    simp [hj', Nat.add_comm 1 j]) (by rw [htl]; omega) inv (by rw [htl]; rw [hsz] at hlex ⊢; exact hlex) hst
  have := wpAny_of_head (Q' := Q) (g := (o :: l).toArray.size - n) (fun L a' hL => by
    have := wpAny_of_seq (md := .any) (Q' := Q) ((o :: l).drop n) n L a' { w with drawn := w.drawn + 1 } (fun j => by simp [List.getElem?_drop]) (by rw [hdl]; exact hL.1) hL.2
    rwa [hdl] at this) _ _ _ H
  rw [htl, show n - 1 + ((o :: l).toArray.size - n) = l.length by omega] at this
  exact this
end Go.Proofs.YtndpgdegcbaigaaGreatDoor

namespace Go.Proofs.YtndpgdegcbaigaaGreatDoor
open Go Go.RowKit

/-- What Does says, in parts: the machine in the next world, and how it comes from this one. -/
structure Next (w : World) (p : Nat) (prog : List Ins) (view : List File) (c : Cfg) (steps : Int) (done : Bool) (fault : Int) (sb cb sb' cb' : Option Nat) (w' : World) : Prop where
  m : Mach w' p prog view c steps done fault sb' cb'
  fr : Fr (Foot p sb cb) w w'
  sub : ∀ k, k < w.heap.size → Foot p sb' cb' k → Foot p sb cb k

/-- A value's cells. -/
structure ValAt (w : World) (b o : Nat) (v : Val) : Prop where
  t : w.cell? ⟨b, o, none⟩ = some (.bool v.text)
  n : w.cell? ⟨b, o + 1, none⟩ = some (.int .i64 v.n)
  s : w.cell? ⟨b, o + 2, none⟩ = some (.string v.s)

theorem Arr.valAt {w : World} {a : Option Addr} {n c : Nat} {xs : List Val} (h : Arr TVal w a n c xs) (hn : 0 < n) : ∃ b o, a = some ⟨b, o, none⟩ ∧ b < w.heap.size ∧
    ∀ i x, xs[i]? = some x → ValAt w b (o + i * 3) x := by
  obtain ⟨b, o, x, ha, hx, hc⟩ := h.at hn
  have hne : xs ≠ [] := by intro e; rw [e] at hx; simp at hx
  refine ⟨b, o, ha, h.lt ha hne, fun i x hi => ?_⟩
  have hi' : i < n := by have := (List.getElem?_eq_some_iff.1 hi).1; have := h.len; omega
  obtain ⟨b', o', x', ha', hx', q0, q1, q2⟩ := h.val hi'
  rw [ha] at ha'; cases ha'
  rw [hi] at hx'; cases hx'
  exact ⟨q0, q1, q2⟩

section
variable {p : Nat} {prog : List Ins} {view : List File} {c : Cfg} {steps : Int} {done : Bool} {fault : Int} {sb cb : Option Nat} {w : World}

/-- The values that kinds hands back, and the machine behind it. -/
def Taken (w : World) (p : Nat) (prog : List Ins) (view : List File) (c : Cfg) (steps : Int) (done : Bool) (fault : Int) (sb cb : Option Nat) (xs tops : List Val) (k : Nat) (r : Ending) (w' : World) : Prop :=
  ∃ b o cp sb' cb', r = .returned (.slice (some ⟨b, o, none⟩) k cp) ∧ b < w'.heap.size ∧ (∀ i x, tops[i]? = some x → ValAt w' b (o + i * 3) x) ∧ Next w p prog view { c with stack := xs } steps done fault sb cb sb' cb' w'

theorem kinds_taken (signs : List Bool) (sg : ByteArray) (hsg : (List.range sg.size).map (signT sg) = signs) (k : Nat) (h0 : 0 < k) (h : Mach w p prog view c steps done fault sb cb) (hb64 : c.stack.length ≤ 64) (xs tops : List Val)
    (hk : tops.length = k) (hs : c.stack = xs ++ tops) (ht : tops.map (·.text) = signs) :
    Calls Tryz.prog 87 #[.pointer (some ⟨p, 0, none⟩), .string sg] w (Taken w p prog view c steps done fault sb cb xs tops k) := by
  subst hk
  refine (kinds_take signs sg hsg (by rw [← ht]; simpa using h0) h hb64 xs tops hs ht).mono ?_
  rintro r w' ⟨a, cp, rfl, hA, sb', cb', h1, h2, h3⟩
  obtain ⟨b, o, rfl, hb, hv⟩ := hA.valAt h0
  exact ⟨b, o, cp, sb', cb', rfl, hb, hv, h1, h2, h3⟩

theorem Next.does {w W : World} {sb' cb' : Option Nat} {c1 c2 : Cfg} {s1 : Int} {d1 : Bool} {f1 : Int} {w1 : World} (h : Next w p prog view c1 steps done fault sb cb sb' cb' w1) (h2 : Does w1 p prog view c2 s1 d1 f1 sb' cb' W) : Does w p prog view c2 s1 d1 f1 sb cb W :=
  Does.trans h.fr h.sub h2
theorem Next.low {sb' cb' : Option Nat} {w1 : World} {c1 : Cfg} (h : Next w p prog view c1 steps done fault sb cb sb' cb' w1) : p < w1.heap.size := h.m.low

theorem Next.box {w w1 : World} {sb' cb' : Option Nat} {c1 : Cfg} {x0 x1 x2 : Value} {t : TypeId} {z : Nat × Nat} (h : Mach w p prog view c steps done fault sb cb)
    (hN : Next (w.alloc (.cells #[x0, x1, x2] t z)) p prog view c1 steps done fault sb cb sb' cb' w1) :
    w.heap.size < w1.heap.size ∧ w1.cell? ⟨w.heap.size, 0, none⟩ = (w.alloc (.cells #[x0, x1, x2] t z)).cell? ⟨w.heap.size, 0, none⟩ ∧ w1.cell? ⟨w.heap.size, 1, none⟩ = (w.alloc (.cells #[x0, x1, x2] t z)).cell? ⟨w.heap.size, 1, none⟩ ∧ w1.cell? ⟨w.heap.size, 2, none⟩ = (w.alloc (.cells #[x0, x1, x2] t z)).cell? ⟨w.heap.size, 2, none⟩ := by
  have hs : (w.alloc (.cells #[x0, x1, x2] t z)).heap.size = w.heap.size + 1 := World.size_alloc _ _
  have hk : w1.heap[w.heap.size]? = (w.alloc (.cells #[x0, x1, x2] t z)).heap[w.heap.size]? := hN.fr.block _ (by omega) fun hf => by
    rcases hf with hf | hf | hf
    · have := h.low; omega
    · have := h.sb_lt hf; omega
    · have := h.cb_lt hf; omega
  have := hN.fr.size
  exact ⟨by omega, cell_of_block hk, cell_of_block hk, cell_of_block hk⟩
end

set_option maxRecDepth 20000 in
theorem reckon_9 (a b : Int) (w : World) :
    Calls Tryz.prog 97 #[.int .i64 9, .int .i64 a, .int .i64 b] w fun r w' => r = .returned (.int .i64 (wrap64 (a + b))) ∧ w = w' := by
  go_enter Tryz.func97, Tryz.ntmps97
  go_wp2
  exact bodyPost_ret (v := .int .i64 (wrap64 (a + b))) (by simp [results, Tryz.results97, go_sem]) rfl ⟨rfl, rfl⟩
set_option maxRecDepth 20000 in
theorem reckon_10 (a b : Int) (w : World) :
    Calls Tryz.prog 97 #[.int .i64 10, .int .i64 a, .int .i64 b] w fun r w' => r = .returned (.int .i64 (wrap64 (a - b))) ∧ w = w' := by
  go_enter Tryz.func97, Tryz.ntmps97
  go_wp2
  exact bodyPost_ret (v := .int .i64 (wrap64 (a - b))) (by simp [results, Tryz.results97, go_sem]) rfl ⟨rfl, rfl⟩
set_option maxRecDepth 20000 in
theorem reckon_11 (a b : Int) (w : World) :
    Calls Tryz.prog 97 #[.int .i64 11, .int .i64 a, .int .i64 b] w fun r w' => r = .returned (.int .i64 (wrap64 (a * b))) ∧ w = w' := by
  go_enter Tryz.func97, Tryz.ntmps97
  go_wp2
  exact bodyPost_ret (v := .int .i64 (wrap64 (a * b))) (by simp [results, Tryz.results97, go_sem]) rfl ⟨rfl, rfl⟩
set_option maxRecDepth 20000 in
theorem reckon_12 (a b : Int) (hb : ¬ b = 0) (w : World) :
    Calls Tryz.prog 97 #[.int .i64 12, .int .i64 a, .int .i64 b] w fun r w' => r = .returned (.int .i64 (wrap64 (a.tdiv b))) ∧ w = w' := by
  have hb2 : (b != 0) = true := by simpa using hb
  go_enter Tryz.func97, Tryz.ntmps97
  go_wp2_with (go_at_call 88; refine (unless_ok _ _).mono ?_; rintro e w' ⟨rfl, rfl⟩)
  exact bodyPost_ret (v := .int .i64 (wrap64 (a.tdiv b))) (by simp [results, Tryz.results97, go_sem]) rfl ⟨rfl, rfl⟩
set_option maxRecDepth 20000 in
theorem reckon_12z (a : Int) (w : World) :
    Calls Tryz.prog 97 #[.int .i64 12, .int .i64 a, .int .i64 0] w fun r w' => r = stopped 42 ∧ w = w' := by
  go_enter Tryz.func97, Tryz.ntmps97
  go_wp2_with (go_at_call 88; refine (unless_no _ _).mono ?_; rintro e w' ⟨rfl, rfl⟩)
  exact ⟨rfl, rfl, rfl⟩
set_option maxRecDepth 20000 in
theorem reckon_13 (a b : Int) (hb : ¬ b = 0) (w : World) :
    Calls Tryz.prog 97 #[.int .i64 13, .int .i64 a, .int .i64 b] w fun r w' => r = .returned (.int .i64 (a.tmod b)) ∧ w = w' := by
  have hb2 : (b != 0) = true := by simpa using hb
  go_enter Tryz.func97, Tryz.ntmps97
  go_wp2_with (go_at_call 88; refine (unless_ok _ _).mono ?_; rintro e w' ⟨rfl, rfl⟩)
  exact bodyPost_ret (v := .int .i64 (a.tmod b)) (by simp [results, Tryz.results97, go_sem]) rfl ⟨rfl, rfl⟩
set_option maxRecDepth 20000 in
theorem reckon_13z (a : Int) (w : World) :
    Calls Tryz.prog 97 #[.int .i64 13, .int .i64 a, .int .i64 0] w fun r w' => r = stopped 42 ∧ w = w' := by
  go_enter Tryz.func97, Tryz.ntmps97
  go_wp2_with (go_at_call 88; refine (unless_no _ _).mono ?_; rintro e w' ⟨rfl, rfl⟩)
  exact ⟨rfl, rfl, rfl⟩

theorem reckon_ok (op a b n : Int) (hop : op = 9 ∨ op = 10 ∨ op = 11 ∨ op = 12 ∨ op = 13) (h : reckonM op a b = some n) (w : World) :
    Calls Tryz.prog 97 #[.int .i64 op, .int .i64 a, .int .i64 b] w fun r w' => r = .returned (.int .i64 n) ∧ w = w' := by
  rcases hop with rfl | rfl | rfl | rfl | rfl
  · simp [reckonM] at h; subst h; exact reckon_9 a b w
  · simp [reckonM] at h; subst h; exact reckon_10 a b w
  · simp [reckonM] at h; subst h; exact reckon_11 a b w
  · simp [reckonM] at h; obtain ⟨hb, rfl⟩ := h; exact reckon_12 a b hb w
  · simp [reckonM] at h; obtain ⟨hb, rfl⟩ := h; exact reckon_13 a b hb w
theorem reckon_no (op a b : Int) (hop : op = 9 ∨ op = 10 ∨ op = 11 ∨ op = 12 ∨ op = 13) (h : reckonM op a b = none) (w : World) :
    Calls Tryz.prog 97 #[.int .i64 op, .int .i64 a, .int .i64 b] w fun r w' => r = stopped 42 ∧ w = w' := by
  rcases hop with rfl | rfl | rfl | rfl | rfl
  · simp [reckonM] at h
  · simp [reckonM] at h
  · simp [reckonM] at h
  · simp [reckonM] at h; subst h; exact reckon_12z a w
  · simp [reckonM] at h; subst h; exact reckon_13z a w
end Go.Proofs.YtndpgdegcbaigaaGreatDoor

namespace Go.Proofs.YtndpgdegcbaigaaGreatDoor
open Go Go.RowKit

theorem takeK_no {signs : List Bool} {c : Cfg} {k : List Val → Cfg → Out} (h : kindOK signs c.stack = false) : takeK signs c k = .stop (kindErr signs c.stack) := by rw [takeK, if_neg (by simp [h])]

section
variable {p : Nat} {prog : List Ins} {view : List File} {c : Cfg} {steps : Int} {done : Bool} {fault : Int} {sb cb : Option Nat} {w : World}

set_option maxHeartbeats 1000000 in
set_option maxRecDepth 20000 in
theorem values_reckon (op n : Int) (s : ByteArray) (hop : op = 9 ∨ op = 10 ∨ op = 11 ∨ op = 12 ∨ op = 13) (hb64 : c.stack.length ≤ 64) (h : Mach w p prog view c steps done fault sb cb) :
    Calls Tryz.prog 72 #[.pointer (some ⟨p, 0, none⟩), vIns ⟨op, n, s⟩] w (Did w p prog view steps done fault sb cb (execValues ⟨op, n, s⟩ c)) := by
  have hx : execValues ⟨op, n, s⟩ c = takeK [false, false] c fun vs c => match reckonM op (vs.getD 0 default).n (vs.getD 1 default).n with
      | some r => pushV (vNum r) c
      | none => .stop 42 := by rcases hop with rfl | rfl | rfl | rfl | rfl <;> rfl
  rw [hx]
  cases hk : kindOK [false, false] c.stack with
  | true =>
    obtain ⟨xs, tops, hs, hl, ht, h1, h2⟩ := kindOK_split hk
    rw [takeK, if_pos hk, h1, h2]
    match tops, hl with
    | [u, v], _ =>
    have hlen : xs.length < 64 := by rw [hs] at hb64; simp at hb64; omega
    simp only [List.getD_cons_zero, List.getD_cons_succ]
    cases hr : reckonM op u.n v.n with
    | some r =>
      simp only []
      rw [pushV, if_pos hlen]
      have hreck := reckon_ok op u.n v.n r hop hr
      clear hx hk h1 h2 hr
      rcases hop with rfl | rfl | rfl | rfl | rfl
      all_goals
        go_enter Tryz.func72, Tryz.ntmps72
        go_wp2_with (go_at_call 87; refine (kinds_taken [false, false] ⟨#[110, 110]⟩ rfl 2 (by decide) (h.keep (by ((repeat (first | exact Ext.refl _ | assumption | refine Ext.drew' ?_ | refine Ext.alloc' ?_ _ | (with_reducible refine Ext.trans ?_ (Ext.drewN _ _)) | refine Ext.trans ?_ (by assumption))); done))) hb64 xs [u, v] rfl hs ht).mono ?_; rintro e w' ⟨b, o, cp, sb', cb', rfl, hb, hv, hN⟩; obtain ⟨x9, x0, x1, x2⟩ := hN.box h; obtain ⟨q00, q01, q02⟩ := hv 0 u rfl; obtain ⟨q10, q11, q12⟩ := hv 1 v rfl)
        (refine wp_region_moved 11 _ (by kernel_rfl) rfl rfl (by kernel_rfl) (fun _ _ _ _ h => h) ?_; simp only [List.take_succ_cons, List.take_zero, List.drop_succ_cons, List.drop_zero]; (repeat (go_big_quiet_step (fail))); refine wpQuiet_nil ?_)
        go_wp2_with (first | (go_at_call 97; refine (hreck _).mono ?_; rintro e w' ⟨rfl, rfl⟩) | (go_at_call 91; refine (num_calls _ _).mono ?_; rintro e w' ⟨rfl, rfl⟩) | (go_at_call 89; refine (push_ok _ (hN.m.keep (by ((repeat (first | exact Ext.refl _ | assumption | refine Ext.drew' ?_ | refine Ext.alloc' ?_ _ | (with_reducible refine Ext.trans ?_ (Ext.drewN _ _)) | refine Ext.trans ?_ (by assumption))); done))) hlen).mono ?_; rintro e w' ⟨rfl, hD⟩))
        go_end0
        exact ⟨rfl, (hN.does (hD.after (by ((repeat (first | exact Ext.refl _ | assumption | refine Ext.drew' ?_ | refine Ext.alloc' ?_ _ | (with_reducible refine Ext.trans ?_ (Ext.drewN _ _)) | refine Ext.trans ?_ (by assumption))); done)))).after (by ((repeat (first | exact Ext.refl _ | assumption | refine Ext.drew' ?_ | refine Ext.alloc' ?_ _ | (with_reducible refine Ext.trans ?_ (Ext.drewN _ _)) | refine Ext.trans ?_ (by assumption))); done))⟩
    | none =>
      simp only []
      have hreck := reckon_no op u.n v.n hop hr
      clear hx hk h1 h2 hr
      rcases hop with rfl | rfl | rfl | rfl | rfl
      all_goals
        go_enter Tryz.func72, Tryz.ntmps72
        go_wp2_with (go_at_call 87; refine (kinds_taken [false, false] ⟨#[110, 110]⟩ rfl 2 (by decide) (h.keep (by ((repeat (first | exact Ext.refl _ | assumption | refine Ext.drew' ?_ | refine Ext.alloc' ?_ _ | (with_reducible refine Ext.trans ?_ (Ext.drewN _ _)) | refine Ext.trans ?_ (by assumption))); done))) hb64 xs [u, v] rfl hs ht).mono ?_; rintro e w' ⟨b, o, cp, sb', cb', rfl, hb, hv, hN⟩; obtain ⟨x9, x0, x1, x2⟩ := hN.box h; obtain ⟨q00, q01, q02⟩ := hv 0 u rfl; obtain ⟨q10, q11, q12⟩ := hv 1 v rfl)
        (refine wp_region_moved 11 _ (by kernel_rfl) rfl rfl (by kernel_rfl) (fun _ _ _ _ h => h) ?_; simp only [List.take_succ_cons, List.take_zero, List.drop_succ_cons, List.drop_zero]; (repeat (go_big_quiet_step (fail))); refine wpQuiet_nil ?_)
        go_wp2_with (go_at_call 97; refine (hreck _).mono ?_; rintro e w' ⟨rfl, rfl⟩)
        exact ⟨rfl, rfl, _, (hN.does (Does.same hN.m (by ((repeat (first | exact Ext.refl _ | assumption | refine Ext.drew' ?_ | refine Ext.alloc' ?_ _ | (with_reducible refine Ext.trans ?_ (Ext.drewN _ _)) | refine Ext.trans ?_ (by assumption))); done)))).after (by ((repeat (first | exact Ext.refl _ | assumption | refine Ext.drew' ?_ | refine Ext.alloc' ?_ _ | (with_reducible refine Ext.trans ?_ (Ext.drewN _ _)) | refine Ext.trans ?_ (by assumption))); done))⟩
  | false =>
    rw [takeK_no hk]
    clear hx
    rcases hop with rfl | rfl | rfl | rfl | rfl
    all_goals
    go_enter Tryz.func72, Tryz.ntmps72
    go_wp2_with (go_at_call 87; refine (kinds_fail [false, false] ⟨#[110, 110]⟩ rfl (h.keep (by ((repeat (first | exact Ext.refl _ | assumption | refine Ext.drew' ?_ | refine Ext.alloc' ?_ _ | (with_reducible refine Ext.trans ?_ (Ext.drewN _ _)) | refine Ext.trans ?_ (by assumption))); done))) hb64 hk).mono ?_; rintro e w' ⟨rfl, hE⟩)
    exact ⟨rfl, rfl, c, Does.same h (Ext.trans (by ((repeat (first | exact Ext.refl _ | assumption | refine Ext.drew' ?_ | refine Ext.alloc' ?_ _ | (with_reducible refine Ext.trans ?_ (Ext.drewN _ _)) | refine Ext.trans ?_ (by assumption))); done)) hE)⟩

set_option maxHeartbeats 1000000 in
set_option maxRecDepth 20000 in
theorem values_not (n : Int) (s : ByteArray) (hb64 : c.stack.length ≤ 64) (h : Mach w p prog view c steps done fault sb cb) :
    Calls Tryz.prog 72 #[.pointer (some ⟨p, 0, none⟩), vIns ⟨16, n, s⟩] w (Did w p prog view steps done fault sb cb (execValues ⟨16, n, s⟩ c)) := by
  have hx : execValues ⟨16, n, s⟩ c = takeK [false] c fun vs c => pushV (vTruth (decide ((vs.getD 0 default).n = 0))) c := rfl
  rw [hx]
  cases hk : kindOK [false] c.stack with
  | true =>
    obtain ⟨xs, tops, hs, hl, ht, h1, h2⟩ := kindOK_split hk
    rw [takeK, if_pos hk, h1, h2]
    match tops, hl with
    | [u], _ =>
    have hlen : xs.length < 64 := by rw [hs] at hb64; simp at hb64; omega
    simp only [List.getD_cons_zero]
    rw [pushV, if_pos hlen]
    clear hx hk h1 h2
    go_enter Tryz.func72, Tryz.ntmps72
    go_wp2_with (first | (go_at_call 87; refine (kinds_taken [false] ⟨#[110]⟩ rfl 1 (by decide) (h.keep (by ((repeat (first | exact Ext.refl _ | assumption | refine Ext.drew' ?_ | refine Ext.alloc' ?_ _ | (with_reducible refine Ext.trans ?_ (Ext.drewN _ _)) | refine Ext.trans ?_ (by assumption))); done))) hb64 xs [u] rfl hs ht).mono ?_; rintro e w' ⟨b, o, cp, sb', cb', rfl, hb, hv, hN⟩; obtain ⟨x9, x0, x1, x2⟩ := hN.box h; obtain ⟨q00, q01, q02⟩ := hv 0 u rfl) | (go_at_call 92; refine (truth_calls _ _).mono ?_; rintro e w' ⟨rfl, rfl⟩) | (go_at_call 89; refine (push_ok _ (hN.m.keep (by ((repeat (first | exact Ext.refl _ | assumption | refine Ext.drew' ?_ | refine Ext.alloc' ?_ _ | (with_reducible refine Ext.trans ?_ (Ext.drewN _ _)) | refine Ext.trans ?_ (by assumption))); done))) hlen).mono ?_; rintro e w' ⟨rfl, hD⟩))
    go_end0
    exact ⟨rfl, (hN.does (hD.after (by ((repeat (first | exact Ext.refl _ | assumption | refine Ext.drew' ?_ | refine Ext.alloc' ?_ _ | (with_reducible refine Ext.trans ?_ (Ext.drewN _ _)) | refine Ext.trans ?_ (by assumption))); done)))).after (by ((repeat (first | exact Ext.refl _ | assumption | refine Ext.drew' ?_ | refine Ext.alloc' ?_ _ | (with_reducible refine Ext.trans ?_ (Ext.drewN _ _)) | refine Ext.trans ?_ (by assumption))); done))⟩
  | false =>
    rw [takeK_no hk]
    clear hx
    go_enter Tryz.func72, Tryz.ntmps72
    go_wp2_with (go_at_call 87; refine (kinds_fail [false] ⟨#[110]⟩ rfl (h.keep (by ((repeat (first | exact Ext.refl _ | assumption | refine Ext.drew' ?_ | refine Ext.alloc' ?_ _ | (with_reducible refine Ext.trans ?_ (Ext.drewN _ _)) | refine Ext.trans ?_ (by assumption))); done))) hb64 hk).mono ?_; rintro e w' ⟨rfl, hE⟩)
    exact ⟨rfl, rfl, c, Does.same h (Ext.trans (by ((repeat (first | exact Ext.refl _ | assumption | refine Ext.drew' ?_ | refine Ext.alloc' ?_ _ | (with_reducible refine Ext.trans ?_ (Ext.drewN _ _)) | refine Ext.trans ?_ (by assumption))); done)) hE)⟩

set_option maxHeartbeats 1000000 in
set_option maxRecDepth 20000 in
theorem values_pop (n : Int) (s : ByteArray) (hb64 : c.stack.length ≤ 64) (h : Mach w p prog view c steps done fault sb cb) :
    Calls Tryz.prog 72 #[.pointer (some ⟨p, 0, none⟩), vIns ⟨4, n, s⟩] w (Did w p prog view steps done fault sb cb (execValues ⟨4, n, s⟩ c)) := by
  have hx : execValues ⟨4, n, s⟩ c = takeA 1 c fun _ c => .go c := rfl
  rw [hx, takeA]
  by_cases hk : 1 ≤ c.stack.length
  · rw [if_pos hk]
    obtain ⟨xs, v, hs⟩ : ∃ xs v, c.stack = xs ++ [v] := ⟨_, _, (List.dropLast_concat_getLast (by intro e; rw [e] at hk; simp at hk)).symm⟩
    have hl : c.stack.take (c.stack.length - 1) = xs := by rw [hs]; simp
    have hxs : xs.length ≤ 64 := by rw [hs] at hb64; simp at hb64; omega
    rw [hl]
    go_enter Tryz.func72, Tryz.ntmps72
    go_wp2_with (first | (go_at_call 95; refine (need_ok 1 (h.keep (by ((repeat (first | exact Ext.refl _ | assumption | refine Ext.drew' ?_ | refine Ext.alloc' ?_ _ | (with_reducible refine Ext.trans ?_ (Ext.drewN _ _)) | refine Ext.trans ?_ (by assumption))); done))) hk).mono ?_; rintro e w' ⟨rfl, rfl⟩) | (go_at_call 96; refine (pop_calls xs v (h.keep (by ((repeat (first | exact Ext.refl _ | assumption | refine Ext.drew' ?_ | refine Ext.alloc' ?_ _ | (with_reducible refine Ext.trans ?_ (Ext.drewN _ _)) | refine Ext.trans ?_ (by assumption))); done))) hs hxs).mono ?_; rintro e w' ⟨rfl, hD⟩))
    go_end0
    exact ⟨rfl, hD.after (by ((repeat (first | exact Ext.refl _ | assumption | refine Ext.drew' ?_ | refine Ext.alloc' ?_ _ | (with_reducible refine Ext.trans ?_ (Ext.drewN _ _)) | refine Ext.trans ?_ (by assumption))); done))⟩
  · rw [if_neg hk]
    go_enter Tryz.func72, Tryz.ntmps72
    go_wp2_with (go_at_call 95; refine (need_no 1 (h.keep (by ((repeat (first | exact Ext.refl _ | assumption | refine Ext.drew' ?_ | refine Ext.alloc' ?_ _ | (with_reducible refine Ext.trans ?_ (Ext.drewN _ _)) | refine Ext.trans ?_ (by assumption))); done))) hk).mono ?_; rintro e w' ⟨rfl, rfl⟩)
    exact ⟨rfl, rfl, c, Does.same h (by ((repeat (first | exact Ext.refl _ | assumption | refine Ext.drew' ?_ | refine Ext.alloc' ?_ _ | (with_reducible refine Ext.trans ?_ (Ext.drewN _ _)) | refine Ext.trans ?_ (by assumption))); done))⟩
end
end Go.Proofs.YtndpgdegcbaigaaGreatDoor
