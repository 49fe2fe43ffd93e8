/- slices.DeleteFunc at files: a row of the call's own, and what it keeps of it. · slices.DeleteFunc at files. · Package tree: Put. -/
import Derived.Test.YtndpgdegcbaigaaGreatDoorQ26
import Derived.Lib.SliceRun
namespace Go.Proofs.YtndpgdegcbaigaaGreatDoor
open Go Go.RowKit Go.Lib

/-- A row of files of the call's own, made behind the place base. -/
structure OwnA (w : World) (base : Nat) (a : Option Addr) (n c : Nat) (xs : List File) : Prop where
  arr : Arr TFile w a n c xs
  own : (a = none ∧ n = 0 ∧ c = 0) ∨ ∃ g cur, a = some ⟨g, 0, none⟩ ∧ base ≤ g ∧ w.heap[g]? = some (.cells cur 34 (0, 0)) ∧ cur.size = c * 2

theorem ownA_of_row {w : World} {base : Nat} {v : Value} {xs : List File} (h : w.ownsRow base 34 TFile.k v xs.length (xs.flatMap TFile.enc)) : ∃ a c, v = .slice a xs.length c ∧ OwnA w base a xs.length c xs := by
  have h2 := h.2
  rcases h2 with ⟨rfl, h0⟩ | ⟨g, cap, cur, rfl, hb, hg, _, _, hcs, _⟩
  · exact ⟨none, 0, by rw [h0], ⟨Arr.of_own rfl (by rw [h0] at h ⊢; exact h), .inl ⟨rfl, h0, rfl⟩⟩⟩
  · exact ⟨some ⟨g, 0, none⟩, cap, rfl, ⟨Arr.of_own rfl h, .inr ⟨g, cur, rfl, hb, hg, hcs⟩⟩⟩

theorem row_of_ownA {w : World} {base n c : Nat} {a : Option Addr} {xs : List File} (h : OwnA w base a n c xs) : w.ownsRow base 34 TFile.k (.slice a n c) n (xs.flatMap TFile.enc) := by
  have hlen := h.arr.len
  refine ⟨by rw [flatMap_len, hlen], ?_⟩
  rcases h.own with ⟨rfl, rfl, rfl⟩ | ⟨g, cur, rfl, hb, hg, hcs⟩
  · exact .inl ⟨rfl, rfl⟩
  · refine .inr ⟨g, c, cur, rfl, hb, hg, h.arr.cap, h.arr.big, hcs, ?_⟩
    have hcap := h.arr.cap
    have hk : TFile.k = 2 := rfl
    refine List.ext_getElem? fun j => ?_
    by_cases hj : j < n * 2
    · have hfl : j < (xs.flatMap TFile.enc).length := by rw [flatMap_len, hlen]; exact hj
      have h1 := h.arr.flat j _ (List.getElem?_eq_getElem hfl)
      rw [Addr.add_lit, Nat.zero_add, cell_of_row w g j cur _ (0, 0) hg] at h1
      rw [List.getElem?_take, if_pos (by rw [hk]; exact hj), List.getElem?_eq_getElem hfl, ← h1]
      simp
    · rw [List.getElem?_eq_none (by simp [hk]; omega), List.getElem?_eq_none (by rw [flatMap_len, hlen, hk]; omega)]

theorem OwnA.ext {w w' : World} {base n c : Nat} {a : Option Addr} {xs : List File} (h : OwnA w base a n c xs) (e : Ext w w') : OwnA w' base a n c xs :=
  ⟨h.arr.below e, h.own.imp id fun ⟨g, cur, h1, h2, h3, h4⟩ => ⟨g, cur, h1, h2, (e.block g (Array.getElem?_eq_some_iff.1 h3).1).trans h3, h4⟩⟩

/-- What a walk wants of such a row's block. -/
theorem OwnA.free {w : World} {base n c b o : Nat} {xs : List File} (h : OwnA w base (some ⟨b, o, none⟩) n c xs) : o = 0 ∧ base ≤ b ∧ b < w.heap.size ∧ ∀ k, w.frozen? ⟨b, k, none⟩ = false := by
  rcases h.own with ⟨h1, _⟩ | ⟨g, cur, h1, h2, h3, _⟩
  · cases h1
  · cases h1
    exact ⟨rfl, h2, (Array.getElem?_eq_some_iff.1 h3).1, fun k => frozen_of h3 k⟩

theorem heap_set {w : World} {b o : Nat} {cur : Array Value} {t : TypeId} (v : Value) (h : w.heap[b]? = some (.cells cur t (0, 0))) : (w.setCell ⟨b, o, none⟩ v).heap[b]? = some (.cells (cur.setIfInBounds o v) t (0, 0)) := by
  simp [World.setCell, Array.getElem?_modify, h]

/-- One file is laid over another one. -/
theorem OwnA.set {w : World} {base n c b : Nat} {ys : List File} (h : OwnA w base (some ⟨b, 0, none⟩) n c ys) {i : Nat} (hi : i < n) (v : File) :
    OwnA ((w.setCell ⟨b, 0 + i * 2, none⟩ (.string v.path)).setCell ⟨b, 0 + i * 2 + 1, none⟩ (.string v.data)) base (some ⟨b, 0, none⟩) n c (ys.set i v) := by
  have hlen := h.arr.len
  obtain ⟨b', o', y, ha, hy, y0, y1⟩ := h.arr.file hi
  cases ha
  refine ⟨⟨by simp [hlen], h.arr.cap, h.arr.big, fun k x hx => ⟨b, 0, rfl, fun j u hu => ?_⟩⟩, ?_⟩
  · have hj : j < 2 := (List.getElem?_eq_some_iff.1 hu).1
    have hk2 : TFile.k = 2 := rfl
    by_cases hk : k = i
    · subst hk
      have hxv : x = v := by
        rw [List.getElem?_set_self (show k < ys.length by omega)] at hx; exact (Option.some.inj hx).symm
      subst hxv
      match j, hj with
      | 0, _ =>
        have e : (Value.string x.path) = u := Option.some.inj hu
        rw [← e, hk2]
        exact (cell_set_ne _ _ _ _ _ (by omega)).trans (cell_set_same _ _ _ _ _ y0)
      | 1, _ =>
        have e : (Value.string x.data) = u := Option.some.inj hu
        rw [← e, hk2]
        exact cell_set_same _ _ _ _ _ ((cell_set_ne _ _ _ _ _ (by omega)).trans y1)
    · rw [List.getElem?_set_ne (by omega)] at hx
      obtain ⟨b2, o2, ha2, hc⟩ := h.arr.cells k x hx
      cases ha2
      have h1 := hc j u hu
      rw [hk2] at h1 ⊢
      exact (cell_set_ne _ _ _ _ _ (by omega)).trans ((cell_set_ne _ _ _ _ _ (by omega)).trans h1)
  · rcases h.own with ⟨h1, _⟩ | ⟨g, cur, h1, h2, h3, h4⟩
    · cases h1
    · cases h1
      exact .inr ⟨b, _, rfl, h2, heap_set _ (heap_set _ h3), by simp [h4]⟩

/-- Of a row its front is kept. -/
theorem OwnA.cut {w : World} {base n c : Nat} {a : Option Addr} {ys : List File} (h : OwnA w base a n c ys) {i : Nat} (hi : i ≤ n) : OwnA w base a i c (ys.take i) := by
  refine ⟨⟨by rw [List.length_take, h.arr.len]; omega, Nat.le_trans hi h.arr.cap, h.arr.big, fun k x hx => ?_⟩, ?_⟩
  · have hk : k < i := by have := (List.getElem?_eq_some_iff.1 hx).1; rw [List.length_take] at this; omega
    rw [List.getElem?_take, if_pos hk] at hx
    exact h.arr.cells k x hx
  · rcases h.own with ⟨h1, h2, h3⟩ | h2
    · exact .inl ⟨h1, by omega, h3⟩
    · exact .inr h2

theorem setCells_shape {b : Nat} {t : TypeId} : ∀ (vs : List Value) (o : Nat) (w : World) (cur : Array Value), w.heap[b]? = some (.cells cur t (0, 0)) → ∃ cur', (w.setCells b o vs).heap[b]? = some (.cells cur' t (0, 0)) ∧ cur'.size = cur.size ∧ ∀ k, k < o → cur'[k]? = cur[k]?
  | [], _, _, cur, h => ⟨cur, h, rfl, fun _ _ => rfl⟩
  | v :: vs, o, w, cur, h => by
    obtain ⟨cur', h1, h2, h3⟩ := setCells_shape vs (o + 1) (w.setCell ⟨b, o, none⟩ v) _ (heap_set v h)
    refine ⟨cur', h1, by rw [h2]; simp, fun k hk => ?_⟩
    rw [h3 k (by omega)]
    rw [Array.getElem?_setIfInBounds, if_neg (by omega)]

theorem ext_setCells {w0 : World} {b : Nat} : ∀ (vs : List Value) (o : Nat) (w : World), Ext w0 w → w0.heap.size ≤ b → Ext w0 (w.setCells b o vs)
  | [], _, _, h, _ => h
  | v :: vs, o, _, h, hb => ext_setCells vs (o + 1) _ (h.set hb v) hb

/-- What stands behind the kept front is struck. -/
theorem OwnA.clear {w : World} {base n c b : Nat} {ys : List File} (h : OwnA w base (some ⟨b, 0, none⟩) n c ys) {i : Nat} (hi : i ≤ n) (vs : List Value) :
    OwnA (w.setCells b (0 + i * 2) vs) base (some ⟨b, 0, none⟩) i c (ys.take i) := by
  have hc := h.cut hi
  rcases h.own with ⟨h1, _⟩ | ⟨g, cur, h1, h2, h3, h4⟩
  · cases h1
  · cases h1
    obtain ⟨cur', k1, k2, k3⟩ := setCells_shape vs (0 + i * 2) w cur h3
    refine ⟨⟨hc.arr.len, hc.arr.cap, hc.arr.big, fun k x hx => ⟨b, 0, rfl, fun j u hu => ?_⟩⟩, .inr ⟨b, cur', rfl, h2, k1, by rw [k2, h4]⟩⟩
    obtain ⟨b2, o2, ha2, hcl⟩ := hc.arr.cells k x hx
    cases ha2
    have hj : j < 2 := (List.getElem?_eq_some_iff.1 hu).1
    have hk : k < i := by have := (List.getElem?_eq_some_iff.1 hx).1; rw [hc.arr.len] at this; exact this
    have h5 := hcl j u hu
    have hk2 : TFile.k = 2 := rfl
    rw [cell_of_row w b _ cur _ (0, 0) h3, hk2] at h5
    rw [cell_of_row _ b _ cur' _ (0, 0) k1, hk2, k3 _ (by omega)]
    exact h5

theorem OwnA.setO {w : World} {base n c b o : Nat} {ys : List File} (h : OwnA w base (some ⟨b, o, none⟩) n c ys) {i : Nat} (hi : i < n) (v : File) :
    OwnA ((w.setCell ⟨b, o + i * 2, none⟩ (.string v.path)).setCell ⟨b, o + i * 2 + 1, none⟩ (.string v.data)) base (some ⟨b, o, none⟩) n c (ys.set i v) := by
  obtain ⟨rfl, _⟩ := h.free
  exact h.set hi v
theorem OwnA.clearO {w : World} {base n c b o : Nat} {ys : List File} (h : OwnA w base (some ⟨b, o, none⟩) n c ys) {i : Nat} (hi : i ≤ n) (vs : List Value) :
    OwnA (w.setCells b (o + i * 2) vs) base (some ⟨b, o, none⟩) i c (ys.take i) := by
  obtain ⟨rfl, _⟩ := h.free
  exact h.clear hi vs

theorem run_clear_files (w : World) (ty : TypeId) (b o n c : Nat) (hn : 0 < n) (hc : ∀ j, j < n * 2 → (w.cell? ⟨b, o + j, none⟩).isSome = true) (hf : ∀ j, j < n * 2 → w.frozen? ⟨b, o + j, none⟩ = false) :
    (Builtin.clear_ #[23] ty #[.slice (some ⟨b, o, none⟩) n c]).run Tryz.prog w = .ok (.tuple #[]) (w.setCells b o (List.replicate (n * 2) (.string ⟨#[]⟩))) := by
  have hzc : (Builtin.zeroCells (Value.agg #[.string ⟨#[]⟩, .string ⟨#[]⟩]).cells n).toList = List.replicate (n * 2) (.string ⟨#[]⟩) := by
    apply List.ext_getElem
    · simp [Builtin.zeroCells, Value.cells]
    · intro i h1 h2
      simp [Builtin.zeroCells, Value.cells]
      rcases Nat.mod_two_eq_zero_or_one i with h | h <;> simp [h]
  have hst := run_storeCells_cells (P := Tryz.prog) b o (List.replicate (n * 2) (.string ⟨#[]⟩)) 0 w (by simpa using hc) (by simpa using hf) (by intro v hv'; rw [List.eq_of_mem_replicate hv']; rfl)
  simp only [Nat.add_zero] at hst
  obtain ⟨m, rfl⟩ : ∃ m, n = m + 1 := ⟨n - 1, by omega⟩
  have hv := Tryz.zeroValue34 w
  simp [Builtin.clear_, run_underlying Tryz.underlying23, hv, hzc, hst]
end Go.Proofs.YtndpgdegcbaigaaGreatDoor

namespace Go.Proofs.YtndpgdegcbaigaaGreatDoor
open Go Go.RowKit Go.Lib

/-- What DeleteFunc leaves. -/
def DelEnd (w0 : World) (r : List File) (e : Ending) (w' : World) : Prop := ∃ a c, e = .returned (.slice a r.length c) ∧ OwnA w' w0.heap.size a r.length c r ∧ Ext w0 w'

theorem idxP_cases {α : Type} (p : α → Bool) (xs : List α) : (idxP p xs = -1 ∧ ∀ x ∈ xs, p x = false) ∨ ∃ (k : Nat) (x : α), xs[k]? = some x ∧ p x = true ∧ idxP p xs = (k : Int) ∧ ∀ (j : Nat) (y : α), j < k → xs[j]? = some y → p y = false := by
  unfold idxP
  cases h : xs.findIdx? p with
  | none =>
    exact .inl ⟨rfl, fun x hx => by simpa using (List.findIdx?_eq_none_iff.1 h) x hx⟩
  | some k =>
    obtain ⟨hk, h1, h2⟩ := List.findIdx?_eq_some_iff_getElem.1 h
    exact .inr ⟨k, xs[k], List.getElem?_eq_getElem hk, h1, rfl, fun j y hj hy => by
      obtain ⟨hj2, rfl⟩ := List.getElem?_eq_some_iff.1 hy
      simpa using h2 j hj⟩

theorem filter_take {xs : List File} {q : File → Bool} {j : Nat} {x : File} (h : xs[j]? = some x) : (xs.take (j + 1)).filter q = (xs.take j).filter q ++ (if q x then [x] else []) := by
  obtain ⟨hj, rfl⟩ := List.getElem?_eq_some_iff.1 h
  rw [List.take_succ_eq_append_getElem hj, List.filter_append]
  congr 1
  cases hq : q xs[j] <;> simp [hq]
theorem filter_front {xs : List File} {q : File → Bool} {k : Nat} (h : ∀ (j : Nat) (y : File), j < k → xs[j]? = some y → q y = true) : (xs.take k).filter q = xs.take k := by
  rw [List.filter_eq_self]
  intro y hy
  obtain ⟨j, hj, rfl⟩ := List.mem_iff_getElem.1 hy
  rw [List.length_take] at hj
  exact h j _ (by omega) (by rw [List.getElem_take]; exact List.getElem?_eq_getElem (by omega))
theorem take_set {ys : List File} {i : Nat} (h : i < ys.length) (v : File) : (ys.set i v).take (i + 1) = ys.take i ++ [v] := by
  rw [List.take_succ_eq_append_getElem (by simpa using h), List.getElem_set_self]
  rw [List.take_set_of_le (Nat.le_refl _)]

set_option maxHeartbeats 8000000 in
set_option maxRecDepth 20000 in
theorem Delete_calls (p : File → Bool) (g : Nat) (lb : Array Value) (eg : Enters Tryz.prog g) (a : Option Addr) (n c : Nat) (xs : List File) (w0 w : World) (hp : PredB g lb vFile p w0) (he : Ext w0 w) (hA : OwnA w w0.heap.size a n c xs) (hn : n ≤ 1000) :
    Calls Tryz.prog 36 #[.slice a n c, .func (.func g) #[] lb] w (DelEnd w0 (xs.filter fun x => !p x)) := by
  have hIF := aside (fun W (hE : Ext w W) => IndexFunc_File p g lb eg a n c xs W (fun W' x h => hp W' x (he.trans (hE.trans h))) (hA.arr.below hE))
  have hlen := aside hA.arr.len
  rcases idxP_cases p xs with ⟨h1, hall⟩ | ⟨k, x, hk, hpx, h1, hall⟩
  · have hfil : (xs.filter fun x => !p x) = xs := by rw [List.filter_eq_self]; intro y hy; rw [hall y hy]; rfl
    rw [h1] at hIF
    rw [hfil]
    have X := aside hA
    have E := aside he
    clear hA hp he hall hfil h1
    go_enter Tryz.func36, Tryz.ntmps36
    go_wp2_with (go_at_call 64; refine (hIF.out _ (Ext.refl _)).mono ?_; rintro e w1 ⟨rfl, hE⟩)
    exact bodyPost_ret (v := .slice a n c) (by simp [results, Tryz.results36, go_sem]) rfl ⟨a, c, by rw [hlen.out], by rw [hlen.out]; exact X.out.ext hE, E.out.trans hE⟩
  · rw [h1] at hIF
    have hkn : k < n := by have := (List.getElem?_eq_some_iff.1 hk).1; rw [hlen.out] at this; exact this
    have hk1 : ((k : Int) == -1) = false := by rw [beq_eq_false_iff_ne]; omega
    obtain ⟨b, o, _, ha, -⟩ := hA.arr.file hkn
    subst ha
    obtain ⟨ho, hb0, hbl, hfr⟩ := hA.free
    clear ho
    have X := aside hA
    have E := aside he
    have HP := aside hp
    have HK := aside hk
    have HPX := aside hpx
    have HALL := aside hall
    have HB0 := aside hb0
    clear hA hp he hall h1 hk hpx hfr hbl hb0
    unfold Enters at eg
    go_enter Tryz.func36, Tryz.ntmps36
    go_wp2_with (go_at_call 64; refine (hIF.out _ (Ext.refl _)).mono ?_; rintro e w1 ⟨rfl, hE⟩; have E1 := aside hE; clear hE)
    go_loopg [5, 6] n (fun gg s5 s6 wr => ∃ (i j : Nat) (ys : List File), s5 = .int .i64 i ∧ s6 = .int .i64 j ∧ i < j ∧ j ≤ n ∧ n - j ≤ gg ∧ Aside (Ext w0 wr) ∧ Aside (OwnA wr w0.heap.size (some ⟨b, o, none⟩) n c ys) ∧
      Aside (ys.take i = (xs.take j).filter fun x => !p x) ∧ Aside (∀ m, j ≤ m → ys[m]? = xs[m]?))
    case atStart => exact ⟨k, k + 1, xs, rfl, by go_num, by omega, by omega, by omega, (show Aside _ from E.out.trans E1.out), (show Aside _ from X.out.ext E1.out), (show Aside _ from by
        show _ = _
        rw [filter_take HK.out, HPX.out, filter_front (fun j y hj hy => by rw [HALL.out j y hj hy]; rfl)]
        simp), (show Aside _ from fun _ _ => rfl)⟩
    case round =>
      obtain ⟨i, j, ys, rfl, rfl, hij, hjn, hg, BW, YS, FT, TL⟩ := hrel
      by_cases hlt : j < n
      · have hltz : (j : Int) < (n : Int) := by omega
        have hiz : (i : Int) < (n : Int) := by omega
        obtain ⟨b1, o1, y, ha1, hy, y0, y1⟩ := YS.out.arr.file hlt
        cases ha1
        obtain ⟨b2, o2, z, ha2, hz, z0, z1⟩ := YS.out.arr.file (i := i) (by omega)
        cases ha2
        obtain ⟨-, -, hbl, hfr⟩ := YS.out.free
        have hyx : xs[j]? = some y := (TL.out j (Nat.le_refl _)).symm.trans hy
        have HYX := aside hyx
        have hlenys := aside YS.out.arr.len
        clear hy hz hyx
        cases hq : p y with
        | false =>
          go_wp2_with fail
          go_at_fn g
          refine (HP.out _ y (BW.out.trans (Ext.alloc _ _))).mono ?_
          rw [hq]
          rintro e w2 ⟨rfl, hE2⟩
          obtain ⟨k1, k2, k3⟩ := new_kept2 hE2
          have hE3 := aside (show Ext wr w2 from (Ext.alloc _ _).trans hE2)
          have j0 := (hE3.out.cell (p := ⟨b, o + i * 2, none⟩) hbl).trans z0
          have j1 := (hE3.out.cell (p := ⟨b, o + i * 2 + 1, none⟩) hbl).trans z1
          have f0 := (hE3.out.frozen (p := ⟨b, o + i * 2, none⟩) hbl).trans (hfr _)
          have f1 := (hE3.out.frozen (p := ⟨b, o + i * 2 + 1, none⟩) hbl).trans (hfr _)
          have j1' := (cell_set_ne w2 b (o + i * 2) (o + i * 2 + 1) (.string y.path) (by omega)).trans j1
          go_wp2
          go_roundg (n - (j + 1))
          case measure => omega
          case rel => exact ⟨i + 1, j + 1, ys.set i y, by go_num, by go_num, by omega, by omega, by omega, (show Aside _ from ((BW.out.trans hE3.out).set HB0.out _).set HB0.out _), (show Aside _ from (YS.out.ext hE3.out).setO (by omega) y), (show Aside _ from by
            show _ = _
            rw [take_set (by rw [hlenys.out]; omega), filter_take HYX.out, hq, FT.out]; rfl), (show Aside _ from fun m hm => by
            rw [List.getElem?_set_ne (by omega)]; exact TL.out m (by omega))⟩
        | true =>
          go_wp2_with (go_at_fn g; refine (HP.out _ y (BW.out.trans (Ext.alloc _ _))).mono ?_; rw [hq]; rintro e w2 ⟨rfl, hE2⟩; have hE3 := aside (show Ext wr w2 from (Ext.alloc _ _).trans hE2); clear hE2)
          go_roundg (n - (j + 1))
          case measure => omega
          case rel => exact ⟨i, j + 1, ys, rfl, by go_num, by omega, by omega, by omega, (show Aside _ from BW.out.trans hE3.out), (show Aside _ from YS.out.ext hE3.out), (show Aside _ from by
            show _ = _
            rw [filter_take HYX.out, hq, FT.out]; simp), (show Aside _ from fun m hm => TL.out m (by omega))⟩
      · obtain rfl : j = n := by omega
        have hltz : ¬ (j : Int) < (j : Int) := by omega
        have hcap := YS.out.arr.cap
        have hic : i < c := by omega
        have hyl := YS.out.arr.len
        obtain ⟨-, -, hbl, hfr⟩ := YS.out.free
        have hcl : ∀ ty, (Builtin.clear_ #[23] ty #[.slice (some ⟨b, o + i * 2, none⟩) (j - i) (c - i)]).run Tryz.prog wr = .ok (.tuple #[]) (wr.setCells b (o + i * 2) (List.replicate ((j - i) * 2) (.string ⟨#[]⟩))) := fun ty =>
          run_clear_files wr ty b (o + i * 2) (j - i) (c - i) (by omega) (fun m hm => by
            have hfl : i * 2 + m < (ys.flatMap TFile.enc).length := by rw [flatMap_len, hyl, show TFile.k = 2 from rfl]; omega
            have h1 := YS.out.arr.flat (i * 2 + m) _ (List.getElem?_eq_getElem hfl)
            rw [Addr.add_lit, ← Nat.add_assoc] at h1
            rw [h1]; rfl) (fun m hm => hfr _)
        have hfin : Aside (DelEnd w0 (xs.filter fun x => !p x) (.returned (.slice (some ⟨b, o, none⟩) i c)) (wr.setCells b (o + i * 2) (List.replicate ((j - i) * 2) (.string ⟨#[]⟩)))) := (show Aside _ from by
          have h1 : ys.take i = xs.filter fun x => !p x := by
            have h0 := FT.out
            rwa [List.take_of_length_le (l := xs) (by rw [hlen.out]; exact Nat.le_refl _)] at h0
          have h2 : (xs.filter fun x => !p x).length = i := by rw [← h1, List.length_take, hyl]; omega
          refine ⟨some ⟨b, o, none⟩, c, by rw [h2], ?_, ext_setCells _ _ _ BW.out HB0.out⟩
          rw [h2, ← h1]
          exact YS.out.clearO (by omega) _)
        clear hyl hcap
        go_wp2
        exact bodyPost_ret (v := .slice (some ⟨b, o, none⟩) i c) (by simp [results, Tryz.results36, go_sem]) rfl hfin.out
end Go.Proofs.YtndpgdegcbaigaaGreatDoor

namespace Go.Proofs.YtndpgdegcbaigaaGreatDoor
open Go Go.RowKit Go.Lib

theorem OwnA.base {w : World} {b0 b1 n c : Nat} {a : Option Addr} {xs : List File} (h : OwnA w b1 a n c xs) (hb : b0 ≤ b1) : OwnA w b0 a n c xs :=
  ⟨h.arr, h.own.imp id fun ⟨g, cur, h1, h2, h3, h4⟩ => ⟨g, cur, h1, Nat.le_trans hb h2, h3, h4⟩⟩

theorem put_pred (f : File) (B : Nat) (W : World) (h0 : W.cell? ⟨B, 0, none⟩ = some (.string f.path)) : PredB 38 #[.pointer (some ⟨B, 0, none⟩)] vFile (fun g => g.path == f.path) W := fun W' x hE =>
  Put1_calls f x B W' ((hE.cell (p := ⟨B, 0, none⟩) (World.block_lt_of_cell? _ _ h0)).trans h0)
theorem enters_put : Enters Tryz.prog 38 := enters_of Tryz.func38 (by kernel_rfl) rfl

/-- The worlds in which Put begins its work: the tree, the file, the answer's place, each in a block. -/
abbrev pW (w : World) (a : Option Addr) (n c : Nat) (f : File) : World := ((w.alloc (.cells #[.slice a n c] 25)).alloc (.cells #[.string f.path, .string f.data] 34)).alloc (.cells #[.slice none 0 0] 25)

structure PBox (w : World) (a : Option Addr) (n c : Nat) (f : File) (W : World) : Prop where
  t0 : W.cell? ⟨w.heap.size, 0, none⟩ = some (.slice a n c)
  f0 : W.cell? ⟨w.heap.size + 1, 0, none⟩ = some (.string f.path)
  f1 : W.cell? ⟨w.heap.size + 1, 1, none⟩ = some (.string f.data)
  r0 : W.cell? ⟨w.heap.size + 2, 0, none⟩ = some (.slice none 0 0)
  rf : W.frozen? ⟨w.heap.size + 2, 0, none⟩ = false
  low : w.heap.size + 2 < W.heap.size

theorem PBox.new {w W : World} {a : Option Addr} {n c : Nat} {f : File} (h : Ext (pW w a n c f) W) : PBox w a n c f W := by
  have e1 : Ext ((w.alloc (.cells #[.slice a n c] 25)).alloc (.cells #[.string f.path, .string f.data] 34)) W := (Ext.alloc _ _).trans h
  have e0 : Ext (w.alloc (.cells #[.slice a n c] 25)) W := (Ext.alloc _ _).trans e1
  obtain ⟨a1, _, _⟩ := new_kept e0 (new_block w (.cells #[.slice a n c] 25) _ rfl)
  obtain ⟨b1, b2, _⟩ := new_kept2 e1
  obtain ⟨c1, c2, c3⟩ := new_kept h (new_block _ (.cells #[.slice none 0 0] 25) _ rfl)
  rw [World.size_alloc] at b1 b2
  simp only [World.size_alloc] at c1 c2 c3
  exact ⟨a1, b1, b2, c1, c2, c3⟩

set_option maxHeartbeats 8000000 in
set_option maxRecDepth 20000 in
theorem Put_bad (l : List File) (a : Option Addr) (c : Nat) (f : File) (w : World) (hl : l.length ≤ 1000) (hs : ∀ g ∈ l, g.path.size ≤ 1048576 ∧ g.data.size ≤ 1048576) (hA : Arr TFile w a l.length c l) (hg : Globals w) (hb : treeGood l = false) :
    Calls Tryz.prog 19 #[.agg #[.slice a l.length c], vFile f] w (TreeErr w ([], 1)) := by
  have X := aside hA
  have HG := aside hg
  have HS := aside hs
  have HB := aside hb
  clear hA hg hs hb
  go_enter Tryz.func19, Tryz.ntmps19
  go_wp2_with fail
  go_at_call 18
  refine (good_done l a c _ hl HS.out (X.out.below (show Ext w _ by ((repeat (first | exact Ext.refl _ | assumption | refine Ext.drew' ?_ | refine Ext.alloc' ?_ _ | (with_reducible refine Ext.trans ?_ (Ext.drewN _ _)) | refine Ext.trans ?_ (by assumption))); done))) (HG.out.ext (by ((repeat (first | exact Ext.refl _ | assumption | refine Ext.drew' ?_ | refine Ext.alloc' ?_ _ | (with_reducible refine Ext.trans ?_ (Ext.drewN _ _)) | refine Ext.trans ?_ (by assumption))); done)))).mono ?_
  rw [HB.out]
  rintro e w1 ⟨rfl, hE⟩
  obtain ⟨p1, p2, p3, p4, p5, p6⟩ := PBox.new hE
  have E1 := aside (show Ext w w1 from ((Ext.alloc _ _).trans ((Ext.alloc _ _).trans (Ext.alloc _ _))).trans hE)
  clear hE
  go_wp2
  exact bodyPost_ret (v := .tuple #[.agg #[.slice none 0 0], .int .i64 1]) (by simp [results, Tryz.results19, go_sem, cell_set_same _ _ _ _ _ p4]) rfl (TreeErr.nil (E1.out.set (by omega) _))

theorem newbox_cells (w : World) (f : File) (j : Nat) (u : Value) (hu : ([.string f.path, .string f.data] : List Value)[j]? = some u) :
    (w.alloc (.cells #[.string f.path, .string f.data] 34)).cell? ((⟨w.heap.size, 0, none⟩ : Addr).add j) = some u := by
  obtain ⟨h0, h1, _⟩ := new_kept2 (Ext.refl (w.alloc (.cells #[.string f.path, .string f.data] 34)))
  rw [Addr.add_lit, Nat.zero_add]
  match j, hu with
  | 0, hu => rw [h0]; exact hu
  | 1, hu => rw [h1]; exact hu
  | j + 2, hu => simp at hu

set_option maxHeartbeats 8000000 in
set_option maxRecDepth 20000 in
theorem Put_good (l : List File) (a : Option Addr) (c : Nat) (f : File) (w : World) (hl : l.length ≤ 1000) (hs : ∀ g ∈ l, g.path.size ≤ 1048576 ∧ g.data.size ≤ 1048576) (hf1 : f.path.size ≤ 1048576) (hf2 : f.data.size ≤ 1048576) (hA : Arr TFile w a l.length c l) (hg : Globals w) (hb : treeGood l = true) :
    Calls Tryz.prog 19 #[.agg #[.slice a l.length c], vFile f] w (TreeErr w (treeMake (l.filter (fun g => !(g.path == f.path)) ++ [f]))) := by
  obtain ⟨r, hr⟩ : ∃ r, l.filter (fun g => !(g.path == f.path)) = r := ⟨_, rfl⟩
  rw [hr]
  obtain ⟨R, hR⟩ : ∃ R, treeMake (r ++ [f]) = R := ⟨_, rfl⟩
  rw [hR]
  have hrl : r.length ≤ 1000 := by rw [← hr]; exact Nat.le_trans (List.length_filter_le _ _) hl
  have hrs : ∀ g ∈ r ++ [f], g.path.size ≤ 1048576 ∧ g.data.size ≤ 1048576 := fun g hg => by
    rcases List.mem_append.1 hg with h | h
    · rw [← hr] at h; exact hs g (List.mem_filter.1 h).1
    · simp at h; subst h; exact ⟨hf1, hf2⟩
  have X := aside hA
  have HG := aside hg
  have HS := aside hs
  have HB := aside hb
  have RR := aside hr
  have RS := aside hrs
  have HR := aside hR
  have i0 := info_parts Tryz.infoCloneFile
  obtain ⟨i0, hi, hz0, hz1, hz2⟩ := i0
  clear hA hg hs hb hr hrs hR hf1 hf2
  go_enter Tryz.func19, Tryz.ntmps19
  go_wp2_with fail
  go_at_call 18
  refine (good_done l a c _ hl HS.out (X.out.below (show Ext w _ by ((repeat (first | exact Ext.refl _ | assumption | refine Ext.drew' ?_ | refine Ext.alloc' ?_ _ | (with_reducible refine Ext.trans ?_ (Ext.drewN _ _)) | refine Ext.trans ?_ (by assumption))); done))) (HG.out.ext (by ((repeat (first | exact Ext.refl _ | assumption | refine Ext.drew' ?_ | refine Ext.alloc' ?_ _ | (with_reducible refine Ext.trans ?_ (Ext.drewN _ _)) | refine Ext.trans ?_ (by assumption))); done)))).mono ?_
  rw [HB.out]
  rintro e w1 ⟨rfl, hE⟩
  obtain ⟨p1, p2, p3, p4, p5, p6⟩ := PBox.new hE
  have B1 := aside hE
  have E0 := aside (show Ext w (pW w a l.length c f) from (Ext.alloc _ _).trans ((Ext.alloc _ _).trans (Ext.alloc _ _)))
  have PP := aside (put_pred f (w.heap.size + 1) (pW w a l.length c f) (PBox.new (Ext.refl _)).f0)
  clear hE
  go_wp2_with (first
    | (go_at_call 37; refine (Clone_row l a _ c w1 (X.out.below (show Ext w w1 from E0.out.trans B1.out)) (by omega)).mono ?_; rintro e w2 ⟨v, rfl, hown, hE2⟩; obtain ⟨a2, c2, rfl, hO2⟩ := ownA_of_row hown; have O2 := aside hO2; have B2 := aside (B1.out.trans hE2); clear hown hE2 hO2)
    | (go_at_call 36; refine (Delete_calls (fun g => g.path == f.path) 38 #[.pointer (some ⟨w.heap.size + 1, 0, none⟩)] enters_put a2 _ c2 l (pW w a l.length c f) w2 PP.out B2.out (O2.out.base B1.out.size) hl).mono ?_; rw [RR.out]; rintro e w3 ⟨a3, c3, rfl, hO3, hE3⟩; obtain ⟨q1, q2, q3, q4, q5, q6⟩ := PBox.new hE3; have O3 := aside hO3; have B3 := aside hE3; have own3 := aside (row_of_ownA O3.out); clear hO3 hE3)
    | (at_builtin; refine wpList_append_own _ rfl _ _ 23 rfl (pW w a l.length c f).heap.size 34 i0 _ 2 32 Tryz.underlying23 hi hz0 hz1 hz2 rfl (by decide) _ _ _ rfl (own3.out.alloc _) ⟨w3.heap.size, 0, none⟩ 1 1 [.string f.path, .string f.data] rfl rfl (fun j u hu => newbox_cells w3 f j u hu) (fun v hv => encF_one f v hv) (by unfold maxLen; omega) (by omega) (Nat.le_trans B3.out.size (Ext.alloc _ _).size) ?_; intro v' w4 hown4 hgrow4 _; have O4 := aside hown4; have G4 := aside hgrow4; clear hown4 hgrow4))
  have B4 := aside (show Ext (pW w a l.length c f) w4 from Below.grown (show Ext (pW w a l.length c f) _ from B3.out.trans (Ext.alloc _ _)) G4.out (Nat.le_trans B3.out.size (Ext.alloc _ _).size) (fun k hk => by
    rcases O3.out.own with ⟨h1, _⟩ | ⟨g, cur, h1, h2, _⟩
    · rw [h1] at hk; cases hk
    · rw [h1] at hk; cases hk; exact h2))
  obtain ⟨a4, c4, hv4, hO4⟩ := ownA_of_row (xs := r ++ [f]) (base := (pW w a l.length c f).heap.size) (w := w4) (v := v') (by
    have h1 := O4.out
    rw [List.length_append, List.flatMap_append]
    exact h1)
  subst hv4
  have A4 := aside hO4
  obtain ⟨s1, s2, s3, s4, s5, s6⟩ := PBox.new B4.out
  have E4 := aside (show Ext w w4 from E0.out.trans B4.out)
  clear hO4 O4 G4
  refine (make_says (r ++ [f]) a4 c4 w4 (by rw [List.length_append]; simp; omega) RS.out A4.out.arr (HG.out.ext E4.out)).mono ?_
  rw [HR.out]
  rintro e w5 ⟨a5, c5, rfl, hA5, hE5, hfr⟩
  have A5 := aside hA5
  have FR := aside hfr
  obtain ⟨u1, u2, u3, u4, u5, u6⟩ := PBox.new (B4.out.trans hE5)
  have E5 := aside (E4.out.trans hE5)
  have S4 := aside E4.out.size
  clear hA5 hfr hE5
  have hfin : Aside (TreeErr w R (.returned (.tuple #[.agg #[.slice a5 R.1.length c5], .int .i64 R.2])) (w5.setCell ⟨w.heap.size + 2, 0, none⟩ (.slice a5 R.1.length c5))) := (show Aside _ from
    ⟨a5, c5, rfl, A5.out.keep fun b o h1 hx _ => Below.heap_setCell _ _ _ _ (by have := FR.out b o h1 hx; simp only; omega), E5.out.set (by omega) _, fun b o h1 h2 => Nat.le_trans S4.out (FR.out b o h1 h2)⟩)
  go_wp2
  exact bodyPost_ret (v := .tuple #[.agg #[.slice a5 R.1.length c5], .int .i64 R.2]) (by simp [results, Tryz.results19, go_sem, cell_set_same _ _ _ _ _ u4]) rfl hfin.out

/-- What Put does. -/
theorem put_says : PutSays := by
  intro l a c f w hl hs hf1 hf2 hA hg
  have h : Calls Tryz.prog 19 #[.agg #[.slice a l.length c], vFile f] w (TreeErr w (putF l f)) := by
    unfold putF
    cases hb : treeGood l with
    | true => exact Put_good l a c f w hl hs hf1 hf2 hA hg hb
    | false => exact Put_bad l a c f w hl hs hA hg hb
  exact h.mono fun _ _ h => h
end Go.Proofs.YtndpgdegcbaigaaGreatDoor
