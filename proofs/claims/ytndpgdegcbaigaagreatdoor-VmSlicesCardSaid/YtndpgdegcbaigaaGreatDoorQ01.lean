/- Words for what is read and kept in memory: slices that read as lists, frames, blocks; no condition. · The program's data as plain Lean: instructions, files, values; how each lies in cells. · slices.IndexFunc and slices.ContainsFunc: the first place where a predicate holds, at instructions, files and texts. · What the program's own table of words holds, as a fact on a world; kept where memory only grows. · Package code: Takes, Word, right, Check answer as plain functions say. · The machine as a plain Lean function: what an instruction does to a machine's state; no program in sight. · Trees of files as plain Lean: which paths are good, which lists of files make a tree. No program in sight. -/
import Derived.WalkKit
import Derived.WalkLawsBesides
import Derived.BigQuiet
import Derived.Deep.QuietTactic
import Derived.Deep.LoopGhost
import Derived.Deep.RegionLaw
import Derived.Deep.AppendLies
import Derived.WalkSpells
import Derived.Lib.Hide
import Derived.KernelRfl
import Derived.Test.YtndpgdegcbaigaaGreatDoorProg
import Derived.Shelf.Abstract
import Derived.Lib.Bytealg
import Derived.Lib.Strings
namespace Go.Proofs.YtndpgdegcbaigaaGreatDoor
open Go Go.RowKit

/-- An element type: how many cells, which. -/
structure Ty (α : Type) where
  k : Nat
  enc : α → List Value
  len : ∀ x, (enc x).length = k
  one : ∀ x u, u ∈ enc x → u.oneCell' = true
  pos : 0 < k

/-- A slice reads as a list. -/
structure Arr {α : Type} (T : Ty α) (w : World) (a : Option Addr) (n c : Nat) (xs : List α) : Prop where
  len : xs.length = n
  cap : n ≤ c
  big : c ≤ maxLen
  cells : ∀ i x, xs[i]? = some x → ∃ b o, a = some ⟨b, o, none⟩ ∧ ∀ j u, (T.enc x)[j]? = some u → w.cell? ⟨b, o + i * T.k + j, none⟩ = some u

theorem Arr.nil {α : Type} (T : Ty α) (w : World) (a : Option Addr) (c : Nat) (h : c ≤ maxLen) : Arr T w a 0 c [] :=
  ⟨rfl, Nat.zero_le _, h, fun i x h => by simp at h⟩

theorem cell_of_block {w w' : World} {p : Addr} (h : w'.heap[p.block]? = w.heap[p.block]?) : w'.cell? p = w.cell? p := World.cell?_of_block h

theorem Arr.keep {α : Type} {T : Ty α} {w w' : World} {a : Option Addr} {n c : Nat} {xs : List α} (h : Arr T w a n c xs)
    (hk : ∀ b o, a = some ⟨b, o, none⟩ → xs ≠ [] → b < w.heap.size → w'.heap[b]? = w.heap[b]?) : Arr T w' a n c xs :=
  ⟨h.len, h.cap, h.big, fun i x hx => by
    obtain ⟨b, o, ha, hc⟩ := h.cells i x hx
    refine ⟨b, o, ha, fun j u hu => ?_⟩
    have h1 := hc j u hu
    have hlt : b < w.heap.size := World.block_lt_of_cell? w ⟨b, o + i * T.k + j, none⟩ h1
    rw [cell_of_block (hk b o ha (by intro e; rw [e] at hx; simp at hx) hlt), h1]⟩

theorem Arr.lt {α : Type} {T : Ty α} {w : World} {a : Option Addr} {n c : Nat} {xs : List α} (h : Arr T w a n c xs) {b o : Nat} (ha : a = some ⟨b, o, none⟩) (hx : xs ≠ []) : b < w.heap.size := by
  match xs, hx, h.cells with
  | x :: xs, _, hc =>
    obtain ⟨b', o', ha', hc'⟩ := hc 0 x rfl
    rw [ha] at ha'; cases ha'
    have hp := T.pos
    have hl := T.len x
    have h0 : (T.enc x)[0]? = some ((T.enc x)[0]'(by omega)) := List.getElem?_eq_getElem (by omega)
    exact World.block_lt_of_cell? w ⟨b, o + 0 * T.k + 0, none⟩ (hc' 0 _ h0)

theorem Arr.below {α : Type} {T : Ty α} {w w' : World} {a : Option Addr} {n c : Nat} {xs : List α} (h : Arr T w a n c xs)
    (hb : Below w.heap.size w w') : Arr T w' a n c xs := h.keep fun b _ _ _ hlt => hb.block b hlt

theorem Arr.at {α : Type} {T : Ty α} {w : World} {a : Option Addr} {n c : Nat} {xs : List α} (h : Arr T w a n c xs) {i : Nat} (hi : i < n) :
    ∃ b o x, a = some ⟨b, o, none⟩ ∧ xs[i]? = some x ∧ ∀ j u, (T.enc x)[j]? = some u → w.cell? ⟨b, o + i * T.k + j, none⟩ = some u := by
  have hl : i < xs.length := by rw [h.len]; exact hi
  obtain ⟨b, o, ha, hc⟩ := h.cells i xs[i] (List.getElem?_eq_getElem hl)
  exact ⟨b, o, xs[i], ha, List.getElem?_eq_getElem hl, hc⟩

theorem Arr.bound {α : Type} {T : Ty α} {w : World} {a : Option Addr} {n c : Nat} {xs : List α} (h : Arr T w a n c xs) : n ≤ 9223372036854775807 := by
  have h1 := h.cap; have h2 := h.big; unfold maxLen at h2; omega

/-- The world of a call that only makes memory. -/
def Ext (w w' : World) : Prop := Below w.heap.size w w'

theorem Ext.refl (w : World) : Ext w w := Below.refl _ _
theorem Ext.trans {a b c : World} (h : Ext a b) (k : Ext b c) : Ext a c := Below.trans h (Below.mono k h.size)
theorem Ext.alloc (w : World) (o : Obj) : Ext w (w.alloc o) := (Below.refl _ _).alloc (Nat.le_refl _) o
theorem Ext.drew (w : World) : Ext w w.drew := (Below.refl _ _).drew
theorem Ext.drewN (w : World) (n : Nat) : Ext w (w.drewN n) := ⟨rfl, rfl, rfl, Nat.le_refl _, fun _ _ => rfl⟩

theorem bcell {W w1 : World} {B : Nat} (hb : Below B W w1) : (∀ b o, b < B → w1.cell? ⟨b, o, none⟩ = W.cell? ⟨b, o, none⟩) ∧ (∀ b o, b < B → w1.frozen? ⟨b, o, none⟩ = W.frozen? ⟨b, o, none⟩) :=
  ⟨fun b o h => hb.cell (p := ⟨b, o, none⟩) h, fun b o h => hb.frozen (p := ⟨b, o, none⟩) h⟩

/-- A slice of the call's own, as the kit says it, reads as a list. -/
theorem Arr.of_own {α : Type} {T : Ty α} {w : World} {base : Nat} {e : TypeId} {a : Option Addr} {n c : Nat} {xs : List α} (hn : xs.length = n)
    (h : w.ownsRow base e T.k (.slice a n c) n (xs.flatMap T.enc)) : Arr T w a n c xs := by
  obtain ⟨hl, h2⟩ := h
  rcases h2 with ⟨hv, h0⟩ | ⟨g, cap, cur, hv, hb, hg, hnc, hcm, hcs, htake⟩
  · simp only [Value.slice.injEq] at hv
    obtain ⟨rfl, _, rfl⟩ := hv
    obtain rfl : xs = [] := List.eq_nil_of_length_eq_zero (by omega)
    subst h0
    exact Arr.nil T w none 0 (by unfold maxLen; omega)
  · simp only [Value.slice.injEq] at hv
    obtain ⟨rfl, _, rfl⟩ := hv
    refine ⟨hn, hnc, hcm, fun i x hx => ⟨g, 0, rfl, fun j u hu => ?_⟩⟩
    have hj : j < T.k := by
      have := (List.getElem?_eq_some_iff.1 hu).1
      rw [T.len] at this; exact this
    have key : ∀ (ys : List α) (i : Nat) (x : α), ys[i]? = some x → (ys.flatMap T.enc)[i * T.k + j]? = (T.enc x)[j]? := by
      intro ys
      induction ys with
      | nil => intro i x h; simp at h
      | cons y ys ih =>
        intro i x h
        cases i with
        | zero =>
          simp only [List.getElem?_cons_zero, Option.some.injEq] at h
          subst h
          rw [List.flatMap_cons, List.getElem?_append_left (by rw [T.len]; omega)]
          simp
        | succ i =>
          simp only [List.getElem?_cons_succ] at h
          rw [List.flatMap_cons, List.getElem?_append_right (by rw [T.len, Nat.succ_mul]; omega), T.len]
          rw [← ih i x h]
          congr 1
          rw [Nat.succ_mul]; omega
    have hk := key xs i x hx
    rw [hu, ← htake] at hk
    rw [cell_of_row w g _ cur e (0, 0) hg]
    rw [List.getElem?_take] at hk
    split at hk
    · rw [Nat.zero_add]; simpa using hk
    · cases hk

theorem flat_at {α : Type} (T : Ty α) : ∀ (xs : List α) (j : Nat) (u : Value), (xs.flatMap T.enc)[j]? = some u → ∃ i r x, j = i * T.k + r ∧ xs[i]? = some x ∧ (T.enc x)[r]? = some u := by
  intro xs
  induction xs with
  | nil => intro j u h; simp at h
  | cons x xs ih =>
    intro j u h
    rw [List.flatMap_cons] at h
    by_cases hj : j < T.k
    · rw [List.getElem?_append_left (by rw [T.len]; exact hj)] at h
      exact ⟨0, j, x, by omega, rfl, h⟩
    · rw [List.getElem?_append_right (by rw [T.len]; omega), T.len] at h
      obtain ⟨i, r, y, hjj, hy, hu⟩ := ih _ _ h
      exact ⟨i + 1, r, y, by rw [Nat.succ_mul]; omega, hy, hu⟩

theorem Arr.flat {α : Type} {T : Ty α} {w : World} {b o n c : Nat} {xs : List α} (h : Arr T w (some ⟨b, o, none⟩) n c xs) (j : Nat) (u : Value) (hu : (xs.flatMap T.enc)[j]? = some u) :
    w.cell? ((⟨b, o, none⟩ : Addr).add j) = some u := by
  obtain ⟨i, r, x, rfl, hx, hr⟩ := flat_at T xs j u hu
  obtain ⟨b', o', ha, hc⟩ := h.cells i x hx
  cases ha
  have := hc r u hr
  rw [Addr.add_lit]
  rw [← Nat.add_assoc]; exact this

theorem flatMap_len {α : Type} (T : Ty α) (xs : List α) : (xs.flatMap T.enc).length = xs.length * T.k := by
  induction xs with
  | nil => simp
  | cons x xs ih => rw [List.flatMap_cons, List.length_append, ih, T.len, List.length_cons, Nat.succ_mul]; omega

theorem flatMap_one {α : Type} (T : Ty α) (xs : List α) (u : Value) (h : u ∈ xs.flatMap T.enc) : u.oneCell' = true := by
  obtain ⟨x, _, hx⟩ := List.mem_flatMap.1 h
  exact T.one x u hx

/-- What a call hands back: a slice in new memory that reads as this list. -/
def NewArr {α : Type} (T : Ty α) (w : World) (xs : List α) (e : Ending) (w' : World) : Prop :=
  ∃ a c, e = .returned (.slice a xs.length c) ∧ Arr T w' a xs.length c xs ∧ Ext w w' ∧ (∀ b o, a = some ⟨b, o, none⟩ → xs ≠ [] → w.heap.size ≤ b)

theorem NewArr.of_own {α : Type} {T : Ty α} {w w' : World} {xs : List α} {e : TypeId} {v : Value} (h : w'.ownsRow w.heap.size e T.k v xs.length (xs.flatMap T.enc)) (he : Ext w w') : NewArr T w xs (.returned v) w' := by
  have h2 := h.2
  rcases h2 with ⟨rfl, h0⟩ | ⟨g, cap, cur, rfl, hb, _⟩
  · exact ⟨none, 0, by rw [h0], Arr.of_own rfl (by rw [h0] at h ⊢; exact h), he, fun _ _ h => by cases h⟩
  · exact ⟨some ⟨g, 0, none⟩, cap, rfl, Arr.of_own rfl h, he, fun b o hb' _ => by cases hb'; exact hb⟩
end Go.Proofs.YtndpgdegcbaigaaGreatDoor

namespace Go.Proofs.YtndpgdegcbaigaaGreatDoor
open Go Go.RowKit

structure Ins where
  op : Int
  n : Int
  s : ByteArray
deriving DecidableEq

structure File where
  path : ByteArray
  data : ByteArray
deriving DecidableEq

structure Val where
  text : Bool
  n : Int
  s : ByteArray
deriving DecidableEq

instance : Inhabited Ins := ⟨⟨0, 0, ByteArray.empty⟩⟩
instance : Inhabited File := ⟨⟨ByteArray.empty, ByteArray.empty⟩⟩
instance : Inhabited Val := ⟨⟨false, 0, ByteArray.empty⟩⟩

def TIns : Ty Ins := ⟨3, fun x => [.int .i64 x.op, .int .i64 x.n, .string x.s], fun _ => rfl, fun x u h => by
  simp only [List.mem_cons, List.mem_nil_iff, or_false] at h; rcases h with rfl | rfl | rfl <;> rfl, by decide⟩
def TFile : Ty File := ⟨2, fun x => [.string x.path, .string x.data], fun _ => rfl, fun x u h => by
  simp only [List.mem_cons, List.mem_nil_iff, or_false] at h; rcases h with rfl | rfl <;> rfl, by decide⟩
def TVal : Ty Val := ⟨3, fun x => [.bool x.text, .int .i64 x.n, .string x.s], fun _ => rfl, fun x u h => by
  simp only [List.mem_cons, List.mem_nil_iff, or_false] at h; rcases h with rfl | rfl | rfl <;> rfl, by decide⟩
def TStr : Ty ByteArray := ⟨1, fun x => [.string x], fun _ => rfl, fun x u h => by
  simp only [List.mem_cons, List.mem_nil_iff, or_false] at h; rcases h with rfl; rfl, by decide⟩
def TInt : Ty Int := ⟨1, fun x => [.int .i64 x], fun _ => rfl, fun x u h => by
  simp only [List.mem_cons, List.mem_nil_iff, or_false] at h; rcases h with rfl; rfl, by decide⟩

abbrev vIns (x : Ins) : Value := .agg #[.int .i64 x.op, .int .i64 x.n, .string x.s]
abbrev vFile (x : File) : Value := .agg #[.string x.path, .string x.data]
abbrev vVal (x : Val) : Value := .agg #[.bool x.text, .int .i64 x.n, .string x.s]

section
variable {w : World} {a : Option Addr} {n c : Nat}
theorem Arr.ins {xs : List Ins} (h : Arr TIns w a n c xs) {i : Nat} (hi : i < n) : ∃ b o x, a = some ⟨b, o, none⟩ ∧ xs[i]? = some x ∧
    w.cell? ⟨b, o + i * 3, none⟩ = some (.int .i64 x.op) ∧ w.cell? ⟨b, o + i * 3 + 1, none⟩ = some (.int .i64 x.n) ∧ w.cell? ⟨b, o + i * 3 + 2, none⟩ = some (.string x.s) := by
  obtain ⟨b, o, x, ha, hx, hc⟩ := h.at hi
  exact ⟨b, o, x, ha, hx, hc 0 _ rfl, hc 1 _ rfl, hc 2 _ rfl⟩
theorem Arr.file {xs : List File} (h : Arr TFile w a n c xs) {i : Nat} (hi : i < n) : ∃ b o x, a = some ⟨b, o, none⟩ ∧ xs[i]? = some x ∧
    w.cell? ⟨b, o + i * 2, none⟩ = some (.string x.path) ∧ w.cell? ⟨b, o + i * 2 + 1, none⟩ = some (.string x.data) := by
  obtain ⟨b, o, x, ha, hx, hc⟩ := h.at hi
  exact ⟨b, o, x, ha, hx, hc 0 _ rfl, hc 1 _ rfl⟩
theorem Arr.val {xs : List Val} (h : Arr TVal w a n c xs) {i : Nat} (hi : i < n) : ∃ b o x, a = some ⟨b, o, none⟩ ∧ xs[i]? = some x ∧
    w.cell? ⟨b, o + i * 3, none⟩ = some (.bool x.text) ∧ w.cell? ⟨b, o + i * 3 + 1, none⟩ = some (.int .i64 x.n) ∧ w.cell? ⟨b, o + i * 3 + 2, none⟩ = some (.string x.s) := by
  obtain ⟨b, o, x, ha, hx, hc⟩ := h.at hi
  exact ⟨b, o, x, ha, hx, hc 0 _ rfl, hc 1 _ rfl, hc 2 _ rfl⟩
theorem Arr.str {xs : List ByteArray} (h : Arr TStr w a n c xs) {i : Nat} (hi : i < n) : ∃ b o x, a = some ⟨b, o, none⟩ ∧ xs[i]? = some x ∧
    w.cell? ⟨b, o + i, none⟩ = some (.string x) := by
  obtain ⟨b, o, x, ha, hx, hc⟩ := h.at hi
  refine ⟨b, o, x, ha, hx, ?_⟩
  have := hc 0 _ rfl
  simpa [TStr] using this
theorem Arr.int {xs : List Int} (h : Arr TInt w a n c xs) {i : Nat} (hi : i < n) : ∃ b o x, a = some ⟨b, o, none⟩ ∧ xs[i]? = some x ∧
    w.cell? ⟨b, o + i, none⟩ = some (.int .i64 x) := by
  obtain ⟨b, o, x, ha, hx, hc⟩ := h.at hi
  refine ⟨b, o, x, ha, hx, ?_⟩
  have := hc 0 _ rfl
  simpa [TInt] using this
end

/-- A call of this function value, in whatever later world, answers p and only makes memory. -/
def PredB {α : Type} (g : Nat) (lb : Array Value) (v : α → Value) (p : α → Bool) (w : World) : Prop :=
  ∀ (W : World) (x : α), Ext w W → Calls Tryz.prog g (#[v x] ++ lb) W fun e W' => e = .returned (.bool (p x)) ∧ Ext W W'

/-- Where the first one lies of which p holds; -1. -/
def idxP {α : Type} (p : α → Bool) (xs : List α) : Int := match xs.findIdx? p with | some i => i | none => -1
theorem idxP_hit {α : Type} {p : α → Bool} {xs : List α} {k : Nat} {x : α} (hx : xs[k]? = some x) (hp : p x = true) (h : ∀ j y, j < k → xs[j]? = some y → p y = false) : idxP p xs = (k : Int) := by
  unfold idxP
  have : xs.findIdx? p = some k := by
    rw [List.findIdx?_eq_some_iff_getElem]
    obtain ⟨hl, hg⟩ := List.getElem?_eq_some_iff.1 hx
    refine ⟨hl, by rw [hg]; exact hp, fun j hj => ?_⟩
    rw [h j _ hj (List.getElem?_eq_getElem (by omega))]; simp
  rw [this]
theorem idxP_miss {α : Type} {p : α → Bool} {xs : List α} (h : ∀ j y, j < xs.length → xs[j]? = some y → p y = false) : idxP p xs = -1 := by
  unfold idxP
  have : xs.findIdx? p = none := by
    rw [List.findIdx?_eq_none_iff]
    intro x hx
    obtain ⟨j, hj, rfl⟩ := List.mem_iff_getElem.1 hx
    exact h j _ hj (List.getElem?_eq_getElem hj)
  rw [this]
theorem idxP_nonneg {α : Type} {p : α → Bool} {xs : List α} : decide (0 ≤ idxP p xs) = xs.any p := by
  unfold idxP
  rw [Bool.eq_iff_iff, decide_eq_true_eq]
  have h2 : (xs.findIdx? p).isSome = xs.any p := by rw [List.findIdx?_isSome]
  cases h : xs.findIdx? p with
  | none => rw [h] at h2; simp at h2; simp; exact h2
  | some i => rw [h] at h2; rw [← h2]; simp
end Go.Proofs.YtndpgdegcbaigaaGreatDoor

namespace Go.Proofs.YtndpgdegcbaigaaGreatDoor
open Go Go.RowKit

set_option maxHeartbeats 1000000 in
theorem IndexFunc_Ins (p : Ins → Bool) (g : Nat) (lb : Array Value) (eg : Enters Tryz.prog g) (a : Option Addr) (n c : Nat) (xs : List Ins) (w : World)
    (hp : PredB g lb vIns p w) (ha : Arr TIns w a n c xs) :
    Calls Tryz.prog 39 #[.slice a n c, .func (.func g) #[] lb] w fun e w' => e = .returned (.int .i64 (idxP p xs)) ∧ Ext w w' := by
  have hbig := ha.bound
  unfold Enters at eg
  go_enter Tryz.func39, Tryz.ntmps39
  go_wp2
  go_loopg [5, 8] n (fun gg _ s8 wr => ∃ kk : Nat, kk ≤ n ∧ n - kk ≤ gg ∧ s8 = .int .i64 kk ∧ Aside (Ext w wr) ∧ Aside (∀ j y, j < kk → xs[j]? = some y → p y = false))
  case atStart => exact ⟨0, Nat.zero_le _, by omega, rfl, Ext.refl w, fun j y hj => absurd hj (Nat.not_lt_zero _)⟩
  case round =>
    obtain ⟨kk, hkk, hg, rfl, BW, A⟩ := hrel
    by_cases hlt : kk < n
    · have hltz : (kk : Int) < (n : Int) := by omega
      obtain ⟨b, o, x, rfl, hx, c0, c1, c2⟩ := (ha.below BW.out).ins hlt
      have X : Aside (xs[kk]? = some x) := hx
      clear hx
      have hcall := hp wr x BW.out
      clear hp ha
      cases hq : p x with
      | true =>
        rw [hq] at hcall
        go_wp2_with (go_at_fn g; refine hcall.mono ?_; rintro e w' ⟨rfl, hb'⟩)
        go_ret
        refine ⟨?_, BW.out.trans hb'⟩
        rw [idxP_hit X.out hq A.out]
        rfl
      | false =>
        rw [hq] at hcall
        go_wp2_with (go_at_fn g; refine hcall.mono ?_; rintro e w' ⟨rfl, hb'⟩)
        go_roundg (n - (kk + 1))
        case measure => omega
        case rel =>
          refine ⟨kk + 1, by omega, by omega, by go_num, (show Aside _ from BW.out.trans hb'), (show Aside _ from fun j y hj hy => ?_)⟩
          by_cases e : j = kk
          · subst e
            have := hy.symm.trans X.out
            cases this
            exact hq
          · exact A.out j y (by omega) hy
    · have hltz : ¬ (kk : Int) < (n : Int) := by omega
      have : kk = n := by omega
      subst this
      go_wp2
      go_ret
      refine ⟨?_, BW.out⟩
      rw [idxP_miss fun j y hj hy => A.out j y (by have := ha.len; omega) hy]
      rfl

set_option maxHeartbeats 1000000 in
theorem IndexFunc_File (p : File → Bool) (g : Nat) (lb : Array Value) (eg : Enters Tryz.prog g) (a : Option Addr) (n c : Nat) (xs : List File) (w : World)
    (hp : PredB g lb vFile p w) (ha : Arr TFile w a n c xs) :
    Calls Tryz.prog 64 #[.slice a n c, .func (.func g) #[] lb] w fun e w' => e = .returned (.int .i64 (idxP p xs)) ∧ Ext w w' := by
  have hbig := ha.bound
  unfold Enters at eg
  go_enter Tryz.func64, Tryz.ntmps64
  go_wp2
  go_loopg [5, 8] n (fun gg _ s8 wr => ∃ kk : Nat, kk ≤ n ∧ n - kk ≤ gg ∧ s8 = .int .i64 kk ∧ Aside (Ext w wr) ∧ Aside (∀ j y, j < kk → xs[j]? = some y → p y = false))
  case atStart => exact ⟨0, Nat.zero_le _, by omega, rfl, Ext.refl w, fun j y hj => absurd hj (Nat.not_lt_zero _)⟩
  case round =>
    obtain ⟨kk, hkk, hg, rfl, BW, A⟩ := hrel
    by_cases hlt : kk < n
    · have hltz : (kk : Int) < (n : Int) := by omega
      obtain ⟨b, o, x, rfl, hx, c0, c1⟩ := (ha.below BW.out).file hlt
      have X : Aside (xs[kk]? = some x) := hx
      clear hx
      have hcall := hp wr x BW.out
      clear hp ha
      cases hq : p x with
      | true =>
        rw [hq] at hcall
        go_wp2_with (go_at_fn g; refine hcall.mono ?_; rintro e w' ⟨rfl, hb'⟩)
        go_ret
        refine ⟨?_, BW.out.trans hb'⟩
        rw [idxP_hit X.out hq A.out]
        rfl
      | false =>
        rw [hq] at hcall
        go_wp2_with (go_at_fn g; refine hcall.mono ?_; rintro e w' ⟨rfl, hb'⟩)
        go_roundg (n - (kk + 1))
        case measure => omega
        case rel =>
          refine ⟨kk + 1, by omega, by omega, by go_num, (show Aside _ from BW.out.trans hb'), (show Aside _ from fun j y hj hy => ?_)⟩
          by_cases e : j = kk
          · subst e
            have := hy.symm.trans X.out
            cases this
            exact hq
          · exact A.out j y (by omega) hy
    · have hltz : ¬ (kk : Int) < (n : Int) := by omega
      have : kk = n := by omega
      subst this
      go_wp2
      go_ret
      refine ⟨?_, BW.out⟩
      rw [idxP_miss fun j y hj hy => A.out j y (by have := ha.len; omega) hy]
      rfl

theorem ContainsFunc_File (p : File → Bool) (g : Nat) (lb : Array Value) (eg : Enters Tryz.prog g) (a : Option Addr) (n c : Nat) (xs : List File) (w : World)
    (hp : PredB g lb vFile p w) (ha : Arr TFile w a n c xs) :
    Calls Tryz.prog 61 #[.slice a n c, .func (.func g) #[] lb] w fun e w' => e = .returned (.bool (xs.any p)) ∧ Ext w w' := by
  rw [← idxP_nonneg]
  go_enter Tryz.func61, Tryz.ntmps61
  go_wp2_with (go_at_call 64; refine (IndexFunc_File p g lb eg a n c xs _ hp ha).mono ?_; rintro e w' ⟨rfl, hb'⟩)
  go_ret
  exact ⟨rfl, hb'⟩

set_option maxHeartbeats 1000000 in
theorem IndexFunc_Str (p : ByteArray → Bool) (g : Nat) (lb : Array Value) (eg : Enters Tryz.prog g) (a : Option Addr) (n c : Nat) (xs : List ByteArray) (w : World)
    (hp : PredB g lb (Value.string ·) p w) (ha : Arr TStr w a n c xs) :
    Calls Tryz.prog 105 #[.slice a n c, .func (.func g) #[] lb] w fun e w' => e = .returned (.int .i64 (idxP p xs)) ∧ Ext w w' := by
  have hbig := ha.bound
  unfold Enters at eg
  go_enter Tryz.func105, Tryz.ntmps105
  go_wp2
  go_loopg [5, 8] n (fun gg _ s8 wr => ∃ kk : Nat, kk ≤ n ∧ n - kk ≤ gg ∧ s8 = .int .i64 kk ∧ Aside (Ext w wr) ∧ Aside (∀ j y, j < kk → xs[j]? = some y → p y = false))
  case atStart => exact ⟨0, Nat.zero_le _, by omega, rfl, Ext.refl w, fun j y hj => absurd hj (Nat.not_lt_zero _)⟩
  case round =>
    obtain ⟨kk, hkk, hg, rfl, BW, A⟩ := hrel
    by_cases hlt : kk < n
    · have hltz : (kk : Int) < (n : Int) := by omega
      obtain ⟨b, o, x, rfl, hx, c0⟩ := (ha.below BW.out).str hlt
      have X : Aside (xs[kk]? = some x) := hx
      clear hx
      have hcall := hp wr x BW.out
      clear hp ha
      cases hq : p x with
      | true =>
        rw [hq] at hcall
        go_wp2_with (go_at_fn g; refine hcall.mono ?_; rintro e w' ⟨rfl, hb'⟩)
        go_ret
        refine ⟨?_, BW.out.trans hb'⟩
        rw [idxP_hit X.out hq A.out]
        rfl
      | false =>
        rw [hq] at hcall
        go_wp2_with (go_at_fn g; refine hcall.mono ?_; rintro e w' ⟨rfl, hb'⟩)
        go_roundg (n - (kk + 1))
        case measure => omega
        case rel =>
          refine ⟨kk + 1, by omega, by omega, by go_num, (show Aside _ from BW.out.trans hb'), (show Aside _ from fun j y hj hy => ?_)⟩
          by_cases e : j = kk
          · subst e
            have := hy.symm.trans X.out
            cases this
            exact hq
          · exact A.out j y (by omega) hy
    · have hltz : ¬ (kk : Int) < (n : Int) := by omega
      have : kk = n := by omega
      subst this
      go_wp2
      go_ret
      refine ⟨?_, BW.out⟩
      rw [idxP_miss fun j y hj hy => A.out j y (by have := ha.len; omega) hy]
      rfl

theorem ContainsFunc_Str (p : ByteArray → Bool) (g : Nat) (lb : Array Value) (eg : Enters Tryz.prog g) (a : Option Addr) (n c : Nat) (xs : List ByteArray) (w : World)
    (hp : PredB g lb (Value.string ·) p w) (ha : Arr TStr w a n c xs) :
    Calls Tryz.prog 78 #[.slice a n c, .func (.func g) #[] lb] w fun e w' => e = .returned (.bool (xs.any p)) ∧ Ext w w' := by
  rw [← idxP_nonneg]
  go_enter Tryz.func78, Tryz.ntmps78
  go_wp2_with (go_at_call 105; refine (IndexFunc_Str p g lb eg a n c xs _ hp ha).mono ?_; rintro e w' ⟨rfl, hb'⟩)
  go_ret
  exact ⟨rfl, hb'⟩
end Go.Proofs.YtndpgdegcbaigaaGreatDoor

namespace Go.Proofs.YtndpgdegcbaigaaGreatDoor
open Go Go.RowKit

/-- The words of the instructions, by their codes. -/
def wordList : List ByteArray := [⟨#[]⟩, ⟨#[104, 97, 108, 116]⟩, ⟨#[112, 117, 115, 104]⟩, ⟨#[116, 101, 120, 116]⟩, ⟨#[112, 111, 112]⟩, ⟨#[100, 117, 112]⟩, ⟨#[115, 119, 97, 112]⟩, ⟨#[108, 111, 97, 100]⟩, ⟨#[115, 116, 111, 114, 101]⟩, ⟨#[97, 100, 100]⟩, ⟨#[115, 117, 98]⟩, ⟨#[109, 117, 108]⟩, ⟨#[100, 105, 118]⟩, ⟨#[109, 111, 100]⟩, ⟨#[108, 101, 115, 115]⟩, ⟨#[101, 113]⟩, ⟨#[110, 111, 116]⟩, ⟨#[106, 117, 109, 112]⟩, ⟨#[122, 101, 114, 111]⟩, ⟨#[99, 97, 108, 108]⟩, ⟨#[114, 101, 116]⟩, ⟨#[99, 97, 116]⟩, ⟨#[108, 101, 110]⟩, ⟨#[99, 117, 116]⟩, ⟨#[115, 116, 114]⟩, ⟨#[110, 117, 109]⟩, ⟨#[114, 101, 97, 100]⟩, ⟨#[99, 111, 117, 110, 116]⟩, ⟨#[112, 97, 116, 104]⟩, ⟨#[119, 114, 105, 116, 101]⟩, ⟨#[102, 97, 105, 108]⟩]
def wordOf (op : Int) : ByteArray := if 0 ≤ op ∧ op < 31 then wordList.getD op.toNat ByteArray.empty else ByteArray.empty

/-- The table of words lies in the world. -/
structure Words (w : World) : Prop where
  low : 0 < w.heap.size
  cells : ∀ i, i < 31 → w.cell? ⟨0, i, none⟩ = some (.string (wordList.getD i ByteArray.empty))

theorem Words.ext {w w' : World} (h : Words w) (e : Ext w w') : Words w' :=
  ⟨Nat.lt_of_lt_of_le h.low e.size, fun i hi => by rw [cell_of_block (e.block _ h.low)]; exact h.cells i hi⟩
end Go.Proofs.YtndpgdegcbaigaaGreatDoor

namespace Go.Proofs.YtndpgdegcbaigaaGreatDoor
open Go Go.RowKit

def takes (op : Int) : Int :=
  if op = 2 ∨ op = 30 then 1 else if op = 3 then 2 else if op = 7 ∨ op = 8 then 3 else if op = 17 ∨ op = 18 ∨ op = 19 then 4 else 0

def insOK (count : Int) (x : Ins) : Bool :=
  decide (1 ≤ x.op ∧ x.op ≤ 30) &&
  (if takes x.op = 2 then decide (x.n = 0 ∧ x.s.size ≤ 256)
   else decide (x.s = ByteArray.empty) && (if takes x.op = 0 then decide (x.n = 0) else if takes x.op = 3 then decide (0 ≤ x.n ∧ x.n < 16) else if takes x.op = 4 then decide (0 ≤ x.n ∧ x.n < count) else true))

theorem ret_bool {a b : Bool} (h : a = b) : Ending.returned (.bool a) = .returned (.bool b) := by rw [h]
theorem ret_int {k : IntKind} {a b : Int} (h : a = b) : Ending.returned (.int k a) = .returned (.int k b) := by rw [h]
theorem ret_congr {a b : Value} (h : a = b) : Ending.returned a = .returned b := by rw [h]

theorem Takes_calls (op : Int) (w : World) :
    Calls Tryz.prog 22 #[.int .i64 op] w fun e w' => e = .returned (.int .i64 (takes op)) ∧ w = w' := by
  go_enter Tryz.func22, Tryz.ntmps22
  go_wp2
  all_goals
    go_ret
    refine ⟨ret_congr ?_, rfl⟩
    simp only [beq_iff_eq, beq_eq_false_iff_ne, ne_eq] at *
    simp [takes, *]

theorem Word_calls (op : Int) (w : World) (hw : Words w) :
    Calls Tryz.prog 65 #[.int .i64 op] w fun e w' => e = .returned (.string (wordOf op)) ∧ w = w' := by
  by_cases h0 : op < 0
  · go_enter Tryz.func65, Tryz.ntmps65
    go_wp2
    go_ret
    refine ⟨ret_congr ?_, rfl⟩
    unfold wordOf; rw [if_neg (by omega)]; rfl
  · by_cases h1 : 31 ≤ op
    · go_enter Tryz.func65, Tryz.ntmps65
      go_wp2
      go_ret
      refine ⟨ret_congr ?_, rfl⟩
      unfold wordOf; rw [if_neg (by omega)]; rfl
    · obtain ⟨k, rfl⟩ : ∃ k : Nat, op = (k : Int) := ⟨op.toNat, by omega⟩
      have hc := hw.cells k (by omega)
      go_enter Tryz.func65, Tryz.ntmps65
      go_wp2
      go_ret
      refine ⟨ret_congr ?_, rfl⟩
      unfold wordOf; rw [if_pos (by omega)]; simp

theorem empty_iff (s : ByteArray) : s.toList.isEmpty = decide (s = ByteArray.empty) := (decide_eq_emptyBytes s).symm
theorem wordOf_empty (op : Int) : wordOf op = ByteArray.empty ↔ ¬ (1 ≤ op ∧ op ≤ 30) := by
  unfold wordOf
  split
  · rename_i h
    obtain ⟨k, rfl⟩ : ∃ k : Nat, op = (k : Int) := ⟨op.toNat, by omega⟩
    have hk : k < 31 := by omega
    have key : ∀ k, k < 31 → (wordList.getD k ByteArray.empty = ByteArray.empty ↔ k = 0) := by decide
    rw [Int.toNat_natCast, key k hk]; omega
  · rename_i h
    simp; omega

theorem right_calls (x : Ins) (count : Int) (w : World) (hw : Words w) :
    Calls Tryz.prog 41 #[vIns x, .int .i64 count] w fun e w' => e = .returned (.bool (insOK count x)) ∧ Ext w w' := by
  obtain ⟨op, n, s⟩ := x
  go_enter Tryz.func41, Tryz.ntmps41
  go_wp2_with (first | (go_at_call 22; refine (Takes_calls _ _).mono ?_; rintro e w' ⟨rfl, rfl⟩) | (go_at_call 65; refine (Word_calls _ _ (hw.ext (Ext.alloc _ _))).mono ?_; rintro e w' ⟨rfl, rfl⟩))
  all_goals
    go_ret
    refine ⟨ret_bool ?_, Ext.alloc _ _⟩
    go_tidy
    simp only [empty_iff, wordOf_empty, Bool.not_eq_true', Bool.not_eq_false', decide_eq_true_eq, decide_eq_false_iff_not, Decidable.not_not, beq_iff_eq, beq_eq_false_iff_ne, ne_eq] at *
    rw [Bool.eq_iff_iff]
    first | (simp [insOK, *]; done) | (simp [insOK, *]; omega)

theorem Check1_calls (x : Ins) (W : World) (hw : Words W) (B : Nat) (a : Option Addr) (n c : Nat) (hB : W.cell? ⟨B, 0, none⟩ = some (.slice a n c)) (hlt : B < W.heap.size) :
    Calls Tryz.prog 40 #[vIns x, .pointer (some ⟨B, 0, none⟩)] W fun e W' => e = .returned (.bool (!insOK n x)) ∧ Ext W W' := by
  go_enter Tryz.func40, Tryz.ntmps40
  go_wp2_with (go_at_call 41; refine (right_calls _ _ _ (hw.ext (Ext.alloc _ _))).mono ?_; rintro e w' ⟨rfl, hb⟩)
  go_ret
  exact ⟨rfl, (Ext.alloc _ _).trans hb⟩

/-- Check's answer. -/
def checkAt (p : List Ins) : Int := idxP (fun x => !insOK p.length x) p
def checkErr (p : List Ins) : Int := if p.length = 0 ∨ 256 < p.length then 13 else if 0 ≤ checkAt p then 30 else 0
def checkIdx (p : List Ins) : Int := if p.length = 0 ∨ 256 < p.length then 0 else if 0 ≤ checkAt p then checkAt p else 0

theorem Check_calls (a : Option Addr) (n c : Nat) (p : List Ins) (w : World) (hw : Words w) (ha : Arr TIns w a n c p) :
    Calls Tryz.prog 20 #[.slice a n c] w fun e w' => e = .returned (.tuple #[.int .i64 (checkIdx p), .int .i64 (checkErr p)]) ∧ Ext w w' := by
  have hl := ha.len
  have hbig := ha.bound
  by_cases h0 : n = 0
  · subst h0
    go_enter Tryz.func20, Tryz.ntmps20
    go_wp2
    go_ret2
    exact ⟨by simp [checkIdx, checkErr, hl], Ext.alloc _ _⟩
  · by_cases h1 : 256 < n
    · go_enter Tryz.func20, Tryz.ntmps20
      go_wp2
      go_ret2
      exact ⟨by simp [checkIdx, checkErr, hl, h1], Ext.alloc _ _⟩
    · have hidx : checkAt p = idxP (fun x => !insOK n x) p := by rw [checkAt, hl]
      have eg : Enters Tryz.prog 40 := enters_of Tryz.func40 (by kernel_rfl) rfl
      have P1 : Aside (∀ (o : Obj), o = .cells #[.slice a n c] 22 (0, 0) → PredB 40 #[.pointer (some ⟨w.heap.size, 0, none⟩)] vIns (fun x => !insOK n x) (w.alloc o)) := by
        intro o ho W x hW
        subst ho
        refine Check1_calls x W (hw.ext ((Ext.alloc _ _).trans hW)) w.heap.size a n c ?_ ?_
        · rw [hW.cell (p := ⟨w.heap.size, 0, none⟩) (by simp)]; simp
        · exact Nat.lt_of_lt_of_le (by simp) hW.size
      generalize hq : checkAt p = q at hidx
      have Q1 : Aside (checkAt p = q) := hq
      have H1 : Aside (q = idxP (fun x => !insOK n x) p) := hidx
      clear hq hidx
      have L1 : Aside (p.length = n) := hl
      clear hl
      have h0' : ((n : Int) == 0) = false := by simp; omega
      have h1' : (n : Int) ≤ 256 := by omega
      go_enter Tryz.func20, Tryz.ntmps20
      go_wp2_with (go_at_call 39; refine (IndexFunc_Ins (fun x => !insOK n x) 40 _ eg a n c p _ (P1.out _ rfl) (ha.below (Ext.alloc _ _))).mono ?_; rw [← H1.out]; rintro e w' ⟨rfl, hb⟩)
      all_goals
        go_ret2
        refine ⟨ret_congr ?_, (Ext.alloc _ _).trans hb⟩
        simp [checkIdx, checkErr, L1.out, Q1.out, h0, h1]
        omega
end Go.Proofs.YtndpgdegcbaigaaGreatDoor

namespace Go.Proofs.YtndpgdegcbaigaaGreatDoor

/-- What a machine is, apart from where it lies. -/
structure Cfg where
  stack : List Val
  calls : List Int
  cells : List Val
  out : List File
  at_ : Int

abbrev vNum (n : Int) : Val := ⟨false, n, ⟨#[]⟩⟩
abbrev vText (s : ByteArray) : Val := ⟨true, 0, s⟩
abbrev vTruth (b : Bool) : Val := vNum (if b then 1 else 0)

/-- What comes of an instruction. -/
inductive Out where
  | go (c : Cfg)
  | halt (c : Cfg)
  | stop (e : Int)

def Out.bind (o : Out) (k : Cfg → Out) : Out := match o with
  | .go c => k c
  | o => o

def pushV (v : Val) (c : Cfg) : Out := if c.stack.length < 64 then .go { c with stack := c.stack ++ [v] } else .stop 40

/-- Are the last values there, and of these sorts (true: a text)? -/
def kindOK (signs : List Bool) (st : List Val) : Bool := decide (signs.length ≤ st.length) && ((st.drop (st.length - signs.length)).map (·.text) == signs)
def kindErr (signs : List Bool) (st : List Val) : Int := if st.length < signs.length then 40 else 41

/-- The last values are taken off. -/
def takeK (signs : List Bool) (c : Cfg) (k : List Val → Cfg → Out) : Out :=
  if kindOK signs c.stack then k (c.stack.drop (c.stack.length - signs.length)) { c with stack := c.stack.take (c.stack.length - signs.length) } else .stop (kindErr signs c.stack)
/-- So many values of any sort are taken off. -/
def takeA (n : Nat) (c : Cfg) (k : List Val → Cfg → Out) : Out :=
  if n ≤ c.stack.length then k (c.stack.drop (c.stack.length - n)) { c with stack := c.stack.take (c.stack.length - n) } else .stop 40

theorem kindOK_split {signs : List Bool} {st : List Val} (h : kindOK signs st = true) : ∃ xs tops, st = xs ++ tops ∧ tops.length = signs.length ∧ tops.map (·.text) = signs ∧
    st.take (st.length - signs.length) = xs ∧ st.drop (st.length - signs.length) = tops := by
  simp only [kindOK, Bool.and_eq_true, decide_eq_true_eq, beq_iff_eq] at h
  refine ⟨_, _, (List.take_append_drop (st.length - signs.length) st).symm, ?_, h.2, rfl, rfl⟩
  rw [List.length_drop]; omega
end Go.Proofs.YtndpgdegcbaigaaGreatDoor

namespace Go.Proofs.YtndpgdegcbaigaaGreatDoor

/-- A byte of a name. -/
def nameB (c : UInt8) : Bool := (97 ≤ c && c ≤ 122) || (48 ≤ c && c ≤ 57) || c == 45 || c == 95 || c == 46
def goodName (s : List UInt8) : Bool := decide (0 < s.length) && decide (s.length ≤ 32) && (s.head? != some 46) && s.all nameB

/-- What stands between strokes. -/
def pieces : List UInt8 → List (List UInt8)
  | [] => [[]]
  | c :: cs => if c = 47 then [] :: pieces cs else match pieces cs with
    | p :: ps => (c :: p) :: ps
    | [] => [[c]]

def goodPath (s : ByteArray) : Bool := decide (s.size ≤ 128) && decide ((pieces s.data.toList).length ≤ 8) && (pieces s.data.toList).all goodName

def ltB (a b : ByteArray) : Bool := Go.Op.bytesLess a.data.toList b.data.toList

/-- A file, put where it stands by its path, behind its like. -/
def insF (f : File) : List File → List File
  | [] => [f]
  | g :: gs => if ltB f.path g.path then f :: g :: gs else g :: insF f gs
def sortF (l : List File) : List File := l.foldl (fun s f => insF f s) []

def fileErr (f : File) : Option Int := if goodPath f.path then (if f.data.size ≤ 2048 then none else some 3) else some 10
def twice : List File → Bool
  | f :: g :: l => f.path == g.path || twice (g :: l)
  | _ => false
def stroke (p : ByteArray) : List UInt8 := p.data.toList ++ [47]
def clash (l : List File) : Bool := l.any fun f => l.any fun g => (stroke f.path).isPrefixOf g.path.data.toList

/-- The tree of files, and the error. -/
def treeMake (l : List File) : List File × Int :=
  if 32 < l.length then ([], 13) else match l.findSome? fileErr with
  | some e => ([], e)
  | none => if twice (sortF l) then ([], 11) else if clash (sortF l) then ([], 12) else (sortF l, 0)
def treeGood (l : List File) : Bool := (treeMake l).2 == 0 && (treeMake l).1 == l
def getF (l : List File) (p : ByteArray) : ByteArray × Bool := match l.find? fun f => f.path == p with
  | some f => (f.data, true)
  | none => (⟨#[]⟩, false)
def putF (l : List File) (f : File) : List File × Int := if treeGood l then treeMake (l.filter (fun g => !(g.path == f.path)) ++ [f]) else ([], 1)
end Go.Proofs.YtndpgdegcbaigaaGreatDoor
