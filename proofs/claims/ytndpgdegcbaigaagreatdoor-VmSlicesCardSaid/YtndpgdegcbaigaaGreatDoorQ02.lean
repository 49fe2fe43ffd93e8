/- What each instruction does, as plain Lean. · A machine in memory: its block, its stack and its places to come back to; what a call may turn. · A machine in memory, from one world to the next: a new stack, new places to come back to, new cells. · Package vm: the small ones: unless, num, text, truth, need, pop, push. · Package vm: pop and push of a machine's stack. -/
import Derived.Test.YtndpgdegcbaigaaGreatDoorQ01
import Derived.Lib.ItoaNum
import Derived.Lib.AtoiAll
import Derived.WalkSmall
namespace Go.Proofs.YtndpgdegcbaigaaGreatDoor
open Go Go.RowKit

abbrev itoaS (n : Int) : ByteArray := ⟨(Go.Lib.itoa n).toArray⟩

/-- Two numbers by an operation; none: a division by zero. -/
def reckonM (op a b : Int) : Option Int :=
  if op = 9 then some (wrap64 (a + b)) else if op = 10 then some (wrap64 (a - b)) else if op = 11 then some (wrap64 (a * b)) else
  if b = 0 then none else if op = 12 then some (wrap64 (a.tdiv b)) else some (a.tmod b)

def foundM (s : ByteArray) (is : Bool) (c : Cfg) : Out := (pushV (vText s) c).bind (pushV (vTruth is))
/-- The number that a text is, and whether it is one's own text. -/
def numM (s : ByteArray) : Int × Bool := match Go.Lib.atoiAll s.data.toList with
  | .ok n => if itoaS n = s then (n, true) else (0, false)
  | _ => (0, false)

def execValues (x : Ins) (c : Cfg) : Out :=
  match x.op with
  | 2 => pushV (vNum x.n) c
  | 4 => takeA 1 c fun _ c => .go c
  | 5 => takeA 1 c fun vs _ => pushV (vs.getD 0 default) c
  | 6 => takeA 2 c fun vs c => .go { c with stack := c.stack ++ [vs.getD 1 default, vs.getD 0 default] }
  | 7 => pushV (c.cells.getD x.n.toNat default) c
  | 8 => takeA 1 c fun vs c => .go { c with cells := c.cells.set x.n.toNat (vs.getD 0 default) }
  | 14 => takeA 2 c fun vs c => if (vs.getD 0 default).text = (vs.getD 1 default).text then pushV (vTruth (decide ((vs.getD 0 default).n < (vs.getD 1 default).n) || ltB (vs.getD 0 default).s (vs.getD 1 default).s)) c else .stop 41
  | 15 => takeA 2 c fun vs c => pushV (vTruth (decide (vs.getD 0 default = vs.getD 1 default))) c
  | 16 => takeK [false] c fun vs c => pushV (vTruth (decide ((vs.getD 0 default).n = 0))) c
  | _ => takeK [false, false] c fun vs c => match reckonM x.op (vs.getD 0 default).n (vs.getD 1 default).n with
    | some r => pushV (vNum r) c
    | none => .stop 42

def execTexts (x : Ins) (c : Cfg) : Out :=
  match x.op with
  | 3 => pushV (vText x.s) c
  | 21 => takeK [true, true] c fun vs c => if (vs.getD 0 default).s.size + (vs.getD 1 default).s.size ≤ 2048 then pushV (vText ((vs.getD 0 default).s ++ (vs.getD 1 default).s)) c else .stop 43
  | 22 => takeK [true] c fun vs c => pushV (vNum (vs.getD 0 default).s.size) c
  | 23 => takeK [true, false, false] c fun vs c =>
    if 0 ≤ (vs.getD 1 default).n ∧ (vs.getD 1 default).n ≤ (vs.getD 2 default).n ∧ (vs.getD 2 default).n ≤ (vs.getD 0 default).s.size then
      pushV (vText ((vs.getD 0 default).s.extract (vs.getD 1 default).n.toNat (vs.getD 2 default).n.toNat)) c else .stop 43
  | 24 => takeK [false] c fun vs c => pushV (vText (itoaS (vs.getD 0 default).n)) c
  | _ => takeK [true] c fun vs c => (pushV (vNum (numM (vs.getD 0 default).s).1) c).bind (pushV (vTruth (numM (vs.getD 0 default).s).2))

def execFiles (view : List File) (x : Ins) (c : Cfg) : Out :=
  match x.op with
  | 26 => takeK [true] c fun vs c => foundM (getF view (vs.getD 0 default).s).1 (getF view (vs.getD 0 default).s).2 c
  | 27 => pushV (vNum view.length) c
  | 28 => takeK [false] c fun vs c => if 0 ≤ (vs.getD 0 default).n ∧ (vs.getD 0 default).n < view.length then foundM (view.getD (vs.getD 0 default).n.toNat default).path true c else foundM ⟨#[]⟩ false c
  | _ => takeK [true, true] c fun vs c => if (putF c.out ⟨(vs.getD 0 default).s, (vs.getD 1 default).s⟩).2 = 0 then .go { c with out := (putF c.out ⟨(vs.getD 0 default).s, (vs.getD 1 default).s⟩).1 }
    else .stop (putF c.out ⟨(vs.getD 0 default).s, (vs.getD 1 default).s⟩).2

def execMoves (x : Ins) (c : Cfg) : Out :=
  match x.op with
  | 1 => .halt c
  | 17 => .go { c with at_ := x.n }
  | 18 => takeK [false] c fun vs c => .go (if (vs.getD 0 default).n = 0 then { c with at_ := x.n } else c)
  | 19 => if c.calls.length < 16 then .go { c with calls := c.calls ++ [c.at_], at_ := x.n } else .stop 40
  | 20 => match c.calls.getLast? with
    | some a => .go { c with at_ := a, calls := c.calls.dropLast }
    | none => .stop 40
  | _ => .stop 44

/-- One instruction; the place has gone on already. -/
def exec (view : List File) (x : Ins) (c : Cfg) : Out :=
  if x.op = 1 ∨ x.op = 17 ∨ x.op = 18 ∨ x.op = 19 ∨ x.op = 20 ∨ x.op = 30 then execMoves x c
  else if x.op = 3 ∨ x.op = 21 ∨ x.op = 22 ∨ x.op = 23 ∨ x.op = 24 ∨ x.op = 25 then execTexts x c
  else if x.op = 26 ∨ x.op = 27 ∨ x.op = 28 ∨ x.op = 29 then execFiles view x c
  else execValues x c
end Go.Proofs.YtndpgdegcbaigaaGreatDoor

namespace Go.Proofs.YtndpgdegcbaigaaGreatDoor
open Go Go.RowKit

/-- Blocks outside D stay as they were. -/
structure Fr (D : Nat → Prop) (w w' : World) : Prop where
  os : w'.os = w.os
  tape : w'.tape = w.tape
  output : w'.output = w.output
  size : w.heap.size ≤ w'.heap.size
  block : ∀ k, k < w.heap.size → ¬ D k → w'.heap[k]? = w.heap[k]?

theorem Fr.of_ext {D : Nat → Prop} {w w' : World} (h : Ext w w') : Fr D w w' := ⟨h.os, h.tape, h.output, h.size, fun k hk _ => h.block k hk⟩
theorem Fr.refl (D : Nat → Prop) (w : World) : Fr D w w := Fr.of_ext (Ext.refl w)
/-- Two steps: what the second one may turn is among what the first one may, or new. -/
theorem Fr.trans {D D' : Nat → Prop} {a b c : World} (h : Fr D a b) (k : Fr D' b c) (hD : ∀ i, i < a.heap.size → D' i → D i) : Fr D a c :=
  ⟨k.os.trans h.os, k.tape.trans h.tape, k.output.trans h.output, Nat.le_trans h.size k.size,
    fun i hi hn => (k.block i (Nat.lt_of_lt_of_le hi h.size) (fun hd => hn (hD i hi hd))).trans (h.block i hi hn)⟩
theorem Fr.ext {D : Nat → Prop} {a b c : World} (h : Fr D a b) (k : Ext b c) : Fr D a c := h.trans (D' := fun _ => False) (Fr.of_ext k) (fun _ _ h => h.elim)
theorem Fr.after {D : Nat → Prop} {a b c : World} (h : Ext a b) (k : Fr D b c) : Fr D a c := (Fr.of_ext h).trans k (fun _ _ h => h)
theorem Fr.setCell (D : Nat → Prop) (w : World) (p : Addr) (v : Value) (hD : D p.block) : Fr D w (w.setCell p v) :=
  ⟨rfl, rfl, rfl, by simp [World.setCell], fun k _ hn => Below.heap_setCell _ _ _ _ (fun e => hn (e ▸ hD))⟩
theorem Fr.mono {D D' : Nat → Prop} {w w' : World} (h : Fr D w w') (hD : ∀ k, k < w.heap.size → D k → D' k) : Fr D' w w' :=
  ⟨h.os, h.tape, h.output, h.size, fun k hk hn => h.block k hk (fun hd => hn (hD k hk hd))⟩
theorem Fr.grown {D : Nat → Prop} {w w' : World} {row : Option Nat} (h : w.grownBy w' row) (hD : ∀ k, row = some k → D k) : Fr D w w' :=
  ⟨h.os, h.tape, h.output, h.size, fun k hk hn => h.block k hk (fun e => hn (hD k e.symm))⟩
theorem Fr.below {D : Nat → Prop} {w w' : World} {B : Nat} (h : Fr D w w') (hB : B ≤ w.heap.size) (hD : ∀ k, k < B → ¬ D k) : Below B w w' :=
  ⟨h.os, h.tape, h.output, h.size, fun k hk => h.block k (Nat.lt_of_lt_of_le hk hB) (hD k hk)⟩

/-- The cells of a machine's block. -/
structure MBlk (w : World) (p : Nat) (pv vv ov sv cv : Value) (L : List Val) (at_ steps : Int) (done : Bool) (fault : Int) : Prop where
  low : p < w.heap.size
  free : ∀ o, w.frozen? ⟨p, o, none⟩ = false
  c0 : w.cell? ⟨p, 0, none⟩ = some pv
  c1 : w.cell? ⟨p, 1, none⟩ = some vv
  c2 : w.cell? ⟨p, 2, none⟩ = some ov
  c3 : w.cell? ⟨p, 3, none⟩ = some sv
  c4 : w.cell? ⟨p, 4, none⟩ = some cv
  len : L.length = 16
  loc : ∀ i x, L[i]? = some x → w.cell? ⟨p, 5 + i * 3, none⟩ = some (.bool x.text) ∧ w.cell? ⟨p, 5 + i * 3 + 1, none⟩ = some (.int .i64 x.n) ∧ w.cell? ⟨p, 5 + i * 3 + 2, none⟩ = some (.string x.s)
  c53 : w.cell? ⟨p, 53, none⟩ = some (.int .i64 at_)
  c54 : w.cell? ⟨p, 54, none⟩ = some (.int .i64 steps)
  c55 : w.cell? ⟨p, 55, none⟩ = some (.bool done)
  c56 : w.cell? ⟨p, 56, none⟩ = some (.int .i64 fault)

section
variable {w w' : World} {p : Nat} {pv vv ov sv cv : Value} {L : List Val} {at_ steps : Int} {done : Bool} {fault : Int}

theorem MBlk.keep (h : MBlk w p pv vv ov sv cv L at_ steps done fault) (hs : w.heap.size ≤ w'.heap.size) (hk : w'.heap[p]? = w.heap[p]?) :
    MBlk w' p pv vv ov sv cv L at_ steps done fault := by
  have hc : ∀ o, w'.cell? ⟨p, o, none⟩ = w.cell? ⟨p, o, none⟩ := fun o => cell_of_block (p := ⟨p, o, none⟩) hk
  have hf : ∀ o, w'.frozen? ⟨p, o, none⟩ = w.frozen? ⟨p, o, none⟩ := fun o => World.frozen?_of_block (a := ⟨p, o, none⟩) hk
  exact ⟨Nat.lt_of_lt_of_le h.low hs, fun o => by rw [hf]; exact h.free o, by rw [hc]; exact h.c0, by rw [hc]; exact h.c1, by rw [hc]; exact h.c2, by rw [hc]; exact h.c3, by rw [hc]; exact h.c4, h.len,
    fun i x hx => by rw [hc, hc, hc]; exact h.loc i x hx, by rw [hc]; exact h.c53, by rw [hc]; exact h.c54, by rw [hc]; exact h.c55, by rw [hc]; exact h.c56⟩

theorem MBlk.ext (h : MBlk w p pv vv ov sv cv L at_ steps done fault) (e : Ext w w') : MBlk w' p pv vv ov sv cv L at_ steps done fault :=
  h.keep e.size (e.block p h.low)

theorem cell_set_ne (w : World) (p o o' : Nat) (v : Value) (h : o' ≠ o) : (w.setCell ⟨p, o, none⟩ v).cell? ⟨p, o', none⟩ = w.cell? ⟨p, o', none⟩ :=
  World.cell?_setCell_other _ _ _ _ (by intro e; cases e; exact h rfl)
theorem cell_set_same (w : World) (p o : Nat) (v u : Value) (h : w.cell? ⟨p, o, none⟩ = some u) : (w.setCell ⟨p, o, none⟩ v).cell? ⟨p, o, none⟩ = some v :=
  World.cell?_setCell_same _ _ _ h
theorem size_set (w : World) (a : Addr) (v : Value) : (w.setCell a v).heap.size = w.heap.size := by simp [World.setCell]
theorem frozen_set (w : World) (a b : Addr) (v : Value) : (w.setCell a v).frozen? b = w.frozen? b := by simp
theorem MBlk.setOut (h : MBlk w p pv vv ov sv cv L at_ steps done fault) (v : Value) : MBlk (w.setCell ⟨p, 2, none⟩ v) p pv vv v sv cv L at_ steps done fault :=
  ⟨by rw [size_set]; exact h.low, fun o => by rw [frozen_set]; exact h.free o, (cell_set_ne _ _ _ _ _ (by omega)).trans h.c0,
    (cell_set_ne _ _ _ _ _ (by omega)).trans h.c1,
    cell_set_same _ _ _ _ _ h.c2,
    (cell_set_ne _ _ _ _ _ (by omega)).trans h.c3,
    (cell_set_ne _ _ _ _ _ (by omega)).trans h.c4,
    h.len,
    fun i x hx => by
    have hi : i < 16 := by have := (List.getElem?_eq_some_iff.1 hx).1; have := h.len; omega
    obtain ⟨a1, a2, a3⟩ := h.loc i x hx
    exact ⟨(cell_set_ne _ _ _ _ _ (by omega)).trans a1, (cell_set_ne _ _ _ _ _ (by omega)).trans a2, (cell_set_ne _ _ _ _ _ (by omega)).trans a3⟩,
    (cell_set_ne _ _ _ _ _ (by omega)).trans h.c53,
    (cell_set_ne _ _ _ _ _ (by omega)).trans h.c54,
    (cell_set_ne _ _ _ _ _ (by omega)).trans h.c55,
    (cell_set_ne _ _ _ _ _ (by omega)).trans h.c56⟩
theorem MBlk.setStack (h : MBlk w p pv vv ov sv cv L at_ steps done fault) (v : Value) : MBlk (w.setCell ⟨p, 3, none⟩ v) p pv vv ov v cv L at_ steps done fault :=
  ⟨by rw [size_set]; exact h.low, fun o => by rw [frozen_set]; exact h.free o, (cell_set_ne _ _ _ _ _ (by omega)).trans h.c0,
    (cell_set_ne _ _ _ _ _ (by omega)).trans h.c1,
    (cell_set_ne _ _ _ _ _ (by omega)).trans h.c2,
    cell_set_same _ _ _ _ _ h.c3,
    (cell_set_ne _ _ _ _ _ (by omega)).trans h.c4,
    h.len,
    fun i x hx => by
    have hi : i < 16 := by have := (List.getElem?_eq_some_iff.1 hx).1; have := h.len; omega
    obtain ⟨a1, a2, a3⟩ := h.loc i x hx
    exact ⟨(cell_set_ne _ _ _ _ _ (by omega)).trans a1, (cell_set_ne _ _ _ _ _ (by omega)).trans a2, (cell_set_ne _ _ _ _ _ (by omega)).trans a3⟩,
    (cell_set_ne _ _ _ _ _ (by omega)).trans h.c53,
    (cell_set_ne _ _ _ _ _ (by omega)).trans h.c54,
    (cell_set_ne _ _ _ _ _ (by omega)).trans h.c55,
    (cell_set_ne _ _ _ _ _ (by omega)).trans h.c56⟩
theorem MBlk.setCalls (h : MBlk w p pv vv ov sv cv L at_ steps done fault) (v : Value) : MBlk (w.setCell ⟨p, 4, none⟩ v) p pv vv ov sv v L at_ steps done fault :=
  ⟨by rw [size_set]; exact h.low, fun o => by rw [frozen_set]; exact h.free o, (cell_set_ne _ _ _ _ _ (by omega)).trans h.c0,
    (cell_set_ne _ _ _ _ _ (by omega)).trans h.c1,
    (cell_set_ne _ _ _ _ _ (by omega)).trans h.c2,
    (cell_set_ne _ _ _ _ _ (by omega)).trans h.c3,
    cell_set_same _ _ _ _ _ h.c4,
    h.len,
    fun i x hx => by
    have hi : i < 16 := by have := (List.getElem?_eq_some_iff.1 hx).1; have := h.len; omega
    obtain ⟨a1, a2, a3⟩ := h.loc i x hx
    exact ⟨(cell_set_ne _ _ _ _ _ (by omega)).trans a1, (cell_set_ne _ _ _ _ _ (by omega)).trans a2, (cell_set_ne _ _ _ _ _ (by omega)).trans a3⟩,
    (cell_set_ne _ _ _ _ _ (by omega)).trans h.c53,
    (cell_set_ne _ _ _ _ _ (by omega)).trans h.c54,
    (cell_set_ne _ _ _ _ _ (by omega)).trans h.c55,
    (cell_set_ne _ _ _ _ _ (by omega)).trans h.c56⟩
theorem MBlk.setAt (h : MBlk w p pv vv ov sv cv L at_ steps done fault) (v : Int) : MBlk (w.setCell ⟨p, 53, none⟩ (.int .i64 v)) p pv vv ov sv cv L v steps done fault :=
  ⟨by rw [size_set]; exact h.low, fun o => by rw [frozen_set]; exact h.free o, (cell_set_ne _ _ _ _ _ (by omega)).trans h.c0,
    (cell_set_ne _ _ _ _ _ (by omega)).trans h.c1,
    (cell_set_ne _ _ _ _ _ (by omega)).trans h.c2,
    (cell_set_ne _ _ _ _ _ (by omega)).trans h.c3,
    (cell_set_ne _ _ _ _ _ (by omega)).trans h.c4,
    h.len,
    fun i x hx => by
    have hi : i < 16 := by have := (List.getElem?_eq_some_iff.1 hx).1; have := h.len; omega
    obtain ⟨a1, a2, a3⟩ := h.loc i x hx
    exact ⟨(cell_set_ne _ _ _ _ _ (by omega)).trans a1, (cell_set_ne _ _ _ _ _ (by omega)).trans a2, (cell_set_ne _ _ _ _ _ (by omega)).trans a3⟩,
    cell_set_same _ _ _ _ _ h.c53,
    (cell_set_ne _ _ _ _ _ (by omega)).trans h.c54,
    (cell_set_ne _ _ _ _ _ (by omega)).trans h.c55,
    (cell_set_ne _ _ _ _ _ (by omega)).trans h.c56⟩
theorem MBlk.setSteps (h : MBlk w p pv vv ov sv cv L at_ steps done fault) (v : Int) : MBlk (w.setCell ⟨p, 54, none⟩ (.int .i64 v)) p pv vv ov sv cv L at_ v done fault :=
  ⟨by rw [size_set]; exact h.low, fun o => by rw [frozen_set]; exact h.free o, (cell_set_ne _ _ _ _ _ (by omega)).trans h.c0,
    (cell_set_ne _ _ _ _ _ (by omega)).trans h.c1,
    (cell_set_ne _ _ _ _ _ (by omega)).trans h.c2,
    (cell_set_ne _ _ _ _ _ (by omega)).trans h.c3,
    (cell_set_ne _ _ _ _ _ (by omega)).trans h.c4,
    h.len,
    fun i x hx => by
    have hi : i < 16 := by have := (List.getElem?_eq_some_iff.1 hx).1; have := h.len; omega
    obtain ⟨a1, a2, a3⟩ := h.loc i x hx
    exact ⟨(cell_set_ne _ _ _ _ _ (by omega)).trans a1, (cell_set_ne _ _ _ _ _ (by omega)).trans a2, (cell_set_ne _ _ _ _ _ (by omega)).trans a3⟩,
    (cell_set_ne _ _ _ _ _ (by omega)).trans h.c53,
    cell_set_same _ _ _ _ _ h.c54,
    (cell_set_ne _ _ _ _ _ (by omega)).trans h.c55,
    (cell_set_ne _ _ _ _ _ (by omega)).trans h.c56⟩
theorem MBlk.setDone (h : MBlk w p pv vv ov sv cv L at_ steps done fault) (v : Bool) : MBlk (w.setCell ⟨p, 55, none⟩ (.bool v)) p pv vv ov sv cv L at_ steps v fault :=
  ⟨by rw [size_set]; exact h.low, fun o => by rw [frozen_set]; exact h.free o, (cell_set_ne _ _ _ _ _ (by omega)).trans h.c0,
    (cell_set_ne _ _ _ _ _ (by omega)).trans h.c1,
    (cell_set_ne _ _ _ _ _ (by omega)).trans h.c2,
    (cell_set_ne _ _ _ _ _ (by omega)).trans h.c3,
    (cell_set_ne _ _ _ _ _ (by omega)).trans h.c4,
    h.len,
    fun i x hx => by
    have hi : i < 16 := by have := (List.getElem?_eq_some_iff.1 hx).1; have := h.len; omega
    obtain ⟨a1, a2, a3⟩ := h.loc i x hx
    exact ⟨(cell_set_ne _ _ _ _ _ (by omega)).trans a1, (cell_set_ne _ _ _ _ _ (by omega)).trans a2, (cell_set_ne _ _ _ _ _ (by omega)).trans a3⟩,
    (cell_set_ne _ _ _ _ _ (by omega)).trans h.c53,
    (cell_set_ne _ _ _ _ _ (by omega)).trans h.c54,
    cell_set_same _ _ _ _ _ h.c55,
    (cell_set_ne _ _ _ _ _ (by omega)).trans h.c56⟩
theorem MBlk.setFault (h : MBlk w p pv vv ov sv cv L at_ steps done fault) (v : Int) : MBlk (w.setCell ⟨p, 56, none⟩ (.int .i64 v)) p pv vv ov sv cv L at_ steps done v :=
  ⟨by rw [size_set]; exact h.low, fun o => by rw [frozen_set]; exact h.free o, (cell_set_ne _ _ _ _ _ (by omega)).trans h.c0,
    (cell_set_ne _ _ _ _ _ (by omega)).trans h.c1,
    (cell_set_ne _ _ _ _ _ (by omega)).trans h.c2,
    (cell_set_ne _ _ _ _ _ (by omega)).trans h.c3,
    (cell_set_ne _ _ _ _ _ (by omega)).trans h.c4,
    h.len,
    fun i x hx => by
    have hi : i < 16 := by have := (List.getElem?_eq_some_iff.1 hx).1; have := h.len; omega
    obtain ⟨a1, a2, a3⟩ := h.loc i x hx
    exact ⟨(cell_set_ne _ _ _ _ _ (by omega)).trans a1, (cell_set_ne _ _ _ _ _ (by omega)).trans a2, (cell_set_ne _ _ _ _ _ (by omega)).trans a3⟩,
    (cell_set_ne _ _ _ _ _ (by omega)).trans h.c53,
    (cell_set_ne _ _ _ _ _ (by omega)).trans h.c54,
    (cell_set_ne _ _ _ _ _ (by omega)).trans h.c55,
    cell_set_same _ _ _ _ _ h.c56⟩

theorem MBlk.setLocal (h : MBlk w p pv vv ov sv cv L at_ steps done fault) (k : Nat) (hk : k < 16) (v : Val) :
    MBlk (((w.setCell ⟨p, 5 + k * 3, none⟩ (.bool v.text)).setCell ⟨p, 5 + k * 3 + 1, none⟩ (.int .i64 v.n)).setCell ⟨p, 5 + k * 3 + 2, none⟩ (.string v.s)) p pv vv ov sv cv (L.set k v) at_ steps done fault := by
  have hl := h.len
  have cne : ∀ o, o ≠ 5 + k * 3 → o ≠ 5 + k * 3 + 1 → o ≠ 5 + k * 3 + 2 →
      (((w.setCell ⟨p, 5 + k * 3, none⟩ (.bool v.text)).setCell ⟨p, 5 + k * 3 + 1, none⟩ (.int .i64 v.n)).setCell ⟨p, 5 + k * 3 + 2, none⟩ (.string v.s)).cell? ⟨p, o, none⟩ = w.cell? ⟨p, o, none⟩ := fun o h1 h2 h3 => by
    rw [cell_set_ne _ _ _ _ _ h3, cell_set_ne _ _ _ _ _ h2, cell_set_ne _ _ _ _ _ h1]
  refine ⟨by simp only [size_set]; exact h.low, fun o => by simp only [frozen_set]; exact h.free o, (cne _ (by omega) (by omega) (by omega)).trans h.c0, (cne _ (by omega) (by omega) (by omega)).trans h.c1,
    (cne _ (by omega) (by omega) (by omega)).trans h.c2, (cne _ (by omega) (by omega) (by omega)).trans h.c3, (cne _ (by omega) (by omega) (by omega)).trans h.c4, by simpa using hl, ?_,
    (cne _ (by omega) (by omega) (by omega)).trans h.c53, (cne _ (by omega) (by omega) (by omega)).trans h.c54, (cne _ (by omega) (by omega) (by omega)).trans h.c55, (cne _ (by omega) (by omega) (by omega)).trans h.c56⟩
  intro i x hx
  by_cases e : i = k
  · subst e
    have hx' : x = v := by
      rw [List.getElem?_set_self (by omega)] at hx
      exact (Option.some.inj hx).symm
    subst hx'
    obtain ⟨a1, a2, a3⟩ := h.loc i L[i] (List.getElem?_eq_getElem (by omega))
    refine ⟨?_, ?_, ?_⟩
    · rw [cell_set_ne _ _ _ _ _ (by omega), cell_set_ne _ _ _ _ _ (by omega)]; exact cell_set_same _ _ _ _ _ a1
    · rw [cell_set_ne _ _ _ _ _ (by omega)]; exact cell_set_same _ _ _ _ _ ((cell_set_ne _ _ _ _ _ (by omega)).trans a2)
    · exact cell_set_same _ _ _ _ _ (((cell_set_ne _ _ _ _ _ (by omega)).trans (cell_set_ne _ _ _ _ _ (by omega))).trans a3)
  · rw [List.getElem?_set_ne (by omega)] at hx
    have hi : i < 16 := by have := (List.getElem?_eq_some_iff.1 hx).1; omega
    obtain ⟨a1, a2, a3⟩ := h.loc i x hx
    exact ⟨(cne _ (by omega) (by omega) (by omega)).trans a1, (cne _ (by omega) (by omega) (by omega)).trans a2, (cne _ (by omega) (by omega) (by omega)).trans a3⟩
end

/-- Where a machine's own writing may go: its block, its stack's, its places' to come back to. -/
def Foot (p : Nat) (sb cb : Option Nat) (k : Nat) : Prop := k = p ∨ sb = some k ∨ cb = some k

/-- A machine lies in block p; its stack and its places to come back to in blocks of their own; what it reads lies in none of these. -/
structure Mach (w : World) (p : Nat) (prog : List Ins) (view : List File) (c : Cfg) (steps : Int) (done : Bool) (fault : Int) (sb cb : Option Nat) : Prop where
  ex : ∃ (pa va oa sa ca : Option Addr) (pc vc oc sc cc : Nat),
    MBlk w p (.slice pa prog.length pc) (.slice va view.length vc) (.slice oa c.out.length oc) (.slice sa c.stack.length sc) (.slice ca c.calls.length cc) c.cells c.at_ steps done fault ∧
    Arr TIns w pa prog.length pc prog ∧ Arr TFile w va view.length vc view ∧ Arr TFile w oa c.out.length oc c.out ∧
    w.ownsRow 0 75 3 (.slice sa c.stack.length sc) c.stack.length (c.stack.flatMap TVal.enc) ∧
    w.ownsRow 0 3 1 (.slice ca c.calls.length cc) c.calls.length (c.calls.flatMap TInt.enc) ∧
    Value.ownBlock (.slice sa c.stack.length sc) = sb ∧ Value.ownBlock (.slice ca c.calls.length cc) = cb ∧
    (∀ b o, pa = some ⟨b, o, none⟩ → prog ≠ [] → ¬ Foot p sb cb b) ∧ (∀ b o, va = some ⟨b, o, none⟩ → view ≠ [] → ¬ Foot p sb cb b) ∧ (∀ b o, oa = some ⟨b, o, none⟩ → c.out ≠ [] → ¬ Foot p sb cb b)
  sp : sb ≠ some p
  cp : cb ≠ some p
  sc : ∀ k, sb = some k → cb ≠ some k

theorem ownsRow_keep {w w' : World} {base : Nat} {e : TypeId} {size : Nat} {v : Value} {n : Nat} {xs : List Value} (h : w.ownsRow base e size v n xs)
    (hk : ∀ b, v.ownBlock = some b → b < w.heap.size → w'.heap[b]? = w.heap[b]?) : w'.ownsRow base e size v n xs := by
  obtain ⟨h1, h2⟩ := h
  refine ⟨h1, ?_⟩
  rcases h2 with h2 | ⟨g, cap, cur, hv, hg, hh, r⟩
  · exact Or.inl h2
  · refine Or.inr ⟨g, cap, cur, hv, hg, ?_, r⟩
    rw [hk g (by rw [hv]; rfl) (Array.getElem?_eq_some_iff.1 hh).1]; exact hh

/-- It stays where nothing of its own is turned. -/
theorem Mach.keep {w w' : World} {p : Nat} {prog : List Ins} {view : List File} {c : Cfg} {steps : Int} {done : Bool} {fault : Int} {sb cb : Option Nat}
    (h : Mach w p prog view c steps done fault sb cb) (e : Ext w w') : Mach w' p prog view c steps done fault sb cb := by
  obtain ⟨⟨pa, va, oa, sa, ca, pc, vc, oc, sc, cc, hm, h1, h2, h3, h4, h5, h6⟩, hsp, hcp, hsc⟩ := h
  exact ⟨⟨pa, va, oa, sa, ca, pc, vc, oc, sc, cc, hm.ext e, h1.below e, h2.below e, h3.below e, ownsRow_keep h4 fun b _ hb => e.block b hb, ownsRow_keep h5 fun b _ hb => e.block b hb, h6⟩, hsp, hcp, hsc⟩

theorem Arr.fr {α : Type} {T : Ty α} {D : Nat → Prop} {w w' : World} {a : Option Addr} {n c : Nat} {xs : List α} (h : Arr T w a n c xs) (hF : Fr D w w')
    (hn : ∀ b o, a = some ⟨b, o, none⟩ → xs ≠ [] → ¬ D b) : Arr T w' a n c xs := h.keep fun b o ha hx hlt => hF.block b hlt (hn b o ha hx)

/-- A machine in the next world, out of its parts. -/
theorem Mach.put {w w' : World} {p : Nat} {prog : List Ins} {view : List File} {c' : Cfg} {steps' : Int} {done' : Bool} {fault' : Int} {sb cb sb' cb' : Option Nat} {pa va oa' sa' ca' : Option Addr} {pc vc oc' sc' cc' : Nat}
    (hF : Fr (Foot p sb cb) w w') (hsub : ∀ k, k < w.heap.size → Foot p sb' cb' k → Foot p sb cb k)
    (h1 : Arr TIns w pa prog.length pc prog) (h2 : Arr TFile w va view.length vc view)
    (n1 : ∀ b o, pa = some ⟨b, o, none⟩ → prog ≠ [] → ¬ Foot p sb cb b) (n2 : ∀ b o, va = some ⟨b, o, none⟩ → view ≠ [] → ¬ Foot p sb cb b)
    (hm : MBlk w' p (.slice pa prog.length pc) (.slice va view.length vc) (.slice oa' c'.out.length oc') (.slice sa' c'.stack.length sc') (.slice ca' c'.calls.length cc') c'.cells c'.at_ steps' done' fault')
    (h3 : Arr TFile w' oa' c'.out.length oc' c'.out) (n3 : ∀ b o, oa' = some ⟨b, o, none⟩ → c'.out ≠ [] → ¬ Foot p sb' cb' b)
    (h4 : w'.ownsRow 0 75 3 (.slice sa' c'.stack.length sc') c'.stack.length (c'.stack.flatMap TVal.enc))
    (h5 : w'.ownsRow 0 3 1 (.slice ca' c'.calls.length cc') c'.calls.length (c'.calls.flatMap TInt.enc))
    (e4 : Value.ownBlock (.slice sa' c'.stack.length sc') = sb') (e5 : Value.ownBlock (.slice ca' c'.calls.length cc') = cb')
    (sp : sb' ≠ some p) (cp : cb' ≠ some p) (sc : ∀ k, sb' = some k → cb' ≠ some k) : Mach w' p prog view c' steps' done' fault' sb' cb' :=
  ⟨⟨pa, va, oa', sa', ca', pc, vc, oc', sc', cc', hm, h1.fr hF n1, h2.fr hF n2, h3, h4, h5, e4, e5,
    fun b o ha hx hf => n1 b o ha hx (hsub b (h1.lt ha hx) hf), fun b o ha hx hf => n2 b o ha hx (hsub b (h2.lt ha hx) hf), n3⟩, sp, cp, sc⟩
end Go.Proofs.YtndpgdegcbaigaaGreatDoor

namespace Go.Proofs.YtndpgdegcbaigaaGreatDoor
open Go Go.RowKit

theorem Ext.alloc' {a b : World} (h : Ext a b) (o : Obj) : Ext a (b.alloc o) := h.trans (Ext.alloc b o)
theorem Ext.drew' {a b : World} (h : Ext a b) : Ext a b.drew := h.trans (Ext.drew b)

/-- What a machine's method does to it, where it comes back. -/
def Does (w : World) (p : Nat) (prog : List Ins) (view : List File) (c : Cfg) (steps : Int) (done : Bool) (fault : Int) (sb cb : Option Nat) (w' : World) : Prop :=
  ∃ sb' cb', Mach w' p prog view c steps done fault sb' cb' ∧ Fr (Foot p sb cb) w w' ∧ (∀ k, k < w.heap.size → Foot p sb' cb' k → Foot p sb cb k)

section
variable {p : Nat} {prog : List Ins} {view : List File} {c : Cfg} {steps : Int} {done : Bool} {fault : Int} {sb cb : Option Nat} {w w1 W : World}

theorem Does.same (h : Mach w p prog view c steps done fault sb cb) (e : Ext w W) : Does w p prog view c steps done fault sb cb W :=
  ⟨sb, cb, h.keep e, Fr.of_ext e, fun _ _ h => h⟩

theorem Does.ext {W' : World} (h : Does w p prog view c steps done fault sb cb W) (e : Ext W W') : Does w p prog view c steps done fault sb cb W' := by
  obtain ⟨sb', cb', hM, hF, hs⟩ := h
  exact ⟨sb', cb', hM.keep e, hF.ext e, hs⟩

theorem Does.after {w0 : World} (e : Ext w0 w) (h : Does w p prog view c steps done fault sb cb W) : Does w0 p prog view c steps done fault sb cb W := by
  obtain ⟨sb', cb', hM, hF, hs⟩ := h
  exact ⟨sb', cb', hM, Fr.after e hF, fun k hk hf => hs k (Nat.lt_of_lt_of_le hk e.size) hf⟩

theorem Does.trans {sb' cb' : Option Nat} {c1 : Cfg} {s1 : Int} {d1 : Bool} {f1 : Int} (hF : Fr (Foot p sb cb) w w1) (hs : ∀ k, k < w.heap.size → Foot p sb' cb' k → Foot p sb cb k)
    (h : Does w1 p prog view c1 s1 d1 f1 sb' cb' W) : Does w p prog view c1 s1 d1 f1 sb cb W := by
  obtain ⟨sb2, cb2, hM, hF2, hs2⟩ := h
  exact ⟨sb2, cb2, hM, hF.trans hF2 hs, fun k hk hf => hs k hk (hs2 k (Nat.lt_of_lt_of_le hk hF.size) hf)⟩

theorem Mach.low (h : Mach w p prog view c steps done fault sb cb) : p < w.heap.size := by
  obtain ⟨⟨pa, va, oa, sa, ca, pc, vc, oc, sc, cc, hm, -⟩, -⟩ := h; exact hm.low

theorem ownBlock_lt {w : World} {base : Nat} {e : TypeId} {size : Nat} {v : Value} {n : Nat} {xs : List Value} (h : w.ownsRow base e size v n xs) {k : Nat} (hk : v.ownBlock = some k) : k < w.heap.size := (h.lt k hk).2

theorem Mach.sb_lt (h : Mach w p prog view c steps done fault sb cb) {k : Nat} (hk : sb = some k) : k < w.heap.size := by
  obtain ⟨⟨pa, va, oa, sa, ca, pc, vc, oc, sc, cc, hm, h1, h2, h3, h4, h5, e4, e5, -⟩, -⟩ := h
  exact ownBlock_lt h4 (e4.trans hk)
theorem Mach.cb_lt (h : Mach w p prog view c steps done fault sb cb) {k : Nat} (hk : cb = some k) : k < w.heap.size := by
  obtain ⟨⟨pa, va, oa, sa, ca, pc, vc, oc, sc, cc, hm, h1, h2, h3, h4, h5, e4, e5, -⟩, -⟩ := h
  exact ownBlock_lt h5 (e5.trans hk)

/-- A new stack. -/
theorem Mach.stacked (h : Mach w p prog view c steps done fault sb cb) {st : List Val} {a : Option Addr} {cap : Nat}
    (hF : Fr (fun k => sb = some k) w w1) (h4 : w1.ownsRow 0 75 3 (.slice a st.length cap) st.length (st.flatMap TVal.enc))
    (hb : ∀ k, Value.ownBlock (.slice a st.length cap) = some k → sb = some k ∨ w.heap.size ≤ k)
    (e : Ext (w1.setCell ⟨p, 3, none⟩ (.slice a st.length cap)) W) : Does w p prog view { c with stack := st } steps done fault sb cb W := by
  have hlow := h.low
  have hcb : ∀ k, cb = some k → k < w.heap.size := fun k hk => h.cb_lt hk
  obtain ⟨⟨pa, va, oa, sa, ca, pc, vc, oc, sc, cc, hm, h1, h2, h3, h4o, h5, e4, e5, n1, n2, n3⟩, sp, cp, scd⟩ := h
  have hF2 : Fr (Foot p sb cb) w (w1.setCell ⟨p, 3, none⟩ (.slice a st.length cap)) :=
    (hF.mono (fun k _ hk => Or.inr (Or.inl hk))).trans (Fr.setCell (fun k => k = p) w1 _ _ rfl) (fun k _ hk => Or.inl hk)
  have hF3 : Fr (Foot p sb cb) w W := hF2.ext e
  have hpk : ∀ k, k ≠ p → k < w1.heap.size → W.heap[k]? = w1.heap[k]? := fun k hk hlt =>
    (e.block k (by rw [size_set]; exact hlt)).trans (Below.heap_setCell _ _ _ _ hk)
  have hsub : ∀ k, k < w.heap.size → Foot p (Value.ownBlock (.slice a st.length cap)) cb k → Foot p sb cb k := fun k hk hf => by
    rcases hf with hf | hf | hf
    · exact Or.inl hf
    · rcases hb k hf with h' | h'
      · exact Or.inr (Or.inl h')
      · omega
    · exact Or.inr (Or.inr hf)
  have hm1 : MBlk w1 p (.slice pa prog.length pc) (.slice va view.length vc) (.slice oa c.out.length oc) (.slice sa c.stack.length sc) (.slice ca c.calls.length cc) c.cells c.at_ steps done fault :=
    hm.keep hF.size (hF.block p hlow (fun hk => sp hk))
  refine ⟨Value.ownBlock (.slice a st.length cap), cb, ?_, hF3, hsub⟩
  refine Mach.put (pa := pa) (va := va) (oa' := oa) (sa' := a) (ca' := ca) (pc := pc) (vc := vc) (oc' := oc) (sc' := cap) (cc' := cc) hF3 hsub h1 h2 n1 n2 ((hm1.setStack _).ext e) (h3.fr hF3 n3) ?_ ?_ ?_ rfl e5 ?_ cp ?_
  · exact fun b o ha hx hf => n3 b o ha hx (hsub b (h3.lt ha hx) hf)
  · refine ownsRow_keep h4 fun b hb' hlt => hpk b ?_ hlt
    rintro rfl
    rcases hb b hb' with h' | h'
    · exact sp h'
    · omega
  · refine ownsRow_keep h5 fun b hb' hlt => ?_
    have hcb' : cb = some b := e5 ▸ hb'
    refine (hpk b (by rintro rfl; exact cp hcb') (Nat.lt_of_lt_of_le hlt hF.size)).trans (hF.block b hlt fun hk => scd b hk hcb')
  · intro hk
    rcases hb p hk with h' | h'
    · exact sp h'
    · omega
  · intro k hk hc
    rcases hb k hk with h' | h'
    · exact scd k h' hc
    · have := hcb k hc; omega

/-- New places to come back to. -/
theorem Mach.called (h : Mach w p prog view c steps done fault sb cb) {st : List Int} {a : Option Addr} {cap : Nat}
    (hF : Fr (fun k => cb = some k) w w1) (h5 : w1.ownsRow 0 3 1 (.slice a st.length cap) st.length (st.flatMap TInt.enc))
    (hb : ∀ k, Value.ownBlock (.slice a st.length cap) = some k → cb = some k ∨ w.heap.size ≤ k)
    (e : Ext (w1.setCell ⟨p, 4, none⟩ (.slice a st.length cap)) W) : Does w p prog view { c with calls := st } steps done fault sb cb W := by
  have hlow := h.low
  have hsb : ∀ k, sb = some k → k < w.heap.size := fun k hk => h.sb_lt hk
  obtain ⟨⟨pa, va, oa, sa, ca, pc, vc, oc, sc, cc, hm, h1, h2, h3, h4, h5o, e4, e5, n1, n2, n3⟩, sp, cp, scd⟩ := h
  have hF2 : Fr (Foot p sb cb) w (w1.setCell ⟨p, 4, none⟩ (.slice a st.length cap)) :=
    (hF.mono (fun k _ hk => Or.inr (Or.inr hk))).trans (Fr.setCell (fun k => k = p) w1 _ _ rfl) (fun k _ hk => Or.inl hk)
  have hF3 : Fr (Foot p sb cb) w W := hF2.ext e
  have hpk : ∀ k, k ≠ p → k < w1.heap.size → W.heap[k]? = w1.heap[k]? := fun k hk hlt =>
    (e.block k (by rw [size_set]; exact hlt)).trans (Below.heap_setCell _ _ _ _ hk)
  have hsub : ∀ k, k < w.heap.size → Foot p sb (Value.ownBlock (.slice a st.length cap)) k → Foot p sb cb k := fun k hk hf => by
    rcases hf with hf | hf | hf
    · exact Or.inl hf
    · exact Or.inr (Or.inl hf)
    · rcases hb k hf with h' | h'
      · exact Or.inr (Or.inr h')
      · omega
  have hm1 : MBlk w1 p (.slice pa prog.length pc) (.slice va view.length vc) (.slice oa c.out.length oc) (.slice sa c.stack.length sc) (.slice ca c.calls.length cc) c.cells c.at_ steps done fault :=
    hm.keep hF.size (hF.block p hlow (fun hk => cp hk))
  refine ⟨sb, Value.ownBlock (.slice a st.length cap), ?_, hF3, hsub⟩
  refine Mach.put (pa := pa) (va := va) (oa' := oa) (sa' := sa) (ca' := a) (pc := pc) (vc := vc) (oc' := oc) (sc' := sc) (cc' := cap) hF3 hsub h1 h2 n1 n2 ((hm1.setCalls _).ext e) (h3.fr hF3 n3) ?_ ?_ ?_ e4 rfl sp ?_ ?_
  · exact fun b o ha hx hf => n3 b o ha hx (hsub b (h3.lt ha hx) hf)
  · refine ownsRow_keep h4 fun b hb' hlt => ?_
    have hsb' : sb = some b := e4 ▸ hb'
    refine (hpk b (by rintro rfl; exact sp hsb') (Nat.lt_of_lt_of_le hlt hF.size)).trans (hF.block b hlt fun hk => scd b hsb' hk)
  · refine ownsRow_keep h5 fun b hb' hlt => hpk b ?_ hlt
    rintro rfl
    rcases hb b hb' with h' | h'
    · exact cp h'
    · omega
  · intro hk
    rcases hb p hk with h' | h'
    · exact cp h'
    · omega
  · intro k hk hc
    rcases hb k hc with h' | h'
    · exact scd k hk h'
    · have := hsb k hk; omega

/-- New cells of the block, and nothing else. -/
theorem Mach.celled (h : Mach w p prog view c steps done fault sb cb) {cells' : List Val} {at' steps' : Int} {done' : Bool} {fault' : Int}
    (hF : Fr (fun k => k = p) w W)
    (hm' : ∀ pv vv ov sv cv, MBlk w p pv vv ov sv cv c.cells c.at_ steps done fault → MBlk W p pv vv ov sv cv cells' at' steps' done' fault') :
    Does w p prog view { c with cells := cells', at_ := at' } steps' done' fault' sb cb W := by
  obtain ⟨⟨pa, va, oa, sa, ca, pc, vc, oc, sc, cc, hm, h1, h2, h3, h4, h5, e4, e5, n1, n2, n3⟩, sp, cp, scd⟩ := h
  have hF3 : Fr (Foot p sb cb) w W := hF.mono fun k _ hk => Or.inl hk
  refine ⟨sb, cb, ?_, hF3, fun _ _ h => h⟩
  refine Mach.put (pa := pa) (va := va) (oa' := oa) (sa' := sa) (ca' := ca) (pc := pc) (vc := vc) (oc' := oc) (sc' := sc) (cc' := cc) hF3 (fun _ _ h => h) h1 h2 n1 n2 (hm' _ _ _ _ _ hm) (h3.fr hF3 n3) n3 ?_ ?_ e4 e5 sp cp scd
  · exact ownsRow_keep h4 fun b hb' hlt => hF.block b hlt (by rintro rfl; exact sp (e4 ▸ hb'))
  · exact ownsRow_keep h5 fun b hb' hlt => hF.block b hlt (by rintro rfl; exact cp (e5 ▸ hb'))

/-- A new tree that is written, in memory that none of the machine's own blocks is. -/
theorem Mach.written (h : Mach w p prog view c steps done fault sb cb) {out' : List File} {a : Option Addr} {cap : Nat}
    (e0 : Ext w w1) (ho : Arr TFile w1 a out'.length cap out') (hn : ∀ b o, a = some ⟨b, o, none⟩ → out' ≠ [] → w.heap.size ≤ b)
    (e : Ext (w1.setCell ⟨p, 2, none⟩ (.slice a out'.length cap)) W) : Does w p prog view { c with out := out' } steps done fault sb cb W := by
  have hlow := h.low
  have hsb : ∀ k, sb = some k → k < w.heap.size := fun k hk => h.sb_lt hk
  have hcb : ∀ k, cb = some k → k < w.heap.size := fun k hk => h.cb_lt hk
  obtain ⟨⟨pa, va, oa, sa, ca, pc, vc, oc, sc, cc, hm, h1, h2, h3, h4, h5, e4, e5, n1, n2, n3⟩, sp, cp, scd⟩ := h
  have hFp : Fr (fun k => k = p) w W := Fr.after e0 ((Fr.setCell (fun k => k = p) w1 _ _ rfl).ext e)
  have hF3 : Fr (Foot p sb cb) w W := hFp.mono fun k _ hk => Or.inl hk
  have hnf : ∀ b o, a = some ⟨b, o, none⟩ → out' ≠ [] → ¬ Foot p sb cb b := fun b o ha hx hf => by
    have := hn b o ha hx
    rcases hf with hf | hf | hf
    · omega
    · have := hsb b hf; omega
    · have := hcb b hf; omega
  refine ⟨sb, cb, ?_, hF3, fun _ _ h => h⟩
  refine Mach.put (pa := pa) (va := va) (oa' := a) (sa' := sa) (ca' := ca) (pc := pc) (vc := vc) (oc' := cap) (sc' := sc) (cc' := cc) hF3 (fun _ _ h => h) h1 h2 n1 n2 (((hm.ext e0).setOut _).ext e) ?_ hnf ?_ ?_ e4 e5 sp cp scd
  · exact (ho.fr (Fr.setCell (fun k => k = p) w1 _ _ rfl) (fun b o ha hx hf => hnf b o ha hx (Or.inl hf))).below e
  · exact ownsRow_keep h4 fun b hb' hlt => hFp.block b hlt (by rintro rfl; exact sp (e4 ▸ hb'))
  · exact ownsRow_keep h5 fun b hb' hlt => hFp.block b hlt (by rintro rfl; exact cp (e5 ▸ hb'))
end
end Go.Proofs.YtndpgdegcbaigaaGreatDoor

namespace Go.Proofs.YtndpgdegcbaigaaGreatDoor
open Go Go.RowKit

/-- A panic by this error. -/
abbrev stopped (e : Int) : Ending := .panicked [{ v := .iface 96 (.agg #[.int .i64 e]), recovered := false }]
abbrev unit : Ending := .returned (.tuple #[])

theorem unless_ok (e : Int) (w : World) : Calls Tryz.prog 88 #[.bool true, .int .i64 e] w fun r w' => r = unit ∧ w = w' := by
  go_enter Tryz.func88, Tryz.ntmps88
  go_wp2
  go_end0
  exact ⟨rfl, rfl⟩
theorem unless_no (e : Int) (w : World) : Calls Tryz.prog 88 #[.bool false, .int .i64 e] w fun r w' => r = stopped e ∧ w = w' := by
  go_enter Tryz.func88, Tryz.ntmps88
  go_wp2
  exact ⟨rfl, rfl, rfl⟩
theorem unless_calls (b : Bool) (e : Int) (w : World) : Calls Tryz.prog 88 #[.bool b, .int .i64 e] w fun r w' => (if b then r = unit else r = stopped e) ∧ w = w' := by
  cases b
  · exact unless_no e w
  · exact unless_ok e w

abbrev bVal (v : Val) : Obj := .cells #[.bool v.text, .int .i64 v.n, .string v.s] 75

theorem num_calls (n : Int) (w : World) : Calls Tryz.prog 91 #[.int .i64 n] w fun r w' => r = .returned (vVal (vNum n)) ∧ w.alloc (bVal (vNum n)) = w' := by
  go_enter Tryz.func91, Tryz.ntmps91
  go_wp2
  exact bodyPost_ret (v := vVal (vNum n)) (by simp [results, Tryz.results91, go_sem]) rfl ⟨rfl, rfl⟩
theorem text_calls (s : ByteArray) (w : World) : Calls Tryz.prog 90 #[.string s] w fun r w' => r = .returned (vVal (vText s)) ∧ w.alloc (bVal (vText s)) = w' := by
  go_enter Tryz.func90, Tryz.ntmps90
  go_wp2
  exact bodyPost_ret (v := vVal (vText s)) (by simp [results, Tryz.results90, go_sem]) rfl ⟨rfl, rfl⟩
theorem truth_calls (b : Bool) (w : World) : Calls Tryz.prog 92 #[.bool b] w fun r w' => r = .returned (vVal (vTruth b)) ∧ (w.alloc (bVal (vTruth b))).alloc (bVal (vTruth b)) = w' := by
  cases b
  all_goals
    go_enter Tryz.func92, Tryz.ntmps92
    go_wp2_with (go_at_call 91; refine (num_calls _ _).mono ?_; rintro e w' ⟨rfl, rfl⟩)
  · exact bodyPost_ret (v := vVal (vTruth false)) (by simp [results, Tryz.results92, go_sem]) rfl ⟨rfl, rfl⟩
  · exact bodyPost_ret (v := vVal (vTruth true)) (by simp [results, Tryz.results92, go_sem]) rfl ⟨rfl, rfl⟩

section
variable {p : Nat} {prog : List Ins} {view : List File} {c : Cfg} {steps : Int} {done : Bool} {fault : Int} {sb cb : Option Nat} {w : World}

theorem need_ok (k : Nat) (h : Mach w p prog view c steps done fault sb cb) (hk : k ≤ c.stack.length) :
    Calls Tryz.prog 95 #[.pointer (some ⟨p, 0, none⟩), .int .i64 k] w fun r w' => r = unit ∧ w = w' := by
  obtain ⟨⟨pa, va, oa, sa, ca, pc, vc, oc, sc, cc, hm, -⟩, -⟩ := h
  have c3 := hm.c3
  go_enter Tryz.func95, Tryz.ntmps95
  go_wp2_with (go_at_call 88; refine (unless_ok _ _).mono ?_; rintro e w' ⟨rfl, rfl⟩)
  go_end0
  exact ⟨rfl, rfl⟩

theorem need_no (k : Nat) (h : Mach w p prog view c steps done fault sb cb) (hk : ¬ k ≤ c.stack.length) :
    Calls Tryz.prog 95 #[.pointer (some ⟨p, 0, none⟩), .int .i64 k] w fun r w' => r = stopped 40 ∧ w = w' := by
  obtain ⟨⟨pa, va, oa, sa, ca, pc, vc, oc, sc, cc, hm, -⟩, -⟩ := h
  have c3 := hm.c3
  go_enter Tryz.func95, Tryz.ntmps95
  go_wp2_with (go_at_call 88; refine (unless_no _ _).mono ?_; rintro e w' ⟨rfl, rfl⟩)
  exact ⟨rfl, rfl, rfl⟩
end
end Go.Proofs.YtndpgdegcbaigaaGreatDoor

namespace Go.Proofs.YtndpgdegcbaigaaGreatDoor
open Go Go.RowKit

theorem new_block (W : World) (o : Obj) (k : Nat) (hk : k = W.heap.size) : (W.alloc o).drew.heap[k]? = some o := by subst hk; exact heap_alloc_new W o
theorem far_cell {w W w1 : World} {row : Option Nat} (hg : W.grownBy w1 row) (e : Ext w W) {p o : Nat} {v : Value} (hp : p < w.heap.size) (hne : some p ≠ row) (hc : w.cell? ⟨p, o, none⟩ = some v) : w1.cell? ⟨p, o, none⟩ = some v :=
  (hg.cell_far ⟨p, o, none⟩ (Nat.lt_of_lt_of_le hp e.size) hne).trans ((e.cell (p := ⟨p, o, none⟩) hp).trans hc)
theorem far_free {w W w1 : World} {row : Option Nat} (hg : W.grownBy w1 row) (e : Ext w W) {p : Nat} (hp : p < w.heap.size) (hne : some p ≠ row) (hz : ∀ o, w.frozen? ⟨p, o, none⟩ = false) : ∀ o, w1.frozen? ⟨p, o, none⟩ = false := fun o =>
  (hg.frozen_far ⟨p, o, none⟩ (Nat.lt_of_lt_of_le hp e.size) hne).trans ((e.frozen (p := ⟨p, o, none⟩) hp).trans (hz o))

theorem ownsRow_ext {w w' : World} {base : Nat} {e : TypeId} {size : Nat} {v : Value} {n : Nat} {xs : List Value} (h : w.ownsRow base e size v n xs) (e' : Ext w w') : w'.ownsRow base e size v n xs :=
  ownsRow_keep h fun b _ hb => e'.block b hb

section
variable {p : Nat} {prog : List Ins} {view : List File} {c : Cfg} {steps : Int} {done : Bool} {fault : Int} {sb cb : Option Nat} {w : World}

/-- What a walk wants to know of a machine's stack. -/
theorem Mach.stackOf (h : Mach w p prog view c steps done fault sb cb) : ∃ (sa : Option Addr) (sc : Nat),
    w.cell? ⟨p, 3, none⟩ = some (.slice sa c.stack.length sc) ∧ w.ownsRow 0 75 3 (.slice sa c.stack.length sc) c.stack.length (c.stack.flatMap TVal.enc) ∧
    Value.ownBlock (.slice sa c.stack.length sc) = sb ∧ p < w.heap.size ∧ (∀ o, w.frozen? ⟨p, o, none⟩ = false) := by
  obtain ⟨⟨pa, va, oa, sa, ca, pc, vc, oc, sc, cc, hm, h1, h2, h3, h4, h5, e4, e5, n1, n2, n3⟩, sp, cp, scd⟩ := h
  exact ⟨sa, sc, hm.c3, h4, e4, hm.low, hm.free⟩

set_option maxHeartbeats 1000000 in
theorem pop_calls (xs : List Val) (v : Val) (h : Mach w p prog view c steps done fault sb cb) (hs : c.stack = xs ++ [v]) (hbig : xs.length ≤ 64) :
    Calls Tryz.prog 96 #[.pointer (some ⟨p, 0, none⟩)] w fun r w' => r = .returned (vVal v) ∧ Does w p prog view { c with stack := xs } steps done fault sb cb w' := by
  obtain ⟨sa, sc, c3, h4, e4, hp, hz⟩ := h.stackOf
  have hlen : c.stack.length = xs.length + 1 := by rw [hs]; simp
  have hA : Arr TVal w sa c.stack.length sc c.stack := Arr.of_own rfl h4
  have hcap := hA.cap
  have hcb := hA.big
  obtain ⟨g, cap, hform, _, hglt⟩ := h4.form (by omega)
  simp only [Value.slice.injEq, true_and] at hform
  obtain ⟨rfl, rfl⟩ := hform
  obtain ⟨b, o, x, hbo, hx, q0, q1, q2⟩ := hA.val (i := xs.length) (by omega)
  cases hbo
  obtain rfl : x = v := by
    rw [hs] at hx; simpa using hx.symm
  rw [hlen] at c3 hcap h4 e4
  unfold maxLen at hcb
  have h4' : w.ownsRow 0 75 3 (.slice (some ⟨g, 0, none⟩) xs.length sc) xs.length (xs.flatMap TVal.enc) := by
    rw [hs, List.flatMap_append] at h4
    exact ownsRow_pop (flatMap_len TVal xs) h4
  have fin : Aside (∀ W, Ext (w.setCell ⟨p, 3, none⟩ (.slice (some ⟨g, 0, none⟩) xs.length sc)) W → Does w p prog view { c with stack := xs } steps done fault sb cb W) := fun W e =>
    h.stacked (Fr.refl _ _) h4' (fun k hk => Or.inl (e4 ▸ hk)) e
  clear hlen hs hx h4 h4' e4 hA h
  simp only [Nat.zero_add] at q0 q1 q2
  go_enter Tryz.func96, Tryz.ntmps96
  go_wp2
  go_region
  go_wp2
  go_region
  go_wp2
  exact bodyPost_ret (v := vVal x) (by simp [results, Tryz.results96, go_sem]) rfl ⟨rfl, fin.out _ ((((Ext.alloc _ _).alloc' _).drew').drew')⟩

theorem Tryz.infoVal : (Tryz.prog.info? 75).map (fun i => (i.zero, i.size, i.bytes)) = some (some (.agg #[.bool false, .int .i64 0, .string ⟨#[]⟩]), 3, 32) := by kernel_rfl

omit p prog view c steps done fault sb cb w in
/-- append of one value, at a step of a region. -/
theorem step_appendVal {ops : Array Oper} {o : Oper} {a : Act} {K : Act → World → Prop} {Q : Exit → Act → World → Prop} {E : Prop} {w W : World} (hgd : o.guard = none) (s x : Operand)
    (ho : o.op = .call { callee := .builtin .append, args := #[s, x], argTypes := #[61, 61] })
    (sv : Value) (n : Nat) (xs : List Value) (hs : a.eval s = sv) (hown : w.ownsRow 0 75 3 sv n xs) (eW : Ext w W) (B : Nat) (v : Val) (hx : a.eval x = .slice (some ⟨B, 0, none⟩) 1 1)
    (hB : W.heap[B]? = some (bVal v)) (hn : n ≤ 1048576)
    (h : ∀ g cap w1, w1.ownsRow 0 75 3 (.slice (some ⟨g, 0, none⟩) (n + 1) cap) (n + 1) (xs ++ TVal.enc v) → W.grownBy w1 sv.ownBlock → (sv.ownBlock = some g ∨ w.heap.size ≤ g) → g < w1.heap.size →
      K (a.put o.dst (.slice (some ⟨g, 0, none⟩) (n + 1) cap)) w1) :
    if Region.wanted o (yielded ops a.tmps) = true then Oper.wp Tryz.prog o a W K Q else E := by
  obtain ⟨i0, hi, hz0, hz1, hz2⟩ := info_parts Tryz.infoVal
  refine step_append_lies W hgd s x 61 ho 0 75 i0 _ 3 32 Tryz.underlying61 hi hz0 hz1 hz2 rfl (by decide) sv n xs hs (ownsRow_ext hown eW) ⟨B, 0, none⟩ 1 1 (TVal.enc v) hx rfl
    (World.news_of_block hB) (TVal.one v) (by decide) (by unfold maxLen; omega) (by omega) (Nat.zero_le _) _ rfl fun g cap w1 h1 h2 h3 h4 => h g cap w1 h1 h2 (h3.imp id fun e => ?_) h4
  have := eW.size
  omega

set_option maxHeartbeats 1000000 in
theorem push_ok (v : Val) (h : Mach w p prog view c steps done fault sb cb) (hs : c.stack.length < 64) :
    Calls Tryz.prog 89 #[.pointer (some ⟨p, 0, none⟩), vVal v] w fun r w' => r = unit ∧ Does w p prog view { c with stack := c.stack ++ [v] } steps done fault sb cb w' := by
  obtain ⟨sa, sc, c3, h4, e4, hp, hz⟩ := h.stackOf
  have hs' : (c.stack.length : Int) < 64 := by omega
  have hne : some p ≠ Value.ownBlock (.slice sa c.stack.length sc) := by rw [e4]; exact fun e => h.sp e.symm
  have eW : Ext w (((w.alloc (bVal v)).alloc (bVal v)).drew) := by ((repeat (first | exact Ext.refl _ | assumption | refine Ext.drew' ?_ | refine Ext.alloc' ?_ _ | (with_reducible refine Ext.trans ?_ (Ext.drewN _ _)) | refine Ext.trans ?_ (by assumption))); done)
  have fin : Aside (∀ (g cap : Nat) (w1 : World), w1.ownsRow 0 75 3 (.slice (some ⟨g, 0, none⟩) (c.stack.length + 1) cap) (c.stack.length + 1) (c.stack.flatMap TVal.enc ++ TVal.enc v) →
      (((w.alloc (bVal v)).alloc (bVal v)).drew).grownBy w1 (Value.ownBlock (.slice sa c.stack.length sc)) → (Value.ownBlock (.slice sa c.stack.length sc) = some g ∨ w.heap.size ≤ g) →
      Does w p prog view { c with stack := c.stack ++ [v] } steps done fault sb cb (w1.setCell ⟨p, 3, none⟩ (.slice (some ⟨g, 0, none⟩) (c.stack.length + 1) cap))) := by
    intro g cap w1 h1 h2 h3
    have hl : (c.stack ++ [v]).length = c.stack.length + 1 := by simp
    have := h.stacked (st := c.stack ++ [v]) (a := some ⟨g, 0, none⟩) (cap := cap) (w1 := w1) (W := w1.setCell ⟨p, 3, none⟩ (.slice (some ⟨g, 0, none⟩) (c.stack.length + 1) cap))
      (Fr.after eW (Fr.grown h2 fun k hk => by rw [← e4]; exact hk)) (by rw [hl, List.flatMap_append]; simpa using h1)
      (fun k hk => by
        simp only [Value.ownBlock, Option.some.injEq] at hk
        subst hk
        rw [← e4]; exact h3) (by rw [hl]; exact Ext.refl _)
    exact this
  go_enter Tryz.func89, Tryz.ntmps89
  go_wp2_with (go_at_call 88; refine (unless_ok _ _).mono ?_; rintro e w' ⟨rfl, rfl⟩)
  go_region_law (refine step_appendVal rfl _ _ rfl _ _ _ rfl h4 eW _ v rfl (new_block _ _ _ (World.size_alloc _ _).symm) (by omega) ?_; intro g cap w1 hown hgrow hat hlt; have z1 := far_cell hgrow eW hp hne c3; have z2 := far_free hgrow eW hp hne hz)
  all_goals
    go_wp2
    go_end0
    exact ⟨rfl, fin.out _ _ _ hown hgrow hat⟩

theorem push_no (v : Val) (h : Mach w p prog view c steps done fault sb cb) (hs : ¬ c.stack.length < 64) :
    Calls Tryz.prog 89 #[.pointer (some ⟨p, 0, none⟩), vVal v] w fun r w' => r = stopped 40 ∧ w.alloc (bVal v) = w' := by
  obtain ⟨sa, sc, c3, h4, e4, hp, hz⟩ := h.stackOf
  have hs' : ¬ (c.stack.length : Int) < 64 := by omega
  go_enter Tryz.func89, Tryz.ntmps89
  go_wp2_with (go_at_call 88; refine (unless_no _ _).mono ?_; rintro e w' ⟨rfl, rfl⟩)
  exact ⟨rfl, rfl, rfl⟩
end
end Go.Proofs.YtndpgdegcbaigaaGreatDoor
