/- Programs that go straight on: the laws' small programs and their common end. Plain Lean over the model. · VmReckons: what the law's programs come to. Plain Lean over the model. · The laws' helpers out and wrote, and the document's own Get. · The document's own Get, and the laws' helper wrote. · VmReckons: the walk. (Printed by gen_reck.py.) -/
import Derived.Test.YtndpgdegcbaigaaGreatDoorQ29
import Derived.Test.YtndpgdegcbaigaaGreatDoorQ19
import Derived.Test.YtndpgdegcbaigaaGreatDoorQ32
import Derived.Test.YtndpgdegcbaigaaGreatDoorQ34
namespace Go.Proofs.YtndpgdegcbaigaaGreatDoor
open Go Go.RowKit

/-- So many steps lead from one state to another one, and none of those before is an end. -/
inductive Way (prog : List Ins) (view : List File) : Nat → Run → Run → Prop
  | zero (s : Run) : Way prog view 0 s s
  | succ {k : Nat} {s u : Run} : s.done = false → Way prog view k (stepS prog view s) u → Way prog view (k + 1) s u

section
variable {prog : List Ins} {view : List File}
theorem Way.run {k : Nat} {s u : Run} (h : Way prog view k s u) : u.done = true → s.steps + k < 4096 → ∀ f, k ≤ f → runS prog view f s = u := by
  induction h with
  | zero s => intro hd _ f _; exact runS_ended hd
  | @succ k s u hd _ ih =>
    intro hu hs f hf
    obtain ⟨f, rfl⟩ : ∃ g, f = g + 1 := ⟨f - 1, by omega⟩
    rw [runS, if_neg (by rw [hd]; simp), tick_step (by omega)]
    exact ih hu (by rw [stepS_steps]; omega) f (by omega)
theorem Way.runM {k : Nat} {u : Run} (h : Way prog view k start u) (hu : u.done = true) (hk : k < 4096) (hc : checkErr prog = 0) (hv : treeGood view = true) : runM prog view = ((if u.fault = 0 then u.c.out else []), u.steps, u.fault) :=
  runM_of hc hv (h.run hu (by rw [start_steps]; omega) 4096 (by omega))

theorem way_step {k : Nat} {c c' : Cfg} {n : Nat} {x : Ins} {u : Run} (hx : prog.getD c.at_.toNat default = x) (he : exec view x { c with at_ := c.at_ + 1 } = .go c') (hn : c'.at_ ≠ prog.length) (h : Way prog view k ⟨c', n + 1, false, 0⟩ u) : Way prog view (k + 1) ⟨c, n, false, 0⟩ u := by
  subst hx
  refine .succ rfl ?_
  rw [stepS_go (s := ⟨c, n, false, 0⟩) he, decide_eq_false hn]
  exact h
theorem way_last {c c' : Cfg} {n : Nat} {x : Ins} (hx : prog.getD c.at_.toNat default = x) (he : exec view x { c with at_ := c.at_ + 1 } = .go c') (hn : c'.at_ = prog.length) : Way prog view 1 ⟨c, n, false, 0⟩ ⟨c', n + 1, true, 0⟩ := by
  subst hx
  refine .succ rfl ?_
  rw [stepS_go (s := ⟨c, n, false, 0⟩) he, decide_eq_true hn]
  exact .zero _
theorem way_stop {c : Cfg} {n : Nat} {x : Ins} {e : Int} (hx : prog.getD c.at_.toNat default = x) (he : exec view x { c with at_ := c.at_ + 1 } = .stop e) : Way prog view 1 ⟨c, n, false, 0⟩ ⟨c, n + 1, true, e⟩ := by
  subst hx
  refine .succ rfl ?_
  rw [stepS_stop (s := ⟨c, n, false, 0⟩) he]
  exact .zero _
end

abbrev nameA : ByteArray := ⟨#[97]⟩
/-- What a program ends with: its last value is written to the file a. -/
def tailT : List Ins := [⟨8, 0, ⟨#[]⟩⟩, ⟨3, 0, nameA⟩, ⟨7, 0, ⟨#[]⟩⟩, ⟨29, 0, ⟨#[]⟩⟩]
def tailIns (x : Bool) : List Ins := if x then ⟨24, 0, ⟨#[]⟩⟩ :: tailT else tailT

theorem tail_at (pre t : List Ins) (a : Int) (i : Nat) (ha : a = (pre.length : Int) + i) : (pre ++ t).getD a.toNat default = t.getD i default := by
  rw [show a.toNat = pre.length + i by omega, List.getD_eq_getElem?_getD, List.getElem?_append_right (by omega), Nat.add_sub_cancel_left, ← List.getD_eq_getElem?_getD]

theorem put_one (s : ByteArray) (hs : s.size ≤ 2048) : putF [] ⟨nameA, s⟩ = ([⟨nameA, s⟩], 0) := by
  have hg : treeGood [] = true := by kernel_rfl
  unfold putF
  rw [if_pos hg]
  show treeMake [⟨nameA, s⟩] = _
  unfold treeMake
  rw [if_neg (by simp)]
  have h1 : [(⟨nameA, s⟩ : File)].findSome? fileErr = none := by
    simp only [List.findSome?_cons, List.findSome?_nil]
    have : fileErr ⟨nameA, s⟩ = none := by
      unfold fileErr
      rw [if_pos (by show goodPath nameA = true; kernel_rfl), if_pos hs]
    rw [this]
  rw [h1]
  have h2 : sortF [(⟨nameA, s⟩ : File)] = [⟨nameA, s⟩] := rfl
  have h3 : clash [(⟨nameA, s⟩ : File)] = false := by
    show ((stroke nameA).isPrefixOf nameA.data.toList || false || false) = false
    rw [show (stroke nameA).isPrefixOf nameA.data.toList = false from by kernel_rfl]; rfl
  simp only [h2, h3]
  rfl

abbrev cells0 : List Val := List.replicate 16 default

/-- A text on the stack is written. -/
theorem text_way (pre : List Ins) (t : List Ins) (s : ByteArray) (hs : s.size ≤ 2048) (k : Nat) (a : Int) (ha : a + 4 = ((pre ++ t).length : Int)) (h0 : ∀ i : Nat, i < 4 → (pre ++ t).getD (a + i).toNat default = tailT.getD i default) :
    Way (pre ++ t) [] 4 ⟨⟨[vText s], [], cells0, [], a⟩, k, false, 0⟩ ⟨⟨[], [], cells0.set 0 (vText s), [⟨nameA, s⟩], a + 1 + 1 + 1 + 1⟩, k + 1 + 1 + 1 + 1, true, 0⟩ := by
  have g0 := h0 0 (by omega)
  have g1 := h0 1 (by omega)
  have g2 := h0 2 (by omega)
  have g3 := h0 3 (by omega)
  refine way_step (c' := ⟨[], [], cells0.set 0 (vText s), [], a + 1⟩) (x := ⟨8, 0, ⟨#[]⟩⟩) (by show (pre ++ t).getD a.toNat default = _; rw [show a = a + (0 : Nat) by omega, g0]; rfl) rfl (by show a + 1 ≠ _; omega) ?_
  refine way_step (c' := ⟨[vText nameA], [], cells0.set 0 (vText s), [], a + 1 + 1⟩) (x := ⟨3, 0, nameA⟩) (by show (pre ++ t).getD (a + 1).toNat default = _; rw [show a + 1 = a + (1 : Nat) by omega, g1]; rfl) rfl (by show a + 1 + 1 ≠ _; omega) ?_
  refine way_step (c' := ⟨[vText nameA, vText s], [], cells0.set 0 (vText s), [], a + 1 + 1 + 1⟩) (x := ⟨7, 0, ⟨#[]⟩⟩) (by show (pre ++ t).getD (a + 1 + 1).toNat default = _; rw [show a + 1 + 1 = a + (2 : Nat) by omega, g2]; rfl) rfl (by show a + 1 + 1 + 1 ≠ _; omega) ?_
  refine way_last (c' := ⟨[], [], cells0.set 0 (vText s), [⟨nameA, s⟩], a + 1 + 1 + 1 + 1⟩) (x := ⟨29, 0, ⟨#[]⟩⟩) (by show (pre ++ t).getD (a + 1 + 1 + 1).toNat default = _; rw [show a + 1 + 1 + 1 = a + (3 : Nat) by omega, g3]; rfl) ?_ (by show a + 1 + 1 + 1 + 1 = _; omega)
  have hp := put_one s hs
  show (if (putF [] ⟨nameA, s⟩).2 = 0 then Out.go ⟨[], [], cells0.set 0 (vText s), (putF [] ⟨nameA, s⟩).1, a + 1 + 1 + 1 + 1⟩ else .stop (putF [] ⟨nameA, s⟩).2) = _
  rw [hp]; rfl

/-- What comes of a program whose last value is a text. -/
theorem text_run {pre : List Ins} {k : Nat} {s : ByteArray} (hs : s.size ≤ 2048) (h : Way (pre ++ tailT) [] k start ⟨⟨[vText s], [], cells0, [], pre.length⟩, k, false, 0⟩) (hk : k < 1000) (hc : checkErr (pre ++ tailT) = 0) : runM (pre ++ tailT) [] = ([⟨nameA, s⟩], k + 4, 0) := by
  have h2 := text_way pre tailT s hs k pre.length (by rw [List.length_append]; rfl) (fun i hi => tail_at pre tailT _ i rfl)
  have add : ∀ {a b : Nat} {p q r : Run}, Way (pre ++ tailT) [] a p q → Way (pre ++ tailT) [] b q r → Way (pre ++ tailT) [] (a + b) p r := by
    intro a b p q r h
    induction h with
    | zero s => intro h; rw [Nat.zero_add]; exact h
    | succ hd _ ih => intro h; rw [Nat.succ_add]; exact .succ hd (ih h)
  have h3 := Way.runM (add h h2) rfl (by omega) hc (by kernel_rfl)
  rw [h3]
  rfl
/-- .. and whose last value is a number. -/
theorem num_run {pre : List Ins} {k : Nat} {n : Int} (hs : (itoaS n).size ≤ 2048) (h : Way (pre ++ ⟨24, 0, ⟨#[]⟩⟩ :: tailT) [] k start ⟨⟨[vNum n], [], cells0, [], pre.length⟩, k, false, 0⟩) (hk : k < 1000) (hc : checkErr (pre ++ ⟨24, 0, ⟨#[]⟩⟩ :: tailT) = 0) : runM (pre ++ ⟨24, 0, ⟨#[]⟩⟩ :: tailT) [] = ([⟨nameA, itoaS n⟩], k + 5, 0) := by
  have h2 := text_way pre (⟨24, 0, ⟨#[]⟩⟩ :: tailT) (itoaS n) hs (k + 1) (pre.length + 1) (by rw [List.length_append]; show (pre.length : Int) + 1 + 4 = ((pre.length + 5 : Nat) : Int); omega) (fun i hi => (tail_at pre _ _ (i + 1) (by omega)).trans rfl)
  have h1 : Way (pre ++ ⟨24, 0, ⟨#[]⟩⟩ :: tailT) [] 5 ⟨⟨[vNum n], [], cells0, [], pre.length⟩, k, false, 0⟩ _ := way_step (c' := ⟨[vText (itoaS n)], [], cells0, [], pre.length + 1⟩) (x := ⟨24, 0, ⟨#[]⟩⟩) ((tail_at pre _ _ 0 (by show (pre.length : Int) = pre.length + (0 : Nat); omega)).trans rfl) rfl (by show (pre.length : Int) + 1 ≠ _; rw [List.length_append]; show (pre.length : Int) + 1 ≠ ((pre.length + 5 : Nat) : Int); omega) h2
  have add : ∀ {a b : Nat} {p q r : Run}, Way (pre ++ ⟨24, 0, ⟨#[]⟩⟩ :: tailT) [] a p q → Way (pre ++ ⟨24, 0, ⟨#[]⟩⟩ :: tailT) [] b q r → Way (pre ++ ⟨24, 0, ⟨#[]⟩⟩ :: tailT) [] (a + b) p r := by
    intro a b p q r h
    induction h with
    | zero s => intro h; rw [Nat.zero_add]; exact h
    | succ hd _ ih => intro h; rw [Nat.succ_add]; exact .succ hd (ih h)
  have h3 := Way.runM (add h h1) rfl (by omega) hc (by kernel_rfl)
  rw [h3]
  rfl
end Go.Proofs.YtndpgdegcbaigaaGreatDoor

namespace Go.Proofs.YtndpgdegcbaigaaGreatDoor
open Go Go.RowKit

def preR (a b o : Int) : List Ins := [⟨2, a, ⟨#[]⟩⟩, ⟨2, b, ⟨#[]⟩⟩, ⟨o, 0, ⟨#[]⟩⟩]
def prR (a b o : Int) : List Ins := preR a b o ++ tailIns true

theorem itoa_small {n : Int} (hn : inI n) : (itoaS n).size ≤ 2048 := by
  have := Lib.itoa_length_le n hn.1 hn.2
  show (Lib.itoa n).toArray.size ≤ 2048
  rw [List.size_toArray]; omega

theorem reck_run {a b o r : Int} (hr : inI r) (hc : checkErr (prR a b o) = 0) (he : exec [] ⟨o, 0, ⟨#[]⟩⟩ ⟨[vNum a, vNum b], [], cells0, [], 3⟩ = .go ⟨[vNum r], [], cells0, [], 3⟩) : runM (prR a b o) [] = ([⟨nameA, itoaS r⟩], 8, 0) := by
  refine num_run (pre := preR a b o) (k := 3) (n := r) (itoa_small hr) ?_ (by omega) hc
  unfold start
  refine way_step (c' := ⟨[vNum a], [], cells0, [], 1⟩) (x := ⟨2, a, ⟨#[]⟩⟩) rfl rfl (by show (1 : Int) ≠ 8; decide) ?_
  refine way_step (c' := ⟨[vNum a, vNum b], [], cells0, [], 2⟩) (x := ⟨2, b, ⟨#[]⟩⟩) rfl rfl (by show (2 : Int) ≠ 8; decide) ?_
  exact way_step (c' := ⟨[vNum r], [], cells0, [], 3⟩) (x := ⟨o, 0, ⟨#[]⟩⟩) rfl he (by show (3 : Int) ≠ 8; decide) (.zero _)
theorem reck_stop {a b o : Int} (hc : checkErr (prR a b o) = 0) (he : exec [] ⟨o, 0, ⟨#[]⟩⟩ ⟨[vNum a, vNum b], [], cells0, [], 3⟩ = .stop 42) : runM (prR a b o) [] = ([], 3, 42) := by
  have h : Way (prR a b o) [] 3 start ⟨⟨[vNum a, vNum b], [], cells0, [], 2⟩, 3, true, 42⟩ := by
    unfold start
    refine way_step (c' := ⟨[vNum a], [], cells0, [], 1⟩) (x := ⟨2, a, ⟨#[]⟩⟩) rfl rfl (by show (1 : Int) ≠ 8; decide) ?_
    refine way_step (c' := ⟨[vNum a, vNum b], [], cells0, [], 2⟩) (x := ⟨2, b, ⟨#[]⟩⟩) rfl rfl (by show (2 : Int) ≠ 8; decide) ?_
    exact way_stop (c := ⟨[vNum a, vNum b], [], cells0, [], 2⟩) (x := ⟨o, 0, ⟨#[]⟩⟩) rfl he
  have h3 := Way.runM h rfl (by omega) hc (by kernel_rfl)
  rw [h3]; rfl

theorem wrap_in (n : Int) : inI (wrap64 n) := by unfold wrap64 inI; omega
theorem reck9 {a b : Int} : runM (prR a b 9) [] = ([⟨nameA, itoaS (wrap64 (a + b))⟩], 8, 0) := reck_run (wrap_in _) rfl rfl
theorem reck10 {a b : Int} : runM (prR a b 10) [] = ([⟨nameA, itoaS (wrap64 (a - b))⟩], 8, 0) := reck_run (wrap_in _) rfl rfl
theorem reck11 {a b : Int} : runM (prR a b 11) [] = ([⟨nameA, itoaS (wrap64 (a * b))⟩], 8, 0) := reck_run (wrap_in _) rfl rfl
theorem reck12z {a : Int} : runM (prR a 0 12) [] = ([], 3, 42) := reck_stop rfl rfl
theorem reck13z {a : Int} : runM (prR a 0 13) [] = ([], 3, 42) := reck_stop rfl rfl
theorem exec12 {a b : Int} (hb : b ≠ 0) : reckonM 12 a b = some (wrap64 (a.tdiv b)) := by simp [reckonM, hb]
theorem exec13 {a b : Int} (hb : b ≠ 0) : reckonM 13 a b = some (a.tmod b) := by simp [reckonM, hb]
theorem reck12 {a b : Int} (hb : b ≠ 0) : runM (prR a b 12) [] = ([⟨nameA, itoaS (wrap64 (a.tdiv b))⟩], 8, 0) := reck_run (wrap_in _) rfl (by
  show (match reckonM 12 a b with | some r => pushV (vNum r) ⟨[], [], cells0, [], 3⟩ | none => .stop 42) = _
  rw [exec12 hb]; rfl)
theorem reck13 {a b : Int} (ha : inI a) (hb : b ≠ 0) : runM (prR a b 13) [] = ([⟨nameA, itoaS (a.tmod b)⟩], 8, 0) := reck_run (tmod_in ha) rfl (by
  show (match reckonM 13 a b with | some r => pushV (vNum r) ⟨[], [], cells0, [], 3⟩ | none => .stop 42) = _
  rw [exec13 hb]; rfl)
theorem truth_in (x : Bool) : inI (if x then 1 else 0) := by cases x <;> (constructor <;> decide)
theorem reck14 {a b : Int} : runM (prR a b 14) [] = ([⟨nameA, itoaS (if a < b then 1 else 0)⟩], 8, 0) := by
  have h := reck_run (a := a) (b := b) (o := 14) (truth_in (decide (a < b))) rfl (by
    show pushV (vTruth (decide (a < b) || ltB ⟨#[]⟩ ⟨#[]⟩)) ⟨[], [], cells0, [], 3⟩ = _
    rw [show ltB ⟨#[]⟩ ⟨#[]⟩ = false from by kernel_rfl, Bool.or_false]; rfl)
  simpa using h
theorem reck15 {a b : Int} : runM (prR a b 15) [] = ([⟨nameA, itoaS (if a = b then 1 else 0)⟩], 8, 0) := by
  have h := reck_run (a := a) (b := b) (o := 15) (truth_in (decide (a = b))) rfl (by
    show pushV (vTruth (decide (vNum a = vNum b))) ⟨[], [], cells0, [], 3⟩ = _
    have : (vNum a = vNum b) ↔ a = b := by simp
    rw [decide_eq_decide.2 this]; rfl)
  simpa using h
end Go.Proofs.YtndpgdegcbaigaaGreatDoor

namespace Go.Proofs.YtndpgdegcbaigaaGreatDoor
open Go Go.RowKit

theorem newrow_cells (w : World) (xs : List Ins) (cur : Array Value) (hc : cur.toList = xs.flatMap TIns.enc) (j : Nat) (u : Value) (hu : (xs.flatMap TIns.enc)[j]? = some u) :
    (w.alloc (.cells cur 38)).cell? ((⟨w.heap.size, 0, none⟩ : Addr).add j) = some u := by
  have hb : (w.alloc (.cells cur 38)).heap[w.heap.size]? = some (.cells cur 38 (0, 0)) := heap_alloc_new w _
  rw [Addr.add_lit, Nat.zero_add, cell_of_row _ _ _ _ _ (0, 0) hb]
  rw [← hc] at hu
  simpa using hu
theorem newrow_own (w : World) (xs : List Ins) (cur : Array Value) (hc : cur.toList = xs.flatMap TIns.enc) (n : Nat) (hn : xs.length = n) (h : n ≤ 1000) : (w.alloc (.cells cur 38)).ownsRow w.heap.size 38 3 (.slice (some ⟨w.heap.size, 0, none⟩) n n) n (xs.flatMap TIns.enc) := by
  have hl : (xs.flatMap TIns.enc).length = n * 3 := by rw [flatMap_len, hn]; rfl
  have hb : (w.alloc (.cells cur 38)).heap[w.heap.size]? = some (.cells cur 38 (0, 0)) := heap_alloc_new w _
  refine ⟨hl, .inr ⟨w.heap.size, n, cur, rfl, Nat.le_refl _, hb, Nat.le_refl _, by unfold maxLen; omega, ?_, ?_⟩⟩
  · rw [← hc] at hl; simpa using hl
  · rw [hc, List.take_of_length_le (by omega)]

/-- A row of the call's own goes on: what was told of the past stays. -/
def Onward (base : Nat) (w w' : World) : Prop := ∀ w0 : World, w0.heap.size ≤ base → Ext w0 w → Ext w0 w'
theorem Onward.refl (base : Nat) (w : World) : Onward base w w := fun _ _ h => h
theorem Onward.trans {base : Nat} {w w1 w2 : World} (h : Onward base w w1) (k : Onward base w1 w2) : Onward base w w2 := fun w0 hb hE => k w0 hb (h w0 hb hE)
theorem Onward.alloc {base : Nat} {w : World} (o : Obj) : Onward base w (w.alloc o) := fun _ _ h => h.trans (Ext.alloc _ _)
theorem Onward.ext {base : Nat} {w w' : World} (h : Ext w w') : Onward base w w' := fun _ _ h0 => h0.trans h
theorem Onward.grown {W w' : World} {base : Nat} {e : TypeId} {k n : Nat} {v : Value} {xs : List Value} (h : W.ownsRow base e k v n xs) (hg : W.grownBy w' v.ownBlock) : Onward base W w' := fun _ hb hE => ext_grown_own h hE hb hg

def pStr : List Ins := [⟨24, 0, ⟨#[]⟩⟩]

/-- What out answers. -/
def OutEnd (base : Nat) (w : World) (xs : List Ins) (e : Ending) (w' : World) : Prop :=
  ∃ v' : Value, e = .returned v' ∧ w'.ownsRow base 38 3 v' xs.length (xs.flatMap TIns.enc) ∧ Onward base w w'

set_option maxHeartbeats 4000000 in
set_option maxRecDepth 20000 in
theorem out_false (w : World) (base n : Nat) (v : Value) (xs : List Ins) (hn : xs.length = n) (h1000 : n ≤ 1000) (hown : w.ownsRow base 38 3 v n (xs.flatMap TIns.enc)) (hb : base ≤ w.heap.size) :
    Calls Tryz.prog 28 #[v, .bool false] w (OutEnd base w (xs ++ tailT)) := by
  obtain ⟨i0, hi, hz0, hz1, hz2⟩ := info_parts Tryz.infoCloneIns
  have hrow : (xs ++ tailT).length = n + 4 := by rw [List.length_append, hn]; rfl
  go_enter Tryz.func28, Tryz.ntmps28
  go_wp2_with (at_builtin; refine wpList_append_own _ rfl (.tmp 10) (.tmp 15) 22 rfl base 38 i0 _ 3 32 Tryz.underlying22 hi hz0 hz1 hz2 rfl (by decide) _ _ _ rfl (hown.alloc _) ⟨_, 0, none⟩ 4 4 (tailT.flatMap TIns.enc) rfl rfl (fun j u hu => newrow_cells _ tailT _ rfl j u hu) (fun v hv => by
    obtain ⟨x, _, hx⟩ := List.mem_flatMap.1 hv
    exact TIns.one x v hx) (by unfold maxLen; omega) (by omega) (Nat.le_trans hb (Ext.alloc _ _).size) ?_; intro v5 w5 hown5 hgrow5 _; have F5 := aside (show w5.ownsRow base 38 3 v5 (xs ++ tailT).length ((xs ++ tailT).flatMap TIns.enc) ∧ Onward base w w5 from ⟨by rw [List.flatMap_append, hrow]; exact hown5, (Onward.alloc _).trans (Onward.grown (hown.alloc _) hgrow5)⟩); clear hown5 hgrow5)
  exact bodyPost_ret (v := v5) (by simp [results, Tryz.results28, go_sem]) rfl ⟨v5, rfl, F5.out.1, F5.out.2⟩

set_option maxHeartbeats 4000000 in
set_option maxRecDepth 20000 in
theorem out_true (w : World) (base n : Nat) (v : Value) (xs : List Ins) (hn : xs.length = n) (h1000 : n ≤ 1000) (hown : w.ownsRow base 38 3 v n (xs.flatMap TIns.enc)) (hb : base ≤ w.heap.size) :
    Calls Tryz.prog 28 #[v, .bool true] w (OutEnd base w (xs ++ ⟨24, 0, ⟨#[]⟩⟩ :: tailT)) := by
  obtain ⟨i0, hi, hz0, hz1, hz2⟩ := info_parts Tryz.infoCloneIns
  have hrow1 : (xs ++ pStr).length = n + 1 := by rw [List.length_append, hn]; rfl
  have hrow : (xs ++ ⟨24, 0, ⟨#[]⟩⟩ :: tailT).length = n + 1 + 4 := by rw [List.length_append, hn]; rfl
  go_enter Tryz.func28, Tryz.ntmps28
  go_wp2_with (first
    | (at_builtin; refine wpList_append_own _ rfl (.tmp 6) (.tmp 8) 22 rfl base 38 i0 _ 3 32 Tryz.underlying22 hi hz0 hz1 hz2 rfl (by decide) _ _ _ rfl (hown.alloc _) ⟨_, 0, none⟩ 1 1 (pStr.flatMap TIns.enc) rfl rfl (fun j u hu => newrow_cells _ pStr _ rfl j u hu) (fun v hv => by
    obtain ⟨x, _, hx⟩ := List.mem_flatMap.1 hv
    exact TIns.one x v hx) (by unfold maxLen; omega) (by omega) (Nat.le_trans hb (Ext.alloc _ _).size) ?_; intro v4 w4 hown4 hgrow4 _; have F4 := aside (show w4.ownsRow base 38 3 v4 (n + 1) ((xs ++ pStr).flatMap TIns.enc) ∧ Onward base w w4 ∧ base ≤ w4.heap.size from ⟨by rw [List.flatMap_append]; exact hown4, (Onward.alloc _).trans (Onward.grown (hown.alloc _) hgrow4), Nat.le_trans (Nat.le_trans hb (Ext.alloc _ _).size) hgrow4.size⟩); clear hown4 hgrow4)
    | (at_builtin; refine wpList_append_own _ rfl (.tmp 10) (.tmp 15) 22 rfl base 38 i0 _ 3 32 Tryz.underlying22 hi hz0 hz1 hz2 rfl (by decide) _ _ _ rfl (F4.out.1.alloc _) ⟨_, 0, none⟩ 4 4 (tailT.flatMap TIns.enc) rfl rfl (fun j u hu => newrow_cells _ tailT _ rfl j u hu) (fun v hv => by
    obtain ⟨x, _, hx⟩ := List.mem_flatMap.1 hv
    exact TIns.one x v hx) (by unfold maxLen; omega) (by omega) (Nat.le_trans F4.out.2.2 (Ext.alloc _ _).size) ?_; intro v5 w5 hown5 hgrow5 _; have F5 := aside (show w5.ownsRow base 38 3 v5 (xs ++ ⟨24, 0, ⟨#[]⟩⟩ :: tailT).length ((xs ++ ⟨24, 0, ⟨#[]⟩⟩ :: tailT).flatMap TIns.enc) ∧ Onward base w w5 from ⟨by rw [show xs ++ ⟨24, 0, ⟨#[]⟩⟩ :: tailT = (xs ++ pStr) ++ tailT by simp [pStr], List.flatMap_append, List.length_append, hrow1]; exact hown5, F4.out.2.1.trans ((Onward.alloc _).trans (Onward.grown (F4.out.1.alloc _) hgrow5))⟩); clear hown5 hgrow5))
  exact bodyPost_ret (v := v5) (by simp [results, Tryz.results28, go_sem]) rfl ⟨v5, rfl, F5.out.1, F5.out.2⟩
end Go.Proofs.YtndpgdegcbaigaaGreatDoor

namespace Go.Proofs.YtndpgdegcbaigaaGreatDoor
open Go Go.RowKit

theorem getF_round {l : List File} {s : ByteArray} {i : Nat} {x : File} (hx : l[i]? = some x) (h : getF l s = getF (l.drop i) s) :
    ((x.path == s) = true → getF l s = (x.data, true)) ∧ ((x.path == s) = false → getF l s = getF (l.drop (i + 1)) s) := by
  have hd : l.drop i = x :: l.drop (i + 1) := by
    obtain ⟨hi, rfl⟩ := List.getElem?_eq_some_iff.1 hx
    exact List.drop_eq_getElem_cons hi
  rw [hd] at h
  exact ⟨fun hc => by rw [h]; simp [getF, hc], fun hc => by rw [h]; simp [getF, hc]⟩

set_option maxHeartbeats 4000000 in
set_option maxRecDepth 20000 in
theorem RefGet_calls (w : World) (a : Option Addr) (n c : Nat) (l : List File) (s : ByteArray) (hV : Arr TFile w a n c l) :
    Calls Tryz.prog 45 #[.agg #[.slice a n c], .string s] w fun e w' => e = .returned (.tuple #[.string (getF l s).1, .bool (getF l s).2]) ∧ Ext w w' := by
  have hbn := hV.bound
  have hvl := hV.len
  go_enter Tryz.func45, Tryz.ntmps45
  go_wp2_with fail
  go_loopg [11] n (fun gg s11 wr => ∃ i : Nat, i ≤ n ∧ n - i ≤ gg ∧ s11 = .int .i64 i ∧ Aside (getF l s = getF (l.drop i) s ∧ Ext (w.alloc (.cells #[.slice a n c] 25)) wr))
  case atStart => exact ⟨0, Nat.zero_le _, by omega, rfl, (show Aside _ from ⟨rfl, Ext.refl _⟩)⟩
  case round =>
    obtain ⟨i, hin, hgg, rfl, R⟩ := hrel
    by_cases hlt : i < n
    · have hltz : (i : Int) < (n : Int) := by omega
      obtain ⟨bb, oo, x, rfl, hx, x0, x1⟩ := (hV.below ((Ext.alloc _ _).trans R.out.2)).file hlt
      have rr := aside (getF_round hx R.out.1)
      clear hx
      have hpl : (x.path.toList == s.toList) = (x.path == s) := (beq_toListBytes x.path s).symm
      cases hp : (x.path == s) with
      | true =>
        rw [hp] at hpl
        have hg : Aside (getF l s = (x.data, true)) := rr.out.1 hp
        go_wp2_with fail
        exact bodyPost_ret (v := .tuple #[.string x.data, .bool true]) (by simp [results, Tryz.results45, go_sem]) rfl ⟨by rw [hg.out], (Ext.alloc _ _).trans (R.out.2.trans (by ((repeat (first | exact Ext.refl _ | assumption | refine Ext.drew' ?_ | refine Ext.alloc' ?_ _ | (with_reducible refine Ext.trans ?_ (Ext.drewN _ _)) | refine Ext.trans ?_ (by assumption))); done)))⟩
      | false =>
        rw [hp] at hpl
        have hg : Aside (getF l s = getF (l.drop (i + 1)) s) := rr.out.2 hp
        go_wp2_with fail
        go_roundg (n - (i + 1))
        case measure => omega
        case rel => exact ⟨i + 1, by omega, by omega, by go_num, (show Aside _ from ⟨hg.out, R.out.2.trans (by ((repeat (first | exact Ext.refl _ | assumption | refine Ext.drew' ?_ | refine Ext.alloc' ?_ _ | (with_reducible refine Ext.trans ?_ (Ext.drewN _ _)) | refine Ext.trans ?_ (by assumption))); done))⟩)⟩
    · obtain rfl : i = n := by omega
      have hltz : ¬ (i : Int) < (i : Int) := by omega
      have hg : Aside (getF l s = (⟨#[]⟩, false)) := by
        show getF l s = _
        rw [R.out.1, List.drop_eq_nil_of_le (by omega)]; rfl
      go_wp2_with fail
      exact bodyPost_ret (v := .tuple #[.string ⟨#[]⟩, .bool false]) (by simp [results, Tryz.results45, go_sem]) rfl ⟨by rw [hg.out], (Ext.alloc _ _).trans (R.out.2.trans (by ((repeat (first | exact Ext.refl _ | assumption | refine Ext.drew' ?_ | refine Ext.alloc' ?_ _ | (with_reducible refine Ext.trans ?_ (Ext.drewN _ _)) | refine Ext.trans ?_ (by assumption))); done)))⟩

set_option maxHeartbeats 4000000 in
set_option maxRecDepth 20000 in
theorem wrote_calls (w : World) (hg : Globals w) (a : Option Addr) (n c : Nat) (p : List Ins) (hP : Arr TIns w a n c p) (hin : ∀ x ∈ p, inI x.n) {l : List File} {k : Nat} {er : Int} (hr : runM p [] = (l, k, er)) :
    Calls Tryz.prog 27 #[.slice a n c] w fun e w' => e = .returned (.tuple #[.string (getF l nameA).1, .int .i64 er]) ∧ Ext w w' := by
  obtain rfl := hP.len
  have G := aside hg
  have RUN := aside (Run_done (prog := p) (view := []) a none c 0 hP (nil_files _) hin (by simp) (by simp) hg)
  rw [hr] at RUN
  clear hg hP hin hr
  go_enter Tryz.func27, Tryz.ntmps27
  go_wp2_with (first
    | (go_at_call 15; refine RUN.out.mono ?_; rintro e w3 ⟨a3, c3, rfl, hA3, hE3, -⟩; have A3 := aside hA3; have E3 := aside hE3; clear hA3 hE3)
    | (go_at_call 45; refine (RefGet_calls _ a3 l.length c3 l nameA (A3.out.below (show Ext w3 _ by ((repeat (first | exact Ext.refl _ | assumption | refine Ext.drew' ?_ | refine Ext.alloc' ?_ _ | (with_reducible refine Ext.trans ?_ (Ext.drewN _ _)) | refine Ext.trans ?_ (by assumption))); done)))).mono ?_; rintro e w4 ⟨rfl, hE4⟩; have E4 := aside (E3.out.trans (Ext.trans (show Ext w3 _ by ((repeat (first | exact Ext.refl _ | assumption | refine Ext.drew' ?_ | refine Ext.alloc' ?_ _ | (with_reducible refine Ext.trans ?_ (Ext.drewN _ _)) | refine Ext.trans ?_ (by assumption))); done)) hE4)); clear hE4))
  exact bodyPost_ret (v := .tuple #[.string (getF l nameA).1, .int .i64 er]) (by simp [results, Tryz.results27, go_sem]) rfl ⟨rfl, E4.out⟩

theorem getF_one (s : ByteArray) : (getF [⟨nameA, s⟩] nameA).1 = s := by
  simp [getF, show (nameA == nameA) = true from by kernel_rfl]
theorem getF_nil : (getF [] nameA).1 = ⟨#[]⟩ := rfl
end Go.Proofs.YtndpgdegcbaigaaGreatDoor

namespace Go.Proofs.YtndpgdegcbaigaaGreatDoor
open Go Go.RowKit

theorem wrote_text (w : World) (hg : Globals w) (a : Option Addr) (n c : Nat) (p : List Ins) (hP : Arr TIns w a n c p) (hin : ∀ x ∈ p, inI x.n) {s : ByteArray} {k : Nat} (hr : runM p [] = ([⟨nameA, s⟩], k, 0)) :
    Calls Tryz.prog 27 #[.slice a n c] w fun e w' => e = .returned (.tuple #[.string s, .int .i64 0]) ∧ Ext w w' := by
  have h := wrote_calls w hg a n c p hP hin hr
  rw [getF_one] at h; exact h
theorem wrote_none (w : World) (hg : Globals w) (a : Option Addr) (n c : Nat) (p : List Ins) (hP : Arr TIns w a n c p) (hin : ∀ x ∈ p, inI x.n) {er : Int} {k : Nat} (hr : runM p [] = ([], k, er)) :
    Calls Tryz.prog 27 #[.slice a n c] w fun e w' => e = .returned (.tuple #[.string ⟨#[]⟩, .int .i64 er]) ∧ Ext w w' := wrote_calls w hg a n c p hP hin hr

theorem prR_in {a b o : Int} (ha : inI a) (hb : inI b) : ∀ x ∈ prR a b o, inI x.n := by
  have h0 : inI 0 := by constructor <;> decide
  intro x hx
  simp [prR, preR, tailIns, tailT] at hx
  rcases hx with rfl | rfl | rfl | rfl | rfl | rfl | rfl | rfl
  · exact ha
  · exact hb
  all_goals exact h0

/-- What the law's own program is and where it stands, behind out. -/
theorem out_arr {W w' : World} {base : Nat} {xs : List Ins} {e : Ending} (h : OutEnd base W xs e w') {w : World} (hE : Ext w W) (hb : w.heap.size ≤ base) : ∃ a c, e = .returned (.slice a xs.length c) ∧ Arr TIns w' a xs.length c xs ∧ Ext w w' := by
  obtain ⟨v', rfl, h1, h2⟩ := h
  obtain ⟨a, c, rfl, hA⟩ := arr_own rfl h1
  exact ⟨a, c, rfl, hA, h2 w hb hE⟩

theorem newrow_own2 (w : World) (g : Nat) (hg : g = w.heap.size) (xs : List Ins) (cur : Array Value) (hc : cur.toList = xs.flatMap TIns.enc) (n : Nat) (hn : xs.length = n) (h : n ≤ 1000) : (w.alloc (.cells cur 38)).ownsRow g 38 3 (.slice (some ⟨g, 0, none⟩) n n) n (xs.flatMap TIns.enc) := by
  subst hg; exact newrow_own w xs cur hc n hn h
theorem out_reck (W : World) (g : Nat) (hg : g = W.heap.size) (a b o : Int) : Calls Tryz.prog 28 #[.slice (some ⟨g, 0, none⟩) 3 3, .bool true] (W.alloc (.cells #[.int .i64 2, .int .i64 a, .string ⟨#[]⟩, .int .i64 2, .int .i64 b, .string ⟨#[]⟩, .int .i64 o, .int .i64 0, .string ⟨#[]⟩] 38))
    (fun e w' => ∃ a2 c2, e = .returned (.slice a2 8 c2) ∧ Arr TIns w' a2 8 c2 (prR a b o) ∧ Ext W w') := by
  refine Calls.mono (out_true _ g 3 _ (preR a b o) rfl (by omega) (newrow_own2 W g hg (preR a b o) _ rfl 3 rfl (by omega)) (by rw [hg]; exact (Ext.alloc _ _).size)) ?_
  intro e w' hO
  obtain ⟨a2, c2, he, hA, hE⟩ := out_arr hO (w := W) (Ext.alloc _ _) (by rw [hg]; exact Nat.le_refl _)
  exact ⟨a2, c2, he, hA, hE⟩

theorem toL_eq (a : ByteArray) : (a.toList == a.toList) = true := by simp

set_option maxHeartbeats 8000000 in
set_option maxRecDepth 100000 in
theorem reck_0 (w : World) (hg : Globals w) (a b : Int) (ha : inI a) (hb : inI b) : Calls Tryz.prog 8 #[.int .i64 0, .int .i64 a, .int .i64 b] w fun e w' => e = .returned (.bool true) ∧ Ext w w' := by
  have G := aside hg
  have RC := aside (reck9 (a := a) (b := b))
  have PI := aside (fun o : Int => prR_in (o := o) ha hb)
  have TE := toL_eq (itoaS (wrap64 (a + b)))
  clear hg
  go_enter Tryz.func8, Tryz.ntmps8
  go_wp2_with (first
      | (go_at_call 13; refine (alive_calls _ G.out).mono ?_; rintro e w1 ⟨rfl, hE⟩; have E1 := aside hE; clear hE)
      | (go_at_call 28; refine (out_reck _ _ (by simp) a b 9).mono ?_; rintro e w2 ⟨a2, c2, rfl, hA2, hE2'⟩; have hE2 := E1.out.trans (Ext.trans (show Ext w1 _ by ((repeat (first | exact Ext.refl _ | assumption | refine Ext.drew' ?_ | refine Ext.alloc' ?_ _ | (with_reducible refine Ext.trans ?_ (Ext.drewN _ _)) | refine Ext.trans ?_ (by assumption))); done)) hE2'); have A2 := aside hA2; have E2 := aside hE2; clear hA2 hE2 hE2')
      | (go_at_call 27; refine (wrote_text _ (G.out.ext E2.out) a2 _ c2 (prR a b 9) A2.out (PI.out 9) RC.out).mono ?_; rintro e w3 ⟨rfl, hE3⟩; have E3 := aside (E2.out.trans hE3); clear hE3)
      | (go_at_call 29; refine (Itoa_calls (wrap64 (a + b)) (by first | exact wrap_in _ | exact tmod_in ha | exact truth_in _ | assumption) _ (G.out.ext (E3.out.trans (show Ext w3 _ by ((repeat (first | exact Ext.refl _ | assumption | refine Ext.drew' ?_ | refine Ext.alloc' ?_ _ | (with_reducible refine Ext.trans ?_ (Ext.drewN _ _)) | refine Ext.trans ?_ (by assumption))); done))))).mono ?_; rintro e w4 ⟨rfl, hE4⟩; have E4 := aside (E3.out.trans (Ext.trans (show Ext w3 _ by ((repeat (first | exact Ext.refl _ | assumption | refine Ext.drew' ?_ | refine Ext.alloc' ?_ _ | (with_reducible refine Ext.trans ?_ (Ext.drewN _ _)) | refine Ext.trans ?_ (by assumption))); done)) hE4)); clear hE4))
  exact bodyPost_ret (v := .bool true) (by simp [results, Tryz.results8, go_sem]) rfl ⟨rfl, E4.out⟩

set_option maxHeartbeats 8000000 in
set_option maxRecDepth 100000 in
theorem reck_1 (w : World) (hg : Globals w) (a b : Int) (ha : inI a) (hb : inI b) : Calls Tryz.prog 8 #[.int .i64 1, .int .i64 a, .int .i64 b] w fun e w' => e = .returned (.bool true) ∧ Ext w w' := by
  have G := aside hg
  have RC := aside (reck10 (a := a) (b := b))
  have PI := aside (fun o : Int => prR_in (o := o) ha hb)
  have TE := toL_eq (itoaS (wrap64 (a - b)))
  clear hg
  go_enter Tryz.func8, Tryz.ntmps8
  go_wp2_with (first
      | (go_at_call 13; refine (alive_calls _ G.out).mono ?_; rintro e w1 ⟨rfl, hE⟩; have E1 := aside hE; clear hE)
      | (go_at_call 28; refine (out_reck _ _ (by simp) a b 10).mono ?_; rintro e w2 ⟨a2, c2, rfl, hA2, hE2'⟩; have hE2 := E1.out.trans (Ext.trans (show Ext w1 _ by ((repeat (first | exact Ext.refl _ | assumption | refine Ext.drew' ?_ | refine Ext.alloc' ?_ _ | (with_reducible refine Ext.trans ?_ (Ext.drewN _ _)) | refine Ext.trans ?_ (by assumption))); done)) hE2'); have A2 := aside hA2; have E2 := aside hE2; clear hA2 hE2 hE2')
      | (go_at_call 27; refine (wrote_text _ (G.out.ext E2.out) a2 _ c2 (prR a b 10) A2.out (PI.out 10) RC.out).mono ?_; rintro e w3 ⟨rfl, hE3⟩; have E3 := aside (E2.out.trans hE3); clear hE3)
      | (go_at_call 29; refine (Itoa_calls (wrap64 (a - b)) (by first | exact wrap_in _ | exact tmod_in ha | exact truth_in _ | assumption) _ (G.out.ext (E3.out.trans (show Ext w3 _ by ((repeat (first | exact Ext.refl _ | assumption | refine Ext.drew' ?_ | refine Ext.alloc' ?_ _ | (with_reducible refine Ext.trans ?_ (Ext.drewN _ _)) | refine Ext.trans ?_ (by assumption))); done))))).mono ?_; rintro e w4 ⟨rfl, hE4⟩; have E4 := aside (E3.out.trans (Ext.trans (show Ext w3 _ by ((repeat (first | exact Ext.refl _ | assumption | refine Ext.drew' ?_ | refine Ext.alloc' ?_ _ | (with_reducible refine Ext.trans ?_ (Ext.drewN _ _)) | refine Ext.trans ?_ (by assumption))); done)) hE4)); clear hE4))
  exact bodyPost_ret (v := .bool true) (by simp [results, Tryz.results8, go_sem]) rfl ⟨rfl, E4.out⟩

set_option maxHeartbeats 8000000 in
set_option maxRecDepth 100000 in
theorem reck_2 (w : World) (hg : Globals w) (a b : Int) (ha : inI a) (hb : inI b) : Calls Tryz.prog 8 #[.int .i64 2, .int .i64 a, .int .i64 b] w fun e w' => e = .returned (.bool true) ∧ Ext w w' := by
  have G := aside hg
  have RC := aside (reck11 (a := a) (b := b))
  have PI := aside (fun o : Int => prR_in (o := o) ha hb)
  have TE := toL_eq (itoaS (wrap64 (a * b)))
  clear hg
  go_enter Tryz.func8, Tryz.ntmps8
  go_wp2_with (first
      | (go_at_call 13; refine (alive_calls _ G.out).mono ?_; rintro e w1 ⟨rfl, hE⟩; have E1 := aside hE; clear hE)
      | (go_at_call 28; refine (out_reck _ _ (by simp) a b 11).mono ?_; rintro e w2 ⟨a2, c2, rfl, hA2, hE2'⟩; have hE2 := E1.out.trans (Ext.trans (show Ext w1 _ by ((repeat (first | exact Ext.refl _ | assumption | refine Ext.drew' ?_ | refine Ext.alloc' ?_ _ | (with_reducible refine Ext.trans ?_ (Ext.drewN _ _)) | refine Ext.trans ?_ (by assumption))); done)) hE2'); have A2 := aside hA2; have E2 := aside hE2; clear hA2 hE2 hE2')
      | (go_at_call 27; refine (wrote_text _ (G.out.ext E2.out) a2 _ c2 (prR a b 11) A2.out (PI.out 11) RC.out).mono ?_; rintro e w3 ⟨rfl, hE3⟩; have E3 := aside (E2.out.trans hE3); clear hE3)
      | (go_at_call 29; refine (Itoa_calls (wrap64 (a * b)) (by first | exact wrap_in _ | exact tmod_in ha | exact truth_in _ | assumption) _ (G.out.ext (E3.out.trans (show Ext w3 _ by ((repeat (first | exact Ext.refl _ | assumption | refine Ext.drew' ?_ | refine Ext.alloc' ?_ _ | (with_reducible refine Ext.trans ?_ (Ext.drewN _ _)) | refine Ext.trans ?_ (by assumption))); done))))).mono ?_; rintro e w4 ⟨rfl, hE4⟩; have E4 := aside (E3.out.trans (Ext.trans (show Ext w3 _ by ((repeat (first | exact Ext.refl _ | assumption | refine Ext.drew' ?_ | refine Ext.alloc' ?_ _ | (with_reducible refine Ext.trans ?_ (Ext.drewN _ _)) | refine Ext.trans ?_ (by assumption))); done)) hE4)); clear hE4))
  exact bodyPost_ret (v := .bool true) (by simp [results, Tryz.results8, go_sem]) rfl ⟨rfl, E4.out⟩

set_option maxHeartbeats 8000000 in
set_option maxRecDepth 100000 in
theorem reck_3 (w : World) (hg : Globals w) (a b : Int) (ha : inI a) (hb : inI b) (hz : b ≠ 0) : Calls Tryz.prog 8 #[.int .i64 3, .int .i64 a, .int .i64 b] w fun e w' => e = .returned (.bool true) ∧ Ext w w' := by
  have G := aside hg
  have RC := aside (reck12 (a := a) hz)
  have PI := aside (fun o : Int => prR_in (o := o) ha hb)
  have hz1 : (b == 0) = false := by simpa using hz
  have TE := toL_eq (itoaS (wrap64 (a.tdiv b)))
  clear hg
  go_enter Tryz.func8, Tryz.ntmps8
  go_wp2_with (first
      | (go_at_call 13; refine (alive_calls _ G.out).mono ?_; rintro e w1 ⟨rfl, hE⟩; have E1 := aside hE; clear hE)
      | (go_at_call 28; refine (out_reck _ _ (by simp) a b 12).mono ?_; rintro e w2 ⟨a2, c2, rfl, hA2, hE2'⟩; have hE2 := E1.out.trans (Ext.trans (show Ext w1 _ by ((repeat (first | exact Ext.refl _ | assumption | refine Ext.drew' ?_ | refine Ext.alloc' ?_ _ | (with_reducible refine Ext.trans ?_ (Ext.drewN _ _)) | refine Ext.trans ?_ (by assumption))); done)) hE2'); have A2 := aside hA2; have E2 := aside hE2; clear hA2 hE2 hE2')
      | (go_at_call 27; refine (wrote_text _ (G.out.ext E2.out) a2 _ c2 (prR a b 12) A2.out (PI.out 12) RC.out).mono ?_; rintro e w3 ⟨rfl, hE3⟩; have E3 := aside (E2.out.trans hE3); clear hE3)
      | (go_at_call 29; refine (Itoa_calls (wrap64 (a.tdiv b)) (by first | exact wrap_in _ | exact tmod_in ha | exact truth_in _ | assumption) _ (G.out.ext (E3.out.trans (show Ext w3 _ by ((repeat (first | exact Ext.refl _ | assumption | refine Ext.drew' ?_ | refine Ext.alloc' ?_ _ | (with_reducible refine Ext.trans ?_ (Ext.drewN _ _)) | refine Ext.trans ?_ (by assumption))); done))))).mono ?_; rintro e w4 ⟨rfl, hE4⟩; have E4 := aside (E3.out.trans (Ext.trans (show Ext w3 _ by ((repeat (first | exact Ext.refl _ | assumption | refine Ext.drew' ?_ | refine Ext.alloc' ?_ _ | (with_reducible refine Ext.trans ?_ (Ext.drewN _ _)) | refine Ext.trans ?_ (by assumption))); done)) hE4)); clear hE4))
  exact bodyPost_ret (v := .bool true) (by simp [results, Tryz.results8, go_sem]) rfl ⟨rfl, E4.out⟩

set_option maxHeartbeats 8000000 in
set_option maxRecDepth 100000 in
theorem reck_4 (w : World) (hg : Globals w) (a b : Int) (ha : inI a) (hb : inI b) (hz : b ≠ 0) : Calls Tryz.prog 8 #[.int .i64 4, .int .i64 a, .int .i64 b] w fun e w' => e = .returned (.bool true) ∧ Ext w w' := by
  have G := aside hg
  have RC := aside (reck13 (b := b) ha hz)
  have PI := aside (fun o : Int => prR_in (o := o) ha hb)
  have hz1 : (b == 0) = false := by simpa using hz
  have TE := toL_eq (itoaS (a.tmod b))
  clear hg
  go_enter Tryz.func8, Tryz.ntmps8
  go_wp2_with (first
      | (go_at_call 13; refine (alive_calls _ G.out).mono ?_; rintro e w1 ⟨rfl, hE⟩; have E1 := aside hE; clear hE)
      | (go_at_call 28; refine (out_reck _ _ (by simp) a b 13).mono ?_; rintro e w2 ⟨a2, c2, rfl, hA2, hE2'⟩; have hE2 := E1.out.trans (Ext.trans (show Ext w1 _ by ((repeat (first | exact Ext.refl _ | assumption | refine Ext.drew' ?_ | refine Ext.alloc' ?_ _ | (with_reducible refine Ext.trans ?_ (Ext.drewN _ _)) | refine Ext.trans ?_ (by assumption))); done)) hE2'); have A2 := aside hA2; have E2 := aside hE2; clear hA2 hE2 hE2')
      | (go_at_call 27; refine (wrote_text _ (G.out.ext E2.out) a2 _ c2 (prR a b 13) A2.out (PI.out 13) RC.out).mono ?_; rintro e w3 ⟨rfl, hE3⟩; have E3 := aside (E2.out.trans hE3); clear hE3)
      | (go_at_call 29; refine (Itoa_calls (a.tmod b) (by first | exact wrap_in _ | exact tmod_in ha | exact truth_in _ | assumption) _ (G.out.ext (E3.out.trans (show Ext w3 _ by ((repeat (first | exact Ext.refl _ | assumption | refine Ext.drew' ?_ | refine Ext.alloc' ?_ _ | (with_reducible refine Ext.trans ?_ (Ext.drewN _ _)) | refine Ext.trans ?_ (by assumption))); done))))).mono ?_; rintro e w4 ⟨rfl, hE4⟩; have E4 := aside (E3.out.trans (Ext.trans (show Ext w3 _ by ((repeat (first | exact Ext.refl _ | assumption | refine Ext.drew' ?_ | refine Ext.alloc' ?_ _ | (with_reducible refine Ext.trans ?_ (Ext.drewN _ _)) | refine Ext.trans ?_ (by assumption))); done)) hE4)); clear hE4))
  exact bodyPost_ret (v := .bool true) (by simp [results, Tryz.results8, go_sem]) rfl ⟨rfl, E4.out⟩

set_option maxHeartbeats 8000000 in
set_option maxRecDepth 100000 in
theorem reck_5t (w : World) (hg : Globals w) (a b : Int) (ha : inI a) (hb : inI b) (hz : a < b) : Calls Tryz.prog 8 #[.int .i64 5, .int .i64 a, .int .i64 b] w fun e w' => e = .returned (.bool true) ∧ Ext w w' := by
  have G := aside hg
  have RC := aside (show runM (prR a b 14) [] = ([⟨nameA, itoaS 1⟩], 8, 0) by rw [reck14, if_pos hz])
  have PI := aside (fun o : Int => prR_in (o := o) ha hb)
  have h1 : inI 1 := truth_in true
  have TE := toL_eq (itoaS (1))
  clear hg
  go_enter Tryz.func8, Tryz.ntmps8
  go_wp2_with (first
      | (go_at_call 13; refine (alive_calls _ G.out).mono ?_; rintro e w1 ⟨rfl, hE⟩; have E1 := aside hE; clear hE)
      | (go_at_call 28; refine (out_reck _ _ (by simp) a b 14).mono ?_; rintro e w2 ⟨a2, c2, rfl, hA2, hE2'⟩; have hE2 := E1.out.trans (Ext.trans (show Ext w1 _ by ((repeat (first | exact Ext.refl _ | assumption | refine Ext.drew' ?_ | refine Ext.alloc' ?_ _ | (with_reducible refine Ext.trans ?_ (Ext.drewN _ _)) | refine Ext.trans ?_ (by assumption))); done)) hE2'); have A2 := aside hA2; have E2 := aside hE2; clear hA2 hE2 hE2')
      | (go_at_call 27; refine (wrote_text _ (G.out.ext E2.out) a2 _ c2 (prR a b 14) A2.out (PI.out 14) RC.out).mono ?_; rintro e w3 ⟨rfl, hE3⟩; have E3 := aside (E2.out.trans hE3); clear hE3)
      | (go_at_call 29; refine (Itoa_calls (1) (by first | exact wrap_in _ | exact tmod_in ha | exact truth_in _ | assumption) _ (G.out.ext (E3.out.trans (show Ext w3 _ by ((repeat (first | exact Ext.refl _ | assumption | refine Ext.drew' ?_ | refine Ext.alloc' ?_ _ | (with_reducible refine Ext.trans ?_ (Ext.drewN _ _)) | refine Ext.trans ?_ (by assumption))); done))))).mono ?_; rintro e w4 ⟨rfl, hE4⟩; have E4 := aside (E3.out.trans (Ext.trans (show Ext w3 _ by ((repeat (first | exact Ext.refl _ | assumption | refine Ext.drew' ?_ | refine Ext.alloc' ?_ _ | (with_reducible refine Ext.trans ?_ (Ext.drewN _ _)) | refine Ext.trans ?_ (by assumption))); done)) hE4)); clear hE4))
  exact bodyPost_ret (v := .bool true) (by simp [results, Tryz.results8, go_sem]) rfl ⟨rfl, E4.out⟩

set_option maxHeartbeats 8000000 in
set_option maxRecDepth 100000 in
theorem reck_5f (w : World) (hg : Globals w) (a b : Int) (ha : inI a) (hb : inI b) (hz : ¬ a < b) : Calls Tryz.prog 8 #[.int .i64 5, .int .i64 a, .int .i64 b] w fun e w' => e = .returned (.bool true) ∧ Ext w w' := by
  have G := aside hg
  have RC := aside (show runM (prR a b 14) [] = ([⟨nameA, itoaS 0⟩], 8, 0) by rw [reck14, if_neg hz])
  have PI := aside (fun o : Int => prR_in (o := o) ha hb)
  have h1 : inI 0 := truth_in false
  have TE := toL_eq (itoaS (0))
  clear hg
  go_enter Tryz.func8, Tryz.ntmps8
  go_wp2_with (first
      | (go_at_call 13; refine (alive_calls _ G.out).mono ?_; rintro e w1 ⟨rfl, hE⟩; have E1 := aside hE; clear hE)
      | (go_at_call 28; refine (out_reck _ _ (by simp) a b 14).mono ?_; rintro e w2 ⟨a2, c2, rfl, hA2, hE2'⟩; have hE2 := E1.out.trans (Ext.trans (show Ext w1 _ by ((repeat (first | exact Ext.refl _ | assumption | refine Ext.drew' ?_ | refine Ext.alloc' ?_ _ | (with_reducible refine Ext.trans ?_ (Ext.drewN _ _)) | refine Ext.trans ?_ (by assumption))); done)) hE2'); have A2 := aside hA2; have E2 := aside hE2; clear hA2 hE2 hE2')
      | (go_at_call 27; refine (wrote_text _ (G.out.ext E2.out) a2 _ c2 (prR a b 14) A2.out (PI.out 14) RC.out).mono ?_; rintro e w3 ⟨rfl, hE3⟩; have E3 := aside (E2.out.trans hE3); clear hE3)
      | (go_at_call 29; refine (Itoa_calls (0) (by first | exact wrap_in _ | exact tmod_in ha | exact truth_in _ | assumption) _ (G.out.ext (E3.out.trans (show Ext w3 _ by ((repeat (first | exact Ext.refl _ | assumption | refine Ext.drew' ?_ | refine Ext.alloc' ?_ _ | (with_reducible refine Ext.trans ?_ (Ext.drewN _ _)) | refine Ext.trans ?_ (by assumption))); done))))).mono ?_; rintro e w4 ⟨rfl, hE4⟩; have E4 := aside (E3.out.trans (Ext.trans (show Ext w3 _ by ((repeat (first | exact Ext.refl _ | assumption | refine Ext.drew' ?_ | refine Ext.alloc' ?_ _ | (with_reducible refine Ext.trans ?_ (Ext.drewN _ _)) | refine Ext.trans ?_ (by assumption))); done)) hE4)); clear hE4))
  exact bodyPost_ret (v := .bool true) (by simp [results, Tryz.results8, go_sem]) rfl ⟨rfl, E4.out⟩

set_option maxHeartbeats 8000000 in
set_option maxRecDepth 100000 in
theorem reck_6t (w : World) (hg : Globals w) (a : Int) (ha : inI a) : Calls Tryz.prog 8 #[.int .i64 6, .int .i64 a, .int .i64 a] w fun e w' => e = .returned (.bool true) ∧ Ext w w' := by
  have G := aside hg
  have RC := aside (show runM (prR a a 15) [] = ([⟨nameA, itoaS 1⟩], 8, 0) by rw [reck15, if_pos rfl])
  have PI := aside (fun o : Int => prR_in (a := a) (b := a) (o := o) ha ha)
  have h1 : inI 1 := truth_in true
  have TE := toL_eq (itoaS (1))
  clear hg
  go_enter Tryz.func8, Tryz.ntmps8
  go_wp2_with (first
      | (go_at_call 13; refine (alive_calls _ G.out).mono ?_; rintro e w1 ⟨rfl, hE⟩; have E1 := aside hE; clear hE)
      | (go_at_call 28; refine (out_reck _ _ (by simp) a a 15).mono ?_; rintro e w2 ⟨a2, c2, rfl, hA2, hE2'⟩; have hE2 := E1.out.trans (Ext.trans (show Ext w1 _ by ((repeat (first | exact Ext.refl _ | assumption | refine Ext.drew' ?_ | refine Ext.alloc' ?_ _ | (with_reducible refine Ext.trans ?_ (Ext.drewN _ _)) | refine Ext.trans ?_ (by assumption))); done)) hE2'); have A2 := aside hA2; have E2 := aside hE2; clear hA2 hE2 hE2')
      | (go_at_call 27; refine (wrote_text _ (G.out.ext E2.out) a2 _ c2 (prR a a 15) A2.out (PI.out 15) RC.out).mono ?_; rintro e w3 ⟨rfl, hE3⟩; have E3 := aside (E2.out.trans hE3); clear hE3)
      | (go_at_call 29; refine (Itoa_calls (1) (by first | exact wrap_in _ | exact tmod_in ha | exact truth_in _ | assumption) _ (G.out.ext (E3.out.trans (show Ext w3 _ by ((repeat (first | exact Ext.refl _ | assumption | refine Ext.drew' ?_ | refine Ext.alloc' ?_ _ | (with_reducible refine Ext.trans ?_ (Ext.drewN _ _)) | refine Ext.trans ?_ (by assumption))); done))))).mono ?_; rintro e w4 ⟨rfl, hE4⟩; have E4 := aside (E3.out.trans (Ext.trans (show Ext w3 _ by ((repeat (first | exact Ext.refl _ | assumption | refine Ext.drew' ?_ | refine Ext.alloc' ?_ _ | (with_reducible refine Ext.trans ?_ (Ext.drewN _ _)) | refine Ext.trans ?_ (by assumption))); done)) hE4)); clear hE4))
  exact bodyPost_ret (v := .bool true) (by simp [results, Tryz.results8, go_sem]) rfl ⟨rfl, E4.out⟩

set_option maxHeartbeats 8000000 in
set_option maxRecDepth 100000 in
theorem reck_6f (w : World) (hg : Globals w) (a b : Int) (ha : inI a) (hb : inI b) (hz : a ≠ b) : Calls Tryz.prog 8 #[.int .i64 6, .int .i64 a, .int .i64 b] w fun e w' => e = .returned (.bool true) ∧ Ext w w' := by
  have G := aside hg
  have RC := aside (show runM (prR a b 15) [] = ([⟨nameA, itoaS 0⟩], 8, 0) by rw [reck15, if_neg hz])
  have PI := aside (fun o : Int => prR_in (o := o) ha hb)
  have h1 : inI 0 := truth_in false
  have hz1 : (a == b) = false := by simpa using hz
  have TE := toL_eq (itoaS (0))
  clear hg
  go_enter Tryz.func8, Tryz.ntmps8
  go_wp2_with (first
      | (go_at_call 13; refine (alive_calls _ G.out).mono ?_; rintro e w1 ⟨rfl, hE⟩; have E1 := aside hE; clear hE)
      | (go_at_call 28; refine (out_reck _ _ (by simp) a b 15).mono ?_; rintro e w2 ⟨a2, c2, rfl, hA2, hE2'⟩; have hE2 := E1.out.trans (Ext.trans (show Ext w1 _ by ((repeat (first | exact Ext.refl _ | assumption | refine Ext.drew' ?_ | refine Ext.alloc' ?_ _ | (with_reducible refine Ext.trans ?_ (Ext.drewN _ _)) | refine Ext.trans ?_ (by assumption))); done)) hE2'); have A2 := aside hA2; have E2 := aside hE2; clear hA2 hE2 hE2')
      | (go_at_call 27; refine (wrote_text _ (G.out.ext E2.out) a2 _ c2 (prR a b 15) A2.out (PI.out 15) RC.out).mono ?_; rintro e w3 ⟨rfl, hE3⟩; have E3 := aside (E2.out.trans hE3); clear hE3)
      | (go_at_call 29; refine (Itoa_calls (0) (by first | exact wrap_in _ | exact tmod_in ha | exact truth_in _ | assumption) _ (G.out.ext (E3.out.trans (show Ext w3 _ by ((repeat (first | exact Ext.refl _ | assumption | refine Ext.drew' ?_ | refine Ext.alloc' ?_ _ | (with_reducible refine Ext.trans ?_ (Ext.drewN _ _)) | refine Ext.trans ?_ (by assumption))); done))))).mono ?_; rintro e w4 ⟨rfl, hE4⟩; have E4 := aside (E3.out.trans (Ext.trans (show Ext w3 _ by ((repeat (first | exact Ext.refl _ | assumption | refine Ext.drew' ?_ | refine Ext.alloc' ?_ _ | (with_reducible refine Ext.trans ?_ (Ext.drewN _ _)) | refine Ext.trans ?_ (by assumption))); done)) hE4)); clear hE4))
  exact bodyPost_ret (v := .bool true) (by simp [results, Tryz.results8, go_sem]) rfl ⟨rfl, E4.out⟩

set_option maxHeartbeats 8000000 in
set_option maxRecDepth 100000 in
theorem reck_3z (w : World) (hg : Globals w) (a : Int) (ha : inI a) : Calls Tryz.prog 8 #[.int .i64 3, .int .i64 a, .int .i64 0] w fun e w' => e = .returned (.bool true) ∧ Ext w w' := by
  have G := aside hg
  have RC := aside (reck12z (a := a))
  have PI := aside (fun o : Int => prR_in (a := a) (b := 0) (o := o) ha (truth_in false))
  clear hg
  go_enter Tryz.func8, Tryz.ntmps8
  go_wp2_with (first
      | (go_at_call 13; refine (alive_calls _ G.out).mono ?_; rintro e w1 ⟨rfl, hE⟩; have E1 := aside hE; clear hE)
      | (go_at_call 28; refine (out_reck _ _ (by simp) a 0 12).mono ?_; rintro e w2 ⟨a2, c2, rfl, hA2, hE2'⟩; have hE2 := E1.out.trans (Ext.trans (show Ext w1 _ by ((repeat (first | exact Ext.refl _ | assumption | refine Ext.drew' ?_ | refine Ext.alloc' ?_ _ | (with_reducible refine Ext.trans ?_ (Ext.drewN _ _)) | refine Ext.trans ?_ (by assumption))); done)) hE2'); have A2 := aside hA2; have E2 := aside hE2; clear hA2 hE2 hE2')
      | (go_at_call 27; refine (wrote_none _ (G.out.ext E2.out) a2 _ c2 (prR a 0 12) A2.out (PI.out 12) RC.out).mono ?_; rintro e w3 ⟨rfl, hE3⟩; have E3 := aside (E2.out.trans hE3); clear hE3))
  exact bodyPost_ret (v := .bool true) (by simp [results, Tryz.results8, go_sem]) rfl ⟨rfl, E3.out⟩

set_option maxHeartbeats 8000000 in
set_option maxRecDepth 100000 in
theorem reck_4z (w : World) (hg : Globals w) (a : Int) (ha : inI a) : Calls Tryz.prog 8 #[.int .i64 4, .int .i64 a, .int .i64 0] w fun e w' => e = .returned (.bool true) ∧ Ext w w' := by
  have G := aside hg
  have RC := aside (reck13z (a := a))
  have PI := aside (fun o : Int => prR_in (a := a) (b := 0) (o := o) ha (truth_in false))
  clear hg
  go_enter Tryz.func8, Tryz.ntmps8
  go_wp2_with (first
      | (go_at_call 13; refine (alive_calls _ G.out).mono ?_; rintro e w1 ⟨rfl, hE⟩; have E1 := aside hE; clear hE)
      | (go_at_call 28; refine (out_reck _ _ (by simp) a 0 13).mono ?_; rintro e w2 ⟨a2, c2, rfl, hA2, hE2'⟩; have hE2 := E1.out.trans (Ext.trans (show Ext w1 _ by ((repeat (first | exact Ext.refl _ | assumption | refine Ext.drew' ?_ | refine Ext.alloc' ?_ _ | (with_reducible refine Ext.trans ?_ (Ext.drewN _ _)) | refine Ext.trans ?_ (by assumption))); done)) hE2'); have A2 := aside hA2; have E2 := aside hE2; clear hA2 hE2 hE2')
      | (go_at_call 27; refine (wrote_none _ (G.out.ext E2.out) a2 _ c2 (prR a 0 13) A2.out (PI.out 13) RC.out).mono ?_; rintro e w3 ⟨rfl, hE3⟩; have E3 := aside (E2.out.trans hE3); clear hE3))
  exact bodyPost_ret (v := .bool true) (by simp [results, Tryz.results8, go_sem]) rfl ⟨rfl, E3.out⟩

set_option maxHeartbeats 8000000 in
set_option maxRecDepth 100000 in
theorem VmReckons_calls (w : World) (hg : Globals w) (op a b : Int) (ha : inI a) (hb : inI b) : Calls Tryz.prog 8 #[.int .i64 op, .int .i64 a, .int .i64 b] w fun e w' => e = .returned (.bool true) ∧ Ext w w' := by
  by_cases h : 0 ≤ op ∧ op ≤ 6
  · have h7 : op = 0 ∨ op = 1 ∨ op = 2 ∨ op = 3 ∨ op = 4 ∨ op = 5 ∨ op = 6 := by omega
    rcases h7 with rfl | rfl | rfl | rfl | rfl | rfl | rfl
    · exact reck_0 w hg a b ha hb
    · exact reck_1 w hg a b ha hb
    · exact reck_2 w hg a b ha hb
    · by_cases hz : b = 0
      · subst hz; exact reck_3z w hg a ha
      · exact reck_3 w hg a b ha hb hz
    · by_cases hz : b = 0
      · subst hz; exact reck_4z w hg a ha
      · exact reck_4 w hg a b ha hb hz
    · by_cases hz : a < b
      · exact reck_5t w hg a b ha hb hz
      · exact reck_5f w hg a b ha hb hz
    · by_cases hz : a = b
      · subst hz; exact reck_6t w hg a ha
      · exact reck_6f w hg a b ha hb hz
  · have G := aside hg
    clear hg
    by_cases h0 : op < 0
    · go_enter Tryz.func8, Tryz.ntmps8
      go_wp2_with (go_at_call 13; refine (alive_calls _ G.out).mono ?_; rintro e w1 ⟨rfl, hE⟩; have E1 := aside hE; clear hE)
      exact bodyPost_ret (v := .bool true) (by simp [results, Tryz.results8, go_sem]) rfl ⟨rfl, E1.out.trans (by ((repeat (first | exact Ext.refl _ | assumption | refine Ext.drew' ?_ | refine Ext.alloc' ?_ _ | (with_reducible refine Ext.trans ?_ (Ext.drewN _ _)) | refine Ext.trans ?_ (by assumption))); done))⟩
    · have h6 : op > 6 := by omega
      go_enter Tryz.func8, Tryz.ntmps8
      go_wp2_with (go_at_call 13; refine (alive_calls _ G.out).mono ?_; rintro e w1 ⟨rfl, hE⟩; have E1 := aside hE; clear hE)
      exact bodyPost_ret (v := .bool true) (by simp [results, Tryz.results8, go_sem]) rfl ⟨rfl, E1.out.trans (by ((repeat (first | exact Ext.refl _ | assumption | refine Ext.drew' ?_ | refine Ext.alloc' ?_ _ | (with_reducible refine Ext.trans ?_ (Ext.drewN _ _)) | refine Ext.trans ?_ (by assumption))); done))⟩
end Go.Proofs.YtndpgdegcbaigaaGreatDoor
