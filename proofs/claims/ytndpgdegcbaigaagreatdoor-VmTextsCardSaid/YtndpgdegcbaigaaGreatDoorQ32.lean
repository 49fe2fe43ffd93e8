/- VmDepths as plain Lean: so many values, so many calls. · VmDepths: the walk. -/
import Derived.Test.YtndpgdegcbaigaaGreatDoorQ29
import Derived.Test.YtndpgdegcbaigaaGreatDoorQ30
namespace Go.Proofs.YtndpgdegcbaigaaGreatDoor
open Go Go.RowKit

def insP (i : Nat) : Ins := ⟨2, i, ⟨#[]⟩⟩
def insC (i : Nat) : Ins := ⟨19, (i : Int) + 1, ⟨#[]⟩⟩
def insH : Ins := ⟨1, 0, ⟨#[]⟩⟩
def prD (n : Nat) : List Ins := (List.range n).map insP
def caD (n : Nat) : List Ins := (List.range n).map insC
def qD (n : Nat) : List Ins := caD n ++ [insH]

theorem prD_len (n : Nat) : (prD n).length = n := by simp [prD]
theorem caD_len (n : Nat) : (caD n).length = n := by simp [caD]
theorem qD_len (n : Nat) : (qD n).length = n + 1 := by simp [qD, caD_len]
theorem prD_at {n i : Nat} (h : i < n) : (prD n).getD i default = insP i := by
  rw [List.getD_eq_getElem?_getD]; simp [prD, h]
theorem qD_at {n i : Nat} (h : i < n) : (qD n).getD i default = insC i := by
  rw [List.getD_eq_getElem?_getD]; simp [qD, caD, List.getElem?_append, h]
theorem qD_end (n : Nat) : (qD n).getD n default = insH := by
  rw [List.getD_eq_getElem?_getD]; simp [qD, caD]

def sP (i : Nat) : Run := ⟨⟨(List.range i).map (fun j : Nat => vNum j), [], List.replicate 16 default, [], i⟩, i, false, 0⟩
def sC (i : Nat) : Run := ⟨⟨[], (List.range i).map (fun j : Nat => (j : Int) + 1), List.replicate 16 default, [], i⟩, i, false, 0⟩

theorem exP (i : Nat) (c : Cfg) : exec [] (insP i) c = pushV (vNum i) c := rfl
theorem exC (i : Nat) (c : Cfg) : exec [] (insC i) c = if c.calls.length < 16 then .go { c with calls := c.calls ++ [c.at_], at_ := (i : Int) + 1 } else .stop 40 := rfl
theorem exH (c : Cfg) : exec [] insH c = .halt c := rfl

section
variable {n i : Nat}
theorem stP (hi : i + 1 < n) (h : i < 64) : stepS (prD n) [] (sP i) = sP (i + 1) := by
  have e : exec [] ((prD n).getD (sP i).c.at_.toNat default) { (sP i).c with at_ := (sP i).c.at_ + 1 } = .go (sP (i + 1)).c := by
    show exec [] ((prD n).getD ((i : Int).toNat) default) _ = _
    rw [Int.toNat_natCast, prD_at (by omega), exP, pushV]
    rw [if_pos (by simp [sP, h])]
    simp [sP, List.range_succ]
  rw [stepS_go e]
  show (⟨(sP (i + 1)).c, i + 1, decide (((i + 1 : Nat) : Int) = (prD n).length), 0⟩ : Run) = _
  rw [prD_len, decide_eq_false (by omega)]; rfl
theorem stPe (hi : i + 1 = n) (h : i < 64) : stepS (prD n) [] (sP i) = ⟨(sP (i + 1)).c, n, true, 0⟩ := by
  have e : exec [] ((prD n).getD (sP i).c.at_.toNat default) { (sP i).c with at_ := (sP i).c.at_ + 1 } = .go (sP (i + 1)).c := by
    show exec [] ((prD n).getD ((i : Int).toNat) default) _ = _
    rw [Int.toNat_natCast, prD_at (by omega), exP, pushV]
    rw [if_pos (by simp [sP, h])]
    simp [sP, List.range_succ]
  rw [stepS_go e]
  show (⟨(sP (i + 1)).c, i + 1, decide (((i + 1 : Nat) : Int) = (prD n).length), 0⟩ : Run) = _
  rw [prD_len, decide_eq_true (by omega), hi]
theorem stPo (hi : i < n) (h : ¬ i < 64) : stepS (prD n) [] (sP i) = ⟨(sP i).c, i + 1, true, 40⟩ := by
  have e : exec [] ((prD n).getD (sP i).c.at_.toNat default) { (sP i).c with at_ := (sP i).c.at_ + 1 } = .stop 40 := by
    show exec [] ((prD n).getD ((i : Int).toNat) default) _ = _
    rw [Int.toNat_natCast, prD_at hi, exP, pushV]
    rw [if_neg (by simp [sP]; omega)]
  rw [stepS_stop e]; rfl
theorem goP : ∀ i, i < n → i ≤ 64 → raw (prD n) [] i start = sP i ∧ Goes (prD n) [] i start
  | 0, _, _ => ⟨rfl, Goes.zero rfl⟩
  | i + 1, h1, h2 => by
    obtain ⟨r, g⟩ := goP i (by omega) (by omega)
    have hs := stP (n := n) (i := i) h1 (by omega)
    refine ⟨by rw [raw_add i 1, r]; exact hs, g.add ?_⟩
    rw [r]
    exact Goes.succ rfl (by rw [hs]; exact Goes.zero rfl)

theorem stC (hi : i < n) (h : i < 16) : stepS (qD n) [] (sC i) = sC (i + 1) := by
  have e : exec [] ((qD n).getD (sC i).c.at_.toNat default) { (sC i).c with at_ := (sC i).c.at_ + 1 } = .go (sC (i + 1)).c := by
    show exec [] ((qD n).getD ((i : Int).toNat) default) _ = _
    rw [Int.toNat_natCast, qD_at hi, exC]
    rw [if_pos (by simp [sC, h])]
    simp [sC, List.range_succ]
  rw [stepS_go e]
  show (⟨(sC (i + 1)).c, i + 1, decide (((i + 1 : Nat) : Int) = (qD n).length), 0⟩ : Run) = _
  rw [qD_len, decide_eq_false (by omega)]; rfl
theorem stCo (hi : i < n) (h : ¬ i < 16) : stepS (qD n) [] (sC i) = ⟨(sC i).c, i + 1, true, 40⟩ := by
  have e : exec [] ((qD n).getD (sC i).c.at_.toNat default) { (sC i).c with at_ := (sC i).c.at_ + 1 } = .stop 40 := by
    show exec [] ((qD n).getD ((i : Int).toNat) default) _ = _
    rw [Int.toNat_natCast, qD_at hi, exC]
    rw [if_neg (by simp [sC]; omega)]
  rw [stepS_stop e]; rfl
theorem stCe : stepS (qD n) [] (sC n) = ⟨{ (sC n).c with at_ := (n : Int) + 1 }, n + 1, true, 0⟩ := by
  have e : exec [] ((qD n).getD (sC n).c.at_.toNat default) { (sC n).c with at_ := (sC n).c.at_ + 1 } = .halt { (sC n).c with at_ := (n : Int) + 1 } := by
    show exec [] ((qD n).getD ((n : Int).toNat) default) _ = _
    rw [Int.toNat_natCast, qD_end, exH]; rfl
  rw [stepS_halt e]; rfl
theorem goC : ∀ i, i ≤ n → i ≤ 16 → raw (qD n) [] i start = sC i ∧ Goes (qD n) [] i start
  | 0, _, _ => ⟨rfl, Goes.zero rfl⟩
  | i + 1, h1, h2 => by
    obtain ⟨r, g⟩ := goC i (by omega) (by omega)
    have hs := stC (n := n) (i := i) (by omega) (by omega)
    refine ⟨by rw [raw_add i 1, r]; exact hs, g.add ?_⟩
    rw [r]
    exact Goes.succ rfl (by rw [hs]; exact Goes.zero rfl)
end

theorem check_of {p : List Ins} (h1 : 1 ≤ p.length) (h2 : p.length ≤ 256) (h : ∀ x ∈ p, insOK p.length x = true) : checkErr p = 0 := by
  unfold checkErr
  rw [if_neg (by omega), if_neg]
  have : p.any (fun x => !insOK p.length x) = false := by
    rw [List.any_eq_false]; intro x hx; rw [h x hx]; simp
  rw [← idxP_nonneg] at this
  exact of_decide_eq_false this

theorem checkP (n : Nat) (h1 : 1 ≤ n) (h2 : n ≤ 200) : checkErr (prD n) = 0 := by
  refine check_of (by rw [prD_len]; exact h1) (by rw [prD_len]; omega) fun x hx => ?_
  simp only [prD, List.mem_map, List.mem_range] at hx
  obtain ⟨i, hi, rfl⟩ := hx
  rfl
theorem checkC (n : Nat) (h1 : 1 ≤ n) (h2 : n ≤ 200) : checkErr (qD n) = 0 := by
  refine check_of (by rw [qD_len]; omega) (by rw [qD_len]; omega) fun x hx => ?_
  rw [qD_len]
  simp only [qD, caD, List.mem_append, List.mem_map, List.mem_range, List.mem_singleton] at hx
  rcases hx with ⟨i, hi, rfl⟩ | rfl
  · have e : insOK ((n + 1 : Nat) : Int) (insC i) = decide (0 ≤ (i : Int) + 1 ∧ (i : Int) + 1 < ((n + 1 : Nat) : Int)) := rfl
    rw [e]
    exact decide_eq_true ⟨by omega, by omega⟩
  · rfl

theorem emptyGood' : treeGood [] = true := by kernel_rfl
/-- What comes of so many values. -/
theorem values_law (n : Nat) (h1 : 1 ≤ n) (h2 : n ≤ 200) : (n ≤ 64 → ∃ l, runM (prD n) [] = (l, n, 0)) ∧ (64 < n → ∃ l, runM (prD n) [] = (l, 65, 40)) := by
  constructor
  · intro h
    obtain ⟨i, rfl⟩ : ∃ i, n = i + 1 := ⟨n - 1, by omega⟩
    obtain ⟨r, g⟩ := goP (n := i + 1) i (by omega) (by omega)
    have hs := stPe (n := i + 1) (i := i) rfl (by omega)
    rw [← r] at hs
    have h3 := runS_ends i start g (by rw [start_steps]; omega) (by rw [hs]) (4096 - i - 1)
    rw [show i + (4096 - i - 1 + 1) = 4096 by omega, hs] at h3
    have h4 := runM_of (checkP _ h1 h2) emptyGood' h3
    exact ⟨_, h4⟩
  · intro h
    obtain ⟨r, g⟩ := goP (n := n) 64 (by omega) (by omega)
    have hs := stPo (n := n) (i := 64) (by omega) (by omega)
    rw [← r] at hs
    have h3 := runS_ends 64 start g (by rw [start_steps]; omega) (by rw [hs]) 4031
    rw [show 64 + (4031 + 1) = 4096 by omega, hs] at h3
    have h4 := runM_of (checkP _ h1 h2) emptyGood' h3
    exact ⟨_, h4⟩
/-- What comes of so many calls. -/
theorem calls_law (n : Nat) (h1 : 1 ≤ n) (h2 : n ≤ 200) : (n ≤ 16 → ∃ l, runM (qD n) [] = (l, n + 1, 0)) ∧ (16 < n → ∃ l, runM (qD n) [] = (l, 17, 40)) := by
  constructor
  · intro h
    obtain ⟨r, g⟩ := goC (n := n) n (Nat.le_refl _) h
    have hs := stCe (n := n)
    rw [← r] at hs
    have h3 := runS_ends n start g (by rw [start_steps]; omega) (by rw [hs]) (4096 - n - 1)
    rw [show n + (4096 - n - 1 + 1) = 4096 by omega, hs] at h3
    have h4 := runM_of (checkC _ h1 h2) emptyGood' h3
    exact ⟨_, h4⟩
  · intro h
    obtain ⟨r, g⟩ := goC (n := n) 16 (by omega) (by omega)
    have hs := stCo (n := n) (i := 16) h (by omega)
    rw [← r] at hs
    have h3 := runS_ends 16 start g (by rw [start_steps]; omega) (by rw [hs]) 4079
    rw [show 16 + (4079 + 1) = 4096 by omega, hs] at h3
    have h4 := runM_of (checkC _ h1 h2) emptyGood' h3
    exact ⟨_, h4⟩
end Go.Proofs.YtndpgdegcbaigaaGreatDoor

namespace Go.Proofs.YtndpgdegcbaigaaGreatDoor
open Go Go.RowKit

/-- Two rows of the call's own that hold other things are two. -/
theorem own_apart {w : World} {base b2 : Nat} {e e2 : TypeId} {k k2 n n2 : Nat} {v v2 : Value} {xs ys : List Value} {a b : Value} (h : w.ownsRow base e k v n xs) (h2 : w.ownsRow b2 e2 k2 v2 n2 ys) (hx : xs[0]? = some a) (hy : ys[0]? = some b) (hab : a ≠ b) : ∀ g, v.ownBlock = some g → v2.ownBlock ≠ some g := fun g hg hg2 => by
  have h3 := h.cells hg 0 a hx
  have h4 := h2.cells hg2 0 b hy
  rw [h3] at h4
  exact hab (Option.some.inj h4)

theorem apart2 {w : World} {base b2 : Nat} {e e2 : TypeId} {k k2 n n2 : Nat} {v v2 : Value} {xs ys : List Value} {a b : Value} (h : w.ownsRow base e k v n xs) (h2 : w.ownsRow b2 e2 k2 v2 n2 ys) (hx : v.ownBlock = none ∨ xs[0]? = some a) (hy : v2.ownBlock = none ∨ ys[0]? = some b) (hab : a ≠ b) : v.ownBlock = none ∨ v.ownBlock ≠ v2.ownBlock := by
  cases hv : v.ownBlock with
  | none => exact .inl rfl
  | some g =>
    refine .inr fun e => ?_
    rcases hx with hx | hx
    · rw [hv] at hx; cases hx
    · rcases hy with hy | hy
      · rw [hy] at e; cases e
      · exact own_apart h h2 hx hy hab g hv e.symm

theorem ext_grown_own {w W w' : World} {base : Nat} {e : TypeId} {k n : Nat} {v : Value} {xs : List Value} (h : W.ownsRow base e k v n xs) (hE : Ext w W) (hb : w.heap.size ≤ base) (hg : W.grownBy w' v.ownBlock) : Ext w w' :=
  Below.grown hE hg hE.size (fun g hgg => Nat.le_trans hb (h.lt g hgg).1)

theorem newins_cells (w : World) (x : Ins) (j : Nat) (u : Value) (hu : (TIns.enc x)[j]? = some u) :
    (w.alloc (.cells #[.int .i64 x.op, .int .i64 x.n, .string x.s] 38)).cell? ((⟨w.heap.size, 0, none⟩ : Addr).add j) = some u := by
  have hb : (w.alloc (.cells #[.int .i64 x.op, .int .i64 x.n, .string x.s] 38)).heap[w.heap.size]? = some (.cells #[.int .i64 x.op, .int .i64 x.n, .string x.s] 38 (0, 0)) := heap_alloc_new w _
  rw [Addr.add_lit, Nat.zero_add, cell_of_row _ _ _ _ _ (0, 0) hb]
  simpa [TIns] using hu

theorem prD_succ (i : Nat) : (prD (i + 1)).flatMap TIns.enc = (prD i).flatMap TIns.enc ++ TIns.enc (insP i) := by
  simp [prD, List.range_succ]
theorem caD_succ (i : Nat) : (caD (i + 1)).flatMap TIns.enc = (caD i).flatMap TIns.enc ++ TIns.enc (insC i) := by
  simp [caD, List.range_succ]
theorem prD_head (i : Nat) : ((prD (i + 1)).flatMap TIns.enc)[0]? = some (.int .i64 2) := by
  simp [prD, List.range_succ_eq_map, TIns, insP]
theorem caD_head (i : Nat) : ((caD (i + 1)).flatMap TIns.enc)[0]? = some (.int .i64 19) := by
  simp [caD, List.range_succ_eq_map, TIns, insC]

theorem int2_ne : Value.int .i64 2 ≠ Value.int .i64 19 := by intro h; cases h

/-- What the loop has built: two rows. -/
structure Built (w : World) (i : Nat) (s3 s4 : Value) (wr : World) : Prop where
  ext : Ext w wr
  p : wr.ownsRow w.heap.size 38 3 s3 i ((prD i).flatMap TIns.enc)
  c : wr.ownsRow w.heap.size 38 3 s4 i ((caD i).flatMap TIns.enc)

theorem Built.head {w wr : World} {i : Nat} {s3 s4 : Value} (h : (i = 0 → s3 = .slice none 0 0 ∧ s4 = .slice none 0 0) ∧ Built w i s3 s4 wr) : (s3.ownBlock = none ∨ ((prD i).flatMap TIns.enc)[0]? = some (.int .i64 2)) ∧ (s4.ownBlock = none ∨ ((caD i).flatMap TIns.enc)[0]? = some (.int .i64 19)) := by
  cases i with
  | zero => obtain ⟨h1, h2⟩ := h.1 rfl; exact ⟨.inl (by rw [h1]; rfl), .inl (by rw [h2]; rfl)⟩
  | succ i => exact ⟨.inr (prD_head i), .inr (caD_head i)⟩

/-- One value more on the first row. -/
theorem Built.first {w wr w3 : World} {i : Nat} {s3 s4 v3 : Value} {o : Obj} (h : (i = 0 → s3 = .slice none 0 0 ∧ s4 = .slice none 0 0) ∧ Built w i s3 s4 wr) (hown : w3.ownsRow w.heap.size 38 3 v3 (i + 1) ((prD i).flatMap TIns.enc ++ TIns.enc (insP i))) (hg : (wr.alloc o).grownBy w3 s3.ownBlock) :
    Ext w w3 ∧ w3.ownsRow w.heap.size 38 3 v3 (i + 1) ((prD (i + 1)).flatMap TIns.enc) ∧ w3.ownsRow w.heap.size 38 3 s4 i ((caD i).flatMap TIns.enc) := by
  obtain ⟨a1, a2⟩ := Built.head h
  refine ⟨ext_grown_own (h.2.p.alloc o) (h.2.ext.trans (Ext.alloc _ _)) (Nat.le_refl _) hg, by rw [prD_succ]; exact hown, ?_⟩
  exact (h.2.c.alloc o).kept hg (apart2 h.2.c h.2.p a2 a1 (fun e => int2_ne e.symm))
/-- .. and on the second one. -/
theorem Built.second {w w3 w4 : World} {i : Nat} {s4 v3 v4 : Value} {o : Obj} (h0 : i = 0 → s4 = .slice none 0 0) (hE : Ext w w3) (hp : w3.ownsRow w.heap.size 38 3 v3 (i + 1) ((prD (i + 1)).flatMap TIns.enc)) (hc : w3.ownsRow w.heap.size 38 3 s4 i ((caD i).flatMap TIns.enc))
    (hown : w4.ownsRow w.heap.size 38 3 v4 (i + 1) ((caD i).flatMap TIns.enc ++ TIns.enc (insC i))) (hg : (w3.alloc o).grownBy w4 s4.ownBlock) : Built w (i + 1) v3 v4 w4 := by
  refine ⟨ext_grown_own (hc.alloc o) (hE.trans (Ext.alloc _ _)) (Nat.le_refl _) hg, ?_, by rw [caD_succ]; exact hown⟩
  refine (hp.alloc o).kept hg (apart2 hp hc (.inr (prD_head i)) ?_ int2_ne)
  cases i with
  | zero => exact .inl (by rw [h0 rfl]; rfl)
  | succ i => exact .inr (caD_head i)

theorem none_block {v : Value} {w : World} {base : Nat} {e : TypeId} {k : Nat} (h : w.ownsRow base e k v 0 []) (hv : v = .slice none 0 0) : v.ownBlock = none := by subst hv; rfl

theorem arr_own {w : World} {base n : Nat} {v : Value} {xs : List Ins} (hn : xs.length = n) (h : w.ownsRow base 38 3 v n (xs.flatMap TIns.enc)) : ∃ a c, v = .slice a n c ∧ Arr TIns w a n c xs := by
  have h2 := h.2
  rcases h2 with ⟨rfl, rfl⟩ | ⟨g, cap, cur, rfl, _, _, _, _, _, _⟩
  · exact ⟨none, 0, rfl, Arr.of_own (T := TIns) hn h⟩
  · exact ⟨some ⟨g, 0, none⟩, cap, rfl, Arr.of_own (T := TIns) hn h⟩

/-- The halt behind the calls. -/
theorem Built.halt {w wr w5 : World} {i : Nat} {s3 s4 v5 : Value} {o : Obj} (h : (i = 0 → s3 = .slice none 0 0 ∧ s4 = .slice none 0 0) ∧ Built w i s3 s4 wr) (hown : w5.ownsRow w.heap.size 38 3 v5 (i + 1) ((caD i).flatMap TIns.enc ++ TIns.enc insH)) (hg : (wr.alloc o).grownBy w5 s4.ownBlock) :
    Ext w w5 ∧ (∃ a c, s3 = .slice a i c ∧ Arr TIns w5 a i c (prD i)) ∧ (∃ a c, v5 = .slice a (i + 1) c ∧ Arr TIns w5 a (i + 1) c (qD i)) := by
  obtain ⟨a1, a2⟩ := Built.head h
  have hp : w5.ownsRow w.heap.size 38 3 s3 i ((prD i).flatMap TIns.enc) := (h.2.p.alloc o).kept hg (apart2 h.2.p h.2.c a1 a2 int2_ne)
  have hq : w5.ownsRow w.heap.size 38 3 v5 (i + 1) ((qD i).flatMap TIns.enc) := by
    rw [qD, List.flatMap_append]; simpa using hown
  exact ⟨ext_grown_own (h.2.c.alloc o) (h.2.ext.trans (Ext.alloc _ _)) (Nat.le_refl _) hg, arr_own (prD_len i) hp, arr_own (qD_len i) hq⟩

theorem prD_in (n : Nat) (h : n ≤ 200) : ∀ x ∈ prD n, inI x.n := by
  intro x hx
  simp only [prD, List.mem_map, List.mem_range] at hx
  obtain ⟨i, hi, rfl⟩ := hx
  show inI ((i : Nat) : Int)
  unfold inI; omega
theorem qD_in (n : Nat) (h : n ≤ 200) : ∀ x ∈ qD n, inI x.n := by
  intro x hx
  simp only [qD, caD, List.mem_append, List.mem_map, List.mem_range, List.mem_singleton] at hx
  rcases hx with ⟨i, hi, rfl⟩ | rfl
  · show inI ((i : Int) + 1)
    unfold inI; omega
  · constructor <;> decide
theorem runP (W : World) (n : Nat) (hn : n ≤ 200) (a : Option Addr) (c : Nat) (hA : Arr TIns W a n c (prD n)) (hg : Globals W) {k : Nat} {x : Int} (hr : ∃ l, runM (prD n) [] = (l, k, x)) : Calls Tryz.prog 15 #[.slice a n c, .agg #[.slice none 0 0]] W (EndN W k x) := by
  obtain ⟨l, hr⟩ := hr
  have h := Run_done (prog := prD n) (view := []) a none c 0 (by rw [prD_len]; exact hA) (nil_files _) (prD_in n hn) (by simp) (by simp) hg
  rw [hr, prD_len] at h
  refine Calls.mono h ?_
  rintro e w' ⟨a, c, rfl, h1, h2, _⟩
  exact ⟨a, _, c, rfl, h2⟩
theorem runQ (W : World) (n : Nat) (hn : n ≤ 200) (a : Option Addr) (c : Nat) (hA : Arr TIns W a (n + 1) c (qD n)) (hg : Globals W) {k : Nat} {x : Int} (hr : ∃ l, runM (qD n) [] = (l, k, x)) : Calls Tryz.prog 15 #[.slice a (n + 1) c, .agg #[.slice none 0 0]] W (EndN W k x) := by
  obtain ⟨l, hr⟩ := hr
  have h := Run_done (prog := qD n) (view := []) a none c 0 (by rw [qD_len]; exact hA) (nil_files _) (qD_in n hn) (by simp) (by simp) hg
  rw [hr, qD_len] at h
  refine Calls.mono h ?_
  rintro e w' ⟨a, c, rfl, h1, h2, _⟩
  exact ⟨a, _, c, rfl, h2⟩

set_option maxHeartbeats 8000000 in
set_option maxRecDepth 100000 in
theorem VmDepths_calls (n : Int) (hn : inI n) (w : World) (hg : Globals w) : Calls Tryz.prog 11 #[.int .i64 n] w fun e w' => e = .returned (.bool true) ∧ Ext w w' := by
  have G := aside hg
  clear hg
  unfold inI at hn
  by_cases h0 : n < 1
  · go_enter Tryz.func11, Tryz.ntmps11
    go_wp2_with (go_at_call 13; refine (alive_calls w G.out).mono ?_; rintro e w1 ⟨rfl, hE⟩; have E1 := aside hE; clear hE)
    exact bodyPost_ret (v := .bool true) (by simp [results, Tryz.results11, go_sem]) rfl ⟨rfl, E1.out⟩
  · by_cases h1 : 200 < n
    · go_enter Tryz.func11, Tryz.ntmps11
      go_wp2_with (go_at_call 13; refine (alive_calls w G.out).mono ?_; rintro e w1 ⟨rfl, hE⟩; have E1 := aside hE; clear hE)
      exact bodyPost_ret (v := .bool true) (by simp [results, Tryz.results11, go_sem]) rfl ⟨rfl, E1.out⟩
    · obtain ⟨m, rfl⟩ : ∃ m : Nat, n = m := ⟨n.toNat, by omega⟩
      have hm1 : 1 ≤ m := by omega
      have hm2 : m ≤ 200 := by omega
      go_enter Tryz.func11, Tryz.ntmps11
      go_wp2_with (go_at_call 13; refine (alive_calls w G.out).mono ?_; rintro e w1 ⟨rfl, hE⟩; have E1 := aside hE; clear hE)
      obtain ⟨i0, hi, hz0, hz1, hz2⟩ := info_parts Tryz.infoCloneIns
      go_loopg [3, 4, 5] m (fun gg s3 s4 s5 wr => ∃ (i : Nat), i ≤ m ∧ m - i ≤ gg ∧ s5 = .int .i64 i ∧ Aside ((i = 0 → s3 = .slice none 0 0 ∧ s4 = .slice none 0 0) ∧ Built w1 i s3 s4 wr))
      case atStart => exact ⟨0, Nat.zero_le _, by omega, rfl, (show Aside _ from ⟨fun _ => ⟨rfl, rfl⟩, Ext.refl _, World.ownsRow_nil _ _ _ _, World.ownsRow_nil _ _ _ _⟩)⟩
      case round =>
        obtain ⟨i, him, hgg, rfl, B⟩ := hrel
        by_cases hlt : i < m
        · have hltz : (i : Int) < (m : Int) := by omega
          go_wp2_with (first
            | (at_builtin; refine wpList_append_own _ rfl (.tmp 25) (.tmp 28) 22 rfl w1.heap.size 38 i0 _ 3 32 Tryz.underlying22 hi hz0 hz1 hz2 rfl (by decide) _ _ _ rfl (B.out.2.p.alloc _) ⟨_, 0, none⟩ 1 1 (TIns.enc (insP i)) rfl rfl (fun j u hu => newins_cells _ (insP i) j u hu) (fun v hv => TIns.one (insP i) v hv) (by unfold maxLen; omega) (by omega) (Nat.le_trans B.out.2.ext.size (Ext.alloc _ _).size) ?_; intro v3 w3 hown3 hgrow3 _; have F3 := aside (Built.first B.out hown3 hgrow3); clear hown3 hgrow3)
            | (at_builtin; refine wpList_append_own _ rfl (.tmp 30) (.tmp 34) 22 rfl w1.heap.size 38 i0 _ 3 32 Tryz.underlying22 hi hz0 hz1 hz2 rfl (by decide) _ _ _ rfl (F3.out.2.2.alloc _) ⟨_, 0, none⟩ 1 1 (TIns.enc (insC i)) rfl rfl (fun j u hu => newins_cells _ (insC i) j u hu) (fun v hv => TIns.one (insC i) v hv) (by unfold maxLen; omega) (by omega) (Nat.le_trans F3.out.1.size (Ext.alloc _ _).size) ?_; intro v4 w4 hown4 hgrow4 _; have F4 := aside (Built.second (fun h => (B.out.1 h).2) F3.out.1 F3.out.2.1 F3.out.2.2 hown4 hgrow4); clear hown4 hgrow4))
          go_roundg (m - (i + 1))
          case measure => omega
          case rel => exact ⟨i + 1, by omega, by omega, by go_num, (show Aside _ from ⟨fun h => by omega, F4.out⟩)⟩
        · obtain rfl : i = m := by omega
          have hltz : ¬ (i : Int) < (i : Int) := by omega
          have hlt2 : i ≤ 1000 := by omega
          go_wp2_with (at_builtin; refine wpList_append_own _ rfl (.tmp 36) (.tmp 38) 22 rfl w1.heap.size 38 i0 _ 3 32 Tryz.underlying22 hi hz0 hz1 hz2 rfl (by decide) _ _ _ rfl (B.out.2.c.alloc _) ⟨_, 0, none⟩ 1 1 (TIns.enc insH) rfl rfl (fun j u hu => newins_cells _ insH j u hu) (fun v hv => TIns.one insH v hv) (by unfold maxLen; omega) (by omega) (Nat.le_trans B.out.2.ext.size (Ext.alloc _ _).size) ?_; intro v5 w5 hown5 hgrow5 _; have F5 := aside (Built.halt B.out hown5 hgrow5); clear hown5 hgrow5)
          obtain ⟨hE5, ⟨a3, c3, hs3, hA3⟩, ⟨a5, c5, hs5, hA5⟩⟩ := F5.out
          subst hs3
          subst hs5
          have A3 := aside hA3
          have A5 := aside hA5
          have E5 := aside hE5
          clear hA3 hA5 hE5
          by_cases h16 : i ≤ 16
          · as_aux_lemma =>
              have z16 : (i : Int) ≤ 16 := by omega
              have z64 : (i : Int) ≤ 64 := by omega
              have hP := aside ((values_law i hm1 hm2).1 (by omega))
              have hQ := aside ((calls_law i hm1 hm2).1 h16)
              refine (runP w5 i hm2 a3 c3 A3.out (G.out.ext (E1.out.trans E5.out)) hP.out).mono ?_
              rintro e w6 ⟨a6, k6, c6, rfl, hE6⟩
              go_wp2_with (go_at_call 15; refine (runQ _ i hm2 a5 c5 (A5.out.below (show Ext w5 _ by ((repeat (first | exact Ext.refl _ | assumption | refine Ext.drew' ?_ | refine Ext.alloc' ?_ _ | (with_reducible refine Ext.trans ?_ (Ext.drewN _ _)) | refine Ext.trans ?_ (by assumption))); done))) (G.out.ext ((E1.out.trans E5.out).trans (show Ext w5 _ by ((repeat (first | exact Ext.refl _ | assumption | refine Ext.drew' ?_ | refine Ext.alloc' ?_ _ | (with_reducible refine Ext.trans ?_ (Ext.drewN _ _)) | refine Ext.trans ?_ (by assumption))); done)))) hQ.out).mono ?_; rintro e w7 ⟨a7, k7, c7, rfl, hE7⟩; have E7 := aside ((E1.out.trans E5.out).trans (show Ext w5 w7 from Ext.trans (by ((repeat (first | exact Ext.refl _ | assumption | refine Ext.drew' ?_ | refine Ext.alloc' ?_ _ | (with_reducible refine Ext.trans ?_ (Ext.drewN _ _)) | refine Ext.trans ?_ (by assumption))); done)) hE7)))
              exact bodyPost_ret (v := .bool true) (by simp [results, Tryz.results11, go_sem] <;> omega) rfl ⟨rfl, E7.out.trans (Ext.alloc _ _)⟩
          · by_cases h64 : i ≤ 64
            · as_aux_lemma =>
              have z16 : ¬ (i : Int) ≤ 16 := by omega
              have z64 : (i : Int) ≤ 64 := by omega
              have hP := aside ((values_law i hm1 hm2).1 h64)
              have hQ := aside ((calls_law i hm1 hm2).2 (by omega))
              refine (runP w5 i hm2 a3 c3 A3.out (G.out.ext (E1.out.trans E5.out)) hP.out).mono ?_
              rintro e w6 ⟨a6, k6, c6, rfl, hE6⟩
              go_wp2_with (go_at_call 15; refine (runQ _ i hm2 a5 c5 (A5.out.below (show Ext w5 _ by ((repeat (first | exact Ext.refl _ | assumption | refine Ext.drew' ?_ | refine Ext.alloc' ?_ _ | (with_reducible refine Ext.trans ?_ (Ext.drewN _ _)) | refine Ext.trans ?_ (by assumption))); done))) (G.out.ext ((E1.out.trans E5.out).trans (show Ext w5 _ by ((repeat (first | exact Ext.refl _ | assumption | refine Ext.drew' ?_ | refine Ext.alloc' ?_ _ | (with_reducible refine Ext.trans ?_ (Ext.drewN _ _)) | refine Ext.trans ?_ (by assumption))); done)))) hQ.out).mono ?_; rintro e w7 ⟨a7, k7, c7, rfl, hE7⟩; have E7 := aside ((E1.out.trans E5.out).trans (show Ext w5 w7 from Ext.trans (by ((repeat (first | exact Ext.refl _ | assumption | refine Ext.drew' ?_ | refine Ext.alloc' ?_ _ | (with_reducible refine Ext.trans ?_ (Ext.drewN _ _)) | refine Ext.trans ?_ (by assumption))); done)) hE7)))
              exact bodyPost_ret (v := .bool true) (by simp [results, Tryz.results11, go_sem] <;> omega) rfl ⟨rfl, E7.out.trans (Ext.alloc _ _)⟩
            · as_aux_lemma =>
              have z16 : ¬ (i : Int) ≤ 16 := by omega
              have z64 : ¬ (i : Int) ≤ 64 := by omega
              have hP := aside ((values_law i hm1 hm2).2 (by omega))
              have hQ := aside ((calls_law i hm1 hm2).2 (by omega))
              refine (runP w5 i hm2 a3 c3 A3.out (G.out.ext (E1.out.trans E5.out)) hP.out).mono ?_
              rintro e w6 ⟨a6, k6, c6, rfl, hE6⟩
              go_wp2_with (go_at_call 15; refine (runQ _ i hm2 a5 c5 (A5.out.below (show Ext w5 _ by ((repeat (first | exact Ext.refl _ | assumption | refine Ext.drew' ?_ | refine Ext.alloc' ?_ _ | (with_reducible refine Ext.trans ?_ (Ext.drewN _ _)) | refine Ext.trans ?_ (by assumption))); done))) (G.out.ext ((E1.out.trans E5.out).trans (show Ext w5 _ by ((repeat (first | exact Ext.refl _ | assumption | refine Ext.drew' ?_ | refine Ext.alloc' ?_ _ | (with_reducible refine Ext.trans ?_ (Ext.drewN _ _)) | refine Ext.trans ?_ (by assumption))); done)))) hQ.out).mono ?_; rintro e w7 ⟨a7, k7, c7, rfl, hE7⟩; have E7 := aside ((E1.out.trans E5.out).trans (show Ext w5 w7 from Ext.trans (by ((repeat (first | exact Ext.refl _ | assumption | refine Ext.drew' ?_ | refine Ext.alloc' ?_ _ | (with_reducible refine Ext.trans ?_ (Ext.drewN _ _)) | refine Ext.trans ?_ (by assumption))); done)) hE7)))
              exact bodyPost_ret (v := .bool true) (by simp [results, Tryz.results11, go_sem] <;> omega) rfl ⟨rfl, E7.out.trans (Ext.alloc _ _)⟩
end Go.Proofs.YtndpgdegcbaigaaGreatDoor
