/- A run of a machine, step by step: as long as none of its steps ends it. Plain Lean over the model. · VmLoops as plain Lean: so many steps, or no fuel left. -/
import Derived.Test.YtndpgdegcbaigaaGreatDoorQ18
namespace Go.Proofs.YtndpgdegcbaigaaGreatDoor
open Go Go.RowKit

/-- So many instructions, the fuel left aside. -/
def raw (prog : List Ins) (view : List File) : Nat → Run → Run
  | 0, s => s
  | k + 1, s => raw prog view k (stepS prog view s)

/-- None of the states ahead, up to the j-th, is an end. -/
def Goes (prog : List Ins) (view : List File) (j : Nat) (s : Run) : Prop := ∀ i, i ≤ j → (raw prog view i s).done = false

section
variable {prog : List Ins} {view : List File}

theorem stepS_go {s : Run} {c : Cfg} (h : exec view (prog.getD s.c.at_.toNat default) { s.c with at_ := s.c.at_ + 1 } = .go c) : stepS prog view s = ⟨c, s.steps + 1, decide (c.at_ = prog.length), 0⟩ := by
  unfold stepS; rw [h]
theorem stepS_halt {s : Run} {c : Cfg} (h : exec view (prog.getD s.c.at_.toNat default) { s.c with at_ := s.c.at_ + 1 } = .halt c) : stepS prog view s = ⟨c, s.steps + 1, true, 0⟩ := by
  unfold stepS; rw [h]
theorem stepS_stop {s : Run} {e : Int} (h : exec view (prog.getD s.c.at_.toNat default) { s.c with at_ := s.c.at_ + 1 } = .stop e) : stepS prog view s = ⟨s.c, s.steps + 1, true, e⟩ := by
  unfold stepS; rw [h]
theorem stepS_steps (s : Run) : (stepS prog view s).steps = s.steps + 1 := by unfold stepS; split <;> rfl
theorem raw_steps : ∀ (k : Nat) (s : Run), (raw prog view k s).steps = s.steps + k
  | 0, _ => rfl
  | k + 1, s => by rw [raw, raw_steps k, stepS_steps]; omega
theorem raw_add : ∀ (a b : Nat) (s : Run), raw prog view (a + b) s = raw prog view b (raw prog view a s)
  | 0, b, s => by rw [Nat.zero_add]; rfl
  | a + 1, b, s => by rw [show a + 1 + b = (a + b) + 1 by omega, raw, raw_add a b]; rfl

theorem Goes.add {a b : Nat} {s : Run} (h : Goes prog view a s) (k : Goes prog view b (raw prog view a s)) : Goes prog view (a + b) s := fun i hi => by
  by_cases h1 : i ≤ a
  · exact h i h1
  · have := k (i - a) (by omega)
    rw [← raw_add, show a + (i - a) = i by omega] at this
    exact this
theorem Goes.mono {a b : Nat} {s : Run} (h : Goes prog view b s) (hab : a ≤ b) : Goes prog view a s := fun i hi => h i (Nat.le_trans hi hab)
theorem Goes.zero {s : Run} (h : s.done = false) : Goes prog view 0 s := fun i hi => by
  obtain rfl : i = 0 := by omega
  exact h
theorem Goes.succ {j : Nat} {s : Run} (h : s.done = false) (k : Goes prog view j (stepS prog view s)) : Goes prog view (j + 1) s := fun i hi => by
  cases i with
  | zero => exact h
  | succ i => exact k i (by omega)
theorem Goes.tail {j : Nat} {s : Run} (h : Goes prog view (j + 1) s) : Goes prog view j (stepS prog view s) := fun i hi => h (i + 1) (by omega)

theorem tick_step {s : Run} (h : s.steps + 1 < 4096) : tickS prog view s = stepS prog view s := by
  unfold tickS
  rw [if_neg (by rw [stepS_steps]; omega)]

/-- Where the fuel lasts the run goes as its steps do. -/
theorem runS_raw : ∀ (j f : Nat) (s : Run), Goes prog view j s → s.steps + j < 4096 → runS prog view (j + f) s = runS prog view f (raw prog view j s)
  | 0, f, s, _, _ => by rw [Nat.zero_add]; rfl
  | j + 1, f, s, h, hs => by
    rw [show j + 1 + f = (j + f) + 1 by omega, runS, if_neg (by rw [show s.done = false from h 0 (by omega)]; simp), tick_step (by omega), runS_raw j f _ h.tail (by rw [stepS_steps]; omega)]
    rfl

theorem runS_ended {k : Nat} {s : Run} (h : s.done = true) : runS prog view k s = s := by
  cases k with
  | zero => rfl
  | succ k => rw [runS, if_pos h]

/-- Where it does not last. -/
theorem runS_fuel (j f : Nat) (s : Run) (h : Goes prog view (j + 1) s) (hs : s.steps + (j + 1) = 4096) : runS prog view (j + 1 + f) s = { raw prog view (j + 1) s with done := true, fault := 45 } := by
  rw [show j + 1 + f = j + (1 + f) by omega, runS_raw j (1 + f) s (h.mono (by omega)) (by omega), show 1 + f = f + 1 by omega, runS, if_neg (by rw [h j (by omega)]; simp)]
  have h1 : raw prog view (j + 1) s = stepS prog view (raw prog view j s) := by rw [raw_add j 1]; rfl
  have h2 : (stepS prog view (raw prog view j s)).done = false := by rw [← h1]; exact h (j + 1) (Nat.le_refl _)
  have h3 : (stepS prog view (raw prog view j s)).steps = 4096 := by rw [stepS_steps, raw_steps]; omega
  rw [h1]
  have ht : tickS prog view (raw prog view j s) = { stepS prog view (raw prog view j s) with done := true, fault := 45 } := by
    unfold tickS
    rw [if_pos ⟨h2, h3⟩]
  rw [ht]
  exact runS_ended rfl

theorem start_steps : start.steps = 0 := rfl
/-- From the start: none of 4096 steps ends it. -/
theorem runS_out (h : Goes prog view 4096 start) : ∃ c, runS prog view 4096 start = ⟨c, 4096, true, 45⟩ := by
  obtain ⟨j, hj⟩ : ∃ j, j + 1 = 4096 := ⟨4095, rfl⟩
  rw [← hj] at h
  have h1 := runS_fuel j 0 start h (by rw [start_steps]; omega)
  have hst : (raw prog view (j + 1) start).steps = j + 1 := by rw [raw_steps, start_steps]; omega
  rw [← hj]
  rw [Nat.add_zero] at h1
  generalize raw prog view (j + 1) start = r0 at h1 hst
  refine ⟨r0.c, h1.trans ?_⟩
  show (⟨r0.c, r0.steps, true, 45⟩ : Run) = _
  rw [hst]

/-- .. and a run that comes to its end. -/
theorem runS_ends (j : Nat) (s : Run) (h : Goes prog view j s) (hs : s.steps + j < 4096) (hd : (stepS prog view (raw prog view j s)).done = true) (f : Nat) :
    runS prog view (j + (f + 1)) s = stepS prog view (raw prog view j s) := by
  rw [runS_raw j (f + 1) s h hs, runS, if_neg (by rw [h j (Nat.le_refl _)]; simp)]
  have ht : tickS prog view (raw prog view j s) = stepS prog view (raw prog view j s) := by
    unfold tickS
    rw [if_neg (by rw [hd]; simp)]
  rw [ht]
  exact runS_ended hd

/-- What a checked program comes to, where its tree is good. -/
theorem runM_of {r : Run} (hc : checkErr prog = 0) (hv : treeGood view = true) (h : runS prog view 4096 start = r) : runM prog view = ((if r.fault = 0 then r.c.out else []), r.steps, r.fault) := by
  unfold runM
  rw [if_neg (by simp [hc]), if_neg (by simp [hv]), h]
end
end Go.Proofs.YtndpgdegcbaigaaGreatDoor

namespace Go.Proofs.YtndpgdegcbaigaaGreatDoor
open Go Go.RowKit

/-- The loop that counts down from n. -/
def prL (n : Int) : List Ins := [⟨2, n, ⟨#[]⟩⟩, ⟨8, 0, ⟨#[]⟩⟩, ⟨7, 0, ⟨#[]⟩⟩, ⟨18, 9, ⟨#[]⟩⟩, ⟨7, 0, ⟨#[]⟩⟩, ⟨2, -1, ⟨#[]⟩⟩, ⟨9, 0, ⟨#[]⟩⟩, ⟨8, 0, ⟨#[]⟩⟩, ⟨17, 2, ⟨#[]⟩⟩, ⟨1, 0, ⟨#[]⟩⟩]

def cL (m : Int) : List Val := vNum m :: List.replicate 15 default
/-- At a round's head. -/
def sL (m : Int) (k : Nat) : Run := ⟨⟨[], [], cL m, [], 2⟩, k, false, 0⟩

section
variable {n : Int}
theorem stL0 (k : Nat) : stepS (prL n) [] ⟨startC, k, false, 0⟩ = ⟨⟨[vNum n], [], List.replicate 16 default, [], 1⟩, k + 1, false, 0⟩ := rfl
theorem stL1 (k : Nat) : stepS (prL n) [] ⟨⟨[vNum n], [], List.replicate 16 default, [], 1⟩, k, false, 0⟩ = sL n (k + 1) := rfl
theorem stL2 (m : Int) (k : Nat) : stepS (prL n) [] (sL m k) = ⟨⟨[vNum m], [], cL m, [], 3⟩, k + 1, false, 0⟩ := rfl
theorem stL3 (m : Int) (k : Nat) (h : m ≠ 0) : stepS (prL n) [] ⟨⟨[vNum m], [], cL m, [], 3⟩, k, false, 0⟩ = ⟨⟨[], [], cL m, [], 4⟩, k + 1, false, 0⟩ := by
  have e : exec [] ((prL n).getD 3 default) ⟨[vNum m], [], cL m, [], 3 + 1⟩ = .go (if m = 0 then ⟨[], [], cL m, [], 9⟩ else ⟨[], [], cL m, [], 3 + 1⟩) := rfl
  rw [if_neg h] at e
  exact (stepS_go (s := ⟨⟨[vNum m], [], cL m, [], 3⟩, k, false, 0⟩) e).trans rfl
theorem stL3z (k : Nat) : stepS (prL n) [] ⟨⟨[vNum 0], [], cL 0, [], 3⟩, k, false, 0⟩ = ⟨⟨[], [], cL 0, [], 9⟩, k + 1, false, 0⟩ := rfl
theorem stL4 (m : Int) (k : Nat) : stepS (prL n) [] ⟨⟨[], [], cL m, [], 4⟩, k, false, 0⟩ = ⟨⟨[vNum m], [], cL m, [], 5⟩, k + 1, false, 0⟩ := rfl
theorem stL5 (m : Int) (k : Nat) : stepS (prL n) [] ⟨⟨[vNum m], [], cL m, [], 5⟩, k, false, 0⟩ = ⟨⟨[vNum m, vNum (-1)], [], cL m, [], 6⟩, k + 1, false, 0⟩ := rfl
theorem stL6 (m : Int) (k : Nat) : stepS (prL n) [] ⟨⟨[vNum m, vNum (-1)], [], cL m, [], 6⟩, k, false, 0⟩ = ⟨⟨[vNum (wrap64 (m + -1))], [], cL m, [], 7⟩, k + 1, false, 0⟩ := rfl
theorem stL7 (m j : Int) (k : Nat) : stepS (prL n) [] ⟨⟨[vNum j], [], cL m, [], 7⟩, k, false, 0⟩ = ⟨⟨[], [], cL j, [], 8⟩, k + 1, false, 0⟩ := rfl
theorem stL8 (m : Int) (k : Nat) : stepS (prL n) [] ⟨⟨[], [], cL m, [], 8⟩, k, false, 0⟩ = sL m (k + 1) := rfl
theorem stL9 (k : Nat) : stepS (prL n) [] ⟨⟨[], [], cL 0, [], 9⟩, k, false, 0⟩ = ⟨⟨[], [], cL 0, [], 10⟩, k + 1, true, 0⟩ := rfl

theorem roundL (m : Nat) (k : Nat) (hm : m < 1000000) : raw (prL n) [] 7 (sL ((m + 1 : Nat) : Int) k) = sL (m : Int) (k + 7) ∧ Goes (prL n) [] 7 (sL ((m + 1 : Nat) : Int) k) := by
  have hw : wrap64 (((m + 1 : Nat) : Int) + -1) = (m : Int) := by unfold wrap64; omega
  have hne : ((m + 1 : Nat) : Int) ≠ 0 := by omega
  constructor
  · simp only [raw]
    rw [stL2, stL3 _ _ hne, stL4, stL5, stL6, hw, stL7, stL8]
  · refine Goes.succ rfl ?_
    rw [stL2]
    refine Goes.succ rfl ?_
    rw [stL3 _ _ hne]
    refine Goes.succ rfl ?_
    rw [stL4]
    refine Goes.succ rfl ?_
    rw [stL5]
    refine Goes.succ rfl ?_
    rw [stL6]
    refine Goes.succ rfl ?_
    rw [hw, stL7]
    refine Goes.succ rfl ?_
    rw [stL8]
    exact Goes.zero rfl

theorem allL : ∀ (m k : Nat), m < 1000000 → raw (prL n) [] (7 * m + 2) (sL (m : Int) k) = ⟨⟨[], [], cL 0, [], 9⟩, k + (7 * m + 2), false, 0⟩ ∧ Goes (prL n) [] (7 * m + 2) (sL (m : Int) k)
  | 0, k, _ => by
    constructor
    · show raw (prL n) [] 2 (sL 0 k) = _
      simp only [raw]
      rw [stL2, stL3z]
    · show Goes (prL n) [] 2 (sL 0 k)
      refine Goes.succ rfl ?_
      rw [stL2]
      refine Goes.succ rfl ?_
      rw [stL3z]
      exact Goes.zero rfl
  | m + 1, k, h => by
    obtain ⟨r1, g1⟩ := roundL (n := n) m k (by omega)
    obtain ⟨r2, g2⟩ := allL m (k + 7) (by omega)
    rw [show 7 * (m + 1) + 2 = 7 + (7 * m + 2) by omega]
    constructor
    · rw [raw_add, r1, r2, show k + 7 + (7 * m + 2) = k + (7 + (7 * m + 2)) by omega]
    · refine g1.add ?_
      rw [r1]; exact g2
end

/-- From its start. -/
theorem fromL (m : Nat) (h : m < 1000000) : raw (prL m) [] (2 + (7 * m + 2)) start = ⟨⟨[], [], cL 0, [], 9⟩, 2 + (7 * m + 2), false, 0⟩ ∧ Goes (prL m) [] (2 + (7 * m + 2)) start := by
  have r1 : raw (prL m) [] 2 start = sL m 2 := by
    simp only [raw]
    unfold start
    rw [stL0, stL1]
  have g1 : Goes (prL m) [] 2 start := by
    refine Goes.succ rfl ?_
    unfold start
    rw [stL0]
    refine Goes.succ rfl ?_
    rw [stL1]
    exact Goes.zero rfl
  obtain ⟨r2, g2⟩ := allL (n := m) m 2 h
  constructor
  · rw [raw_add, r1, r2]
  · refine g1.add ?_
    rw [r1]; exact g2

theorem checkL (m : Nat) : checkErr (prL m) = 0 := rfl
theorem emptyGood : treeGood [] = true := by kernel_rfl

theorem loops_out (m : Nat) (h : m ≤ 1000) (hm : 4096 < 7 * m + 5) : ∃ l, runM (prL m) [] = (l, 4096, 45) := by
  obtain ⟨r, g⟩ := fromL m (by omega)
  obtain ⟨c, h1⟩ := runS_out (prog := prL m) (view := []) (g.mono (by omega))
  have h2 := runM_of (checkL m) emptyGood h1
  refine ⟨[], h2.trans ?_⟩
  show ((if (45 : Int) = 0 then c.out else []), 4096, (45 : Int)) = _
  rw [if_neg (by decide)]
theorem loops_in (m : Nat) (h : m ≤ 1000) (hm : ¬ 4096 < 7 * m + 5) : ∃ l, runM (prL m) [] = (l, 7 * m + 5, 0) := by
  obtain ⟨r, g⟩ := fromL m (by omega)
  have h0 : stepS (prL m) [] (raw (prL m) [] (2 + (7 * m + 2)) start) = ⟨⟨[], [], cL 0, [], 10⟩, 2 + (7 * m + 2) + 1, true, 0⟩ := by rw [r, stL9]
  have h1 := runS_ends (prog := prL m) (view := []) (2 + (7 * m + 2)) start g (by rw [start_steps]; omega) (by rw [h0]) (4096 - (2 + (7 * m + 2)) - 1)
  rw [show 2 + (7 * m + 2) + (4096 - (2 + (7 * m + 2)) - 1 + 1) = 4096 by omega, h0] at h1
  have h2 := runM_of (checkL m) emptyGood h1
  refine ⟨[], h2.trans ?_⟩
  show ((if (0 : Int) = 0 then ([] : List File) else []), 2 + (7 * m + 2) + 1, (0 : Int)) = _
  rw [if_pos rfl, show 2 + (7 * m + 2) + 1 = 7 * m + 5 by omega]
/-- VmLoops, as plain Lean. -/
theorem loops_law (m : Nat) (h : m ≤ 1000) : (4096 < 7 * m + 5 → ∃ l, runM (prL m) [] = (l, 4096, 45)) ∧ (¬ 4096 < 7 * m + 5 → ∃ l, runM (prL m) [] = (l, 7 * m + 5, 0)) := ⟨loops_out m h, loops_in m h⟩
end Go.Proofs.YtndpgdegcbaigaaGreatDoor
