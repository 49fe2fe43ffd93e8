/- The machine follows its model, with no premise left; the law's own two runs (alive). · VmLoops: the walk. -/
import Derived.Test.YtndpgdegcbaigaaGreatDoorQ19
import Derived.Test.YtndpgdegcbaigaaGreatDoorQ27
import Derived.Test.YtndpgdegcbaigaaGreatDoorQ29
namespace Go.Proofs.YtndpgdegcbaigaaGreatDoor
open Go Go.RowKit

theorem Run_done {prog : List Ins} {view : List File} {w : World} (pa va : Option Addr) (pc vc : Nat) (hP : Arr TIns w pa prog.length pc prog) (hV : Arr TFile w va view.length vc view) (hn : ∀ x ∈ prog, inI x.n) (hvl : view.length ≤ 1000) (hvs : ∀ g ∈ view, g.path.size ≤ 1048576 ∧ g.data.size ≤ 1048576) (hg : Globals w) :
    Calls Tryz.prog 15 #[.slice pa prog.length pc, .agg #[.slice va view.length vc]] w (RunEnd w (runM prog view)) :=
  Run_calls good_done get_says put_says pa va pc vc hP hV hn hvl hvs hg

/-- A row that was just laid reads as its list. -/
theorem arr_laid {α : Type} (T : Ty α) (xs : List α) (w W : World) (t : TypeId) (cur : Array Value) (hc : cur.toList = xs.flatMap T.enc) (hl : xs.length ≤ maxLen) (hE : Ext (w.alloc (.cells cur t)) W) : Arr T W (some ⟨w.heap.size, 0, none⟩) xs.length xs.length xs := by
  have hb : W.heap[w.heap.size]? = some (.cells cur t (0, 0)) := by
    have h1 : (w.alloc (.cells cur t)).heap[w.heap.size]? = some (.cells cur t) := heap_alloc_new w _
    exact (hE.block _ (Array.getElem?_eq_some_iff.1 h1).1).trans h1
  refine ⟨rfl, Nat.le_refl _, hl, fun i x hx => ⟨w.heap.size, 0, rfl, fun j u hu => ?_⟩⟩
  rw [cell_of_row W _ _ cur t (0, 0) hb]
  have hj : j < T.k := by have := (List.getElem?_eq_some_iff.1 hu).1; rw [T.len] at this; exact this
  have key : ∀ (ys : List α) (i : Nat) (x : α), ys[i]? = some x → (ys.flatMap T.enc)[i * T.k + j]? = (T.enc x)[j]? := by
    intro ys
    induction ys with
    | nil => intro i x h; simp at h
    | cons y ys ih =>
      intro i x h
      cases i with
      | zero =>
        simp only [List.getElem?_cons_zero, Option.some.injEq] at h
        subst h
        rw [List.flatMap_cons, List.getElem?_append_left (by rw [T.len]; omega)]
        simp
      | succ i =>
        simp only [List.getElem?_cons_succ] at h
        rw [List.flatMap_cons, List.getElem?_append_right (by rw [T.len, Nat.succ_mul]; omega), T.len]
        rw [← ih i x h]
        congr 1
        rw [Nat.succ_mul]; omega
  have hk := key xs i x hx
  rw [hu, ← hc] at hk
  rw [Nat.zero_add]
  simpa using hk

/-- The two programs that alive runs. -/
def prA : List Ins := [⟨3, 0, ⟨#[97]⟩⟩, ⟨3, 0, ⟨#[120]⟩⟩, ⟨29, 0, ⟨#[]⟩⟩]
def prJ : List Ins := [⟨17, 0, ⟨#[]⟩⟩]

theorem prA_run : runM prA [] = ([⟨⟨#[97]⟩, ⟨#[120]⟩⟩], 3, 0) := by kernel_rfl
theorem prJ_step (n : Nat) : stepS prJ [] ⟨startC, n, false, 0⟩ = ⟨startC, n + 1, false, 0⟩ := rfl
theorem prJ_runS : ∀ (k n : Nat), n + (k + 1) = 4096 → runS prJ [] (k + 1) ⟨startC, n, false, 0⟩ = ⟨startC, 4096, true, 45⟩
  | 0, n, h => by
    unfold runS tickS
    rw [prJ_step]
    obtain rfl : n = 4095 := by omega
    rfl
  | k + 1, n, h => by
    rw [runS, if_neg (by simp)]
    have ht : tickS prJ [] ⟨startC, n, false, 0⟩ = ⟨startC, n + 1, false, 0⟩ := by
      unfold tickS
      rw [prJ_step, if_neg (by simp; omega)]
    rw [ht]
    exact prJ_runS k (n + 1) (by omega)
theorem prJ_run : runM prJ [] = ([], 4096, 45) := by
  have h : runS prJ [] 4096 start = ⟨startC, 4096, true, 45⟩ := prJ_runS 4095 0 (by omega)
  unfold runM
  rw [h]
  rw [if_neg (by decide +kernel), if_neg (by decide +kernel)]
  rfl

theorem prA_in : ∀ x ∈ prA, inI x.n := by
  intro x hx; simp [prA] at hx; rcases hx with rfl | rfl | rfl <;> (constructor <;> decide)
theorem prJ_in : ∀ x ∈ prJ, inI x.n := by
  intro x hx; simp [prJ] at hx; subst hx; constructor <;> decide

/-- What came of the first one. -/
def fileX : File := ⟨⟨#[97]⟩, ⟨#[120]⟩⟩
def EndA (W : World) (e : Ending) (w' : World) : Prop := ∃ a c, e = .returned (.tuple #[.agg #[.slice a 1 c], .int .i64 3, .int .i64 0]) ∧ Arr TFile w' a 1 c [fileX] ∧ Ext W w'
def EndJ (W : World) (e : Ending) (w' : World) : Prop := ∃ a c, e = .returned (.tuple #[.agg #[.slice a 0 c], .int .i64 4096, .int .i64 45]) ∧ Ext W w'

theorem runA (W : World) (pa : Option Addr) (pc vc : Nat) (va : Option Addr) (hP : Arr TIns W pa 3 pc prA) (hV : Arr TFile W va 0 vc []) (hg : Globals W) : Calls Tryz.prog 15 #[.slice pa 3 pc, .agg #[.slice va 0 vc]] W (EndA W) := by
  refine (Run_done (prog := prA) (view := []) pa va pc vc hP hV prA_in (by simp) (by simp) hg).mono ?_
  rw [prA_run]
  rintro e w' ⟨a, c, rfl, h1, h2, _⟩
  exact ⟨a, c, rfl, h1, h2⟩
theorem runJ (W : World) (pa : Option Addr) (pc vc : Nat) (va : Option Addr) (hP : Arr TIns W pa 1 pc prJ) (hV : Arr TFile W va 0 vc []) (hg : Globals W) : Calls Tryz.prog 15 #[.slice pa 1 pc, .agg #[.slice va 0 vc]] W (EndJ W) := by
  refine (Run_done (prog := prJ) (view := []) pa va pc vc hP hV prJ_in (by simp) (by simp) hg).mono ?_
  rw [prJ_run]
  rintro e w' ⟨a, c, rfl, h1, h2, _⟩
  exact ⟨a, c, rfl, h2⟩

theorem nil_files (W : World) : Arr TFile W none 0 0 [] := Arr.nil _ _ _ _ (by unfold maxLen; omega)

abbrev obA : Obj := .cells #[.int .i64 3, .int .i64 0, .string ⟨#[97]⟩, .int .i64 3, .int .i64 0, .string ⟨#[120]⟩, .int .i64 29, .int .i64 0, .string ⟨#[]⟩] 38
abbrev obJ : Obj := .cells #[.int .i64 17, .int .i64 0, .string ⟨#[]⟩] 38
theorem lenA : prA.length ≤ maxLen := by unfold maxLen prA; simp
theorem lenJ : prJ.length ≤ maxLen := by unfold maxLen prJ; simp
theorem runA' (W : World) (hg : Globals W) : Calls Tryz.prog 15 #[.slice (some ⟨W.heap.size, 0, none⟩) 3 3, .agg #[.slice none 0 0]] (W.alloc obA) (EndA (W.alloc obA)) :=
  runA _ _ _ _ _ (arr_laid TIns prA W _ 38 _ rfl lenA (Ext.refl _)) (nil_files _) (hg.ext (Ext.alloc _ _))
theorem runJ' (W : World) (hg : Globals W) : Calls Tryz.prog 15 #[.slice (some ⟨W.heap.size, 0, none⟩) 1 1, .agg #[.slice none 0 0]] (W.alloc obJ) (EndJ (W.alloc obJ)) :=
  runJ _ _ _ _ _ (arr_laid TIns prJ W _ 38 _ rfl lenJ (Ext.refl _)) (nil_files _) (hg.ext (Ext.alloc _ _))

set_option maxHeartbeats 4000000 in
set_option maxRecDepth 20000 in
theorem alive_calls (w : World) (hg : Globals w) : Calls Tryz.prog 13 #[] w fun e w' => e = .returned (.bool true) ∧ Ext w w' := by
  have G := aside hg
  clear hg
  go_enter Tryz.func13, Tryz.ntmps13
  go_wp2_with fail
  go_at_call 15
  refine (runA' w G.out).mono ?_
  rintro e w1 ⟨a1, c1, rfl, hA1, hE1⟩
  obtain ⟨b, o, x, ha, hx, x0, x1⟩ := hA1.file (i := 0) (by decide)
  have hxf : x = fileX := (Option.some.inj hx).symm
  subst hxf
  subst ha
  have lb : b < w1.heap.size := World.block_lt_of_cell? _ _ x1
  simp only [Nat.zero_mul, Nat.add_zero] at x0 x1
  have E1 := aside ((Ext.alloc w _).trans hE1)
  clear hx hA1 hE1
  go_wp2_with fail
  go_at_call 15
  go_wp2_with fail
  go_at_call 15
  have cJ := runJ' (w1.alloc (.cells #[.slice (some ⟨b, o, none⟩) 1 c1] 25)) (G.out.ext (E1.out.trans (Ext.alloc _ _)))
  rw [World.size_alloc] at cJ
  refine cJ.mono ?_
  clear cJ
  rintro e w2 ⟨a2, c2, rfl, hE2⟩
  obtain ⟨t1, t2, t3⟩ := new_kept ((Ext.alloc _ _).trans hE2) (new_block w1 (.cells #[.slice (some ⟨b, o, none⟩) 1 c1] 25) _ rfl)
  have E2 := aside ((Ext.alloc w1 (.cells #[.slice (some ⟨b, o, none⟩) 1 c1] 25)).trans ((Ext.alloc _ _).trans hE2))
  have y1 : w2.cell? ⟨b, o + 1, none⟩ = some (.string ⟨#[120]⟩) := (E2.out.cell (p := ⟨b, o + 1, none⟩) lb).trans x1
  have lb2 : b < w2.heap.size := Nat.lt_of_lt_of_le lb E2.out.size
  have E3 := aside (E1.out.trans E2.out)
  clear hE2 x0 x1
  go_wp2
  exact bodyPost_ret (v := .bool true) (by simp [results, Tryz.results13, go_sem]) rfl ⟨rfl, E3.out.trans (Ext.alloc _ _)⟩
end Go.Proofs.YtndpgdegcbaigaaGreatDoor

namespace Go.Proofs.YtndpgdegcbaigaaGreatDoor
open Go Go.RowKit

abbrev obL (n : Int) : Obj := .cells #[.int .i64 2, .int .i64 n, .string ⟨#[]⟩, .int .i64 8, .int .i64 0, .string ⟨#[]⟩, .int .i64 7, .int .i64 0, .string ⟨#[]⟩, .int .i64 18, .int .i64 9, .string ⟨#[]⟩, .int .i64 7, .int .i64 0, .string ⟨#[]⟩, .int .i64 2, .int .i64 (-1), .string ⟨#[]⟩, .int .i64 9, .int .i64 0, .string ⟨#[]⟩, .int .i64 8, .int .i64 0, .string ⟨#[]⟩, .int .i64 17, .int .i64 2, .string ⟨#[]⟩, .int .i64 1, .int .i64 0, .string ⟨#[]⟩] 38

/-- A run's end, the files left aside. -/
def EndN (W : World) (k : Nat) (x : Int) (e : Ending) (w' : World) : Prop := ∃ a n c, e = .returned (.tuple #[.agg #[.slice a n c], .int .i64 (k : Int), .int .i64 x]) ∧ Ext W w'

theorem prL_in (m : Nat) (h : m ≤ 1000) : ∀ x ∈ prL m, inI x.n := by
  intro x hx
  simp [prL] at hx
  rcases hx with rfl | rfl | rfl | rfl | rfl | rfl | rfl | rfl | rfl | rfl <;> (unfold inI; constructor <;> simp <;> omega)
theorem lenL (m : Nat) : (prL m).length ≤ maxLen := by unfold maxLen prL; simp

theorem runL (W : World) (m : Nat) (hm : m ≤ 1000) (hg : Globals W) {k : Nat} {x : Int} (hr : ∃ l, runM (prL m) [] = (l, k, x)) : Calls Tryz.prog 15 #[.slice (some ⟨W.heap.size, 0, none⟩) 10 10, .agg #[.slice none 0 0]] (W.alloc (obL m)) (EndN (W.alloc (obL m)) k x) := by
  obtain ⟨l, hr⟩ := hr
  have h := Run_done (prog := prL m) (view := []) (some ⟨W.heap.size, 0, none⟩) none 10 0 (arr_laid TIns (prL m) W _ 38 _ rfl (lenL m) (Ext.refl _)) (nil_files _) (prL_in m hm) (by simp) (by simp) (hg.ext (Ext.alloc _ _))
  rw [hr] at h
  refine Calls.mono h ?_
  rintro e w' ⟨a, c, rfl, h1, h2, _⟩
  exact ⟨a, _, c, rfl, h2⟩

set_option maxHeartbeats 4000000 in
set_option maxRecDepth 20000 in
theorem VmLoops_calls (n : Int) (hn : inI n) (w : World) (hg : Globals w) : Calls Tryz.prog 10 #[.int .i64 n] w fun e w' => e = .returned (.bool true) ∧ Ext w w' := by
  have G := aside hg
  clear hg
  unfold inI at hn
  by_cases h0 : n < 0
  · go_enter Tryz.func10, Tryz.ntmps10
    go_wp2_with (go_at_call 13; refine (alive_calls w G.out).mono ?_; rintro e w1 ⟨rfl, hE⟩; have E1 := aside hE; clear hE)
    exact bodyPost_ret (v := .bool true) (by simp [results, Tryz.results10, go_sem]) rfl ⟨rfl, E1.out⟩
  · by_cases h1 : 1000 < n
    · go_enter Tryz.func10, Tryz.ntmps10
      go_wp2_with (go_at_call 13; refine (alive_calls w G.out).mono ?_; rintro e w1 ⟨rfl, hE⟩; have E1 := aside hE; clear hE)
      exact bodyPost_ret (v := .bool true) (by simp [results, Tryz.results10, go_sem]) rfl ⟨rfl, E1.out⟩
    · obtain ⟨m, rfl⟩ : ∃ m : Nat, n = m := ⟨n.toNat, by omega⟩
      have hm : m ≤ 1000 := by omega
      have L := aside (loops_law m hm)
      by_cases h2 : 4096 < 7 * m + 5
      · have h2z : (4096 : Int) < 2 + 7 * (m : Int) + 2 + 1 := by omega
        have hR := aside (L.out.1 h2)
        go_enter Tryz.func10, Tryz.ntmps10
        go_wp2_with (first
          | (go_at_call 13; refine (alive_calls w G.out).mono ?_; rintro e w1 ⟨rfl, hE⟩; have E1 := aside hE; clear hE)
          | (go_at_call 15; refine (runL w1 m hm (G.out.ext E1.out) hR.out).mono ?_; rintro e w2 ⟨a, k, c, rfl, hE⟩; have E2 := aside (E1.out.trans ((Ext.alloc _ _).trans hE)); clear hE))
        exact bodyPost_ret (v := .bool true) (by simp [results, Tryz.results10, go_sem]) rfl ⟨rfl, E2.out.trans (Ext.alloc _ _)⟩
      · have h2z : ¬ (4096 : Int) < 2 + 7 * (m : Int) + 2 + 1 := by omega
        have hR := aside (L.out.2 h2)
        have heq : ((7 * m + 5 : Nat) : Int) = 2 + 7 * (m : Int) + 2 + 1 := by omega
        have hR2 := fun W hW => runL W m hm hW hR.out
        unfold EndN at hR2
        rw [heq] at hR2
        have R2 := aside hR2
        clear hR2 heq
        go_enter Tryz.func10, Tryz.ntmps10
        go_wp2_with (first
          | (go_at_call 13; refine (alive_calls w G.out).mono ?_; rintro e w1 ⟨rfl, hE⟩; have E1 := aside hE; clear hE)
          | (go_at_call 15; refine (R2.out w1 (G.out.ext E1.out)).mono ?_; rintro e w2 ⟨a, k, c, rfl, hE⟩; have E2 := aside (E1.out.trans ((Ext.alloc _ _).trans hE)); clear hE))
        exact bodyPost_ret (v := .bool true) (by simp [results, Tryz.results10, go_sem]) rfl ⟨rfl, E2.out.trans (Ext.alloc _ _)⟩
end Go.Proofs.YtndpgdegcbaigaaGreatDoor
