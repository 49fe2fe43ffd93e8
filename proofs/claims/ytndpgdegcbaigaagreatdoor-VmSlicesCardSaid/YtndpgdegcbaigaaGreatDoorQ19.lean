/- Package vm: a machine as a run; Result, Done, Steps. · Package vm: New. · Package vm: Step: so many steps. · Package vm: Run follows the plain model. · Package vm: step at a run; Step. -/
import Derived.Test.YtndpgdegcbaigaaGreatDoorQ11
import Derived.Test.YtndpgdegcbaigaaGreatDoorQ08
import Derived.Test.YtndpgdegcbaigaaGreatDoorQ18
namespace Go.Proofs.YtndpgdegcbaigaaGreatDoor
open Go Go.RowKit

/-- A machine in memory that stands where a run stands. -/
def MachR (w : World) (p : Nat) (prog : List Ins) (view : List File) (s : Run) (sb cb : Option Nat) : Prop :=
  ∃ c', Mach w p prog view c' s.steps s.done s.fault sb cb ∧ (s.fault = 0 → c' = s.c)

/-- The same machine later: at another place of its run. -/
structure Later (w : World) (p : Nat) (prog : List Ins) (view : List File) (s : Run) (sb cb sb' cb' : Option Nat) (w' : World) : Prop where
  m : MachR w' p prog view s sb' cb'
  fr : Fr (Foot p sb cb) w w'
  sub : ∀ k, k < w.heap.size → Foot p sb' cb' k → Foot p sb cb k

section
variable {p : Nat} {prog : List Ins} {view : List File} {sb cb : Option Nat} {w : World} {s : Run}

theorem Later.of_does {c : Cfg} {w' : World} (h : Does w p prog view c s.steps s.done s.fault sb cb w') (hc : s.fault = 0 → c = s.c) : ∃ sb' cb', Later w p prog view s sb cb sb' cb' w' := by
  obtain ⟨sb', cb', h1, h2, h3⟩ := h
  exact ⟨sb', cb', ⟨c, h1, hc⟩, h2, h3⟩
theorem Later.join {s1 s2 : Run} {sb1 cb1 sb2 cb2 : Option Nat} {w1 w2 : World} (h : Later w p prog view s1 sb cb sb1 cb1 w1) (k : Later w1 p prog view s2 sb1 cb1 sb2 cb2 w2) : Later w p prog view s2 sb cb sb2 cb2 w2 :=
  ⟨k.m, h.fr.trans k.fr h.sub, fun i hi hf => h.sub i hi (k.sub i (Nat.lt_of_lt_of_le hi h.fr.size) hf)⟩
theorem Later.globals {s1 : Run} {sb1 cb1 : Option Nat} {w1 : World} (h : Later w p prog view s1 sb cb sb1 cb1 w1) (hg : Globals w) (ha : Apart p sb cb) : Globals w1 := hg.keep h.fr.size fun k hk => h.fr.block k (Nat.lt_of_lt_of_le hk hg.size) fun hf => by have := ha k hf; omega
theorem Later.apart {s1 : Run} {sb1 cb1 : Option Nat} {w1 : World} (h : Later w p prog view s1 sb cb sb1 cb1 w1) (hg : Globals w) (ha : Apart p sb cb) : Apart p sb1 cb1 := fun k hf => by
  by_cases hk : k < w.heap.size
  · exact ha k (h.sub k hk hf)
  · have := hg.size; omega

theorem MachR.facts (h : MachR w p prog view s sb cb) : p < w.heap.size ∧ (∀ o, w.frozen? ⟨p, o, none⟩ = false) ∧ w.cell? ⟨p, 54, none⟩ = some (.int .i64 s.steps) ∧ w.cell? ⟨p, 55, none⟩ = some (.bool s.done) ∧ w.cell? ⟨p, 56, none⟩ = some (.int .i64 s.fault) := by
  obtain ⟨c', hM, _⟩ := h
  obtain ⟨ca, cc, c4, h5, e5, hp, hz, c53, c54, c55, c56⟩ := hM.callsOf
  exact ⟨hp, hz, c54, c55, c56⟩

/-- The fuel is spent. -/
theorem MachR.spent (h : MachR w p prog view s sb cb) : Later w p prog view { s with done := true, fault := 45 } sb cb sb cb ((w.setCell ⟨p, 55, none⟩ (.bool true)).setCell ⟨p, 56, none⟩ (.int .i64 45)) := by
  obtain ⟨c', hM, _⟩ := h
  obtain ⟨h1, h2, h3⟩ := hM.celledM (cells' := c'.cells) (at' := c'.at_) (steps' := s.steps) (done' := true) (fault' := 45) (W := (w.setCell ⟨p, 55, none⟩ (.bool true)).setCell ⟨p, 56, none⟩ (.int .i64 45))
    ((Fr.setCell (fun k => k = p) w _ _ rfl).trans (Fr.setCell (fun k => k = p) _ _ _ rfl) (fun _ _ h => h)) fun _ _ _ _ _ hm => (hm.setDone true).setFault 45
  exact ⟨⟨c', h1, fun h0 => by simp at h0⟩, h2, h3⟩
theorem Later.refl (h : MachR w p prog view s sb cb) : Later w p prog view s sb cb sb cb w := ⟨h, Fr.refl _ _, fun _ _ h => h⟩

theorem runS_done {k : Nat} (h : s.done = true) : runS prog view k s = s := by
  cases k with
  | zero => rfl
  | succ k => rw [runS, if_pos h]


/-- What Result answers. -/
def resultM (s : Run) : List File × Int := if s.done = false then ([], 80) else if s.fault ≠ 0 then ([], s.fault) else (s.c.out, 0)

/-- A tree and an error, the files in new memory. -/
def TreeErr (w : World) (r : List File × Int) (e : Ending) (w' : World) : Prop :=
  ∃ a c, e = .returned (.tuple #[.agg #[.slice a r.1.length c], .int .i64 r.2]) ∧ Arr TFile w' a r.1.length c r.1 ∧ Ext w w' ∧ ∀ b o, a = some ⟨b, o, none⟩ → r.1 ≠ [] → w.heap.size ≤ b

theorem TreeErr.nil {w w' : World} {e : Int} (h : Ext w w') : TreeErr w ([], e) (.returned (.tuple #[.agg #[.slice none 0 0], .int .i64 e])) w' :=
  ⟨none, 0, rfl, Arr.nil _ _ _ _ (by unfold maxLen; omega), h, fun _ _ h => by cases h⟩

set_option maxHeartbeats 1000000 in
theorem Result_calls (h : MachR w p prog view s sb cb) (ho : s.fault = 0 → s.c.out.length ≤ 32) : Calls Tryz.prog 26 #[.pointer (some ⟨p, 0, none⟩)] w (TreeErr w (resultM s)) := by
  obtain ⟨hp, hz, c54, c55, c56⟩ := h.facts
  unfold resultM
  cases hd : s.done with
  | false =>
    rw [hd] at c55
    simp only [if_true]
    go_enter Tryz.func26, Tryz.ntmps26
    go_wp2
    exact bodyPost_ret (v := .tuple #[.agg #[.slice none 0 0], .int .i64 80]) (by simp [results, Tryz.results26, go_sem]) rfl (TreeErr.nil (by ((repeat (first | exact Ext.refl _ | assumption | refine Ext.drew' ?_ | refine Ext.alloc' ?_ _ | (with_reducible refine Ext.trans ?_ (Ext.drewN _ _)) | refine Ext.trans ?_ (by assumption))); done)))
  | true =>
    rw [hd] at c55
    simp only [Bool.true_eq_false, if_false]
    by_cases hf : s.fault = 0
    · rw [if_neg (by simp [hf])]
      obtain ⟨c', hM, hcc⟩ := h
      obtain rfl := hcc hf
      obtain ⟨va, oa, vc, oc, y1, hV, y2, hO, -, -⟩ := hM.treesOf
      rw [hf] at c56
      have ho' := ho hf
      go_enter Tryz.func26, Tryz.ntmps26
      go_wp2_with (go_at_call 37; refine (Clone_File s.c.out _ _ _ _ (hO.below (show Ext _ _ by ((repeat (first | exact Ext.refl _ | assumption | refine Ext.drew' ?_ | refine Ext.alloc' ?_ _ | (with_reducible refine Ext.trans ?_ (Ext.drewN _ _)) | refine Ext.trans ?_ (by assumption))); done))) (by omega)).mono ?_; rintro e w' ⟨a', c', rfl, hN, hE, hfr⟩; have hE2 : Ext w w' := Ext.trans (by ((repeat (first | exact Ext.refl _ | assumption | refine Ext.drew' ?_ | refine Ext.alloc' ?_ _ | (with_reducible refine Ext.trans ?_ (Ext.drewN _ _)) | refine Ext.trans ?_ (by assumption))); done)) hE; obtain ⟨k1, k2, k3⟩ := new_kept hE (new_block w (.cells #[.slice none 0 0] 25) _ rfl))
      have k4 := new_arr (v := .slice a' s.c.out.length c') hN hfr
      refine bodyPost_ret (v := .tuple #[.agg #[.slice a' s.c.out.length c'], .int .i64 0]) ?_ rfl ⟨a', c', rfl, k4, hE2.set (Nat.le_refl _) _, fun b o h1 h2 => ?_⟩
      · simp [results, Tryz.results26, go_sem, cell_set_same _ _ _ _ _ k1]
      · have h3 := hfr b o h1 h2
        rw [World.size_alloc] at h3; omega
    · rw [if_pos hf]
      have hf' : (s.fault != 0) = true := by simpa using hf
      go_enter Tryz.func26, Tryz.ntmps26
      go_wp2
      go_region
      go_wp2
      exact bodyPost_ret (v := .tuple #[.agg #[.slice none 0 0], .int .i64 s.fault]) (by simp [results, Tryz.results26, go_sem]) rfl (TreeErr.nil (by ((repeat (first | exact Ext.refl _ | assumption | refine Ext.drew' ?_ | refine Ext.alloc' ?_ _ | (with_reducible refine Ext.trans ?_ (Ext.drewN _ _)) | refine Ext.trans ?_ (by assumption))); done)))

theorem Done_calls (h : MachR w p prog view s sb cb) : Calls Tryz.prog 30 #[.pointer (some ⟨p, 0, none⟩)] w fun e w' => e = .returned (.bool s.done) ∧ w = w' := by
  obtain ⟨hp, hz, c54, c55, c56⟩ := h.facts
  go_enter Tryz.func30, Tryz.ntmps30
  go_wp2
  exact bodyPost_ret (v := .bool s.done) (by simp [results, Tryz.results30, go_sem]) rfl ⟨rfl, rfl⟩
theorem Steps_calls (h : MachR w p prog view s sb cb) : Calls Tryz.prog 31 #[.pointer (some ⟨p, 0, none⟩)] w fun e w' => e = .returned (.int .i64 s.steps) ∧ w = w' := by
  obtain ⟨hp, hz, c54, c55, c56⟩ := h.facts
  go_enter Tryz.func31, Tryz.ntmps31
  go_wp2
  exact bodyPost_ret (v := .int .i64 s.steps) (by simp [results, Tryz.results31, go_sem]) rfl ⟨rfl, rfl⟩
end
end Go.Proofs.YtndpgdegcbaigaaGreatDoor

namespace Go.Proofs.YtndpgdegcbaigaaGreatDoor
open Go Go.RowKit

/-- What Good does. -/
def GoodSays : Prop := ∀ (l : List File) (a : Option Addr) (c : Nat) (w : World), l.length ≤ 1000 → (∀ g ∈ l, g.path.size ≤ 1048576 ∧ g.data.size ≤ 1048576) → Arr TFile w a l.length c l → Globals w →
  Calls Tryz.prog 18 #[.agg #[.slice a l.length c]] w fun e w' => e = .returned (.bool (treeGood l)) ∧ Ext w w'

/-- A machine's block at its start. -/
abbrev bStart (a3 : Option Addr) (n3 c3 : Nat) (a4 : Option Addr) (n4 c4 : Nat) : Obj := .cells #[.slice a3 n3 c3, .slice a4 n4 c4, .slice none 0 0, .slice none 0 0, .slice none 0 0, .bool false, .int .i64 0, .string ⟨#[]⟩, .bool false, .int .i64 0, .string ⟨#[]⟩, .bool false, .int .i64 0, .string ⟨#[]⟩, .bool false, .int .i64 0, .string ⟨#[]⟩, .bool false, .int .i64 0, .string ⟨#[]⟩, .bool false, .int .i64 0, .string ⟨#[]⟩, .bool false, .int .i64 0, .string ⟨#[]⟩, .bool false, .int .i64 0, .string ⟨#[]⟩, .bool false, .int .i64 0, .string ⟨#[]⟩, .bool false, .int .i64 0, .string ⟨#[]⟩, .bool false, .int .i64 0, .string ⟨#[]⟩, .bool false, .int .i64 0, .string ⟨#[]⟩, .bool false, .int .i64 0, .string ⟨#[]⟩, .bool false, .int .i64 0, .string ⟨#[]⟩, .bool false, .int .i64 0, .string ⟨#[]⟩, .bool false, .int .i64 0, .string ⟨#[]⟩, .int .i64 0, .int .i64 0, .bool false, .int .i64 0] 78

theorem frozen_of {W : World} {k : Nat} {cur : Array Value} {t : TypeId} (h : W.heap[k]? = some (.cells cur t)) (o : Nat) : W.frozen? ⟨k, o, none⟩ = false := by simp [World.frozen?, h]

theorem MachR.ext {p : Nat} {prog : List Ins} {view : List File} {s : Run} {sb cb : Option Nat} {w w' : World} (h : MachR w p prog view s sb cb) (e : Ext w w') : MachR w' p prog view s sb cb := by
  obtain ⟨c', hM, hc⟩ := h
  exact ⟨c', hM.keep e, hc⟩

set_option maxRecDepth 4000 in
theorem fresh {prog : List Ins} {view : List File} {w4 : World} {a3 a4 : Option Addr} {c3 c4 : Nat} (hP : Arr TIns w4 a3 prog.length c3 prog) (hV : Arr TFile w4 a4 view.length c4 view) :
    MachR (w4.alloc (bStart a3 prog.length c3 a4 view.length c4)) w4.heap.size prog view start none none := by
  have hk : (w4.alloc (bStart a3 prog.length c3 a4 view.length c4)).heap[w4.heap.size]? = some (bStart a3 prog.length c3 a4 view.length c4) := new_block w4 _ _ rfl
  have hc : ∀ o v, (match bStart a3 prog.length c3 a4 view.length c4 with | .cells cur _ _ => cur[o]? | _ => none) = some v → (w4.alloc (bStart a3 prog.length c3 a4 view.length c4)).cell? ⟨w4.heap.size, o, none⟩ = some v := fun o v h => by
    rw [cell_of_row _ w4.heap.size o _ 78 (0, 0) hk]; exact h
  have hE := Ext.alloc w4 (bStart a3 prog.length c3 a4 view.length c4)
  refine ⟨startC, ⟨⟨a3, a4, none, none, none, c3, c4, 0, 0, 0, ⟨?_, ?_, hc 0 _ rfl, hc 1 _ rfl, hc 2 _ rfl, hc 3 _ rfl, hc 4 _ rfl, rfl, ?_, hc 53 _ rfl, hc 54 _ rfl, hc 55 _ rfl, hc 56 _ rfl⟩, hP.below hE, hV.below hE, Arr.nil _ _ _ _ (by unfold maxLen; omega), ⟨rfl, .inl ⟨rfl, rfl⟩⟩, ⟨rfl, .inl ⟨rfl, rfl⟩⟩, rfl, rfl, ?_, ?_, ?_⟩, ?_, ?_, ?_⟩, fun _ => rfl⟩
  · rw [World.size_alloc]; omega
  · exact fun o => frozen_of hk o
  · intro i x hx
    have hi : i < 16 := by have := (List.getElem?_eq_some_iff.1 hx).1; simpa [startC] using this
    have hd : x = default := by
      have := List.mem_of_getElem? hx
      exact (List.mem_replicate.1 this).2
    subst hd
    match i, hi with
    | 0, _ => exact ⟨hc 5 _ rfl, hc 6 _ rfl, hc 7 _ rfl⟩
    | 1, _ => exact ⟨hc 8 _ rfl, hc 9 _ rfl, hc 10 _ rfl⟩
    | 2, _ => exact ⟨hc 11 _ rfl, hc 12 _ rfl, hc 13 _ rfl⟩
    | 3, _ => exact ⟨hc 14 _ rfl, hc 15 _ rfl, hc 16 _ rfl⟩
    | 4, _ => exact ⟨hc 17 _ rfl, hc 18 _ rfl, hc 19 _ rfl⟩
    | 5, _ => exact ⟨hc 20 _ rfl, hc 21 _ rfl, hc 22 _ rfl⟩
    | 6, _ => exact ⟨hc 23 _ rfl, hc 24 _ rfl, hc 25 _ rfl⟩
    | 7, _ => exact ⟨hc 26 _ rfl, hc 27 _ rfl, hc 28 _ rfl⟩
    | 8, _ => exact ⟨hc 29 _ rfl, hc 30 _ rfl, hc 31 _ rfl⟩
    | 9, _ => exact ⟨hc 32 _ rfl, hc 33 _ rfl, hc 34 _ rfl⟩
    | 10, _ => exact ⟨hc 35 _ rfl, hc 36 _ rfl, hc 37 _ rfl⟩
    | 11, _ => exact ⟨hc 38 _ rfl, hc 39 _ rfl, hc 40 _ rfl⟩
    | 12, _ => exact ⟨hc 41 _ rfl, hc 42 _ rfl, hc 43 _ rfl⟩
    | 13, _ => exact ⟨hc 44 _ rfl, hc 45 _ rfl, hc 46 _ rfl⟩
    | 14, _ => exact ⟨hc 47 _ rfl, hc 48 _ rfl, hc 49 _ rfl⟩
    | 15, _ => exact ⟨hc 50 _ rfl, hc 51 _ rfl, hc 52 _ rfl⟩
  · intro b o ha hx hf
    rcases hf with hf | hf | hf
    · have := hP.lt ha hx; omega
    · cases hf
    · cases hf
  · intro b o ha hx hf
    rcases hf with hf | hf | hf
    · have := hV.lt ha hx; omega
    · cases hf
    · cases hf
  · intro b o ha; cases ha
  · intro h; cases h
  · intro h; cases h
  · intro k h; cases h

section
variable {prog : List Ins} {view : List File} {w : World}

set_option maxHeartbeats 4000000 in
set_option maxRecDepth 20000 in
theorem New_ok (hGood : GoodSays) (pa va : Option Addr) (pc vc : Nat) (hP : Arr TIns w pa prog.length pc prog) (hV : Arr TFile w va view.length vc view) (hpl : prog.length ≤ 1000) (hvl : view.length ≤ 1000) (hvs : ∀ g ∈ view, g.path.size ≤ 1048576 ∧ g.data.size ≤ 1048576)
    (hc : checkErr prog = 0) (hv : treeGood view = true) (hg : Globals w) :
    Calls Tryz.prog 23 #[.slice pa prog.length pc, .agg #[.slice va view.length vc]] w fun e w' => ∃ p, e = .returned (.tuple #[.pointer (some ⟨p, 0, none⟩), .int .i64 0]) ∧ w.heap.size ≤ p ∧ MachR w' p prog view start none none ∧ Ext w w' := by
  go_enter Tryz.func23, Tryz.ntmps23
  go_wp2_with (first | (go_at_call 20; refine (Check_calls pa prog.length pc prog _ (Words.ext hg.words (by ((repeat (first | exact Ext.refl _ | assumption | refine Ext.drew' ?_ | refine Ext.alloc' ?_ _ | (with_reducible refine Ext.trans ?_ (Ext.drewN _ _)) | refine Ext.trans ?_ (by assumption))); done))) (hP.below (show Ext _ _ by ((repeat (first | exact Ext.refl _ | assumption | refine Ext.drew' ?_ | refine Ext.alloc' ?_ _ | (with_reducible refine Ext.trans ?_ (Ext.drewN _ _)) | refine Ext.trans ?_ (by assumption))); done)))).mono ?_; rw [hc]; rintro e w' ⟨rfl, hE⟩; have hE0 : Ext w w' := Ext.trans (by ((repeat (first | exact Ext.refl _ | assumption | refine Ext.drew' ?_ | refine Ext.alloc' ?_ _ | (with_reducible refine Ext.trans ?_ (Ext.drewN _ _)) | refine Ext.trans ?_ (by assumption))); done)) hE; obtain ⟨k1, k2, k3⟩ := new_kept hE (new_block w (.cells #[.slice va view.length vc] 25) _ rfl)) | (go_at_call 18; refine (hGood view va vc _ hvl hvs (hV.below (show Ext _ _ by ((repeat (first | exact Ext.refl _ | assumption | refine Ext.drew' ?_ | refine Ext.alloc' ?_ _ | (with_reducible refine Ext.trans ?_ (Ext.drewN _ _)) | refine Ext.trans ?_ (by assumption))); done))) (hg.ext (by ((repeat (first | exact Ext.refl _ | assumption | refine Ext.drew' ?_ | refine Ext.alloc' ?_ _ | (with_reducible refine Ext.trans ?_ (Ext.drewN _ _)) | refine Ext.trans ?_ (by assumption))); done)))).mono ?_; rw [hv]; rintro e w' ⟨rfl, hE2⟩; have hE1 : Ext w w' := Ext.trans (by ((repeat (first | exact Ext.refl _ | assumption | refine Ext.drew' ?_ | refine Ext.alloc' ?_ _ | (with_reducible refine Ext.trans ?_ (Ext.drewN _ _)) | refine Ext.trans ?_ (by assumption))); done)) hE2; have j1 := (hE2.cell (p := ⟨w.heap.size, 0, none⟩) k3).trans k1; have j3 := Nat.lt_of_lt_of_le k3 hE2.size))
  go_region_with (first | (go_at_call 43; refine (Clone_Ins prog pa _ pc _ (hP.below (show Ext w _ by ((repeat (first | exact Ext.refl _ | assumption | refine Ext.drew' ?_ | refine Ext.alloc' ?_ _ | (with_reducible refine Ext.trans ?_ (Ext.drewN _ _)) | refine Ext.trans ?_ (by assumption))); done))) (by omega)).mono ?_; rintro e w3 ⟨a3, c3, rfl, hN3, hE3, hfr3⟩; have hE3' : Ext w' w3 := Ext.trans (by ((repeat (first | exact Ext.refl _ | assumption | refine Ext.drew' ?_ | refine Ext.alloc' ?_ _ | (with_reducible refine Ext.trans ?_ (Ext.drewN _ _)) | refine Ext.trans ?_ (by assumption))); done)) hE3; have i1 := (hE3'.cell (p := ⟨w.heap.size, 0, none⟩) j3).trans j1; have i3 := Nat.lt_of_lt_of_le j3 hE3'.size) | (go_at_call 37; refine (Clone_File view va _ vc _ (hV.below (show Ext w _ by ((repeat (first | exact Ext.refl _ | assumption | refine Ext.drew' ?_ | refine Ext.alloc' ?_ _ | (with_reducible refine Ext.trans ?_ (Ext.drewN _ _)) | refine Ext.trans ?_ (by assumption))); done))) (by omega)).mono ?_; rintro e w4 ⟨a4, c4, rfl, hN4, hE4, hfr4⟩))
  all_goals
    go_wp2
    refine bodyPost_ret (v := .tuple #[.pointer (some ⟨w4.heap.size, 0, none⟩), .int .i64 0]) (by simp [results, Tryz.results23, go_sem]) rfl ⟨w4.heap.size, rfl, ?_, ?_, ?_⟩
    · exact (show Ext w w4 by ((repeat (first | exact Ext.refl _ | assumption | refine Ext.drew' ?_ | refine Ext.alloc' ?_ _ | (with_reducible refine Ext.trans ?_ (Ext.drewN _ _)) | refine Ext.trans ?_ (by assumption))); done)).size
    · exact fresh (hN3.below (show Ext w3 w4 by ((repeat (first | exact Ext.refl _ | assumption | refine Ext.drew' ?_ | refine Ext.alloc' ?_ _ | (with_reducible refine Ext.trans ?_ (Ext.drewN _ _)) | refine Ext.trans ?_ (by assumption))); done))) hN4
    · ((repeat (first | exact Ext.refl _ | assumption | refine Ext.drew' ?_ | refine Ext.alloc' ?_ _ | (with_reducible refine Ext.trans ?_ (Ext.drewN _ _)) | refine Ext.trans ?_ (by assumption))); done)

set_option maxHeartbeats 4000000 in
set_option maxRecDepth 20000 in
theorem New_bad (pa va : Option Addr) (pc vc : Nat) (hP : Arr TIns w pa prog.length pc prog) (hc : checkErr prog ≠ 0) (hg : Globals w) :
    Calls Tryz.prog 23 #[.slice pa prog.length pc, .agg #[.slice va view.length vc]] w fun e w' => e = .returned (.tuple #[.pointer none, .int .i64 (checkErr prog)]) ∧ Ext w w' := by
  obtain ⟨ce, hce⟩ : ∃ ce, checkErr prog = ce := ⟨_, rfl⟩
  rw [hce] at hc ⊢
  have hc' : (ce != 0) = true := by simpa using hc
  go_enter Tryz.func23, Tryz.ntmps23
  go_wp2_with (go_at_call 20; refine (Check_calls pa prog.length pc prog _ (Words.ext hg.words (by ((repeat (first | exact Ext.refl _ | assumption | refine Ext.drew' ?_ | refine Ext.alloc' ?_ _ | (with_reducible refine Ext.trans ?_ (Ext.drewN _ _)) | refine Ext.trans ?_ (by assumption))); done))) (hP.below (show Ext _ _ by ((repeat (first | exact Ext.refl _ | assumption | refine Ext.drew' ?_ | refine Ext.alloc' ?_ _ | (with_reducible refine Ext.trans ?_ (Ext.drewN _ _)) | refine Ext.trans ?_ (by assumption))); done)))).mono ?_; rw [hce]; rintro e w' ⟨rfl, hE⟩)
  exact bodyPost_ret (v := .tuple #[.pointer none, .int .i64 ce]) (by simp [results, Tryz.results23, go_sem]) rfl ⟨rfl, by ((repeat (first | exact Ext.refl _ | assumption | refine Ext.drew' ?_ | refine Ext.alloc' ?_ _ | (with_reducible refine Ext.trans ?_ (Ext.drewN _ _)) | refine Ext.trans ?_ (by assumption))); done)⟩

set_option maxHeartbeats 4000000 in
set_option maxRecDepth 20000 in
theorem New_no (hGood : GoodSays) (pa va : Option Addr) (pc vc : Nat) (hP : Arr TIns w pa prog.length pc prog) (hV : Arr TFile w va view.length vc view) (hvl : view.length ≤ 1000) (hvs : ∀ g ∈ view, g.path.size ≤ 1048576 ∧ g.data.size ≤ 1048576)
    (hc : checkErr prog = 0) (hv : treeGood view = false) (hg : Globals w) :
    Calls Tryz.prog 23 #[.slice pa prog.length pc, .agg #[.slice va view.length vc]] w fun e w' => e = .returned (.tuple #[.pointer none, .int .i64 1]) ∧ Ext w w' := by
  go_enter Tryz.func23, Tryz.ntmps23
  go_wp2_with (first | (go_at_call 20; refine (Check_calls pa prog.length pc prog _ (Words.ext hg.words (by ((repeat (first | exact Ext.refl _ | assumption | refine Ext.drew' ?_ | refine Ext.alloc' ?_ _ | (with_reducible refine Ext.trans ?_ (Ext.drewN _ _)) | refine Ext.trans ?_ (by assumption))); done))) (hP.below (show Ext _ _ by ((repeat (first | exact Ext.refl _ | assumption | refine Ext.drew' ?_ | refine Ext.alloc' ?_ _ | (with_reducible refine Ext.trans ?_ (Ext.drewN _ _)) | refine Ext.trans ?_ (by assumption))); done)))).mono ?_; rw [hc]; rintro e w' ⟨rfl, hE⟩; have hE0 : Ext w w' := Ext.trans (by ((repeat (first | exact Ext.refl _ | assumption | refine Ext.drew' ?_ | refine Ext.alloc' ?_ _ | (with_reducible refine Ext.trans ?_ (Ext.drewN _ _)) | refine Ext.trans ?_ (by assumption))); done)) hE; obtain ⟨k1, k2, k3⟩ := new_kept hE (new_block w (.cells #[.slice va view.length vc] 25) _ rfl)) | (go_at_call 18; refine (hGood view va vc _ hvl hvs (hV.below (show Ext _ _ by ((repeat (first | exact Ext.refl _ | assumption | refine Ext.drew' ?_ | refine Ext.alloc' ?_ _ | (with_reducible refine Ext.trans ?_ (Ext.drewN _ _)) | refine Ext.trans ?_ (by assumption))); done))) (hg.ext (by ((repeat (first | exact Ext.refl _ | assumption | refine Ext.drew' ?_ | refine Ext.alloc' ?_ _ | (with_reducible refine Ext.trans ?_ (Ext.drewN _ _)) | refine Ext.trans ?_ (by assumption))); done)))).mono ?_; rw [hv]; rintro e w' ⟨rfl, hE2⟩; have hE1 : Ext w w' := Ext.trans (by ((repeat (first | exact Ext.refl _ | assumption | refine Ext.drew' ?_ | refine Ext.alloc' ?_ _ | (with_reducible refine Ext.trans ?_ (Ext.drewN _ _)) | refine Ext.trans ?_ (by assumption))); done)) hE2))
  exact bodyPost_ret (v := .tuple #[.pointer none, .int .i64 1]) (by simp [results, Tryz.results23, go_sem]) rfl ⟨rfl, by ((repeat (first | exact Ext.refl _ | assumption | refine Ext.drew' ?_ | refine Ext.alloc' ?_ _ | (with_reducible refine Ext.trans ?_ (Ext.drewN _ _)) | refine Ext.trans ?_ (by assumption))); done)⟩
end
end Go.Proofs.YtndpgdegcbaigaaGreatDoor

namespace Go.Proofs.YtndpgdegcbaigaaGreatDoor
open Go Go.RowKit

/-- What one step of a machine that is under way does. -/
def StepSays (prog : List Ins) (view : List File) (p : Nat) : Prop := ∀ (s : Run) (sb cb : Option Nat) (w : World), ROK prog s → s.done = false → Globals w → Apart p sb cb → MachR w p prog view s sb cb →
  Calls Tryz.prog 44 #[.pointer (some ⟨p, 0, none⟩)] w fun r w' => r = unit ∧ ∃ sb' cb', Later w p prog view (stepS prog view s) sb cb sb' cb' w'

section
variable {p : Nat} {prog : List Ins} {view : List File} {sb cb : Option Nat} {w : World} {s : Run}

set_option maxHeartbeats 4000000 in
theorem Step_calls (hstep : StepSays prog view p) (hp : ∀ x ∈ prog, InsOK prog.length x) (hv : treeGood view = true) (hs : ROK prog s) (hg : Globals w) (ha : Apart p sb cb) (h : MachR w p prog view s sb cb) (most : Int) (hm0 : -9223372036854775808 ≤ most) (hm : most ≤ 9223372036854775807) :
    Calls Tryz.prog 25 #[.pointer (some ⟨p, 0, none⟩), .int .i64 most] w fun r w' => r = .returned (.int .i64 (((runS prog view most.toNat s).steps : Int) - s.steps)) ∧ ROK prog (runS prog view most.toNat s) ∧ ∃ sb' cb', Later w p prog view (runS prog view most.toNat s) sb cb sb' cb' w' := by
  go_enter Tryz.func25, Tryz.ntmps25
  go_wp2
  have H0 : Aside (Later w p prog view s sb cb sb cb w) := Later.refl h
  go_loopg [5] 5000 (fun gg s5 wr => ∃ (j : Nat) (s1 : Run) (sb1 cb1 : Option Nat), s5 = .int .i64 j ∧ j ≤ 4096 ∧ (j : Int) ≤ max most 0 ∧ 4096 - s1.steps ≤ gg ∧ Aside (s1.steps = s.steps + j) ∧ Aside (runS prog view (most.toNat - j) s1 = runS prog view most.toNat s) ∧ Aside (ROK prog s1) ∧ Aside (Later w p prog view s1 sb cb sb1 cb1 wr))
  case atStart => exact ⟨0, s, sb, cb, rfl, by omega, by omega, by omega, (show Aside _ from rfl), (show Aside _ from rfl), (show Aside _ from hs), H0⟩
  case round =>
    obtain ⟨j, s1, sb1, cb1, rfl, hj, hjm, hgg, hst, hrun, hok, hL⟩ := hrel
    obtain ⟨hp1, hz1, c54, c55, c56⟩ := hL.out.m.facts
    have hst' := hst.out
    have hrun' := hrun.out
    have hok' := hok.out
    by_cases hlt : (j : Int) < most
    · cases hd : s1.done with
      | true =>
        rw [hd] at c55
        have hfin : Aside (runS prog view most.toNat s = s1) := show Aside _ from by show runS prog view most.toNat s = s1; rw [← hrun', runS_done hd]
        go_wp2
        refine bodyPost_ret (v := .int .i64 j) (by simp [results, Tryz.results25, go_sem]) rfl ?_
        rw [hfin.out]
        exact ⟨ret_int (by omega), hok', sb1, cb1, hL.out⟩
      | false =>
        rw [hd] at c55
        have hto := tickS_ok (view := view) hv hp hok' hd
        have h4096 := (hok'.on hd).2.2
        have hK : most.toNat - j = (most.toNat - (j + 1)) + 1 := by omega
        have hrun2 : runS prog view (most.toNat - (j + 1)) (tickS prog view s1) = runS prog view most.toNat s := by
          rw [← hrun', hK, runS, if_neg (by rw [hd]; decide)]
        have hcall := hstep s1 sb1 cb1 wr hok' hd (hL.out.globals hg ha) (hL.out.apart hg ha) hL.out.m
        have htk : tickS prog view s1 = if (stepS prog view s1).done = false ∧ (stepS prog view s1).steps = 4096 then { stepS prog view s1 with done := true, fault := 45 } else stepS prog view s1 := rfl
        obtain ⟨S, hS⟩ : ∃ S, stepS prog view s1 = S := ⟨_, rfl⟩
        rw [hS] at hcall htk
        cases hSd : S.done with
        | true =>
          have htick : tickS prog view s1 = S := by rw [htk, if_neg (by rw [hSd]; simp)]
          go_wp2_with (go_at_call 44; refine hcall.mono ?_; rintro e w' ⟨rfl, sb2, cb2, hL2⟩; obtain ⟨hp2, hz2, d54, d55, d56⟩ := hL2.m.facts; rw [hSd] at d55)
          go_roundg (4096 - (s1.steps + 1))
          case measure => omega
          case rel => exact ⟨j + 1, tickS prog view s1, _, _, by go_num, by omega, by omega, by (rw [hto.2]; exact Nat.le_refl _), (show Aside _ from by show (tickS prog view s1).steps = s.steps + (j + 1); rw [hto.2]; omega), (show Aside _ from hrun2), (show Aside _ from hto.1), (show Aside _ from by rw [htick]; exact hL.out.join hL2)⟩
        | false =>
          by_cases hS4 : S.steps = 4096
          · have htick : tickS prog view s1 = { S with done := true, fault := 45 } := by rw [htk, if_pos ⟨hSd, hS4⟩]
            have hS4' : ((S.steps : Int) == 4096) = true := by simp [hS4]
            go_wp2_with (go_at_call 44; refine hcall.mono ?_; rintro e w' ⟨rfl, sb2, cb2, hL2⟩; obtain ⟨hp2, hz2, d54, d55, d56⟩ := hL2.m.facts; rw [hSd] at d55)
            go_roundg (4096 - (s1.steps + 1))
            case measure => omega
            case rel => exact ⟨j + 1, tickS prog view s1, _, _, by go_num, by omega, by omega, by (rw [hto.2]; exact Nat.le_refl _), (show Aside _ from by show (tickS prog view s1).steps = s.steps + (j + 1); rw [hto.2]; omega), (show Aside _ from hrun2), (show Aside _ from hto.1), (show Aside _ from by rw [htick]; exact hL.out.join (hL2.join hL2.m.spent))⟩
          · have htick : tickS prog view s1 = S := by rw [htk, if_neg (fun h => hS4 h.2)]
            have hS4' : ((S.steps : Int) == 4096) = false := by simp; omega
            go_wp2_with (go_at_call 44; refine hcall.mono ?_; rintro e w' ⟨rfl, sb2, cb2, hL2⟩; obtain ⟨hp2, hz2, d54, d55, d56⟩ := hL2.m.facts; rw [hSd] at d55)
            go_roundg (4096 - (s1.steps + 1))
            case measure => omega
            case rel => exact ⟨j + 1, tickS prog view s1, _, _, by go_num, by omega, by omega, by (rw [hto.2]; exact Nat.le_refl _), (show Aside _ from by show (tickS prog view s1).steps = s.steps + (j + 1); rw [hto.2]; omega), (show Aside _ from hrun2), (show Aside _ from hto.1), (show Aside _ from by rw [htick]; exact hL.out.join hL2)⟩
    · have hfin : Aside (runS prog view most.toNat s = s1) := show Aside _ from by show runS prog view most.toNat s = s1; rw [← hrun', show most.toNat - j = 0 by omega, runS]
      go_wp2
      refine bodyPost_ret (v := .int .i64 j) (by simp [results, Tryz.results25, go_sem]) rfl ?_
      rw [hfin.out]
      exact ⟨ret_int (by omega), hok', sb1, cb1, hL.out⟩
end
end Go.Proofs.YtndpgdegcbaigaaGreatDoor

namespace Go.Proofs.YtndpgdegcbaigaaGreatDoor
open Go Go.RowKit

/-- A tree, a number of steps and an error, the files in new memory. -/
def RunEnd (w : World) (r : List File × Nat × Int) (e : Ending) (w' : World) : Prop :=
  ∃ a c, e = .returned (.tuple #[.agg #[.slice a r.1.length c], .int .i64 r.2.1, .int .i64 r.2.2]) ∧ Arr TFile w' a r.1.length c r.1 ∧ Ext w w' ∧ ∀ b o, a = some ⟨b, o, none⟩ → r.1 ≠ [] → w.heap.size ≤ b

theorem RunEnd.nil {w w' : World} {n : Nat} {e : Int} (h : Ext w w') : RunEnd w ([], n, e) (.returned (.tuple #[.agg #[.slice none 0 0], .int .i64 n, .int .i64 e])) w' :=
  ⟨none, 0, rfl, Arr.nil _ _ _ _ (by unfold maxLen; omega), h, fun _ _ h => by cases h⟩

section
variable {prog : List Ins} {view : List File} {w : World}

set_option maxHeartbeats 4000000 in
set_option maxRecDepth 20000 in
theorem Run_bad (pa va : Option Addr) (pc vc : Nat) (hP : Arr TIns w pa prog.length pc prog) (hc : checkErr prog ≠ 0) (hg : Globals w) :
    Calls Tryz.prog 15 #[.slice pa prog.length pc, .agg #[.slice va view.length vc]] w (RunEnd w ([], 0, checkErr prog)) := by
  have hc' : (checkErr prog != 0) = true := by simpa using hc
  go_enter Tryz.func15, Tryz.ntmps15
  go_wp2_with (go_at_call 23; refine (New_bad pa va pc vc (hP.below (show Ext w _ by ((repeat (first | exact Ext.refl _ | assumption | refine Ext.drew' ?_ | refine Ext.alloc' ?_ _ | (with_reducible refine Ext.trans ?_ (Ext.drewN _ _)) | refine Ext.trans ?_ (by assumption))); done))) hc (hg.ext (by ((repeat (first | exact Ext.refl _ | assumption | refine Ext.drew' ?_ | refine Ext.alloc' ?_ _ | (with_reducible refine Ext.trans ?_ (Ext.drewN _ _)) | refine Ext.trans ?_ (by assumption))); done)))).mono ?_; rintro e w1 ⟨rfl, hE⟩; obtain ⟨k1, k2, k3⟩ := new_kept hE (new_block (w.alloc (.cells #[.slice va view.length vc] 25)) (.cells #[.slice none 0 0] 25) _ rfl); rw [World.size_alloc] at k1 k2 k3)
  exact bodyPost_ret (v := .tuple #[.agg #[.slice none 0 0], .int .i64 0, .int .i64 (checkErr prog)]) (by simp [results, Tryz.results15, go_sem, cell_set_same _ _ _ _ _ k1]) rfl (RunEnd.nil (n := 0) (Ext.set (Ext.trans (by ((repeat (first | exact Ext.refl _ | assumption | refine Ext.drew' ?_ | refine Ext.alloc' ?_ _ | (with_reducible refine Ext.trans ?_ (Ext.drewN _ _)) | refine Ext.trans ?_ (by assumption))); done)) hE) (by omega) _))

set_option maxHeartbeats 4000000 in
set_option maxRecDepth 20000 in
theorem Run_no (hGood : GoodSays) (pa va : Option Addr) (pc vc : Nat) (hP : Arr TIns w pa prog.length pc prog) (hV : Arr TFile w va view.length vc view) (hvl : view.length ≤ 1000) (hvs : ∀ g ∈ view, g.path.size ≤ 1048576 ∧ g.data.size ≤ 1048576)
    (hc : checkErr prog = 0) (hv : treeGood view = false) (hg : Globals w) :
    Calls Tryz.prog 15 #[.slice pa prog.length pc, .agg #[.slice va view.length vc]] w (RunEnd w ([], 0, 1)) := by
  go_enter Tryz.func15, Tryz.ntmps15
  go_wp2_with (go_at_call 23; refine (New_no hGood pa va pc vc (hP.below (show Ext w _ by ((repeat (first | exact Ext.refl _ | assumption | refine Ext.drew' ?_ | refine Ext.alloc' ?_ _ | (with_reducible refine Ext.trans ?_ (Ext.drewN _ _)) | refine Ext.trans ?_ (by assumption))); done))) (hV.below (show Ext w _ by ((repeat (first | exact Ext.refl _ | assumption | refine Ext.drew' ?_ | refine Ext.alloc' ?_ _ | (with_reducible refine Ext.trans ?_ (Ext.drewN _ _)) | refine Ext.trans ?_ (by assumption))); done))) hvl hvs hc hv (hg.ext (by ((repeat (first | exact Ext.refl _ | assumption | refine Ext.drew' ?_ | refine Ext.alloc' ?_ _ | (with_reducible refine Ext.trans ?_ (Ext.drewN _ _)) | refine Ext.trans ?_ (by assumption))); done)))).mono ?_; rintro e w1 ⟨rfl, hE⟩; obtain ⟨k1, k2, k3⟩ := new_kept hE (new_block (w.alloc (.cells #[.slice va view.length vc] 25)) (.cells #[.slice none 0 0] 25) _ rfl); rw [World.size_alloc] at k1 k2 k3)
  exact bodyPost_ret (v := .tuple #[.agg #[.slice none 0 0], .int .i64 0, .int .i64 1]) (by simp [results, Tryz.results15, go_sem, cell_set_same _ _ _ _ _ k1]) rfl (RunEnd.nil (n := 0) (Ext.set (Ext.trans (by ((repeat (first | exact Ext.refl _ | assumption | refine Ext.drew' ?_ | refine Ext.alloc' ?_ _ | (with_reducible refine Ext.trans ?_ (Ext.drewN _ _)) | refine Ext.trans ?_ (by assumption))); done)) hE) (by omega) _))

theorem frozen_block {w w' : World} {k o : Nat} (h : w'.heap[k]? = w.heap[k]?) : w'.frozen? ⟨k, o, none⟩ = w.frozen? ⟨k, o, none⟩ := by simp [World.frozen?, h]
theorem notfoot_new {p r : Nat} (h : r ≠ p) : ¬ Foot p none none r := fun hk => by
  rcases hk with hk | hk | hk
  · exact h hk
  · cases hk
  · cases hk
theorem apart_new {p : Nat} (h : 9 ≤ p) : Apart p none none := fun k hk => by
  rcases hk with hk | hk | hk
  · omega
  · cases hk
  · cases hk

/-- A call that turns a new machine alone only makes memory. -/
theorem ext_of_fr {w w1 w2 : World} {p : Nat} (h : Ext w w1) (hp : w.heap.size ≤ p) (hF : Fr (Foot p none none) w1 w2) : Ext w w2 :=
  ⟨hF.os.trans h.os, hF.tape.trans h.tape, hF.output.trans h.output, Nat.le_trans h.size hF.size, fun k hk => (hF.block k (Nat.lt_of_lt_of_le hk h.size) fun hf => by
    rcases hf with hf | hf | hf
    · omega
    · cases hf
    · cases hf).trans (h.block k hk)⟩

set_option maxHeartbeats 4000000 in
set_option maxRecDepth 20000 in
theorem Run_ok (hGood : GoodSays) (hStep : ∀ p, StepSays prog view p) (hp : ∀ x ∈ prog, InsOK prog.length x) (pa va : Option Addr) (pc vc : Nat) (hP : Arr TIns w pa prog.length pc prog) (hV : Arr TFile w va view.length vc view) (hvl : view.length ≤ 1000) (hvs : ∀ g ∈ view, g.path.size ≤ 1048576 ∧ g.data.size ≤ 1048576)
    (hpl : prog.length ≤ 256) (hne : prog ≠ []) (hc : checkErr prog = 0) (hv : treeGood view = true) (hg : Globals w) :
    Calls Tryz.prog 15 #[.slice pa prog.length pc, .agg #[.slice va view.length vc]] w (RunEnd w ((resultM (runS prog view 4096 start)).1, (runS prog view 4096 start).steps, (resultM (runS prog view 4096 start)).2)) := by
  have hsz := hg.size
  obtain ⟨S, hS⟩ : ∃ S, runS prog view 4096 start = S := ⟨_, rfl⟩
  obtain ⟨R, hR⟩ : ∃ R, resultM S = R := ⟨_, rfl⟩
  rw [hS, hR]
  have hs0 : ((S.steps : Int) - (start.steps : Int)) = S.steps := by show (S.steps : Int) - ((0 : Nat) : Int) = _; omega
  go_enter Tryz.func15, Tryz.ntmps15
  go_wp2_with (first
    | (go_at_call 23; refine (New_ok hGood pa va pc vc (hP.below (show Ext w _ by ((repeat (first | exact Ext.refl _ | assumption | refine Ext.drew' ?_ | refine Ext.alloc' ?_ _ | (with_reducible refine Ext.trans ?_ (Ext.drewN _ _)) | refine Ext.trans ?_ (by assumption))); done))) (hV.below (show Ext w _ by ((repeat (first | exact Ext.refl _ | assumption | refine Ext.drew' ?_ | refine Ext.alloc' ?_ _ | (with_reducible refine Ext.trans ?_ (Ext.drewN _ _)) | refine Ext.trans ?_ (by assumption))); done))) (by omega) hvl hvs hc hv (hg.ext (by ((repeat (first | exact Ext.refl _ | assumption | refine Ext.drew' ?_ | refine Ext.alloc' ?_ _ | (with_reducible refine Ext.trans ?_ (Ext.drewN _ _)) | refine Ext.trans ?_ (by assumption))); done)))).mono ?_; rintro e w1 ⟨p, rfl, hpn, hM, hE⟩; obtain ⟨k1, k2, k3⟩ := new_kept hE (new_block (w.alloc (.cells #[.slice va view.length vc] 25)) (.cells #[.slice none 0 0] 25) _ rfl); rw [World.size_alloc] at k1 k2 k3; simp only [World.size_alloc] at hpn; have hE1 : Ext w w1 := Ext.trans (by ((repeat (first | exact Ext.refl _ | assumption | refine Ext.drew' ?_ | refine Ext.alloc' ?_ _ | (with_reducible refine Ext.trans ?_ (Ext.drewN _ _)) | refine Ext.trans ?_ (by assumption))); done)) hE; have ha : Apart p none none := apart_new (by omega); have hg1 : Globals w1 := hg.ext hE1)
    | (go_at_call 25; refine (Step_calls (hStep p) hp hv (start_ok hne) hg1 ha hM 4096 (by decide) (by decide)).mono ?_; rw [show (4096 : Int).toNat = 4096 from rfl, hS, hs0]; rintro e w2 ⟨rfl, hok, sb2, cb2, hL⟩; have hE2 : Ext w w2 := ext_of_fr hE1 (by omega) hL.fr; have m0 := hL.fr.block (w.heap.size + 1) k3 (notfoot_new (by omega)); have m1 := (cell_of_block (p := ⟨w.heap.size + 1, 0, none⟩) m0).trans k1; have m2 := (frozen_block (o := 0) m0).trans k2; have m3 := Nat.lt_of_lt_of_le k3 hL.fr.size)
    | (go_at_call 26; refine (Result_calls hL.m (fun h0 => (hok.cok h0).outl)).mono ?_; rw [hR]; rintro e w3 ⟨a', c', rfl, hA, hE3, hfr⟩; have hE4 : Ext w w3 := hE2.trans hE3; have n1 := (hE3.cell (p := ⟨w.heap.size + 1, 0, none⟩) m3).trans m1; have n2 := (hE3.frozen (p := ⟨w.heap.size + 1, 0, none⟩) m3).trans m2; have n3 := Nat.lt_of_lt_of_le m3 hE3.size))
  have rc : ((w3.setCell ⟨w.heap.size + 1, 0, none⟩ (.slice a' R.1.length c')).alloc (.cells #[.slice a' R.1.length c'] 25)).cell? ⟨w.heap.size + 1, 0, none⟩ = some (.slice a' R.1.length c') :=
    ((Ext.alloc _ _).cell (p := ⟨w.heap.size + 1, 0, none⟩) (by rw [size_set]; exact n3)).trans (cell_set_same _ _ _ _ _ n1)
  refine bodyPost_ret (v := .tuple #[.agg #[.slice a' R.1.length c'], .int .i64 S.steps, .int .i64 R.2]) ?_ rfl ⟨a', c', rfl, ?_, ?_, fun b o h1 h2 => Nat.le_trans hE2.size (hfr b o h1 h2)⟩
  · simp [results, Tryz.results15, go_sem, rc]
  · exact Arr.below (hA.keep fun b o h1 hx _ => Below.heap_setCell _ _ _ _ (by have := hfr b o h1 hx; simp only; omega)) (Ext.alloc _ _)
  · exact (hE4.set (by omega) _).trans (Ext.alloc _ _)
end
end Go.Proofs.YtndpgdegcbaigaaGreatDoor

namespace Go.Proofs.YtndpgdegcbaigaaGreatDoor
open Go Go.RowKit

section
variable {p : Nat} {prog : List Ins} {view : List File} {sb cb : Option Nat} {w : World} {s : Run}

theorem step_run (hGet : GetSays) (hPut : PutSays) (hpl : prog.length ≤ 256) (hp : ∀ x ∈ prog, InsOK prog.length x) (hv : treeGood view = true) (hs : ROK prog s) (hd : s.done = false) (hg : Globals w) (ha : Apart p sb cb) (h : MachR w p prog view s sb cb) :
    Calls Tryz.prog 44 #[.pointer (some ⟨p, 0, none⟩)] w fun r w' => r = unit ∧ ∃ sb' cb', Later w p prog view (stepS prog view s) sb cb sb' cb' w' := by
  obtain ⟨h1, h2, h3⟩ := hs.on hd
  have hc := hs.cok h1
  have hat := hc.at0
  obtain ⟨k, hk⟩ : ∃ k : Nat, s.c.at_ = k := ⟨s.c.at_.toNat, by omega⟩
  have hlt : k < prog.length := by omega
  have hkx : prog[k]? = some (prog.getD s.c.at_.toNat default) := by
    rw [show s.c.at_.toNat = k by omega, List.getD_eq_getElem?_getD, List.getElem?_eq_getElem hlt]; rfl
  obtain ⟨c', hM, hcc⟩ := h
  obtain rfl := hcc h1
  rw [hd, h1] at hM
  have hx : InsOK prog.length (prog.getD s.c.at_.toNat default) := hp _ (List.mem_of_getElem? hkx)
  refine (step_calls hGet hPut k _ hk hkx hpl (by omega) (by omega) hx hv hc hg ha hM).mono ?_
  rintro r w' ⟨rfl, hS⟩
  refine ⟨rfl, ?_⟩
  have hcast : ((s.steps : Int) + 1) = ((s.steps + 1 : Nat) : Int) := by omega
  rw [hcast] at hS
  have hloud := exec_loud view (prog.getD s.c.at_.toNat default) { s.c with at_ := s.c.at_ + 1 }
  unfold stepS
  rw [hk] at *
  cases hE : exec view (prog.getD (k : Int).toNat default) { s.c with at_ := (k : Int) + 1 } with
  | go c =>
    rw [hE] at hS
    exact Later.of_does hS (fun _ => rfl)
  | halt c =>
    rw [hE] at hS
    exact Later.of_does hS (fun _ => rfl)
  | stop e =>
    rw [hE] at hS hloud
    obtain ⟨c, hD⟩ := hS
    exact Later.of_does (s := ⟨s.c, s.steps + 1, true, e⟩) hD (fun h0 => absurd h0 hloud)

theorem step_says (hGet : GetSays) (hPut : PutSays) (hpl : prog.length ≤ 256) (hp : ∀ x ∈ prog, InsOK prog.length x) (hv : treeGood view = true) (p : Nat) : StepSays prog view p :=
  fun _ _ _ _ hs hd hg ha h => step_run hGet hPut hpl hp hv hs hd hg ha h

theorem checked {prog : List Ins} (h : checkErr prog = 0) (hn : ∀ x ∈ prog, inI x.n) : prog ≠ [] ∧ prog.length ≤ 256 ∧ ∀ x ∈ prog, InsOK prog.length x := by
  unfold checkErr at h
  split at h
  · simp at h
  · rename_i h1
    split at h
    · simp at h
    · rename_i h2
      refine ⟨by rintro rfl; simp at h1, by omega, fun x hx => InsOK.of ?_ (hn x hx)⟩
      have h3 : prog.any (fun x => !insOK prog.length x) = false := by
        rw [← idxP_nonneg]
        exact decide_eq_false h2
      have h4 := (List.any_eq_false.1 h3) x hx
      simpa using h4

/-- Run follows the plain model, whatever the program and the tree. -/
theorem Run_calls (hGood : GoodSays) (hGet : GetSays) (hPut : PutSays) (pa va : Option Addr) (pc vc : Nat) (hP : Arr TIns w pa prog.length pc prog) (hV : Arr TFile w va view.length vc view) (hn : ∀ x ∈ prog, inI x.n) (hvl : view.length ≤ 1000) (hvs : ∀ g ∈ view, g.path.size ≤ 1048576 ∧ g.data.size ≤ 1048576) (hg : Globals w) :
    Calls Tryz.prog 15 #[.slice pa prog.length pc, .agg #[.slice va view.length vc]] w (RunEnd w (runM prog view)) := by
  unfold runM
  by_cases hc : checkErr prog = 0
  · rw [if_neg (by simp [hc])]
    cases hv : treeGood view with
    | false =>
      rw [if_pos rfl]
      exact Run_no hGood pa va pc vc hP hV hvl hvs hc hv hg
    | true =>
      rw [if_neg (by simp)]
      obtain ⟨h1, h2, h3⟩ := checked hc hn
      have hR := Run_ok hGood (step_says hGet hPut h2 h3 hv) h3 pa va pc vc hP hV hvl hvs h2 h1 hc hv hg
      have hend := runS_end hv h3 (start_ok h1)
      have e : ((resultM (runS prog view 4096 start)).1, (runS prog view 4096 start).steps, (resultM (runS prog view 4096 start)).2) =
          ((if (runS prog view 4096 start).fault = 0 then (runS prog view 4096 start).c.out else []), (runS prog view 4096 start).steps, (runS prog view 4096 start).fault) := by
        unfold resultM
        rw [hend]
        simp only [Bool.true_eq_false, if_false]
        by_cases hf : (runS prog view 4096 start).fault = 0
        · rw [if_neg (by simp [hf]), if_pos hf, hf]
        · rw [if_pos hf, if_neg hf]
      rw [← e]
      exact hR
  · rw [if_pos hc]
    exact Run_bad pa va pc vc hP hc hg
end
end Go.Proofs.YtndpgdegcbaigaaGreatDoor
