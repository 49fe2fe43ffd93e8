/- VmSlices: a run cut into pieces. Plain Lean over the model. · The document's Same at two trees that are alike; a nil machine's four answers. · VmSlices: a machine of the call's own, step by step. · VmSlices: the walk where no machine is made, and where too much is handed in. · VmSlices: the walk. · VmSlices: all inputs. · An argument []int, opened. -/
import Derived.Test.YtndpgdegcbaigaaGreatDoorQ29
import Derived.Test.YtndpgdegcbaigaaGreatDoorQ19
import Derived.Test.YtndpgdegcbaigaaGreatDoorQ30
import Derived.Test.YtndpgdegcbaigaaGreatDoorQ34
namespace Go.Proofs.YtndpgdegcbaigaaGreatDoor
open Go Go.RowKit

section
variable {prog : List Ins} {view : List File}
theorem runS_add : ∀ (a b : Nat) (s : Run), runS prog view (a + b) s = runS prog view b (runS prog view a s)
  | 0, b, s => by rw [Nat.zero_add]; rfl
  | a + 1, b, s => by
    rw [show a + 1 + b = (a + b) + 1 by omega]
    cases hd : s.done with
    | true => rw [runS_ended hd, runS_ended hd, runS_ended hd]
    | false =>
      rw [runS, if_neg (by rw [hd]; simp), runS_add a b]
      conv => rhs; rw [runS, if_neg (by rw [hd]; simp)]
theorem tick_steps (s : Run) : (tickS prog view s).steps = s.steps + 1 := by
  unfold tickS; split
  · exact stepS_steps s
  · exact stepS_steps s
theorem runS_le : ∀ (k : Nat) (s : Run), s.steps ≤ (runS prog view k s).steps ∧ (runS prog view k s).steps ≤ s.steps + k
  | 0, s => ⟨Nat.le_refl _, Nat.le_refl _⟩
  | k + 1, s => by
    unfold runS
    split
    · exact ⟨Nat.le_refl _, by omega⟩
    · have h := runS_le k (tickS prog view s)
      rw [tick_steps] at h
      exact ⟨by omega, by omega⟩
theorem runS_more (k : Nat) (s : Run) (h : s.done = false) : s.steps < (runS prog view (k + 1) s).steps := by
  rw [runS, if_neg (by rw [h]; simp)]
  have := (runS_le (prog := prog) (view := view) k (tickS prog view s)).1
  rw [tick_steps] at this; omega

/-- A state on the way to the end R. -/
structure OnWay (prog : List Ins) (view : List File) (R s : Run) : Prop where
  ok : ROK prog s
  goal : runS prog view 4096 s = R

/-- So many steps more: as many as were asked for, or all that are left. -/
theorem way_cut {R s : Run} (hv : treeGood view = true) (hp : ∀ x ∈ prog, InsOK prog.length x) (hR : R.done = true) (h : OnWay prog view R s) (k : Nat) :
    OnWay prog view R (runS prog view k s) ∧ s.steps ≤ R.steps ∧ (runS prog view k s).steps = min (s.steps + k) R.steps ∧ (runS prog view k s).done = decide ((runS prog view k s).steps = R.steps) ∧ ((runS prog view k s).done = true → runS prog view k s = R) := by
  have hok := (runS_on hv hp k s h.ok).1
  have hle := runS_le (prog := prog) (view := view) 4096 s
  rw [h.goal] at hle
  cases hT : (runS prog view k s).done with
  | true =>
    have e : runS prog view k s = R := by
      have h1 : runS prog view (k + 4096) s = runS prog view k s := by rw [runS_add, runS_ended hT]
      have h2 : runS prog view (4096 + k) s = R := by rw [runS_add, h.goal, runS_ended hR]
      rw [Nat.add_comm] at h2
      exact h1.symm.trans h2
    have hl := runS_le (prog := prog) (view := view) k s
    rw [e] at hl hok ⊢
    exact ⟨⟨hok, runS_ended hR⟩, by omega, by omega, by simp, fun _ => rfl⟩
  | false =>
    have hs := (runS_on hv hp k s h.ok).2 hT
    have hk : k < 4096 := by
      by_cases hk : k < 4096
      · exact hk
      · have h2 : runS prog view (4096 + (k - 4096)) s = R := by rw [runS_add, h.goal, runS_ended hR]
        rw [show 4096 + (k - 4096) = k by omega] at h2
        rw [h2, hR] at hT; cases hT
    have h3 : runS prog view ((4096 - k - 1) + 1) (runS prog view k s) = R := by
      rw [← runS_add, show k + (4096 - k - 1 + 1) = 4096 by omega]; exact h.goal
    have hm := runS_more (prog := prog) (view := view) (4096 - k - 1) (runS prog view k s) hT
    rw [h3] at hm
    refine ⟨⟨hok, ?_⟩, by omega, by omega, ?_, fun h => by cases h⟩
    · have h4 : runS prog view (((4096 - k - 1) + 1) + k) (runS prog view k s) = R := by rw [runS_add, h3, runS_ended hR]
      rw [show 4096 - k - 1 + 1 + k = 4096 by omega] at h4
      exact h4
    · rw [eq_comm, decide_eq_false_iff_not]; omega
end
end Go.Proofs.YtndpgdegcbaigaaGreatDoor

namespace Go.Proofs.YtndpgdegcbaigaaGreatDoor
open Go Go.RowKit

theorem toL0 (a : ByteArray) : (a.toList == a.toList) = true := by simp
theorem nil_Result (w : World) : Calls Tryz.prog 26 #[.pointer none] w fun e w' => e = .returned (.tuple #[.agg #[.slice none 0 0], .int .i64 2]) ∧ Ext w w' := by
  go_enter Tryz.func26, Tryz.ntmps26
  go_wp2
  exact bodyPost_ret (v := .tuple #[.agg #[.slice none 0 0], .int .i64 2]) (by simp [results, Tryz.results26, go_sem]) rfl ⟨rfl, by ((repeat (first | exact Ext.refl _ | assumption | refine Ext.drew' ?_ | refine Ext.alloc' ?_ _ | (with_reducible refine Ext.trans ?_ (Ext.drewN _ _)) | refine Ext.trans ?_ (by assumption))); done)⟩
theorem nil_Done (w : World) : Calls Tryz.prog 30 #[.pointer none] w fun e w' => e = .returned (.bool false) ∧ w = w' := by
  go_enter Tryz.func30, Tryz.ntmps30
  go_wp2
  exact bodyPost_ret (v := .bool false) (by simp [results, Tryz.results30, go_sem]) rfl ⟨rfl, rfl⟩
theorem nil_Steps (w : World) : Calls Tryz.prog 31 #[.pointer none] w fun e w' => e = .returned (.int .i64 0) ∧ w = w' := by
  go_enter Tryz.func31, Tryz.ntmps31
  go_wp2
  exact bodyPost_ret (v := .int .i64 0) (by simp [results, Tryz.results31, go_sem]) rfl ⟨rfl, rfl⟩
theorem nil_Step (w : World) (k : Int) : Calls Tryz.prog 25 #[.pointer none, .int .i64 k] w fun e w' => e = .returned (.int .i64 0) ∧ w = w' := by
  go_enter Tryz.func25, Tryz.ntmps25
  go_wp2
  exact bodyPost_ret (v := .int .i64 0) (by simp [results, Tryz.results25, go_sem]) rfl ⟨rfl, rfl⟩

set_option maxHeartbeats 4000000 in
set_option maxRecDepth 20000 in
theorem RefSame_calls (w : World) (a b : Option Addr) (n n2 c c2 : Nat) (l : List File) (hA : Arr TFile w a n c l) (hB : Arr TFile w b n2 c2 l) :
    Calls Tryz.prog 17 #[.agg #[.slice a n c], .agg #[.slice b n2 c2]] w fun e w' => e = .returned (.bool true) ∧ Ext w w' := by
  have hbn := hA.bound
  obtain rfl : n = n2 := hA.len.symm.trans hB.len
  go_enter Tryz.func17, Tryz.ntmps17
  go_wp2_with fail
  go_loopg [16] n (fun gg s16 wr => ∃ i : Nat, i ≤ n ∧ n - i ≤ gg ∧ s16 = .int .i64 i ∧ Aside (Ext ((w.alloc (.cells #[.slice a n c] 25)).alloc (.cells #[.slice b n c2] 25)) wr))
  case atStart => exact ⟨0, Nat.zero_le _, by omega, rfl, (show Aside _ from Ext.refl _)⟩
  case round =>
    obtain ⟨i, hin, hgg, rfl, R⟩ := hrel
    have E := aside (((Ext.alloc w (.cells #[.slice a n c] 25)).trans (Ext.alloc _ (.cells #[.slice b n c2] 25))).trans R.out)
    obtain ⟨p0, p1, p2⟩ := new_kept ((Ext.alloc _ (.cells #[.slice b n c2] 25)).trans R.out) (new_block w (.cells #[.slice a n c] 25) _ rfl)
    obtain ⟨q0, q1, q2⟩ := new_kept R.out (new_block (w.alloc (.cells #[.slice a n c] 25)) (.cells #[.slice b n c2] 25) _ rfl)
    rw [World.size_alloc] at q0 q1 q2
    by_cases hlt : i < n
    · have hltz : (i : Int) < (n : Int) := by omega
      obtain ⟨bb, oo, x, rfl, hx, x0, x1⟩ := (hA.below E.out).file hlt
      obtain ⟨b2, o2, y, rfl, hy, y0, y1⟩ := (hB.below E.out).file hlt
      obtain rfl : x = y := Option.some.inj (hx.symm.trans hy)
      clear hx hy
      have s1 := toL0 x.path
      have s2 := toL0 x.data
      go_wp2
      go_quiet (fail)
      go_wp2
      go_roundg (n - (i + 1))
      case measure => omega
      case rel => exact ⟨i + 1, by omega, by omega, by go_num, (show Aside _ from R.out.trans (by ((repeat (first | exact Ext.refl _ | assumption | refine Ext.drew' ?_ | refine Ext.alloc' ?_ _ | (with_reducible refine Ext.trans ?_ (Ext.drewN _ _)) | refine Ext.trans ?_ (by assumption))); done)))⟩
    · obtain rfl : i = n := by omega
      have hltz : ¬ (i : Int) < (i : Int) := by omega
      go_wp2_with fail
      exact bodyPost_ret (v := .bool true) (by simp [results, Tryz.results17, go_sem]) rfl ⟨rfl, E.out.trans (by ((repeat (first | exact Ext.refl _ | assumption | refine Ext.drew' ?_ | refine Ext.alloc' ?_ _ | (with_reducible refine Ext.trans ?_ (Ext.drewN _ _)) | refine Ext.trans ?_ (by assumption))); done))⟩
end Go.Proofs.YtndpgdegcbaigaaGreatDoor

namespace Go.Proofs.YtndpgdegcbaigaaGreatDoor
open Go Go.RowKit

theorem ext_of_fr2 {w w1 w2 : World} {p : Nat} {sb cb : Option Nat} (h : Ext w w1) (hp : ∀ k, Foot p sb cb k → w.heap.size ≤ k) (hF : Fr (Foot p sb cb) w1 w2) : Ext w w2 :=
  ⟨hF.os.trans h.os, hF.tape.trans h.tape, hF.output.trans h.output, Nat.le_trans h.size hF.size, fun k hk => (hF.block k (Nat.lt_of_lt_of_le hk h.size) fun hf => by
    have := hp k hf; omega).trans (h.block k hk)⟩

/-- A machine that was made behind w0 stands at s; of w0 nothing has turned. -/
structure Live (w0 : World) (p : Nat) (prog : List Ins) (view : List File) (s : Run) (w : World) : Prop where
  mach : ∃ sb cb, MachR w p prog view s sb cb ∧ ∀ k, Foot p sb cb k → w0.heap.size ≤ k
  ext : Ext w0 w

section
variable {w0 w : World} {p : Nat} {prog : List Ins} {view : List File} {s R : Run}
theorem Live.start (hM : MachR w p prog view start none none) (hp : w0.heap.size ≤ p) (hE : Ext w0 w) : Live w0 p prog view start w :=
  ⟨⟨none, none, hM, fun k hk => by
    rcases hk with hk | hk | hk
    · omega
    · cases hk
    · cases hk⟩, hE⟩
theorem Live.on {w' : World} (h : Live w0 p prog view s w) (e : Ext w w') : Live w0 p prog view s w' := by
  obtain ⟨⟨sb, cb, hM, hf⟩, hE⟩ := h
  exact ⟨⟨sb, cb, hM.ext e, hf⟩, hE.trans e⟩

theorem Live.steps (h : Live w0 p prog view s w) : Calls Tryz.prog 31 #[.pointer (some ⟨p, 0, none⟩)] w fun e w' => e = .returned (.int .i64 s.steps) ∧ w = w' := by
  obtain ⟨⟨sb, cb, hM, hf⟩, hE⟩ := h
  exact Steps_calls hM
theorem Live.done (h : Live w0 p prog view s w) : Calls Tryz.prog 30 #[.pointer (some ⟨p, 0, none⟩)] w fun e w' => e = .returned (.bool s.done) ∧ w = w' := by
  obtain ⟨⟨sb, cb, hM, hf⟩, hE⟩ := h
  exact Done_calls hM
theorem Live.result (h : Live w0 p prog view s w) (ho : ROK prog s) : Calls Tryz.prog 26 #[.pointer (some ⟨p, 0, none⟩)] w fun e w' => TreeErr w (resultM s) e w' ∧ Live w0 p prog view s w' := by
  have h0 := h
  obtain ⟨⟨sb, cb, hM, hf⟩, hE⟩ := h
  refine (Result_calls hM (fun h0 => (ho.cok h0).outl)).mono ?_
  intro e w' hT
  have hT2 := hT
  obtain ⟨a, c, _, _, hE2, _⟩ := hT2
  exact ⟨hT, h0.on hE2⟩
theorem Live.step (hg : Globals w0) (hpl : prog.length ≤ 256) (hp : ∀ x ∈ prog, InsOK prog.length x) (hv : treeGood view = true) (hR : R.done = true) (hw : OnWay prog view R s) (h : Live w0 p prog view s w) (k : Int) (hk : inI k) :
    Calls Tryz.prog 25 #[.pointer (some ⟨p, 0, none⟩), .int .i64 k] w fun e w' => e = .returned (.int .i64 (min (max k 0) ((R.steps : Int) - s.steps))) ∧ Live w0 p prog view (runS prog view k.toNat s) w' := by
  obtain ⟨⟨sb, cb, hM, hf⟩, hE⟩ := h
  have hsz := hg.size
  have hap : Apart p sb cb := fun j hj => by have := hf j hj; omega
  refine (Step_calls (step_says get_says put_says hpl hp hv p) hp hv hw.ok (hg.ext hE) hap hM k hk.1 hk.2).mono ?_
  rintro e w' ⟨rfl, _, sb', cb', hL⟩
  obtain ⟨_, h1, h2, _, _⟩ := way_cut hv hp hR hw k.toNat
  refine ⟨?_, ⟨sb', cb', hL.m, fun j hj => ?_⟩, ext_of_fr2 hE hf hL.fr⟩
  · rw [h2]; congr 2; omega
  · by_cases hjw : j < w.heap.size
    · exact hf j (hL.sub j hjw hj)
    · have := hE.size; omega
end
end Go.Proofs.YtndpgdegcbaigaaGreatDoor

namespace Go.Proofs.YtndpgdegcbaigaaGreatDoor
open Go Go.RowKit

set_option maxHeartbeats 8000000 in
set_option maxRecDepth 100000 in
theorem VmSlices_err (w : World) (hg : Globals w) (a b d : Option Addr) (c c2 n3 c3 : Nat) (p : List Ins) (v : List File) (hP : Arr TIns w a p.length c p) (hV : Arr TFile w b v.length c2 v) (hin : ∀ x ∈ p, inI x.op ∧ inI x.n ∧ x.s.size ≤ 140737488351232) (hfs : ∀ x ∈ v, x.path.size ≤ 140737488351232 ∧ x.data.size ≤ 140737488351232)
    (hgr : greatM p v = false) (h200 : ¬ (n3 : Int) > 200) {er : Int} (her : er ≠ 0) (hr : runM p v = ([], 0, er))
    (hnew : ∀ W, Ext w W → Calls Tryz.prog 23 #[.slice a p.length c, .agg #[.slice b v.length c2]] W fun e w' => e = .returned (.tuple #[.pointer none, .int .i64 er]) ∧ Ext W w') :
    Calls Tryz.prog 12 #[.slice a p.length c, .agg #[.slice b v.length c2], .slice d n3 c3] w fun e w' => e = .returned (.bool true) ∧ Ext w w' := by
  have G := aside hg
  have AP := aside hP
  have AV := aside hV
  have I1 := aside hin
  have I2 := aside hfs
  have NEW := aside hnew
  have SM := aside (great_no hgr)
  have RUN := aside (fun (W : World) (hW : Ext w W) => Run_done (prog := p) (view := v) a b c c2 (AP.out.below hW) (AV.out.below hW) (fun x hx => (I1.out x hx).2.1) (by have := SM.out.2.1; omega) SM.out.2.2.2 (G.out.ext hW))
  simp only [hr] at RUN
  clear hg hP hV hin hfs hnew hr
  have z1 : (er != 0) = true := by simpa using her
  have z2 : (er == er) = true := by simp
  go_enter Tryz.func12, Tryz.ntmps12
  go_wp2_with (first
    | (go_at_call 13; refine (alive_calls _ (G.out.ext (show Ext w _ by ((repeat (first | exact Ext.refl _ | assumption | refine Ext.drew' ?_ | refine Ext.alloc' ?_ _ | (with_reducible refine Ext.trans ?_ (Ext.drewN _ _)) | refine Ext.trans ?_ (by assumption))); done)))).mono ?_; rintro e w1 ⟨rfl, hE⟩; obtain ⟨t1, t2, t3⟩ := new_kept hE (new_block w (.cells #[.slice b v.length c2] 25) _ rfl); have E1 := aside (Ext.trans (show Ext w _ by ((repeat (first | exact Ext.refl _ | assumption | refine Ext.drew' ?_ | refine Ext.alloc' ?_ _ | (with_reducible refine Ext.trans ?_ (Ext.drewN _ _)) | refine Ext.trans ?_ (by assumption))); done)) hE); clear hE)
    | (go_at_call 14; refine (great_calls _ a b p.length c v.length c2 p v (AP.out.below E1.out) (AV.out.below E1.out) (fun x hx => (I1.out x hx).2.2) I2.out).mono ?_; rintro e w2 ⟨rfl, hE2⟩; rw [hgr]; have E2 := aside (E1.out.trans hE2); have t4 := (hE2.cell (p := ⟨w.heap.size, 0, none⟩) t3).trans t1; have t5 := Nat.lt_of_lt_of_le t3 hE2.size; clear hE2)
    | (go_at_call 15; refine (RUN.out _ E2.out).mono ?_; rintro e w3 ⟨a3, c4, rfl, hA3, hE3, -⟩; have A3 := aside hA3; have E3 := aside (E2.out.trans hE3); have t6 := (hE3.cell (p := ⟨w.heap.size, 0, none⟩) t5).trans t4; have t7 := Nat.lt_of_lt_of_le t5 hE3.size; clear hA3 hE3)
    | (go_at_call 23; refine (NEW.out _ (E3.out.trans (show Ext w3 _ by ((repeat (first | exact Ext.refl _ | assumption | refine Ext.drew' ?_ | refine Ext.alloc' ?_ _ | (with_reducible refine Ext.trans ?_ (Ext.drewN _ _)) | refine Ext.trans ?_ (by assumption))); done)))).mono ?_; rintro e w4 ⟨rfl, hE4⟩; have E4 := aside (E3.out.trans (Ext.trans (show Ext w3 _ by ((repeat (first | exact Ext.refl _ | assumption | refine Ext.drew' ?_ | refine Ext.alloc' ?_ _ | (with_reducible refine Ext.trans ?_ (Ext.drewN _ _)) | refine Ext.trans ?_ (by assumption))); done)) hE4)); clear hE4))
  exact bodyPost_ret (v := .bool true) (by simp [results, Tryz.results12, go_sem]) rfl ⟨rfl, E4.out⟩
end Go.Proofs.YtndpgdegcbaigaaGreatDoor

namespace Go.Proofs.YtndpgdegcbaigaaGreatDoor
open Go Go.RowKit

set_option maxHeartbeats 8000000 in
set_option maxRecDepth 100000 in
theorem VmSlices_ok (w : World) (hg : Globals w) (a b d : Option Addr) (c c2 n3 c3 : Nat) (p : List Ins) (v : List File) (ks : List Int) (hP : Arr TIns w a p.length c p) (hV : Arr TFile w b v.length c2 v) (hK : Arr TInt w d n3 c3 ks) (hin : ∀ x ∈ p, inI x.op ∧ inI x.n ∧ x.s.size ≤ 140737488351232) (hfs : ∀ x ∈ v, x.path.size ≤ 140737488351232 ∧ x.data.size ≤ 140737488351232) (hks : ∀ x ∈ ks, inI x)
    (hgr : greatM p v = false) (h200 : ¬ (n3 : Int) > 200) (hc : checkErr p = 0) (hv : treeGood v = true) :
    Calls Tryz.prog 12 #[.slice a p.length c, .agg #[.slice b v.length c2], .slice d n3 c3] w fun e w' => e = .returned (.bool true) ∧ Ext w w' := by
  obtain ⟨hne, hpl, hok⟩ := checked hc (fun x hx => (hin x hx).2.1)
  have hend := runS_end hv hok (start_ok hne)
  obtain ⟨R, hR⟩ : ∃ R, runS p v 4096 start = R := ⟨_, rfl⟩
  have hRok := (runS_on hv hok 4096 start (start_ok hne)).1
  have hrm := runM_of hc hv hR
  rw [hR] at hend hRok
  have hR4 : R.steps ≤ 4096 := hRok.most
  have OW0 : Aside (OnWay p v R start) := ⟨start_ok hne, hR⟩
  have ROKR := aside hRok
  have G := aside hg
  have AP := aside hP
  have AV := aside hV
  have AK := aside hK
  have I1 := aside hin
  have I2 := aside hfs
  have I3 := aside hks
  have SM := aside (great_no hgr)
  obtain ⟨l, hl⟩ : ∃ l, (if R.fault = 0 then R.c.out else []) = l := ⟨_, rfl⟩
  have hres : resultM R = (l, R.fault) := by
    unfold resultM
    rw [hend, ← hl]
    simp only [Bool.true_eq_false, if_false]
    by_cases hf : R.fault = 0
    · rw [if_neg (by simp [hf]), if_pos hf, hf]
    · rw [if_pos hf, if_neg hf]
  rw [hl] at hrm
  have RES := aside hres
  have RUN := aside (fun (W : World) (hW : Ext w W) => Run_done (prog := p) (view := v) a b c c2 (AP.out.below hW) (AV.out.below hW) (fun x hx => (I1.out x hx).2.1) (by have := SM.out.2.1; omega) SM.out.2.2.2 (G.out.ext hW))
  simp only [hrm] at RUN
  have NEW := aside (fun (W : World) (hW : Ext w W) => New_ok good_done a b c c2 (AP.out.below hW) (AV.out.below hW) (by have := SM.out.1; omega) (by have := SM.out.2.1; omega) SM.out.2.2.2 hc hv (G.out.ext hW))
  have STEP := aside (fun (w0 w : World) (pp : Nat) (s : Run) (h0 : Globals w0) (hw : OnWay p v R s) (h : Live w0 pp p v s w) (k : Int) (hk : inI k) => Live.step h0 hpl hok hv hend hw h k hk)
  have CUT := aside (fun (s : Run) (hw : OnWay p v R s) (k : Nat) => way_cut hv hok hend hw k)
  have s00 : Aside (resultM start = ([], 80)) := rfl
  clear hg hP hV hK hin hfs hks hrm hres hl hok hRok hne hv hc
  go_enter Tryz.func12, Tryz.ntmps12
  go_wp2_with (first
    | (go_at_call 13; refine (alive_calls _ (G.out.ext (show Ext w _ by ((repeat (first | exact Ext.refl _ | assumption | refine Ext.drew' ?_ | refine Ext.alloc' ?_ _ | (with_reducible refine Ext.trans ?_ (Ext.drewN _ _)) | refine Ext.trans ?_ (by assumption))); done)))).mono ?_; rintro e w1 ⟨rfl, hE⟩; obtain ⟨t1, t2, t3⟩ := new_kept hE (new_block w (.cells #[.slice b v.length c2] 25) _ rfl); have E1 := aside (Ext.trans (show Ext w _ by ((repeat (first | exact Ext.refl _ | assumption | refine Ext.drew' ?_ | refine Ext.alloc' ?_ _ | (with_reducible refine Ext.trans ?_ (Ext.drewN _ _)) | refine Ext.trans ?_ (by assumption))); done)) hE); clear hE)
    | (go_at_call 14; refine (great_calls _ a b p.length c v.length c2 p v (AP.out.below E1.out) (AV.out.below E1.out) (fun x hx => (I1.out x hx).2.2) I2.out).mono ?_; rintro e w2 ⟨rfl, hE2⟩; rw [hgr]; have E2 := aside (E1.out.trans hE2); have t4 := (hE2.cell (p := ⟨w.heap.size, 0, none⟩) t3).trans t1; have t5 := Nat.lt_of_lt_of_le t3 hE2.size; clear hE2)
    | (go_at_call 15; refine (RUN.out _ E2.out).mono ?_; rintro e w3 ⟨a3, c4, rfl, hA3, hE3, -⟩; have A3 := aside hA3; have E3 := aside (E2.out.trans hE3); have t6 := (hE3.cell (p := ⟨w.heap.size, 0, none⟩) t5).trans t4; have t7 := Nat.lt_of_lt_of_le t5 hE3.size; clear hA3 hE3)
    | (go_at_call 23; refine (NEW.out _ (E3.out.trans (show Ext w3 _ by ((repeat (first | exact Ext.refl _ | assumption | refine Ext.drew' ?_ | refine Ext.alloc' ?_ _ | (with_reducible refine Ext.trans ?_ (Ext.drewN _ _)) | refine Ext.trans ?_ (by assumption))); done)))).mono ?_; rintro e w4 ⟨pp, rfl, hpp, hM, hE4⟩; have L4 := aside (Live.start hM hpp hE4); clear hE4 hM)
    | (go_at_call 30; refine (Live.done L4.out).mono ?_; rintro e w5 ⟨rfl, rfl⟩)
    | (go_at_call 31; refine (Live.steps L4.out).mono ?_; rintro e w5 ⟨rfl, rfl⟩)
    | (go_at_call 26; refine (Live.result L4.out OW0.out.ok).mono ?_; rw [s00.out]; rintro e w5 ⟨⟨a5, c5, rfl, -, -, -⟩, hL5⟩; have L5 := aside hL5; clear hL5))
  go_loopg [12, 72] n3 (fun gg s12 s72 wr => ∃ (i : Nat) (s : Run), i ≤ n3 ∧ n3 - i ≤ gg ∧ s72 = .int .i64 i ∧ s12 = .int .i64 s.steps ∧ s.steps ≤ R.steps ∧ Aside (OnWay p v R s) ∧ Aside (Live (w3.alloc (.cells #[.slice a3 l.length c4] 25)) pp p v s wr))
  case atStart => exact ⟨0, start, Nat.zero_le _, by omega, rfl, rfl, (by show 0 ≤ R.steps; omega), OW0, L5⟩
  case round =>
    obtain ⟨i, s, hin, hgg, rfl, rfl, hsR, OW, L⟩ := hrel
    have EW := aside ((E3.out.trans (Ext.alloc w3 (.cells #[.slice a3 l.length c4] 25))).trans L.out.ext)
    by_cases hlt : i < n3
    · have hltz : (i : Int) < (n3 : Int) := by omega
      obtain ⟨bb, oo, x, rfl, hx, x0⟩ := (AK.out.below EW.out).int hlt
      have hxi := I3.out x (List.mem_of_getElem? hx)
      clear hx
      have HX := aside hxi
      obtain ⟨s', hs'⟩ : ∃ s', runS p v x.toNat s = s' := ⟨_, rfl⟩
      obtain ⟨ow', _, hst, hdn, _⟩ := CUT.out s OW.out x.toNat
      rw [hs'] at ow' hst hdn
      have OW' := aside ow'
      have ST := aside (STEP.out (w3.alloc (.cells #[.slice a3 l.length c4] 25)) wr pp s (G.out.ext (E3.out.trans (Ext.alloc _ _))) OW.out L.out x hxi)
      rw [hs'] at ST
      have hmin : min (max x 0) ((R.steps : Int) - s.steps) = (s'.steps : Int) - s.steps := by omega
      have hs1 : s'.steps ≤ R.steps := by omega
      have hb1 : (((s'.steps : Int)) != ((s.steps : Int) + min (max x 0) ((R.steps : Int) - s.steps))) = false := by
        rw [hmin]
        have : (s'.steps : Int) = (s.steps : Int) + ((s'.steps : Int) - s.steps) := by omega
        simpa using this
      have hb2 : (!s'.done == (((s.steps : Int) + min (max x 0) ((R.steps : Int) - s.steps)) == (R.steps : Int))) = false := by
        rw [hmin, hdn]
        have : ((s.steps : Int) + ((s'.steps : Int) - s.steps) == (R.steps : Int)) = decide (s'.steps = R.steps) := by
          rw [Bool.eq_iff_iff]; simp; omega
        rw [this]; cases decide (s'.steps = R.steps) <;> rfl
      have HM := aside hmin
      clear ow' hs' hmin hst hdn
      unfold inI at hxi
      go_wp2_with (first
        | (go_at_call 25; refine ST.out.mono ?_; rintro e w6 ⟨rfl, hL6⟩; have L6 := aside hL6; clear hL6)
        | (go_at_call 30; refine (Live.done L6.out).mono ?_; rintro e w7 ⟨rfl, rfl⟩)
        | (go_at_call 31; refine (Live.steps L6.out).mono ?_; rintro e w7 ⟨rfl, rfl⟩))
      go_roundg (n3 - (i + 1))
      case measure => omega
      case rel => exact ⟨i + 1, s', by omega, by omega, by go_num, (by rw [HM.out]; congr 1; omega), hs1, OW', L6⟩
    · obtain rfl : i = n3 := by omega
      have hltz : ¬ (i : Int) < (i : Int) := by omega
      have hg3 := aside (G.out.ext (E3.out.trans (Ext.alloc w3 (.cells #[.slice a3 l.length c4] 25))))
      obtain ⟨ow', _, hst, hdn, hto⟩ := CUT.out s OW.out 5000
      have h5 : runS p v 5000 s = R := hto (by rw [hdn, hst]; simp; omega)
      have OWR := aside (show OnWay p v R R from ⟨ROKR.out, runS_ended hend⟩)
      have ST5 := aside (STEP.out (w3.alloc (.cells #[.slice a3 l.length c4] 25)) wr pp s hg3.out OW.out L.out 5000 (by constructor <;> decide))
      rw [show (5000 : Int).toNat = 5000 from rfl, h5, show min (max 5000 0) ((R.steps : Int) - s.steps) = (R.steps : Int) - s.steps by omega] at ST5
      have ST3 := aside (fun (W : World) (hL : Live (w3.alloc (.cells #[.slice a3 l.length c4] 25)) pp p v R W) => STEP.out _ W pp R hg3.out OWR.out hL 3 (by constructor <;> decide))
      rw [show (3 : Int).toNat = 3 from rfl, runS_ended hend, show min (max 3 0) ((R.steps : Int) - R.steps) = 0 by omega] at ST3
      clear ow' hst hdn hto h5
      go_wp2_with (first
        | (go_at_call 25; with_reducible refine (nil_Step _ _).mono ?_; rintro e w13 ⟨rfl, rfl⟩)
        | (go_at_call 30; with_reducible refine (nil_Done _).mono ?_; rintro e w13 ⟨rfl, rfl⟩)
        | (go_at_call 31; with_reducible refine (nil_Steps _).mono ?_; rintro e w13 ⟨rfl, rfl⟩)
        | (go_at_call 25; refine (ST3.out _ L8.out).mono ?_; rintro e w9 ⟨rfl, hL⟩; have L9 := aside hL; clear hL)
        | (go_at_call 25; refine ST5.out.mono ?_; rintro e w8 ⟨rfl, hL⟩; have L8 := aside hL; clear hL)
        | (go_at_call 30; refine (Live.done L8.out).mono ?_; rw [hend]; rintro e w13 ⟨rfl, rfl⟩)
        | (go_at_call 31; refine (Live.steps L8.out).mono ?_; rintro e w13 ⟨rfl, rfl⟩)
        | (go_at_call 26; with_reducible refine (nil_Result _).mono ?_; rintro e w11 ⟨rfl, hE⟩; have E11 := aside (L10.out.ext.trans (Ext.trans (Ext.alloc _ _) hE)); obtain ⟨m1, m2, m3⟩ := new_kept hE (new_block w10 (.cells #[.slice a9 l.length c9] 25) _ rfl); have X11 := aside (Ext.trans (Ext.alloc w10 (.cells #[.slice a9 l.length c9] 25)) hE); clear hE; obtain ⟨k1, k2, k3⟩ := new_kept E11.out (new_block w3 (.cells #[.slice a3 l.length c4] 25) _ rfl))
        | (go_at_call 26; refine (Live.result L9.out ROKR.out).mono ?_; rw [RES.out]; rintro e w10 ⟨⟨a9, c9, rfl, hA, -, -⟩, hL⟩; have A10 := aside hA; have L10 := aside hL; clear hA hL)
        | (go_at_call 17; refine (RefSame_calls _ a3 a9 l.length l.length c4 c9 l (A3.out.below (((Ext.alloc _ _).trans E11.out).trans (show Ext w11 _ by ((repeat (first | exact Ext.refl _ | assumption | refine Ext.drew' ?_ | refine Ext.alloc' ?_ _ | (with_reducible refine Ext.trans ?_ (Ext.drewN _ _)) | refine Ext.trans ?_ (by assumption))); done)))) (A10.out.below (X11.out.trans (show Ext w11 _ by ((repeat (first | exact Ext.refl _ | assumption | refine Ext.drew' ?_ | refine Ext.alloc' ?_ _ | (with_reducible refine Ext.trans ?_ (Ext.drewN _ _)) | refine Ext.trans ?_ (by assumption))); done))))).mono ?_; rintro e w12 ⟨rfl, hE⟩; have E12 := aside (E11.out.trans (Ext.trans (show Ext w11 _ by ((repeat (first | exact Ext.refl _ | assumption | refine Ext.drew' ?_ | refine Ext.alloc' ?_ _ | (with_reducible refine Ext.trans ?_ (Ext.drewN _ _)) | refine Ext.trans ?_ (by assumption))); done)) hE)); clear hE))
      exact bodyPost_ret (v := .bool true) (by simp [results, Tryz.results12, go_sem]) rfl ⟨rfl, (E3.out.trans (Ext.alloc _ _)).trans E12.out⟩
end Go.Proofs.YtndpgdegcbaigaaGreatDoor

namespace Go.Proofs.YtndpgdegcbaigaaGreatDoor
open Go Go.RowKit

set_option maxHeartbeats 8000000 in
set_option maxRecDepth 100000 in
theorem VmSlices_calls (w : World) (hg : Globals w) (a b d : Option Addr) (n c n2 c2 n3 c3 : Nat) (p : List Ins) (v : List File) (ks : List Int) (hP : Arr TIns w a n c p) (hV : Arr TFile w b n2 c2 v) (hK : Arr TInt w d n3 c3 ks) (hin : ∀ x ∈ p, inI x.op ∧ inI x.n ∧ x.s.size ≤ 140737488351232) (hfs : ∀ x ∈ v, x.path.size ≤ 140737488351232 ∧ x.data.size ≤ 140737488351232) (hks : ∀ x ∈ ks, inI x) :
    Calls Tryz.prog 12 #[.slice a n c, .agg #[.slice b n2 c2], .slice d n3 c3] w fun e w' => e = .returned (.bool true) ∧ Ext w w' := by
  obtain rfl := hP.len
  obtain rfl := hV.len
  by_cases hgr : greatM p v = false
  · by_cases h200 : (n3 : Int) > 200
    · have G := aside hg
      have AP := aside hP
      have AV := aside hV
      have I1 := aside hin
      have I2 := aside hfs
      clear hg hP hV hin hfs hks hK
      go_enter Tryz.func12, Tryz.ntmps12
      go_wp2_with (first
        | (go_at_call 13; refine (alive_calls _ (G.out.ext (show Ext w _ by ((repeat (first | exact Ext.refl _ | assumption | refine Ext.drew' ?_ | refine Ext.alloc' ?_ _ | (with_reducible refine Ext.trans ?_ (Ext.drewN _ _)) | refine Ext.trans ?_ (by assumption))); done)))).mono ?_; rintro e w1 ⟨rfl, hE⟩; obtain ⟨t1, t2, t3⟩ := new_kept hE (new_block w (.cells #[.slice b v.length c2] 25) _ rfl); have E1 := aside (Ext.trans (show Ext w _ by ((repeat (first | exact Ext.refl _ | assumption | refine Ext.drew' ?_ | refine Ext.alloc' ?_ _ | (with_reducible refine Ext.trans ?_ (Ext.drewN _ _)) | refine Ext.trans ?_ (by assumption))); done)) hE); clear hE)
        | (go_at_call 14; refine (great_calls _ a b p.length c v.length c2 p v (AP.out.below E1.out) (AV.out.below E1.out) (fun x hx => (I1.out x hx).2.2) I2.out).mono ?_; rintro e w2 ⟨rfl, hE2⟩; rw [hgr]; have E2 := aside (E1.out.trans hE2); clear hE2))
      exact bodyPost_ret (v := .bool true) (by simp [results, Tryz.results12, go_sem]) rfl ⟨rfl, E2.out⟩
    · by_cases hc : checkErr p = 0
      · cases hv : treeGood v with
        | true => exact VmSlices_ok w hg a b d c c2 n3 c3 p v ks hP hV hK hin hfs hks hgr h200 hc hv
        | false =>
          have SM := great_no hgr
          refine VmSlices_err w hg a b d c c2 n3 c3 p v hP hV hin hfs hgr h200 (er := 1) (by decide) ?_ (fun W hW => New_no good_done a b c c2 (hP.below hW) (hV.below hW) (by omega) SM.2.2.2 hc hv (hg.ext hW))
          unfold runM
          rw [if_neg (by simp [hc]), if_pos hv]
      · refine VmSlices_err w hg a b d c c2 n3 c3 p v hP hV hin hfs hgr h200 hc ?_ (fun W hW => New_bad a b c c2 (hP.below hW) hc (hg.ext hW))
        unfold runM
        rw [if_pos hc]
  · have hgr : greatM p v = true := by simpa using hgr
    have G := aside hg
    have AP := aside hP
    have AV := aside hV
    have I1 := aside hin
    have I2 := aside hfs
    clear hg hP hV hin hfs hks hK
    go_enter Tryz.func12, Tryz.ntmps12
    go_wp2_with (first
      | (go_at_call 13; refine (alive_calls _ (G.out.ext (show Ext w _ by ((repeat (first | exact Ext.refl _ | assumption | refine Ext.drew' ?_ | refine Ext.alloc' ?_ _ | (with_reducible refine Ext.trans ?_ (Ext.drewN _ _)) | refine Ext.trans ?_ (by assumption))); done)))).mono ?_; rintro e w1 ⟨rfl, hE⟩; obtain ⟨t1, t2, t3⟩ := new_kept hE (new_block w (.cells #[.slice b v.length c2] 25) _ rfl); have E1 := aside (Ext.trans (show Ext w _ by ((repeat (first | exact Ext.refl _ | assumption | refine Ext.drew' ?_ | refine Ext.alloc' ?_ _ | (with_reducible refine Ext.trans ?_ (Ext.drewN _ _)) | refine Ext.trans ?_ (by assumption))); done)) hE); clear hE)
      | (go_at_call 14; refine (great_calls _ a b p.length c v.length c2 p v (AP.out.below E1.out) (AV.out.below E1.out) (fun x hx => (I1.out x hx).2.2) I2.out).mono ?_; rintro e w2 ⟨rfl, hE2⟩; rw [hgr]; have E2 := aside (E1.out.trans hE2); clear hE2))
    exact bodyPost_ret (v := .bool true) (by simp [results, Tryz.results12, go_sem]) rfl ⟨rfl, E2.out⟩
end Go.Proofs.YtndpgdegcbaigaaGreatDoor

namespace Go.Proofs.YtndpgdegcbaigaaGreatDoor
open Go Go.RowKit Go.ChangeShapes Go.WideShapes Go.Deep

section
variable {H : Type} {enc : TypeId × Value → H} {w : World} {base : Nat} {spare : Nat → Bool} {held : Bool}
def dInt (n : Int) (_ : DataW H) : Prop := inI n
theorem open_one (n : Nat) (cs' : List Value) (y : DataW H × List MemPlace) (_ : cs'.length = 1) (h : DataW.trod enc Tryz.prog w base spare held n 3 cs' = some y) : ∃ v : Int, cs' = TInt.enc v ∧ dInt v y.1 := by
  obtain ⟨i, rfl, rfl, wi⟩ := DataW.trod_int Tryz.underlying3 h
  exact ⟨i, rfl, in_of_wf wi⟩
set_option maxRecDepth 100000 in
theorem open_ints {v : Value} {d : DataW H} {p : List MemPlace} {r : Reach} {b0 : Nat} (hv : Value.okWide Tryz.prog w r b0 57 v) (hd : DataW.Trod enc Tryz.prog w base spare held 57 v d p) :
    ∃ a n c xs, v = .slice a n c ∧ Arr TInt w a n c xs ∧ ∀ x ∈ xs, inI x := by
  obtain ⟨a0, len, cap, rfl⟩ := okWide_slice Tryz.underlying57 hv
  obtain ⟨fuel, hf⟩ := hd
  obtain ⟨a, n, c, xs, hcs, hA, hx⟩ := open_rows TInt dInt Tryz.underlying57 (by kernel_rfl) open_one hf
  obtain ⟨rfl, rfl, rfl⟩ : a0 = a ∧ len = n ∧ cap = c := by simpa [Value.cells] using hcs
  refine ⟨a0, len, cap, xs, rfl, hA, fun x hxm => ?_⟩
  rcases hx with ⟨_, rfl⟩ | ⟨es, sp, hd, hq⟩
  · simp at hxm
  · obtain ⟨d', hd', q0⟩ := hq x hxm
    exact q0
end
end Go.Proofs.YtndpgdegcbaigaaGreatDoor
