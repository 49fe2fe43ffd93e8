/- What the program's variables hold, as a fact on a world, and what strconv does there. · Package vm: texts. · Package vm: texts: cat and cut. · Package vm: texts: num. -/
import Derived.Test.YtndpgdegcbaigaaGreatDoorQ03
import Derived.Test.YtndpgdegcbaigaaGreatDoorQ05
import Derived.Lib.SmallJoins
import Derived.Lib.AppendIntMem
import Derived.Test.YtndpgdegcbaigaaGreatDoorQ04
namespace Go.Proofs.YtndpgdegcbaigaaGreatDoor
open Go Go.RowKit

structure Globals (w : World) : Prop where
  size : 9 ≤ w.heap.size
  words : Words w
  pow : Lib.TabIs Tryz.prog w "internal/strconv.uint64pow10" .u64 Lib.pow10Tab
  mx : ∃ m, w.cell? ⟨2, 0, none⟩ = some (.int .i64 m)
  syn : ∃ v, w.cell? ⟨3, 0, none⟩ = some v ∧ (v = .nilIface ∨ ∃ te pe, v = .iface te pe)
  rng : ∃ v, w.cell? ⟨4, 0, none⟩ = some v ∧ (v = .nilIface ∨ ∃ te pe, v = .iface te pe)

theorem Globals.keep {w w' : World} (h : Globals w) (hs : w.heap.size ≤ w'.heap.size) (hk : ∀ k, k < 9 → w'.heap[k]? = w.heap[k]?) : Globals w' := by
  have hc : ∀ k o, k < 9 → w'.cell? ⟨k, o, none⟩ = w.cell? ⟨k, o, none⟩ := fun k o hk' => cell_of_block (p := ⟨k, o, none⟩) (hk k hk')
  refine ⟨Nat.le_trans h.size hs, ⟨Nat.lt_of_lt_of_le h.words.low hs, fun i hi => (hc _ _ (by decide)).trans (h.words.cells i hi)⟩, ?_, ?_, ?_, ?_⟩
  · have := h.pow
    unfold Lib.TabIs World.var? at *
    rw [show Program.globalNamed Tryz.prog "internal/strconv.uint64pow10" = some 1 from by kernel_rfl] at *
    simp only [Option.bind_some] at *
    rw [hk 1 (by decide)]; exact this
  · obtain ⟨m, hm⟩ := h.mx; exact ⟨m, (hc 2 0 (by decide)).trans hm⟩
  · obtain ⟨m, hm, h2⟩ := h.syn; exact ⟨m, (hc 3 0 (by decide)).trans hm, h2⟩
  · obtain ⟨m, hm, h2⟩ := h.rng; exact ⟨m, (hc 4 0 (by decide)).trans hm, h2⟩
theorem Globals.ext {w w' : World} (h : Globals w) (e : Ext w w') : Globals w' := h.keep e.size fun k hk => e.block k (Nat.lt_of_lt_of_le hk h.size)

/-- A machine's blocks are none of the program's variables. -/
def Apart (p : Nat) (sb cb : Option Nat) : Prop := ∀ k, Foot p sb cb k → 9 ≤ k

section
variable {p : Nat} {prog : List Ins} {view : List File} {c : Cfg} {steps : Int} {done : Bool} {fault : Int} {sb cb sb' cb' : Option Nat} {w w' : World}
theorem Next.globals (h : Next w p prog view c steps done fault sb cb sb' cb' w') (hg : Globals w) (ha : Apart p sb cb) : Globals w' :=
  hg.keep h.fr.size fun k hk => h.fr.block k (Nat.lt_of_lt_of_le hk hg.size) fun hf => by have := ha k hf; omega
theorem Next.apart (h : Next w p prog view c steps done fault sb cb sb' cb' w') (hg : Globals w) (ha : Apart p sb cb) : Apart p sb' cb' := fun k hf => by
  by_cases hk : k < w.heap.size
  · exact ha k (h.sub k hk hf)
  · have := hg.size; omega
end

/-- A number that is an int. -/
def inI (n : Int) : Prop := -9223372036854775808 ≤ n ∧ n ≤ 9223372036854775807

theorem Itoa_calls (n : Int) (hn : inI n) (w : World) (hg : Globals w) : Calls Tryz.prog 29 #[.int .i64 n] w fun e w' => e = .returned (.string (itoaS n)) ∧ Ext w w' := by
  refine (Tryz.strconv_Itoa n hn.1 hn.2 w hg.pow).mono ?_
  rintro e w' ⟨rfl, k, os, rfl⟩
  exact ⟨rfl, (Lib.below_grow _ w (Nat.le_refl _) k os)⟩

/-- Atoi's answer: the number, and no error; or some number, and an error. -/
def AtoiEnds (s : ByteArray) (w : World) (e : Ending) (w' : World) : Prop := Ext w w' ∧
  ((∃ n, Lib.atoiAll s.data.toList = .ok n ∧ e = .returned (.tuple #[.int .i64 n, .nilIface])) ∨
   ((∀ n, Lib.atoiAll s.data.toList ≠ .ok n) ∧ ∃ n t v, e = .returned (.tuple #[.int .i64 n, .iface t v])))

theorem Atoi_calls (s : ByteArray) (hs : s.size ≤ 281474976710656) (w : World) (hg : Globals w) : Calls Tryz.prog 75 #[.string s] w (AtoiEnds s w) := by
  rcases h : Lib.atoiAll s.data.toList with n | _ | _
  · refine (Tryz.strconv_Atoi_ok s (by omega) n h w).mono ?_
    rintro e w' ⟨rfl, hw⟩
    refine ⟨?_, Or.inl ⟨n, h, rfl⟩⟩
    rcases hw with rfl | ⟨t, rfl⟩
    · exact Ext.refl _
    · exact Joins.below_bytesWorld _ _ _ _ (Nat.le_refl _)
  · obtain ⟨v, hv, hv2⟩ := hg.syn
    refine (Tryz.strconv_Atoi_other s hs (fun n hn => by rw [h] at hn; cases hn) (fun hn => by rw [h] at hn; cases hn) v w hv hv2).mono ?_
    rintro e w' ⟨N, rfl, _, _, hb⟩
    exact ⟨hb, Or.inr ⟨fun n hn => by (rw [h] at hn; cases hn), _, _, _, rfl⟩⟩
  · obtain ⟨v, hv, hv2⟩ := hg.rng
    refine (Tryz.strconv_Atoi_range s hs h v w hv hv2).mono ?_
    rintro e w' ⟨N, rfl, _, _, hb⟩
    exact ⟨hb, Or.inr ⟨fun n hn => by (rw [h] at hn; cases hn), _, _, _, rfl⟩⟩
end Go.Proofs.YtndpgdegcbaigaaGreatDoor

namespace Go.Proofs.YtndpgdegcbaigaaGreatDoor
open Go Go.RowKit

section
variable {p : Nat} {prog : List Ins} {view : List File} {c : Cfg} {steps : Int} {done : Bool} {fault : Int} {sb cb : Option Nat} {w : World}

set_option maxHeartbeats 1000000 in
set_option maxRecDepth 20000 in
theorem texts_text (n : Int) (s : ByteArray) (h : Mach w p prog view c steps done fault sb cb) :
    Calls Tryz.prog 70 #[.pointer (some ⟨p, 0, none⟩), vIns ⟨3, n, s⟩] w (Did w p prog view steps done fault sb cb (execTexts ⟨3, n, s⟩ c)) := by
  have hx : execTexts ⟨3, n, s⟩ c = pushV (vText s) c := rfl
  rw [hx, pushV]
  by_cases hs : c.stack.length < 64
  · rw [if_pos hs]
    go_enter Tryz.func70, Tryz.ntmps70
    go_wp2_with (first | (go_at_call 90; refine (text_calls _ _).mono ?_; rintro e w' ⟨rfl, rfl⟩) | (go_at_call 89; refine (push_ok _ (h.keep (by ((repeat (first | exact Ext.refl _ | assumption | refine Ext.drew' ?_ | refine Ext.alloc' ?_ _ | (with_reducible refine Ext.trans ?_ (Ext.drewN _ _)) | refine Ext.trans ?_ (by assumption))); done))) hs).mono ?_; rintro e w' ⟨rfl, hD⟩))
    go_end0
    exact ⟨rfl, hD.after (by ((repeat (first | exact Ext.refl _ | assumption | refine Ext.drew' ?_ | refine Ext.alloc' ?_ _ | (with_reducible refine Ext.trans ?_ (Ext.drewN _ _)) | refine Ext.trans ?_ (by assumption))); done))⟩
  · rw [if_neg hs]
    go_enter Tryz.func70, Tryz.ntmps70
    go_wp2_with (first | (go_at_call 90; refine (text_calls _ _).mono ?_; rintro e w' ⟨rfl, rfl⟩) | (go_at_call 89; refine (push_no _ (h.keep (by ((repeat (first | exact Ext.refl _ | assumption | refine Ext.drew' ?_ | refine Ext.alloc' ?_ _ | (with_reducible refine Ext.trans ?_ (Ext.drewN _ _)) | refine Ext.trans ?_ (by assumption))); done))) hs).mono ?_; rintro e w' ⟨rfl, rfl⟩))
    exact ⟨rfl, rfl, c, Does.same h (by ((repeat (first | exact Ext.refl _ | assumption | refine Ext.drew' ?_ | refine Ext.alloc' ?_ _ | (with_reducible refine Ext.trans ?_ (Ext.drewN _ _)) | refine Ext.trans ?_ (by assumption))); done))⟩

set_option maxHeartbeats 1000000 in
set_option maxRecDepth 20000 in
theorem texts_len (n : Int) (s : ByteArray) (hb64 : c.stack.length ≤ 64) (h : Mach w p prog view c steps done fault sb cb) :
    Calls Tryz.prog 70 #[.pointer (some ⟨p, 0, none⟩), vIns ⟨22, n, s⟩] w (Did w p prog view steps done fault sb cb (execTexts ⟨22, n, s⟩ c)) := by
  have hx : execTexts ⟨22, n, s⟩ c = takeK [true] c fun vs c => pushV (vNum (vs.getD 0 default).s.size) c := rfl
  rw [hx]
  cases hk : kindOK [true] c.stack with
  | true =>
    obtain ⟨xs, tops, hs, hl, ht, h1, h2⟩ := kindOK_split hk
    rw [takeK, if_pos hk, h1, h2]
    match tops, hl with
    | [u], _ =>
    have hlen : xs.length < 64 := by rw [hs] at hb64; simp at hb64; omega
    simp only [List.getD_cons_zero]
    rw [pushV, if_pos hlen]
    clear hx hk h1 h2
    go_enter Tryz.func70, Tryz.ntmps70
    go_wp2_with (first | (go_at_call 87; refine (kinds_taken [true] ⟨#[116]⟩ rfl 1 (by decide) (h.keep (by ((repeat (first | exact Ext.refl _ | assumption | refine Ext.drew' ?_ | refine Ext.alloc' ?_ _ | (with_reducible refine Ext.trans ?_ (Ext.drewN _ _)) | refine Ext.trans ?_ (by assumption))); done))) hb64 xs [u] rfl hs ht).mono ?_; rintro e w' ⟨b, o, cp, sb', cb', rfl, hb, hv, hN⟩; obtain ⟨x9, x0, x1, x2⟩ := hN.box h; obtain ⟨q00, q01, q02⟩ := hv 0 u rfl) | (go_at_call 91; refine (num_calls _ _).mono ?_; rintro e w' ⟨rfl, rfl⟩) | (go_at_call 89; refine (push_ok _ (hN.m.keep (by ((repeat (first | exact Ext.refl _ | assumption | refine Ext.drew' ?_ | refine Ext.alloc' ?_ _ | (with_reducible refine Ext.trans ?_ (Ext.drewN _ _)) | refine Ext.trans ?_ (by assumption))); done))) hlen).mono ?_; rintro e w' ⟨rfl, hD⟩))
    go_end0
    exact ⟨rfl, (hN.does (hD.after (by ((repeat (first | exact Ext.refl _ | assumption | refine Ext.drew' ?_ | refine Ext.alloc' ?_ _ | (with_reducible refine Ext.trans ?_ (Ext.drewN _ _)) | refine Ext.trans ?_ (by assumption))); done)))).after (by ((repeat (first | exact Ext.refl _ | assumption | refine Ext.drew' ?_ | refine Ext.alloc' ?_ _ | (with_reducible refine Ext.trans ?_ (Ext.drewN _ _)) | refine Ext.trans ?_ (by assumption))); done))⟩
  | false =>
    rw [takeK_no hk]
    clear hx
    go_enter Tryz.func70, Tryz.ntmps70
    go_wp2_with (go_at_call 87; refine (kinds_fail [true] ⟨#[116]⟩ rfl (h.keep (by ((repeat (first | exact Ext.refl _ | assumption | refine Ext.drew' ?_ | refine Ext.alloc' ?_ _ | (with_reducible refine Ext.trans ?_ (Ext.drewN _ _)) | refine Ext.trans ?_ (by assumption))); done))) hb64 hk).mono ?_; rintro e w' ⟨rfl, hE⟩)
    exact ⟨rfl, rfl, c, Does.same h (Ext.trans (by ((repeat (first | exact Ext.refl _ | assumption | refine Ext.drew' ?_ | refine Ext.alloc' ?_ _ | (with_reducible refine Ext.trans ?_ (Ext.drewN _ _)) | refine Ext.trans ?_ (by assumption))); done)) hE)⟩

set_option maxHeartbeats 1000000 in
set_option maxRecDepth 20000 in
theorem texts_str (n : Int) (s : ByteArray) (hb64 : c.stack.length ≤ 64) (hin : ∀ v ∈ c.stack, inI v.n) (hg : Globals w) (ha : Apart p sb cb) (h : Mach w p prog view c steps done fault sb cb) :
    Calls Tryz.prog 70 #[.pointer (some ⟨p, 0, none⟩), vIns ⟨24, n, s⟩] w (Did w p prog view steps done fault sb cb (execTexts ⟨24, n, s⟩ c)) := by
  have hx : execTexts ⟨24, n, s⟩ c = takeK [false] c fun vs c => pushV (vText (itoaS (vs.getD 0 default).n)) c := rfl
  rw [hx]
  cases hk : kindOK [false] c.stack with
  | true =>
    obtain ⟨xs, tops, hs, hl, ht, h1, h2⟩ := kindOK_split hk
    rw [takeK, if_pos hk, h1, h2]
    match tops, hl with
    | [u], _ =>
    have hlen : xs.length < 64 := by rw [hs] at hb64; simp at hb64; omega
    simp only [List.getD_cons_zero]
    rw [pushV, if_pos hlen]
    have hu : inI u.n := hin u (by rw [hs]; simp)
    clear hx hk h1 h2
    go_enter Tryz.func70, Tryz.ntmps70
    go_wp2_with (first | ((go_at_call 87; refine (kinds_taken [false] ⟨#[110]⟩ rfl 1 (by decide) (h.keep (by ((repeat (first | exact Ext.refl _ | assumption | refine Ext.drew' ?_ | refine Ext.alloc' ?_ _ | (with_reducible refine Ext.trans ?_ (Ext.drewN _ _)) | refine Ext.trans ?_ (by assumption))); done))) hb64 xs [u] rfl hs ht).mono ?_; rintro e w' ⟨b, o, cp, sb', cb', rfl, hb, hv, hN⟩; obtain ⟨x9, x0, x1, x2⟩ := hN.box h; obtain ⟨q00, q01, q02⟩ := hv 0 u rfl); have hg' := hN.globals (hg.ext (by ((repeat (first | exact Ext.refl _ | assumption | refine Ext.drew' ?_ | refine Ext.alloc' ?_ _ | (with_reducible refine Ext.trans ?_ (Ext.drewN _ _)) | refine Ext.trans ?_ (by assumption))); done))) ha) | (go_at_call 29; refine (Itoa_calls _ (by assumption) _ (by first | assumption | (refine Globals.ext hg' ?_; ((repeat (first | exact Ext.refl _ | assumption | refine Ext.drew' ?_ | refine Ext.alloc' ?_ _ | (with_reducible refine Ext.trans ?_ (Ext.drewN _ _)) | refine Ext.trans ?_ (by assumption))); done); done))).mono ?_; rintro e w' ⟨rfl, hI⟩) | (go_at_call 90; refine (text_calls _ _).mono ?_; rintro e w' ⟨rfl, rfl⟩) | (go_at_call 89; refine (push_ok _ (hN.m.keep (by ((repeat (first | exact Ext.refl _ | assumption | refine Ext.drew' ?_ | refine Ext.alloc' ?_ _ | (with_reducible refine Ext.trans ?_ (Ext.drewN _ _)) | refine Ext.trans ?_ (by assumption))); done))) hlen).mono ?_; rintro e w' ⟨rfl, hD⟩))
    go_end0
    exact ⟨rfl, (hN.does (hD.after (hI.trans (by ((repeat (first | exact Ext.refl _ | assumption | refine Ext.drew' ?_ | refine Ext.alloc' ?_ _ | (with_reducible refine Ext.trans ?_ (Ext.drewN _ _)) | refine Ext.trans ?_ (by assumption))); done))))).after (by ((repeat (first | exact Ext.refl _ | assumption | refine Ext.drew' ?_ | refine Ext.alloc' ?_ _ | (with_reducible refine Ext.trans ?_ (Ext.drewN _ _)) | refine Ext.trans ?_ (by assumption))); done))⟩
  | false =>
    rw [takeK_no hk]
    clear hx
    go_enter Tryz.func70, Tryz.ntmps70
    go_wp2_with (go_at_call 87; refine (kinds_fail [false] ⟨#[110]⟩ rfl (h.keep (by ((repeat (first | exact Ext.refl _ | assumption | refine Ext.drew' ?_ | refine Ext.alloc' ?_ _ | (with_reducible refine Ext.trans ?_ (Ext.drewN _ _)) | refine Ext.trans ?_ (by assumption))); done))) hb64 hk).mono ?_; rintro e w' ⟨rfl, hE⟩)
    exact ⟨rfl, rfl, c, Does.same h (Ext.trans (by ((repeat (first | exact Ext.refl _ | assumption | refine Ext.drew' ?_ | refine Ext.alloc' ?_ _ | (with_reducible refine Ext.trans ?_ (Ext.drewN _ _)) | refine Ext.trans ?_ (by assumption))); done)) hE)⟩
end
end Go.Proofs.YtndpgdegcbaigaaGreatDoor

namespace Go.Proofs.YtndpgdegcbaigaaGreatDoor
open Go Go.RowKit

theorem unless_ok_of {b : Bool} (hb : b = true) (e : Int) (w : World) : Calls Tryz.prog 88 #[.bool b, .int .i64 e] w fun r w' => r = unit ∧ w = w' := by subst hb; exact unless_ok e w
theorem unless_no_of {b : Bool} (hb : b = false) (e : Int) (w : World) : Calls Tryz.prog 88 #[.bool b, .int .i64 e] w fun r w' => r = stopped e ∧ w = w' := by subst hb; exact unless_no e w

section
variable {p : Nat} {prog : List Ins} {view : List File} {c : Cfg} {steps : Int} {done : Bool} {fault : Int} {sb cb : Option Nat} {w : World}

set_option maxHeartbeats 1000000 in
set_option maxRecDepth 20000 in
theorem texts_cat (n : Int) (s : ByteArray) (hb64 : c.stack.length ≤ 64) (hsz : ∀ v ∈ c.stack, v.s.size ≤ 2048) (h : Mach w p prog view c steps done fault sb cb) :
    Calls Tryz.prog 70 #[.pointer (some ⟨p, 0, none⟩), vIns ⟨21, n, s⟩] w (Did w p prog view steps done fault sb cb (execTexts ⟨21, n, s⟩ c)) := by
  have hx : execTexts ⟨21, n, s⟩ c = takeK [true, true] c fun vs c => if (vs.getD 0 default).s.size + (vs.getD 1 default).s.size ≤ 2048 then pushV (vText ((vs.getD 0 default).s ++ (vs.getD 1 default).s)) c else .stop 43 := rfl
  rw [hx]
  cases hk : kindOK [true, true] c.stack with
  | true =>
    obtain ⟨xs, tops, hs, hl, ht, h1, h2⟩ := kindOK_split hk
    rw [takeK, if_pos hk, h1, h2]
    match tops, hl with
    | [u, v], _ =>
    have hlen : xs.length < 64 := by rw [hs] at hb64; simp at hb64; omega
    simp only [List.getD_cons_zero, List.getD_cons_succ]
    have hu : u.s.size ≤ 2048 := hsz u (by rw [hs]; simp)
    have hv' : v.s.size ≤ 2048 := hsz v (by rw [hs]; simp)
    clear hx hk h1 h2
    by_cases hc : u.s.size + v.s.size ≤ 2048
    · rw [if_pos hc, pushV, if_pos hlen]
      have hci : (u.s.size : Int) + v.s.size ≤ 2048 := by omega
      go_enter Tryz.func70, Tryz.ntmps70
      go_wp2_with (go_at_call 87; refine (kinds_taken [true, true] ⟨#[116, 116]⟩ rfl 2 (by decide) (h.keep (by ((repeat (first | exact Ext.refl _ | assumption | refine Ext.drew' ?_ | refine Ext.alloc' ?_ _ | (with_reducible refine Ext.trans ?_ (Ext.drewN _ _)) | refine Ext.trans ?_ (by assumption))); done))) hb64 xs [u, v] rfl hs ht).mono ?_; rintro e w' ⟨b, o, cp, sb', cb', rfl, hb, hv, hN⟩; obtain ⟨x9, x0, x1, x2⟩ := hN.box h; obtain ⟨q00, q01, q02⟩ := hv 0 u rfl; obtain ⟨q10, q11, q12⟩ := hv 1 v rfl)
      (refine wp_region_mixed 12 (by kernel_rfl) (by kernel_rfl) ?_; simp only [List.take_succ_cons, List.take_zero, List.drop_succ_cons, List.drop_zero]; (repeat (go_big_quiet_step (fail))); refine wpQuiet_nil ?_)
      go_wp2_with (go_at_call 88; refine (unless_ok_of (by first | (simp [*]; done) | (simp [*]; omega)) _ _).mono ?_; rintro e w' ⟨rfl, rfl⟩)
      (refine wp_region_moved 10 _ (by kernel_rfl) rfl rfl (by kernel_rfl) (fun _ _ _ _ h => h) ?_; simp only [List.take_succ_cons, List.take_zero, List.drop_succ_cons, List.drop_zero]; (repeat (go_big_quiet_step (fail))); refine wpQuiet_nil ?_)
      go_wp2_with (first | (go_at_call 90; refine (text_calls _ _).mono ?_; rintro e w' ⟨rfl, rfl⟩) | (go_at_call 89; refine (push_ok _ (hN.m.keep (by ((repeat (first | exact Ext.refl _ | assumption | refine Ext.drew' ?_ | refine Ext.alloc' ?_ _ | (with_reducible refine Ext.trans ?_ (Ext.drewN _ _)) | refine Ext.trans ?_ (by assumption))); done))) hlen).mono ?_; rintro e w' ⟨rfl, hD⟩))
      go_end0
      exact ⟨rfl, (hN.does (hD.after (by ((repeat (first | exact Ext.refl _ | assumption | refine Ext.drew' ?_ | refine Ext.alloc' ?_ _ | (with_reducible refine Ext.trans ?_ (Ext.drewN _ _)) | refine Ext.trans ?_ (by assumption))); done)))).after (by ((repeat (first | exact Ext.refl _ | assumption | refine Ext.drew' ?_ | refine Ext.alloc' ?_ _ | (with_reducible refine Ext.trans ?_ (Ext.drewN _ _)) | refine Ext.trans ?_ (by assumption))); done))⟩
    · rw [if_neg hc]
      have hci : ¬ (u.s.size : Int) + v.s.size ≤ 2048 := by omega
      go_enter Tryz.func70, Tryz.ntmps70
      go_wp2_with (go_at_call 87; refine (kinds_taken [true, true] ⟨#[116, 116]⟩ rfl 2 (by decide) (h.keep (by ((repeat (first | exact Ext.refl _ | assumption | refine Ext.drew' ?_ | refine Ext.alloc' ?_ _ | (with_reducible refine Ext.trans ?_ (Ext.drewN _ _)) | refine Ext.trans ?_ (by assumption))); done))) hb64 xs [u, v] rfl hs ht).mono ?_; rintro e w' ⟨b, o, cp, sb', cb', rfl, hb, hv, hN⟩; obtain ⟨x9, x0, x1, x2⟩ := hN.box h; obtain ⟨q00, q01, q02⟩ := hv 0 u rfl; obtain ⟨q10, q11, q12⟩ := hv 1 v rfl)
      (refine wp_region_mixed 12 (by kernel_rfl) (by kernel_rfl) ?_; simp only [List.take_succ_cons, List.take_zero, List.drop_succ_cons, List.drop_zero]; (repeat (go_big_quiet_step (fail))); refine wpQuiet_nil ?_)
      go_wp2_with (go_at_call 88; refine (unless_no_of (by first | (simp [*]; done) | (simp [*]; omega)) _ _).mono ?_; rintro e w' ⟨rfl, rfl⟩)
      exact ⟨rfl, rfl, _, (hN.does (Does.same hN.m (by ((repeat (first | exact Ext.refl _ | assumption | refine Ext.drew' ?_ | refine Ext.alloc' ?_ _ | (with_reducible refine Ext.trans ?_ (Ext.drewN _ _)) | refine Ext.trans ?_ (by assumption))); done)))).after (by ((repeat (first | exact Ext.refl _ | assumption | refine Ext.drew' ?_ | refine Ext.alloc' ?_ _ | (with_reducible refine Ext.trans ?_ (Ext.drewN _ _)) | refine Ext.trans ?_ (by assumption))); done))⟩
  | false =>
    rw [takeK_no hk]
    clear hx
    go_enter Tryz.func70, Tryz.ntmps70
    go_wp2_with (go_at_call 87; refine (kinds_fail [true, true] ⟨#[116, 116]⟩ rfl (h.keep (by ((repeat (first | exact Ext.refl _ | assumption | refine Ext.drew' ?_ | refine Ext.alloc' ?_ _ | (with_reducible refine Ext.trans ?_ (Ext.drewN _ _)) | refine Ext.trans ?_ (by assumption))); done))) hb64 hk).mono ?_; rintro e w' ⟨rfl, hE⟩)
    exact ⟨rfl, rfl, c, Does.same h (Ext.trans (by ((repeat (first | exact Ext.refl _ | assumption | refine Ext.drew' ?_ | refine Ext.alloc' ?_ _ | (with_reducible refine Ext.trans ?_ (Ext.drewN _ _)) | refine Ext.trans ?_ (by assumption))); done)) hE)⟩

set_option maxHeartbeats 1000000 in
set_option maxRecDepth 20000 in
theorem texts_cut (n : Int) (s : ByteArray) (hb64 : c.stack.length ≤ 64) (hsz : ∀ v ∈ c.stack, v.s.size ≤ 2048) (h : Mach w p prog view c steps done fault sb cb) :
    Calls Tryz.prog 70 #[.pointer (some ⟨p, 0, none⟩), vIns ⟨23, n, s⟩] w (Did w p prog view steps done fault sb cb (execTexts ⟨23, n, s⟩ c)) := by
  have hx : execTexts ⟨23, n, s⟩ c = takeK [true, false, false] c fun vs c =>
    if 0 ≤ (vs.getD 1 default).n ∧ (vs.getD 1 default).n ≤ (vs.getD 2 default).n ∧ (vs.getD 2 default).n ≤ (vs.getD 0 default).s.size then
      pushV (vText ((vs.getD 0 default).s.extract (vs.getD 1 default).n.toNat (vs.getD 2 default).n.toNat)) c else .stop 43 := rfl
  rw [hx]
  cases hk : kindOK [true, false, false] c.stack with
  | true =>
    obtain ⟨xs, tops, hs, hl, ht, h1, h2⟩ := kindOK_split hk
    rw [takeK, if_pos hk, h1, h2]
    match tops, hl with
    | [t, u, v], _ =>
    have hlen : xs.length < 64 := by rw [hs] at hb64; simp at hb64; omega
    simp only [List.getD_cons_zero, List.getD_cons_succ]
    have hu : t.s.size ≤ 2048 := hsz t (by rw [hs]; simp)
    clear hx hk h1 h2
    by_cases hc : 0 ≤ u.n ∧ u.n ≤ v.n ∧ v.n ≤ t.s.size
    · rw [if_pos hc, pushV, if_pos hlen]
      obtain ⟨c1, c2, c3⟩ := hc
      obtain ⟨i, hi⟩ : ∃ i : Nat, u.n = i := ⟨u.n.toNat, by omega⟩
      obtain ⟨j, hj⟩ : ∃ j : Nat, v.n = j := ⟨v.n.toNat, by omega⟩
      have ci : u.n ≤ (t.s.size : Int) := by omega
      rw [show u.n.toNat = i by omega, show v.n.toNat = j by omega]
      go_enter Tryz.func70, Tryz.ntmps70
      go_wp2_with (go_at_call 87; refine (kinds_taken [true, false, false] ⟨#[116, 110, 110]⟩ rfl 3 (by decide) (h.keep (by ((repeat (first | exact Ext.refl _ | assumption | refine Ext.drew' ?_ | refine Ext.alloc' ?_ _ | (with_reducible refine Ext.trans ?_ (Ext.drewN _ _)) | refine Ext.trans ?_ (by assumption))); done))) hb64 xs [t, u, v] rfl hs ht).mono ?_; rintro e w' ⟨b, o, cp, sb', cb', rfl, hb, hv, hN⟩; obtain ⟨x9, x0, x1, x2⟩ := hN.box h; obtain ⟨q00, q01, q02⟩ := hv 0 t rfl; obtain ⟨q10, q11, q12⟩ := hv 1 u rfl; obtain ⟨q20, q21, q22⟩ := hv 2 v rfl)
      go_quiet (fail)
      go_wp2_with (first | (go_at_call 88; refine (unless_ok_of (by first | (simp [*]; done) | (simp [*]; omega)) _ _).mono ?_; rintro e w' ⟨rfl, rfl⟩) | (go_at_call 90; refine (text_calls _ _).mono ?_; rintro e w' ⟨rfl, rfl⟩) | (go_at_call 89; refine (push_ok _ (hN.m.keep (by ((repeat (first | exact Ext.refl _ | assumption | refine Ext.drew' ?_ | refine Ext.alloc' ?_ _ | (with_reducible refine Ext.trans ?_ (Ext.drewN _ _)) | refine Ext.trans ?_ (by assumption))); done))) hlen).mono ?_; rintro e w' ⟨rfl, hD⟩))
      go_end0
      exact ⟨rfl, (hN.does (hD.after (by ((repeat (first | exact Ext.refl _ | assumption | refine Ext.drew' ?_ | refine Ext.alloc' ?_ _ | (with_reducible refine Ext.trans ?_ (Ext.drewN _ _)) | refine Ext.trans ?_ (by assumption))); done)))).after (by ((repeat (first | exact Ext.refl _ | assumption | refine Ext.drew' ?_ | refine Ext.alloc' ?_ _ | (with_reducible refine Ext.trans ?_ (Ext.drewN _ _)) | refine Ext.trans ?_ (by assumption))); done))⟩
    · rw [if_neg hc]
      go_enter Tryz.func70, Tryz.ntmps70
      go_wp2_with (go_at_call 87; refine (kinds_taken [true, false, false] ⟨#[116, 110, 110]⟩ rfl 3 (by decide) (h.keep (by ((repeat (first | exact Ext.refl _ | assumption | refine Ext.drew' ?_ | refine Ext.alloc' ?_ _ | (with_reducible refine Ext.trans ?_ (Ext.drewN _ _)) | refine Ext.trans ?_ (by assumption))); done))) hb64 xs [t, u, v] rfl hs ht).mono ?_; rintro e w' ⟨b, o, cp, sb', cb', rfl, hb, hv, hN⟩; obtain ⟨x9, x0, x1, x2⟩ := hN.box h; obtain ⟨q00, q01, q02⟩ := hv 0 t rfl; obtain ⟨q10, q11, q12⟩ := hv 1 u rfl; obtain ⟨q20, q21, q22⟩ := hv 2 v rfl)
      go_quiet (fail)
      by_cases c1 : 0 ≤ u.n
      · by_cases c2 : u.n ≤ v.n
        · have c3 : ¬ v.n ≤ t.s.size := fun c3 => hc ⟨c1, c2, c3⟩
          go_wp2_with (go_at_call 88; refine (unless_no_of (by first | (simp [*]; done) | (simp [*]; omega)) _ _).mono ?_; rintro e w' ⟨rfl, rfl⟩)
          exact ⟨rfl, rfl, _, (hN.does (Does.same hN.m (by ((repeat (first | exact Ext.refl _ | assumption | refine Ext.drew' ?_ | refine Ext.alloc' ?_ _ | (with_reducible refine Ext.trans ?_ (Ext.drewN _ _)) | refine Ext.trans ?_ (by assumption))); done)))).after (by ((repeat (first | exact Ext.refl _ | assumption | refine Ext.drew' ?_ | refine Ext.alloc' ?_ _ | (with_reducible refine Ext.trans ?_ (Ext.drewN _ _)) | refine Ext.trans ?_ (by assumption))); done))⟩
        · go_wp2_with (go_at_call 88; refine (unless_no_of (by first | (simp [*]; done) | (simp [*]; omega)) _ _).mono ?_; rintro e w' ⟨rfl, rfl⟩)
          exact ⟨rfl, rfl, _, (hN.does (Does.same hN.m (by ((repeat (first | exact Ext.refl _ | assumption | refine Ext.drew' ?_ | refine Ext.alloc' ?_ _ | (with_reducible refine Ext.trans ?_ (Ext.drewN _ _)) | refine Ext.trans ?_ (by assumption))); done)))).after (by ((repeat (first | exact Ext.refl _ | assumption | refine Ext.drew' ?_ | refine Ext.alloc' ?_ _ | (with_reducible refine Ext.trans ?_ (Ext.drewN _ _)) | refine Ext.trans ?_ (by assumption))); done))⟩
      · go_wp2_with (go_at_call 88; refine (unless_no_of (by first | (simp [*]; done) | (simp [*]; omega)) _ _).mono ?_; rintro e w' ⟨rfl, rfl⟩)
        exact ⟨rfl, rfl, _, (hN.does (Does.same hN.m (by ((repeat (first | exact Ext.refl _ | assumption | refine Ext.drew' ?_ | refine Ext.alloc' ?_ _ | (with_reducible refine Ext.trans ?_ (Ext.drewN _ _)) | refine Ext.trans ?_ (by assumption))); done)))).after (by ((repeat (first | exact Ext.refl _ | assumption | refine Ext.drew' ?_ | refine Ext.alloc' ?_ _ | (with_reducible refine Ext.trans ?_ (Ext.drewN _ _)) | refine Ext.trans ?_ (by assumption))); done))⟩
  | false =>
    rw [takeK_no hk]
    clear hx
    go_enter Tryz.func70, Tryz.ntmps70
    go_wp2_with (go_at_call 87; refine (kinds_fail [true, false, false] ⟨#[116, 110, 110]⟩ rfl (h.keep (by ((repeat (first | exact Ext.refl _ | assumption | refine Ext.drew' ?_ | refine Ext.alloc' ?_ _ | (with_reducible refine Ext.trans ?_ (Ext.drewN _ _)) | refine Ext.trans ?_ (by assumption))); done))) hb64 hk).mono ?_; rintro e w' ⟨rfl, hE⟩)
    exact ⟨rfl, rfl, c, Does.same h (Ext.trans (by ((repeat (first | exact Ext.refl _ | assumption | refine Ext.drew' ?_ | refine Ext.alloc' ?_ _ | (with_reducible refine Ext.trans ?_ (Ext.drewN _ _)) | refine Ext.trans ?_ (by assumption))); done)) hE)⟩
end
end Go.Proofs.YtndpgdegcbaigaaGreatDoor

namespace Go.Proofs.YtndpgdegcbaigaaGreatDoor
open Go Go.RowKit

section
variable {p : Nat} {prog : List Ins} {view : List File} {c : Cfg} {steps : Int} {done : Bool} {fault : Int} {sb cb : Option Nat} {w : World}

/-- Two more values, one after another. -/
def twoM (u v : Val) (c : Cfg) : Out := if c.stack.length < 63 then .go { c with stack := (c.stack ++ [u]) ++ [v] } else .stop 40
theorem two_stack {u v : Val} {c : Cfg} : (pushV u c).bind (pushV v) = twoM u v c := by
  unfold pushV Out.bind twoM
  by_cases h : c.stack.length < 64
  · rw [if_pos h]
    by_cases h2 : c.stack.length < 63
    · simp only [List.length_append, List.length_cons, List.length_nil, h2, if_true]; rw [if_pos (by omega)]
    · simp only [List.length_append, List.length_cons, List.length_nil, h2, if_false]; rw [if_neg (by omega)]
  · rw [if_neg h, if_neg (by omega)]

theorem parseMag_nat {l : List UInt8} {u : Nat} (h : Lib.parseMag l = .ok u) : u < 18446744073709551616 := Lib.parseMag_lt h
theorem atoiAll_in {l : List UInt8} {n : Int} (h : Lib.atoiAll l = .ok n) : inI n := by
  unfold Lib.atoiAll at h
  unfold inI
  split at h
  · cases h
  · rename_i c r
    dsimp only at h
    split at h
    · cases h
    · cases h
    · rename_i u hu
      split at h
      · cases h
      · split at h
        · cases h
        · injection h with h
          split at h <;> omega

theorem AtoiEnds.yes {s : ByteArray} {w : World} {k : Int} (hat : Lib.atoiAll s.data.toList = .ok k) (h : Calls Tryz.prog 75 #[.string s] w (AtoiEnds s w)) :
    Calls Tryz.prog 75 #[.string s] w fun e w' => Ext w w' ∧ e = .returned (.tuple #[.int .i64 k, .nilIface]) := h.mono fun e w' ⟨h1, h2⟩ => ⟨h1, by
  rcases h2 with ⟨n, h3, h4⟩ | ⟨h3, _⟩
  · rw [hat] at h3; cases h3; exact h4
  · exact absurd hat (h3 k)⟩
theorem AtoiEnds.no {s : ByteArray} {w : World} (hat : ∀ k, Lib.atoiAll s.data.toList ≠ .ok k) (h : Calls Tryz.prog 75 #[.string s] w (AtoiEnds s w)) :
    Calls Tryz.prog 75 #[.string s] w fun e w' => Ext w w' ∧ ∃ n t v, e = .returned (.tuple #[.int .i64 n, .iface t v]) := h.mono fun e w' ⟨h1, h2⟩ => ⟨h1, by
  rcases h2 with ⟨n, h3, h4⟩ | ⟨_, h3⟩
  · exact absurd h3 (hat n)
  · exact h3⟩

set_option maxHeartbeats 4000000 in
set_option maxRecDepth 20000 in
theorem num_bad (n : Int) (s : ByteArray) (xs : List Val) (u : Val) (hb64 : c.stack.length ≤ 64) (hs : c.stack = xs ++ [u]) (ht : [u].map (·.text) = [true]) (hu : u.s.size ≤ 2048) (hat : ∀ k, Lib.atoiAll u.s.data.toList ≠ .ok k) (hg : Globals w) (ha : Apart p sb cb) (h : Mach w p prog view c steps done fault sb cb) :
    Calls Tryz.prog 70 #[.pointer (some ⟨p, 0, none⟩), vIns ⟨25, n, s⟩] w (Did w p prog view steps done fault sb cb (twoM (vNum 0) (vTruth false) { c with stack := xs })) := by
  have hlen : xs.length < 64 := by rw [hs] at hb64; simp at hb64; omega
  go_enter Tryz.func70, Tryz.ntmps70
  go_wp2_with (first | ((go_at_call 87; refine (kinds_taken [true] ⟨#[116]⟩ rfl 1 (by decide) (h.keep (by ((repeat (first | exact Ext.refl _ | assumption | refine Ext.drew' ?_ | refine Ext.alloc' ?_ _ | (with_reducible refine Ext.trans ?_ (Ext.drewN _ _)) | refine Ext.trans ?_ (by assumption))); done))) hb64 xs [u] rfl hs ht).mono ?_; rintro e w' ⟨b, o, cp, sb', cb', rfl, hb, hv, hN⟩; obtain ⟨x9, x0, x1, x2⟩ := hN.box h; obtain ⟨q00, q01, q02⟩ := hv 0 u rfl); have hg' := hN.globals (hg.ext (by ((repeat (first | exact Ext.refl _ | assumption | refine Ext.drew' ?_ | refine Ext.alloc' ?_ _ | (with_reducible refine Ext.trans ?_ (Ext.drewN _ _)) | refine Ext.trans ?_ (by assumption))); done))) ha) | (go_at_call 75; refine (AtoiEnds.no hat (Atoi_calls _ (by omega) _ (by first | assumption | (refine Globals.ext hg' ?_; ((repeat (first | exact Ext.refl _ | assumption | refine Ext.drew' ?_ | refine Ext.alloc' ?_ _ | (with_reducible refine Ext.trans ?_ (Ext.drewN _ _)) | refine Ext.trans ?_ (by assumption))); done); done)))).mono ?_; rintro e w' ⟨hI, ⟨k, ti, vi, rfl⟩⟩))
  go_region
  by_cases h63 : xs.length < 63
  · have hlen2 : (xs ++ [vNum 0]).length < 64 := by simp; omega
    go_wp2_with (first | (go_at_call 89; refine (push_ok _ (hN2.m.keep (by ((repeat (first | exact Ext.refl _ | assumption | refine Ext.drew' ?_ | refine Ext.alloc' ?_ _ | (with_reducible refine Ext.trans ?_ (Ext.drewN _ _)) | refine Ext.trans ?_ (by assumption))); done))) hlen2).mono ?_; rintro e w' ⟨rfl, hD2⟩) | (go_at_call 89; refine (push_ok _ (hN.m.keep (by ((repeat (first | exact Ext.refl _ | assumption | refine Ext.drew' ?_ | refine Ext.alloc' ?_ _ | (with_reducible refine Ext.trans ?_ (Ext.drewN _ _)) | refine Ext.trans ?_ (by assumption))); done))) hlen).mono ?_; rintro e w' ⟨rfl, sb2, cb2, hM2, hF2, hS2⟩; have hN2 : Next _ p prog view { c with stack := xs ++ [vNum 0] } steps done fault _ _ sb2 cb2 w' := ⟨hM2, hF2, hS2⟩) | (go_at_call 91; refine (num_calls _ _).mono ?_; rintro e w' ⟨rfl, rfl⟩) | (go_at_call 92; refine (truth_calls _ _).mono ?_; rintro e w' ⟨rfl, rfl⟩))
    go_end0
    rw [twoM, if_pos h63]
    exact ⟨rfl, (hN.does ((hN2.does (hD2.after (by ((repeat (first | exact Ext.refl _ | assumption | refine Ext.drew' ?_ | refine Ext.alloc' ?_ _ | (with_reducible refine Ext.trans ?_ (Ext.drewN _ _)) | refine Ext.trans ?_ (by assumption))); done)))).after (by ((repeat (first | exact Ext.refl _ | assumption | refine Ext.drew' ?_ | refine Ext.alloc' ?_ _ | (with_reducible refine Ext.trans ?_ (Ext.drewN _ _)) | refine Ext.trans ?_ (by assumption))); done)))).after (by ((repeat (first | exact Ext.refl _ | assumption | refine Ext.drew' ?_ | refine Ext.alloc' ?_ _ | (with_reducible refine Ext.trans ?_ (Ext.drewN _ _)) | refine Ext.trans ?_ (by assumption))); done))⟩
  · have hlen2 : ¬ (xs ++ [vNum 0]).length < 64 := by simp; omega
    go_wp2_with (first | (go_at_call 89; refine (push_no _ (hN2.m.keep (by ((repeat (first | exact Ext.refl _ | assumption | refine Ext.drew' ?_ | refine Ext.alloc' ?_ _ | (with_reducible refine Ext.trans ?_ (Ext.drewN _ _)) | refine Ext.trans ?_ (by assumption))); done))) hlen2).mono ?_; rintro e w' ⟨rfl, rfl⟩) | (go_at_call 89; refine (push_ok _ (hN.m.keep (by ((repeat (first | exact Ext.refl _ | assumption | refine Ext.drew' ?_ | refine Ext.alloc' ?_ _ | (with_reducible refine Ext.trans ?_ (Ext.drewN _ _)) | refine Ext.trans ?_ (by assumption))); done))) hlen).mono ?_; rintro e w' ⟨rfl, sb2, cb2, hM2, hF2, hS2⟩; have hN2 : Next _ p prog view { c with stack := xs ++ [vNum 0] } steps done fault _ _ sb2 cb2 w' := ⟨hM2, hF2, hS2⟩) | (go_at_call 91; refine (num_calls _ _).mono ?_; rintro e w' ⟨rfl, rfl⟩) | (go_at_call 92; refine (truth_calls _ _).mono ?_; rintro e w' ⟨rfl, rfl⟩))
    rw [twoM, if_neg h63]
    exact ⟨rfl, rfl, _, (hN.does ((hN2.does (Does.same hN2.m (by ((repeat (first | exact Ext.refl _ | assumption | refine Ext.drew' ?_ | refine Ext.alloc' ?_ _ | (with_reducible refine Ext.trans ?_ (Ext.drewN _ _)) | refine Ext.trans ?_ (by assumption))); done)))).after (by ((repeat (first | exact Ext.refl _ | assumption | refine Ext.drew' ?_ | refine Ext.alloc' ?_ _ | (with_reducible refine Ext.trans ?_ (Ext.drewN _ _)) | refine Ext.trans ?_ (by assumption))); done)))).after (by ((repeat (first | exact Ext.refl _ | assumption | refine Ext.drew' ?_ | refine Ext.alloc' ?_ _ | (with_reducible refine Ext.trans ?_ (Ext.drewN _ _)) | refine Ext.trans ?_ (by assumption))); done))⟩
end
end Go.Proofs.YtndpgdegcbaigaaGreatDoor
