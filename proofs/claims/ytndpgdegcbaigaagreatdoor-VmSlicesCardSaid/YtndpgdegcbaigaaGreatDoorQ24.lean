/- slices.symMergeCmpFunc at files, whole. -/
import Derived.Test.YtndpgdegcbaigaaGreatDoorQ23
import Derived.Deep.DeepCutAuto
namespace Go.Proofs.YtndpgdegcbaigaaGreatDoor
open Go Go.RowKit Go.Sort Go.Lib

/-- What symMergeCmpFunc does at places no further apart than this. -/
def SymSays (K : Nat) (cf : File → File → Int) (N : Nat) : Prop := ∀ (blk off cap a m b : Nat) (d : Array File) (w : World), b - a ≤ N → HoldsK encF K w blk off d → blk < w.heap.size → a < m → m < b → b ≤ d.size → d.size ≤ 1000 →
    SortedIn (ltOf cf) a m d → SortedIn (ltOf cf) m b d →
    Calls Tryz.prog 110 #[.slice (some ⟨blk, off, none⟩) d.size cap, .int .i64 a, .int .i64 m, .int .i64 b, .func (.func 60) #[] #[]] w (Merged cf K blk off a b d w)

/-- Where the search ended the rest is one of these. -/
def HalvesAt (cf : File → File → Int) (a m b mid : Nat) (d : Array File) : Prop := ∀ (s : Nat) (d1 : Array File), Srch (ltOf cf) a m b (fun k => d[k]!) s s → (∀ k, d1[k]! = rotF (fun k => d[k]!) s m (mid + m - s) k) → Halves (ltOf cf) a s mid (mid + m - s) b (fun k => d1[k]!)

set_option maxHeartbeats 16000000 in
set_option maxRecDepth 1000000 in
theorem sym3_k (K : Nat) (hK : K = 2) (cf : File → File → Int) (hcf : CmpG cf) (hS : SWO (ltOf cf)) (N : Nat) (ih : SymSays K cf N) (blk off cap a m b : Nat) (d : Array File) (w : World) (hN : b - a ≤ N + 1) (hH : HoldsK encF K w blk off d) (hblk : blk < w.heap.size)
    (ham : a < m) (hmb : m < b) (hna : m ≠ a + 1) (hnb : b ≠ m + 1) (hb : b ≤ d.size) (hsz : d.size ≤ 1000) (h1 : SortedIn (ltOf cf) a m d) (h2 : SortedIn (ltOf cf) m b d) :
    Calls Tryz.prog 110 #[.slice (some ⟨blk, off, none⟩) d.size cap, .int .i64 a, .int .i64 m, .int .i64 b, .func (.func 60) #[] #[]] w (Merged cf K blk off a b d w) := by
  have HST : Aside (w = sortWorldK encF K w blk off 0 d #[]) := sw_start hH
  have HH : Aside (HoldsK encF K w blk off d) := hH
  have HB : Aside (blk < w.heap.size) := hblk
  have HKK : Aside (K = 2) := hK
  have H1 : Aside (SortedIn (ltOf cf) a m d) := h1
  have H2 : Aside (SortedIn (ltOf cf) m b d) := h2
  have HS : Aside (SWO (ltOf cf)) := hS
  have HC : Aside (CmpG cf) := hcf
  have IH : Aside (SymSays K cf N) := ih
  have mixed : Tryz.prog.follows .mixedOrders = true := by kernel_rfl
  have aE := Tryz.isAgg34
  have zE : ∀ w, (Go.sizeOf 34).run Tryz.prog w = .ok K w := by rw [hK]; exact Tryz.sizeOf34
  have HK : Aside (∀ x : File, (encF x).length = K) := (show Aside _ from by rw [HKK.out]; exact fun _ => rfl)
  have e0 : ((m : Int) - (a : Int) == 1) = false := by simp; omega
  have e1 : ((b : Int) - (m : Int) == 1) = false := by simp; omega
  obtain ⟨mid, hmid⟩ : ∃ mid, (a + b) / 2 = mid := ⟨_, rfl⟩
  have HD : Aside (HalvesAt cf a m b mid d) := (show Aside _ from by
    rw [← hmid]; exact fun s d1 hs hd => Srch.halves hS hs ham hmb h1 h2 hd)
  have hmid1 : ((a : Int) + (b : Int)) / 2 = (mid : Int) := by omega
  have ham2 : a < mid := by omega
  have hmb2 : mid < b := by omega
  have HM : Aside ((a + b) / 2 = mid) := hmid
  clear hH hK h1 h2 hS hcf ih hna hnb hmid
  go_enter Tryz.func110, Tryz.ntmps110
  go_upto_if 140 with fail
  go_cut [20, 21] (fun s20 s21 wx => s20 = .int .i64 (lo0 a m b : Nat) ∧ s21 = .int .i64 (hi0 a m b : Nat) ∧ wx = w)
  case first => as_aux_lemma =>
    by_cases hmm : mid < m
    · have hz : (mid : Int) < (m : Int) := by omega
      have e3 : (mid : Int) + (m : Int) - (b : Int) = ((mid + m - b : Nat) : Int) := by have := HM.out; omega
      have l0 : Aside (lo0 a m b = mid + m - b ∧ hi0 a m b = mid) := (show Aside _ from by unfold lo0 hi0; rw [HM.out, if_pos hmm, if_pos hmm]; exact ⟨rfl, rfl⟩)
      go_wp2_with fail
      go_meet
      exact ⟨by rw [l0.out.1], by rw [l0.out.2], rfl⟩
    · have hz : ¬ (mid : Int) < (m : Int) := by omega
      have l0 : Aside (lo0 a m b = a ∧ hi0 a m b = m) := (show Aside _ from by unfold lo0 hi0; rw [HM.out, if_neg hmm, if_neg hmm]; exact ⟨rfl, rfl⟩)
      go_wp2_with fail
      go_meet
      exact ⟨by rw [l0.out.1], by rw [l0.out.2], rfl⟩
  case rest =>
    obtain ⟨rfl, rfl, hw⟩ := hcut
    have hw' := hw.symm
    subst hw'
    have SR : Aside (Srch (ltOf cf) a m b (fun k => d[k]!) (lo0 a m b) (hi0 a m b)) := Srch.start ham hmb
    have hle : lo0 a m b ≤ hi0 a m b := SR.out.le
    have hhi : hi0 a m b ≤ b := by unfold hi0; split <;> omega
    obtain ⟨lo1, hlo1⟩ : ∃ x, lo0 a m b = x := ⟨_, rfl⟩
    obtain ⟨hi1, hhi1⟩ : ∃ x, hi0 a m b = x := ⟨_, rfl⟩
    rw [hlo1, hhi1] at SR hle ⊢
    rw [hhi1] at hhi
    clear hlo1 hhi1
    go_wp2
    go_loopg [20, 21] b (fun g1 s20 s21 wr => ∃ (lo hi n : Nat) (os : Array Obj), s20 = .int .i64 lo ∧ s21 = .int .i64 hi ∧ lo ≤ hi ∧ hi ≤ b ∧ hi - lo ≤ g1 ∧ wr = sortWorldK encF K w blk off n d os ∧ Aside (Srch (ltOf cf) a m b (fun k => d[k]!) lo hi))
    case atStart => exact ⟨lo1, hi1, 0, #[], rfl, rfl, hle, hhi, by omega, HST.out, SR⟩
    case round =>
      obtain ⟨lo, hi, n, os, rfl, rfl, hlh, hhb, hg, hwr, HI⟩ := hrel
      by_cases hlt : lo < hi
      · have hltz : (lo : Int) < (hi : Int) := by omega
        obtain ⟨c, hc⟩ : ∃ c : Nat, c = (lo + hi) / 2 := ⟨_, rfl⟩
        have hcz : ((lo : Int) + (hi : Int)) / 2 = (c : Int) := by omega
        have hlc : lo ≤ c := by omega
        have hch : c < hi := by omega
        clear hc
        have hbd : a ≤ c ∧ c < m ∧ c < mid + m ∧ m ≤ mid + m - 1 - c ∧ mid + m - 1 - c < b := by have := HI.out.bounds ham hmb hlc hch; rw [HM.out] at this; exact this
        obtain ⟨bd1, bd2, bd3, bd4, bd5⟩ := hbd
        obtain ⟨q, hq⟩ : ∃ q, mid + m - 1 - c = q := ⟨_, rfl⟩
        have hqz : (mid : Int) + (m : Int) - 1 - (c : Int) = (q : Int) := by omega
        have bq : q < b := by omega
        have hqw : IntKind.i64.wrap (q : Int) = (q : Int) := by rw [IntKind.wrap_i64]; omega
        have HQ : Aside ((a + b) / 2 + m - 1 - c = q) := (show Aside _ from by rw [HM.out]; exact hq)
        clear hq bd4 bd5
        have hqs : (q : Int) < (d.size : Int) := by omega
        have hcs : (c : Int) < (d.size : Int) := by omega
        subst hwr
        obtain ⟨vq, vc, hs1, hs2, lq, lc, hcg, CLS⟩ := cmps HC.out HK.out HH.out HB.out n d os rfl q c (by omega) (by omega)
        obtain ⟨r, hr⟩ : ∃ r, cf d[q]! d[c]! = r := ⟨_, rfl⟩
        rw [hr] at hcg
        have HR : Aside (ltOf cf d[q]! d[c]! = decide (r < 0)) := (show Aside _ from by rw [← hr]; rfl)
        clear hr
        generalize sortWorldK encF K w blk off n d os = wq at lq lc hcg CLS ⊢
        by_cases hlv : r < 0
        · as_aux_lemma =>
          have HR2 : Aside (ltOf cf d[q]! d[c]! = true) := (show Aside _ from HR.out.trans (decide_eq_true hlv))
          go_wp2_with fail
          go_quiet_grown (first | (go_at_call 60; refine Calls.grown_of (hcg _ _)))
          go_wp2
          go_roundg (c - lo)
          case measure => omega
          case rel => exact ⟨lo, c, _, _, rfl, by go_num, by omega, by omega, by omega, CLS.out nq osq, (show Aside _ from HI.out.down HS.out ham hmb H1.out H2.out hlc hch (by rw [HQ.out]; exact HR2.out))⟩
        · as_aux_lemma =>
          have HR2 : Aside (ltOf cf d[q]! d[c]! = false) := (show Aside _ from HR.out.trans (decide_eq_false hlv))
          have hlv2 : (!decide (r < 0)) = true := by rw [decide_eq_false hlv]; rfl
          go_wp2_with fail
          go_quiet_grown (first | (go_at_call 60; refine Calls.grown_of (hcg _ _)))
          go_wp2
          go_roundg (hi - (c + 1))
          case measure => omega
          case rel => exact ⟨c + 1, hi, _, _, by go_num, rfl, by omega, by omega, by omega, CLS.out nq osq, (show Aside _ from HI.out.up HS.out ham hmb H1.out H2.out hlc hch (by rw [HQ.out]; exact HR2.out))⟩
      · obtain rfl : lo = hi := by omega
        have hen : a ≤ lo ∧ lo ≤ m ∧ lo ≤ mid ∧ m ≤ mid + m - lo ∧ mid + m - lo ≤ b := by have := HI.out.ends ham hmb; rw [HM.out] at this; exact ⟨this.1, this.2.1, this.2.2.1, this.2.2.2.1, this.2.2.2.2.1⟩
        obtain ⟨s, hs⟩ : ∃ s, lo = s := ⟨_, rfl⟩
        subst hs
        obtain ⟨en1, en2, en3, en4, en5⟩ := hen
        obtain ⟨e, he⟩ : ∃ e, mid + m - lo = e := ⟨_, rfl⟩
        have hez : (mid : Int) + (m : Int) - (lo : Int) = (e : Int) := by omega
        have HD2 : Aside (∀ d1 : Array File, (∀ k, d1[k]! = rotF (fun k => d[k]!) lo m e k) → Halves (ltOf cf) a lo mid e b (fun k => d1[k]!)) := (show Aside _ from fun d1 h => by
          have := HD.out lo d1 HI.out (by rw [he]; exact h); rw [he] at this; exact this)
        rw [he] at en4 en5
        clear he
        have HWR : Aside (wr = sortWorldK encF K w blk off n d os) := hwr
        have hHd : Aside (HoldsK encF K wr blk off d) := (show Aside _ from by rw [HWR.out]; exact holdsK_sortWorldK_c encF K w blk off d d n os HH.out HB.out rfl)
        have hbl : Aside (blk < wr.heap.size) := (show Aside _ from by rw [HWR.out]; exact Nat.lt_of_lt_of_le HB.out (size_sortWorldK_c encF K w blk off n d os))
        clear hwr
        go_upto_region 39 with fail
        go_cut [24, 185] (fun s24 s185 wx => s24 = .int .i64 e ∧ s185 = .bool (decide (lo < m ∧ m < e)) ∧ wx = wr)
        case first => as_aux_lemma =>
          by_cases x1 : lo < m
          · have z1 : (lo : Int) < (m : Int) := by omega
            by_cases x2 : m < e
            · have z2 : (m : Int) < (e : Int) := by omega
              go_wp2_with fail
              go_meet
              exact ⟨rfl, by rw [decide_eq_true (show lo < m ∧ m < e from ⟨x1, x2⟩)], rfl⟩
            · have z2 : ¬ (m : Int) < (e : Int) := by omega
              go_wp2_with fail
              go_meet
              exact ⟨rfl, by rw [decide_eq_false (show ¬ (lo < m ∧ m < e) from fun h => x2 h.2)], rfl⟩
          · have z1 : ¬ (lo : Int) < (m : Int) := by omega
            go_wp2_with fail
            go_meet
            exact ⟨rfl, by rw [decide_eq_false (show ¬ (lo < m ∧ m < e) from fun h => x1 h.1)], rfl⟩
        case rest =>
        obtain ⟨rfl, rfl, hwx⟩ := hcut
        have hwx' := hwx.symm
        subst hwx'
        go_upto_if 185 with fail
        go_cut [24] (fun s24 wx => s24 = .int .i64 e ∧ ∃ n1 d1 os1, wx = sortWorldK encF K w blk off n1 d1 os1 ∧ d1.size = d.size ∧ Aside (PermIn a b d d1 ∧ ∀ k, d1[k]! = rotF (fun k => d[k]!) lo m e k))
        case first => as_aux_lemma =>
          by_cases hb1 : lo < m ∧ m < e
          · have hd1 : decide (lo < m ∧ m < e) = true := decide_eq_true hb1
            have c1 := aside (rotate_k K HKK.out blk off cap lo m e d (.func (.func 60) #[] #[]) wr hHd.out hbl.out hb1.1 hb1.2 (by omega) hsz)
            go_wp2_with (go_at_call 128; refine c1.out.mono ?_; rintro ee w1 ⟨rfl, hT⟩; have HT : Aside _ := hT; clear hT)
            go_meet
            obtain ⟨m', os', d2, hw2, hs2, hp⟩ := turnsK_step HB.out HWR.out rfl ⟨rfl, HT.out⟩
            exact ⟨rfl, m', d2, os', hw2, hs2, permIn_mono _ _ _ _ a b en1 en5 hb hp.1, hp.2⟩
          · have hd1 : decide (lo < m ∧ m < e) = false := decide_eq_false hb1
            go_wp2_with fail
            go_meet
            exact ⟨rfl, n, d, os, HWR.out, rfl, permIn_refl _ _ _, fun k => (rotF_nil _ _ _ _ _ (by omega)).symm⟩
        case rest =>
        obtain ⟨rfl, n1, d1, os1, hw1, hs1, HP1⟩ := hcut
        obtain ⟨w1, hww⟩ : ∃ w1, w1 = wc := ⟨_, rfl⟩
        subst hww
        have HW1 : Aside (w1 = sortWorldK encF K w blk off n1 d1 os1) := hw1
        have HV : Aside (Halves (ltOf cf) a lo mid e b (fun k => d1[k]!)) := HD2.out d1 HP1.out.2
        have HS1 : Aside (d1.size = d.size) := hs1
        clear hw1 hs1
        have hH1 : Aside (HoldsK encF K w1 blk off d1) := (show Aside _ from by rw [HW1.out]; exact holdsK_sortWorldK_c encF K w blk off d d1 n1 os1 HH.out HB.out HS1.out)
        have hb1 : Aside (blk < w1.heap.size) := (show Aside _ from by rw [HW1.out]; exact Nat.lt_of_lt_of_le HB.out (size_sortWorldK_c encF K w blk off n1 d1 os1))
        go_upto_region 41 with fail
        go_cut [24, 199] (fun s24 s199 wx => s24 = .int .i64 e ∧ s199 = .bool (decide (a < lo ∧ lo < mid)) ∧ wx = w1)
        case first => as_aux_lemma =>
          by_cases x1 : a < lo
          · have z1 : (a : Int) < (lo : Int) := by omega
            by_cases x2 : lo < mid
            · have z2 : (lo : Int) < (mid : Int) := by omega
              go_wp2_with fail
              go_meet
              exact ⟨rfl, by rw [decide_eq_true (show a < lo ∧ lo < mid from ⟨x1, x2⟩)], rfl⟩
            · have z2 : ¬ (lo : Int) < (mid : Int) := by omega
              go_wp2_with fail
              go_meet
              exact ⟨rfl, by rw [decide_eq_false (show ¬ (a < lo ∧ lo < mid) from fun h => x2 h.2)], rfl⟩
          · have z1 : ¬ (a : Int) < (lo : Int) := by omega
            go_wp2_with fail
            go_meet
            exact ⟨rfl, by rw [decide_eq_false (show ¬ (a < lo ∧ lo < mid) from fun h => x1 h.1)], rfl⟩
        case rest =>
        obtain ⟨rfl, rfl, hwx⟩ := hcut
        have hwx' := hwx.symm
        subst hwx'
        go_upto_if 199 with fail
        go_cut [24] (fun s24 wx => s24 = .int .i64 e ∧ ∃ n2 d2 os2, wx = sortWorldK encF K w blk off n2 d2 os2 ∧ d2.size = d.size ∧ Aside (PermIn a mid d1 d2 ∧ SortedIn (ltOf cf) a mid d2))
        case first => as_aux_lemma =>
          by_cases hb2 : a < lo ∧ lo < mid
          · have hd1 : decide (a < lo ∧ lo < mid) = true := decide_eq_true hb2
            have c1 := IH.out blk off cap a lo mid d1 w1 (by omega) hH1.out hb1.out hb2.1 hb2.2 (by rw [HS1.out]; omega) (by rw [HS1.out]; exact hsz) HV.out.s1 HV.out.s2
            rw [HS1.out] at c1
            have C1 := aside c1
            clear c1
            go_wp2_with (go_at_call 110; refine C1.out.mono ?_; rintro ee w2 ⟨rfl, hT⟩; have HT : Aside _ := hT; clear hT)
            go_meet
            obtain ⟨m', os', d2, hw2, hs2, hp⟩ := turnsK_step HB.out HW1.out HS1.out ⟨rfl, HT.out⟩
            exact ⟨rfl, m', d2, os', hw2, hs2, hp⟩
          · have hd1 : decide (a < lo ∧ lo < mid) = false := decide_eq_false hb2
            go_wp2_with fail
            go_meet
            exact ⟨rfl, n1, d1, os1, HW1.out, HS1.out, permIn_refl _ _ _, HV.out.left hb2⟩
        case rest =>
        obtain ⟨rfl, n2, d2, os2, hw2, hs2, HP2⟩ := hcut
        obtain ⟨w2, hww⟩ : ∃ w2, w2 = wc := ⟨_, rfl⟩
        subst hww
        have HW2 : Aside (w2 = sortWorldK encF K w blk off n2 d2 os2) := hw2
        have HS2 : Aside (d2.size = d.size) := hs2
        clear hw2 hs2
        have hH2 : Aside (HoldsK encF K w2 blk off d2) := (show Aside _ from by rw [HW2.out]; exact holdsK_sortWorldK_c encF K w blk off d d2 n2 os2 HH.out HB.out HS2.out)
        have hb2 : Aside (blk < w2.heap.size) := (show Aside _ from by rw [HW2.out]; exact Nat.lt_of_lt_of_le HB.out (size_sortWorldK_c encF K w blk off n2 d2 os2))
        go_upto_region 43 with fail
        go_cut [24, 213] (fun s24 s213 wx => s24 = .int .i64 e ∧ s213 = .bool (decide (mid < e ∧ e < b)) ∧ wx = w2)
        case first => as_aux_lemma =>
          by_cases x1 : mid < e
          · have z1 : (mid : Int) < (e : Int) := by omega
            by_cases x2 : e < b
            · have z2 : (e : Int) < (b : Int) := by omega
              go_wp2_with fail
              go_meet
              exact ⟨rfl, by rw [decide_eq_true (show mid < e ∧ e < b from ⟨x1, x2⟩)], rfl⟩
            · have z2 : ¬ (e : Int) < (b : Int) := by omega
              go_wp2_with fail
              go_meet
              exact ⟨rfl, by rw [decide_eq_false (show ¬ (mid < e ∧ e < b) from fun h => x2 h.2)], rfl⟩
          · have z1 : ¬ (mid : Int) < (e : Int) := by omega
            go_wp2_with fail
            go_meet
            exact ⟨rfl, by rw [decide_eq_false (show ¬ (mid < e ∧ e < b) from fun h => x1 h.1)], rfl⟩
        case rest =>
        obtain ⟨rfl, rfl, hwx⟩ := hcut
        have hwx' := hwx.symm
        subst hwx'
        by_cases hb3 : mid < e ∧ e < b
        · as_aux_lemma =>
          have hd1 : decide (mid < e ∧ e < b) = true := decide_eq_true hb3
          have c1 := IH.out blk off cap mid e b d2 w2 (by omega) hH2.out hb2.out hb3.1 hb3.2 (by rw [HS2.out]; omega) (by rw [HS2.out]; exact hsz) (HV.out.right1 HP2.out.1) (HV.out.right2 HP2.out.1)
          rw [HS2.out] at c1
          have C1 := aside c1
          clear c1
          go_wp2_with (go_at_call 110; refine C1.out.mono ?_; rintro ee w3 ⟨rfl, hT⟩; have HT : Aside _ := hT; clear hT)
          go_end0
          obtain ⟨m', os', d3, hw3, hs3, hp⟩ := turnsK_step HB.out HW2.out HS2.out ⟨rfl, HT.out⟩
          obtain ⟨j1, j2⟩ := HV.out.join (by rw [HS1.out]; exact hb) HP2.out.1 HP2.out.2 hp.1 hp.2
          exact ⟨rfl, m', os', d3, hw3, hs3, permIn_trans _ _ _ _ _ HP1.out.1 j1, j2⟩
        · as_aux_lemma =>
          have hd1 : decide (mid < e ∧ e < b) = false := decide_eq_false hb3
          go_wp2_with fail
          go_end0
          obtain ⟨j1, j2⟩ := HV.out.join (by rw [HS1.out]; exact hb) HP2.out.1 HP2.out.2 (permIn_refl _ _ _) (HV.out.right hb3 HP2.out.1)
          exact ⟨rfl, n2, os2, d2, HW2.out, HS2.out, permIn_trans _ _ _ _ _ HP1.out.1 j1, j2⟩

theorem sym_all (K : Nat) (hK : K = 2) (cf : File → File → Int) (hcf : CmpG cf) (hS : SWO (ltOf cf)) : ∀ N, SymSays K cf N
  | 0 => fun blk off cap a m b d w hN _ _ ham hmb _ _ _ _ => by omega
  | N + 1 => fun blk off cap a m b d w hN hH hblk ham hmb hb hsz h1 h2 => by
    by_cases hna : m = a + 1
    · exact sym1_k K hK cf hcf hS blk off cap a m b d w hH hblk hna hmb hb hsz h2
    · by_cases hnb : b = m + 1
      · exact sym2_k K hK cf hcf hS blk off cap a m b d w hH hblk hnb ham hna hb hsz h1
      · exact sym3_k K hK cf hcf hS N (sym_all K hK cf hcf hS N) blk off cap a m b d w hN hH hblk ham hmb hna hnb hb hsz h1 h2
end Go.Proofs.YtndpgdegcbaigaaGreatDoor
