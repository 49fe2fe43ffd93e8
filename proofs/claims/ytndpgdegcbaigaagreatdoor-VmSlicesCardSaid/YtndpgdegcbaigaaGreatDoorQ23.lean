/- slices.symMergeCmpFunc at files: the last one put into the row ahead of it. -/
import Derived.Test.YtndpgdegcbaigaaGreatDoorQ22
namespace Go.Proofs.YtndpgdegcbaigaaGreatDoor
open Go Go.RowKit Go.Sort Go.Lib

set_option maxHeartbeats 8000000 in
set_option maxRecDepth 1000000 in
theorem sym2_k (K : Nat) (hK : K = 2) (cf : File → File → Int) (hcf : CmpG cf) (hS : SWO (ltOf cf)) (blk off cap a m b : Nat) (d : Array File) (w : World) (hH : HoldsK encF K w blk off d) (hblk : blk < w.heap.size)
    (hm : b = m + 1) (ham : a < m) (hne : m ≠ a + 1) (hb : b ≤ d.size) (hsz : d.size ≤ 1000) (h2 : SortedIn (ltOf cf) a m d) :
    Calls Tryz.prog 110 #[.slice (some ⟨blk, off, none⟩) d.size cap, .int .i64 a, .int .i64 m, .int .i64 b, .func (.func 60) #[] #[]] w (Merged cf K blk off a b d w) := by
  have HST : Aside (w = sortWorldK encF K w blk off 0 d #[]) := sw_start hH
  have HH : Aside (HoldsK encF K w blk off d) := hH
  have HB : Aside (blk < w.heap.size) := hblk
  have HKK : Aside (K = 2) := hK
  have HM : Aside (b = m + 1) := hm
  have H2 : Aside (SortedIn (ltOf cf) a m d) := h2
  have HS : Aside (SWO (ltOf cf)) := hS
  have HC : Aside (CmpG cf) := hcf
  have mixed : Tryz.prog.follows .mixedOrders = true := by kernel_rfl
  have aE := Tryz.isAgg34
  have zE : ∀ w, (Go.sizeOf 34).run Tryz.prog w = .ok K w := by rw [hK]; exact Tryz.sizeOf34
  have HK : Aside (∀ x : File, (encF x).length = K) := (show Aside _ from by rw [HKK.out]; exact fun _ => rfl)
  have e0 : ((m : Int) - (a : Int) == 1) = false := by simp; omega
  have e1 : (b : Int) - (m : Int) = 1 := by omega
  have hmb : m < b := by omega
  clear hH hK h2 hS hcf hm hne
  go_enter Tryz.func110, Tryz.ntmps110
  go_wp2
  go_loopg [14, 15] m (fun g1 vi vj wr => ∃ (i j n : Nat) (os : Array Obj), vi = .int .i64 i ∧ vj = .int .i64 j ∧ a ≤ i ∧ i ≤ j ∧ j ≤ m ∧ j - i ≤ g1 ∧ wr = sortWorldK encF K w blk off n d os ∧
    Aside ((∀ k, a ≤ k → k < i → ltOf cf d[m]! d[k]! = false) ∧ (∀ k, j ≤ k → k < m → ltOf cf d[m]! d[k]! = true)))
  case atStart => exact ⟨a, m, 0, #[], rfl, rfl, Nat.le_refl _, by omega, Nat.le_refl _, by omega, HST.out, (show Aside _ from ⟨fun k h1 h2 => by omega, fun k h1 h2 => by omega⟩)⟩
  case round =>
    obtain ⟨i, j, n, os, rfl, rfl, hmi, hij, hjb, hg, rfl, HI⟩ := hrel
    by_cases hlt : i < j
    · have hltz : (i : Int) < (j : Int) := by omega
      obtain ⟨h, hh⟩ : ∃ h : Nat, h = (i + j) / 2 := ⟨_, rfl⟩
      have hmid : ((i : Int) + (j : Int)) / 2 = (h : Int) := by omega
      have hih : i ≤ h := by omega
      have hhj : h < j := by omega
      have hhz : (h : Int) < (d.size : Int) := by omega
      have haz : (m : Int) < (d.size : Int) := by omega
      clear hh
      obtain ⟨va, vh, hs1, hs2, la, lh, hcg, CLS⟩ := cmps HC.out HK.out HH.out HB.out n d os rfl m h (by omega) (by omega)
      obtain ⟨r, hr⟩ : ∃ r, cf d[m]! d[h]! = r := ⟨_, rfl⟩
      rw [hr] at hcg
      have HR : Aside (ltOf cf d[m]! d[h]! = decide (r < 0)) := (show Aside _ from by rw [← hr]; rfl)
      clear hr
      generalize sortWorldK encF K w blk off n d os = wq at lh la hcg CLS ⊢
      by_cases hlv : r < 0
      · have HR2 : Aside (ltOf cf d[m]! d[h]! = true) := (show Aside _ from HR.out.trans (decide_eq_true hlv))
        go_wp2_with fail
        go_quiet_grown (first | (go_at_call 60; refine Calls.grown_of (hcg _ _)))
        go_wp2
        go_roundg (h - i)
        case measure => omega
        case rel => exact ⟨i, h, _, _, rfl, by go_num, by omega, by omega, by omega, by omega, CLS.out nq osq, (show Aside _ from ⟨HI.out.1, fun k h1 h2 => lt_above HS.out HR2.out (sorted_le HS.out (d := fun k => d[k]!) H2.out (by omega) h1 h2)⟩)⟩
      · have HR2 : Aside (ltOf cf d[m]! d[h]! = false) := (show Aside _ from HR.out.trans (decide_eq_false hlv))
        have hlv2 : (!decide (r < 0)) = true := by rw [decide_eq_false hlv]; rfl
        go_wp2_with fail
        go_quiet_grown (first | (go_at_call 60; refine Calls.grown_of (hcg _ _)))
        go_wp2
        go_roundg (j - (h + 1))
        case measure => omega
        case rel => exact ⟨h + 1, j, _, _, by go_num, rfl, by omega, by omega, by omega, by omega, CLS.out nq osq, (show Aside _ from ⟨fun k h1 h2 => HS.out.ntrans _ _ _ HR2.out (sorted_le HS.out (d := fun k => d[k]!) H2.out h1 (by omega) (by omega)), HI.out.2⟩)⟩
    · obtain rfl : i = j := by omega
      go_wp2
      go_loopg [17] b (fun g1 vk wr => ∃ (k n2 : Nat) (dk : Array File) (os2 : Array Obj), vk = .int .i64 k ∧ i ≤ k ∧ k ≤ m ∧ k - i ≤ g1 ∧ dk.size = d.size ∧ wr = sortWorldK encF K w blk off n2 dk os2 ∧
        Aside (PermIn a b d dk ∧ ∀ x, dk[x]! = carryDown (fun k => d[k]!) m k x))
      case atStart => exact ⟨m, n, d, os, rfl, by omega, Nat.le_refl _, by omega, rfl, rfl, (show Aside _ from ⟨permIn_refl _ _ _, fun x => (carryDown_zero _ _ _).symm⟩)⟩
      case round =>
        obtain ⟨k, n2, dk, os2, rfl, hak, hki, hg2, hsk, rfl, HI2⟩ := hrel
        by_cases hkl : i < k
        · obtain ⟨kp, rfl⟩ : ∃ kp, k = kp + 1 := ⟨k - 1, by omega⟩
          have hklz : (i : Int) < (kp : Int) + 1 := by omega
          obtain ⟨va, vb, hsa, hsb, la, lb, s1, s2, HW⟩ := exch HK.out HH.out HB.out n2 dk os2 hsk (kp + 1) kp (by omega) (by omega)
          generalize sortWorldK encF K w blk off n2 dk os2 = wq at la lb s1 s2 HW ⊢
          have kz : (kp : Int) < (d.size : Int) := by omega
          have kz1 : (kp : Int) + 1 < (d.size : Int) := by omega
          have kw : IntKind.i64.wrap (kp : Int) = (kp : Int) := by rw [IntKind.wrap_i64]; omega
          have k0 : ((kp : Int) + 1).toNat = kp + 1 := by omega
          have kp0 : (0 : Int) ≤ (kp : Int) + 1 := by omega
          go_wp2
          go_big_region_o
          all_goals
            go_wp2
            go_roundg (kp - i)
            case measure => omega
            case rel => exact ⟨kp, n2 + 1, _, os2, by first | rfl | go_num | (congr 1; omega), by omega, by omega, by omega, by rw [size_swp]; exact hsk, HW.out, (show Aside _ from ⟨permIn_trans _ _ _ _ _ HI2.out.1 (swp_permIn dk a b (kp + 1) kp (by omega) (by omega) (by omega) (by omega) (by omega)), carryDown_step HI2.out.2 (by omega) (by omega)⟩)⟩
        · obtain rfl : i = k := by omega
          have hklz : ¬ (i : Int) < (i : Int) := by omega
          go_wp2
          go_end0
          exact ⟨rfl, n2, os2, dk, rfl, hsk, HI2.out.1, by rw [HM.out]; exact carryDown_sorted (d := fun k => d[k]!) (e := fun k => dk[k]!) (i := i) hmi hki H2.out (fun k h1 h2 => HI.out.1 k h1 h2) (fun k h1 h2 => SWO.asymm HS.out (HI.out.2 k h1 h2)) HI2.out.2⟩
end Go.Proofs.YtndpgdegcbaigaaGreatDoor
