/- slices.swapRangeCmpFunc and rotateCmpFunc at files: the row is turned in its place. · slices.symMergeCmpFunc at files: one value put into an ascending row. -/
import Derived.Test.YtndpgdegcbaigaaGreatDoorQ01
import Derived.Test.YtndpgdegcbaigaaGreatDoorQ21
import Derived.Shelf.SlSortCmp.InsertionK
import Derived.BigRegion
namespace Go.Proofs.YtndpgdegcbaigaaGreatDoor
open Go Go.RowKit Go.Sort Go.Lib

def encF (x : File) : List Value := [.string x.path, .string x.data]

/-- A call that turns the row of files in this block alone: what it holds then. -/
def TurnsK (K blk off : Nat) (d : Array File) (w : World) (P : Array File → Prop) (e : Ending) (w' : World) : Prop :=
  e = .returned (.tuple #[]) ∧ ∃ m os d', w' = sortWorldK encF K w blk off m d' os ∧ d'.size = d.size ∧ P d'

theorem aside {p : Prop} (h : p) : Aside p := h

theorem encF_len (x : File) : (encF x).length = 2 := rfl
theorem encF_one (x : File) : ∀ v ∈ encF x, v.oneCell' = true := by
  intro v hv; simp [encF] at hv; rcases hv with rfl | rfl <;> rfl

theorem sw_start {w : World} {blk off : Nat} {d : Array File} {K : Nat} (h : HoldsK encF K w blk off d) : w = sortWorldK encF K w blk off 0 d #[] := by
  unfold sortWorldK; rw [grow_empty]; exact (putRowK_self encF K w blk off d h).symm

set_option maxHeartbeats 4000000 in
set_option maxRecDepth 1000000 in
theorem swapRange_k (K : Nat) (hK : K = 2) (blk off cap a b n : Nat) (d : Array File) (f : Value) (w : World) (hH : HoldsK encF K w blk off d) (hblk : blk < w.heap.size) (hab : a + n ≤ b) (hb : b + n ≤ d.size) (hsz : d.size ≤ 1000) :
    Calls Tryz.prog 140 #[.slice (some ⟨blk, off, none⟩) d.size cap, .int .i64 a, .int .i64 b, .int .i64 n, f] w
      (TurnsK K blk off d w fun d' => PermIn a (b + n) d d' ∧ ∀ k, d'[k]! = swF (fun k => d[k]!) a b n k) := by
  have HST : Aside (w = sortWorldK encF K w blk off 0 d #[]) := sw_start hH
  have HH : Aside (HoldsK encF K w blk off d) := hH
  have hblk' : Aside (blk < w.heap.size) := hblk
  clear hH
  have mixed : Tryz.prog.follows .mixedOrders = true := by kernel_rfl
  have aE := Tryz.isAgg34
  have zE : ∀ w, (Go.sizeOf 34).run Tryz.prog w = .ok K w := by rw [hK]; exact Tryz.sizeOf34
  have HK : Aside (∀ x : File, (encF x).length = K) := by rw [hK]; exact fun _ => rfl
  clear hK
  go_enter Tryz.func140, Tryz.ntmps140
  go_wp2
  go_loopg [10] n (fun g1 vi wr => ∃ (i m : Nat) (dk : Array File) (os : Array Obj), vi = .int .i64 i ∧ i ≤ n ∧ n - i ≤ g1 ∧ dk.size = d.size ∧ wr = sortWorldK encF K w blk off m dk os ∧ Aside (PermIn a (b + n) d dk ∧ ∀ k, dk[k]! = swF (fun k => d[k]!) a b i k))
  case atStart => exact ⟨0, 0, d, #[], rfl, Nat.zero_le _, Nat.le_refl _, rfl, HST.out, (show Aside _ from ⟨permIn_refl _ _ _, fun k => (swF_zero _ _ _ _).symm⟩)⟩
  case round =>
    obtain ⟨i, m, dk, os, rfl, hin, hg, hsk, rfl, HI⟩ := hrel
    by_cases hlt : i < n
    · have hltz : (i : Int) < (n : Int) := by omega
      obtain ⟨xa, hxa⟩ : ∃ x, dk[a + i]! = x := ⟨_, rfl⟩
      obtain ⟨xb, hxb⟩ : ∃ x, dk[b + i]! = x := ⟨_, rfl⟩
      have hHd : HoldsK encF K (sortWorldK encF K w blk off m dk os).drew blk off dk := holdsK_sortWorldK_c encF K w blk off d dk m os HH.out hblk hsk
      have bnd : ∀ x, x < dk.size → x * K + K ≤ dk.size * K := fun x hx => by
        have := Nat.mul_le_mul_right K (show x + 1 ≤ dk.size from hx); rwa [Nat.add_mul, Nat.one_mul] at this
      have HW : Aside ((((sortWorldK encF K w blk off m dk os).drew.setCells blk (off + (a + i) * K) (encF dk[b + i]!)).setCells blk (off + (b + i) * K) (encF dk[a + i]!)) = sortWorldK encF K w blk off (m + 1) (swp dk (a + i) (b + i)) os) :=
        sortWorldK_swp_c encF K w blk off HK.out m dk os hblk (a + i) (b + i) (by omega) (by omega)
      generalize sortWorldK encF K w blk off m dk os = wq at hHd HW ⊢
      have la : Sem.run Tryz.prog (loadCellsFrom ⟨blk, off + (a + i) * K, none⟩ 0 K #[]) wq.drew = .ok (encF xa).toArray wq.drew := by rw [← hxa]; exact run_loadCellsFrom_list _ _ _ _ K (HK.out _) (HoldsK.cells hHd HK.out (by omega))
      have lb : Sem.run Tryz.prog (loadCellsFrom ⟨blk, off + (b + i) * K, none⟩ 0 K #[]) wq.drew = .ok (encF xb).toArray wq.drew := by rw [← hxb]; exact run_loadCellsFrom_list _ _ _ _ K (HK.out _) (HoldsK.cells hHd HK.out (by omega))
      have s1 : Sem.run Tryz.prog (storeCells ⟨blk, off + (a + i) * K, none⟩ (encF xb) 0) wq.drew = .ok () (wq.drew.setCells blk (off + (a + i) * K) (encF xb)) := stores_of_holds _ hHd ((a + i) * K) _ (by rw [HK.out, size_flatK]; exact bnd (a + i) (by omega)) (encF_one _)
      have s2 : Sem.run Tryz.prog (storeCells ⟨blk, off + (b + i) * K, none⟩ (encF xa) 0) (wq.drew.setCells blk (off + (a + i) * K) (encF xb)) = .ok () ((wq.drew.setCells blk (off + (a + i) * K) (encF xb)).setCells blk (off + (b + i) * K) (encF xa)) :=
        stores_of_holds _ (holds_setCells_c hHd ((a + i) * K) _ (by rw [HK.out, size_flatK]; exact bnd (a + i) (by omega))) ((b + i) * K) _ (by rw [HK.out, size_setMany, size_flatK]; exact bnd (b + i) (by omega)) (encF_one _)
      rw [hxa, hxb] at HW
      clear hHd bnd
      have hsa : (encF xa).length = K := HK.out _
      have hsb : (encF xb).length = K := HK.out _
      obtain ⟨va, hva⟩ : ∃ c, c = encF xa := ⟨_, rfl⟩
      obtain ⟨vb, hvb⟩ : ∃ c, c = encF xb := ⟨_, rfl⟩
      rw [← hva] at la hsa s2 HW
      rw [← hvb] at lb hsb s1 s2 HW
      clear hva hvb
      have ai0 : ((a : Int) + (i : Int)).toNat = a + i := by omega
      have bi0 : ((b : Int) + (i : Int)).toNat = b + i := by omega
      have ai1 : IntKind.i64.wrap ((a : Int) + (i : Int)) = (a : Int) + (i : Int) := by rw [IntKind.wrap_i64]; omega
      have bi1 : IntKind.i64.wrap ((b : Int) + (i : Int)) = (b : Int) + (i : Int) := by rw [IntKind.wrap_i64]; omega
      have ai2 : (a : Int) + (i : Int) < (d.size : Int) := by omega
      have bi2 : (b : Int) + (i : Int) < (d.size : Int) := by omega
      have ai3 : (0 : Int) ≤ (a : Int) + (i : Int) := by omega
      have bi3 : (0 : Int) ≤ (b : Int) + (i : Int) := by omega
      go_wp2
      go_big_region_o
      all_goals
        go_wp2
        go_roundg (n - (i + 1))
        case measure => omega
        case rel => exact ⟨i + 1, m + 1, _, os, by go_num, by omega, by omega, by rw [size_swp]; exact hsk, HW.out, (show Aside _ from ⟨permIn_trans _ _ _ _ _ HI.out.1 (swp_permIn dk a (b + n) (a + i) (b + i) (by omega) (by omega) (by omega) (by omega) (by omega)), swF_step HI.out.2 (by omega) (by omega)⟩)⟩
    · obtain rfl : i = n := by omega
      go_wp2
      go_end0
      exact ⟨rfl, m, os, dk, rfl, hsk, HI.out⟩

/-- A call of rotateCmpFunc. -/
theorem turnsK_step {K blk off : Nat} {d d1 : Array File} {w w1 : World} {m : Nat} {os : Array Obj} {P : Array File → Prop} {e : Ending} {w2 : World} (hblk : blk < w.heap.size) (h1 : w1 = sortWorldK encF K w blk off m d1 os) (hs : d1.size = d.size)
    (h : TurnsK K blk off d1 w1 P e w2) : ∃ m' os' d2, w2 = sortWorldK encF K w blk off m' d2 os' ∧ d2.size = d.size ∧ P d2 := by
  obtain ⟨_, m2, os2, d2, rfl, h3, h4⟩ := h
  refine ⟨m + m2, os ++ os2, d2, ?_, h3.trans hs, h4⟩
  subst h1
  unfold sortWorldK
  exact grow_step_growK encF K w os os2 m m2 blk off d1 d2 hblk h3

set_option maxHeartbeats 4000000 in
set_option maxRecDepth 1000000 in
theorem rotate_k (K : Nat) (hK : K = 2) (blk off cap a m b : Nat) (d : Array File) (f : Value) (w : World) (hH : HoldsK encF K w blk off d) (hblk : blk < w.heap.size) (ham : a < m) (hmb : m < b) (hb : b ≤ d.size) (hsz : d.size ≤ 1000) :
    Calls Tryz.prog 128 #[.slice (some ⟨blk, off, none⟩) d.size cap, .int .i64 a, .int .i64 m, .int .i64 b, f] w
      (TurnsK K blk off d w fun d' => PermIn a b d d' ∧ ∀ k, d'[k]! = rotF (fun k => d[k]!) a m b k) := by
  have HST : Aside (w = sortWorldK encF K w blk off 0 d #[]) := sw_start hH
  have HH : Aside (HoldsK encF K w blk off d) := hH
  have HB : Aside (blk < w.heap.size) := hblk
  have HK : Aside (K = 2) := hK
  clear hH hK
  have hsub1 : IntKind.i64.wrap ((m : Int) - (a : Int)) = ((m - a : Nat) : Int) := by rw [IntKind.wrap_i64]; omega
  have hsub2 : IntKind.i64.wrap ((b : Int) - (m : Int)) = ((b - m : Nat) : Int) := by rw [IntKind.wrap_i64]; omega
  go_enter Tryz.func128, Tryz.ntmps128
  go_wp2
  go_loopg [10, 11] (b - a) (fun g1 vi vj wr => ∃ (i j n : Nat) (dk : Array File) (os : Array Obj), vi = .int .i64 i ∧ vj = .int .i64 j ∧ 0 < i ∧ 0 < j ∧ a + i ≤ m ∧ m + j ≤ b ∧ i + j ≤ g1 ∧ dk.size = d.size ∧ wr = sortWorldK encF K w blk off n dk os ∧ Aside (PermIn a b d dk ∧ ∀ k, rotF (fun k => dk[k]!) (m - i) m (m + j) k = rotF (fun k => d[k]!) a m b k))
  case atStart => exact ⟨m - a, b - m, 0, d, #[], by go_num, by go_num, by omega, by omega, by omega, by omega, by omega, rfl, HST.out, (show Aside _ from ⟨permIn_refl _ _ _, fun k => by rw [show m - (m - a) = a by omega, show m + (b - m) = b by omega]⟩)⟩
  case round =>
    obtain ⟨i, j, n, dk, os, rfl, rfl, hi, hj, hai, hjb, hg, hsk, hwr, HI⟩ := hrel
    have HWR : Aside (wr = sortWorldK encF K w blk off n dk os) := hwr
    have hHd : Aside (HoldsK encF K wr blk off dk) := (show Aside _ from by rw [HWR.out]; exact holdsK_sortWorldK_c encF K w blk off d dk n os HH.out hblk hsk)
    have hbl : Aside (blk < wr.heap.size) := (show Aside _ from by rw [HWR.out]; exact Nat.lt_of_lt_of_le hblk (size_sortWorldK_c encF K w blk off n dk os))
    clear hwr
    have c1 := fun (x y z : Nat) (h1 : x + z ≤ y) (h2 : y + z ≤ dk.size) => swapRange_k K HK.out blk off cap x y z dk f wr hHd.out hbl.out h1 h2 (by omega)
    rw [hsk] at c1
    have C1 : Aside _ := c1
    clear c1
    by_cases hij : i = j
    · subst hij
      have e1 : (m : Int) - (i : Int) = ((m - i : Nat) : Int) := by omega
      go_wp2_with (go_at_call 140; refine (C1.out (m - i) m i (by omega) (by omega)).mono ?_; rintro e w1 ⟨rfl, hT⟩)
      go_end0
      obtain ⟨m', os', d2, hw, hs2, hp⟩ := turnsK_step HB.out HWR.out hsk ⟨rfl, hT⟩
      exact ⟨rfl, m', os', d2, hw, hs2, permIn_trans _ _ _ _ _ HI.out.1 (permIn_mono _ _ _ _ a b (by omega) (by omega) (by omega) hp.1), fun k => by rw [← HI.out.2]; exact rot_same (d := fun k => dk[k]!) (e := fun k => d2[k]!) (by omega) hp.2 k⟩
    · by_cases hlt : j < i
      · have hltz : (j : Int) < (i : Int) := by omega
        have hne : ((i : Int) != (j : Int)) = true := by simp; omega
        have e1 : (m : Int) - (i : Int) = ((m - i : Nat) : Int) := by omega
        have e2 : (i : Int) - (j : Int) = ((i - j : Nat) : Int) := by omega
        go_wp2_with (go_at_call 140; refine (C1.out (m - i) m j (by omega) (by omega)).mono ?_; rintro e w1 ⟨rfl, hT⟩; have HT : Aside _ := hT; clear hT)
        obtain ⟨m', os', d2, hw, hs2, hp⟩ := turnsK_step HB.out HWR.out hsk ⟨rfl, HT.out⟩
        go_roundg (i - j + j)
        case measure => omega
        case rel => exact ⟨i - j, j, m', d2, os', rfl, rfl, by omega, by omega, by omega, by omega, by omega, hs2, hw, (show Aside _ from ⟨permIn_trans _ _ _ _ _ HI.out.1 (permIn_mono _ _ _ _ a b (by omega) (by omega) (by omega) hp.1), fun k => by rw [← HI.out.2]; exact rot_left (d := fun k => dk[k]!) (e := fun k => d2[k]!) hlt (by omega) hp.2 k⟩)⟩
      · have hltz : ¬ (j : Int) < (i : Int) := by omega
        have hne : ((i : Int) != (j : Int)) = true := by simp; omega
        have e1 : (m : Int) - (i : Int) = ((m - i : Nat) : Int) := by omega
        have e2 : (j : Int) - (i : Int) = ((j - i : Nat) : Int) := by omega
        have e3 : (m : Int) + (j : Int) - (i : Int) = ((m + j - i : Nat) : Int) := by omega
        go_wp2_with (go_at_call 140; refine (C1.out (m - i) (m + j - i) i (by omega) (by omega)).mono ?_; rintro e w1 ⟨rfl, hT⟩; have HT : Aside _ := hT; clear hT)
        obtain ⟨m', os', d2, hw, hs2, hp⟩ := turnsK_step HB.out HWR.out hsk ⟨rfl, HT.out⟩
        go_roundg (i + (j - i))
        case measure => omega
        case rel => exact ⟨i, j - i, m', d2, os', rfl, rfl, by omega, by omega, by omega, by omega, by omega, hs2, hw, (show Aside _ from ⟨permIn_trans _ _ _ _ _ HI.out.1 (permIn_mono _ _ _ _ a b (by omega) (by omega) (by omega) hp.1), fun k => by rw [← HI.out.2]; exact rot_right (d := fun k => dk[k]!) (e := fun k => d2[k]!) (by omega) (by omega) hp.2 k⟩)⟩
end Go.Proofs.YtndpgdegcbaigaaGreatDoor

namespace Go.Proofs.YtndpgdegcbaigaaGreatDoor
open Go Go.RowKit Go.Sort Go.Lib

/-- What a comparison does: it may draw and lay blocks, and answers. -/
def CmpG (cf : File → File → Int) : Prop := ∀ (x y : File) (W : World), Calls Tryz.prog 60 #[.agg (encF x).toArray, .agg (encF y).toArray] W fun e w' => e = .returned (.int .i64 (cf x y)) ∧ ∃ q os', w' = grow (W.drewN q) os'

/-- What a merge leaves: a row in order. -/
abbrev Merged (cf : File → File → Int) (K blk off a b : Nat) (d : Array File) (w : World) : Ending → World → Prop := TurnsK K blk off d w fun d' => PermIn a b d d' ∧ SortedIn (ltOf cf) a b d'

theorem SWx {K blk off : Nat} {d dk : Array File} {w : World} {m : Nat} {os : Array Obj} (hH : HoldsK encF K w blk off d) (hblk : blk < w.heap.size) (hs : dk.size = d.size) (n : Nat) (os' : Array Obj) :
    grow ((sortWorldK encF K w blk off m dk os).drewN n) os' = sortWorldK encF K w blk off (m + n) dk (os ++ os') ∧ HoldsK encF K (grow ((sortWorldK encF K w blk off m dk os).drewN n) os') blk off dk := by
  have h1 := sortWorldK_grown_c encF K w blk off m n dk os os'
  exact ⟨h1, by rw [h1]; exact holdsK_sortWorldK_c encF K w blk off d dk _ _ hH hblk hs⟩

/-- An exchange of two places: what a walk wants to know. -/
theorem exch {K blk off : Nat} {d : Array File} {w : World} (hK : ∀ x : File, (encF x).length = K) (hH : HoldsK encF K w blk off d) (hblk : blk < w.heap.size) (m : Nat) (dk : Array File) (os : Array Obj) (hs : dk.size = d.size) (i j : Nat) (hi : i < dk.size) (hj : j < dk.size) :
    ∃ va vb : List Value, va.length = K ∧ vb.length = K ∧
      Sem.run Tryz.prog (loadCellsFrom ⟨blk, off + i * K, none⟩ 0 K #[]) (sortWorldK encF K w blk off m dk os).drew = .ok va.toArray (sortWorldK encF K w blk off m dk os).drew ∧
      Sem.run Tryz.prog (loadCellsFrom ⟨blk, off + j * K, none⟩ 0 K #[]) (sortWorldK encF K w blk off m dk os).drew = .ok vb.toArray (sortWorldK encF K w blk off m dk os).drew ∧
      Sem.run Tryz.prog (storeCells ⟨blk, off + i * K, none⟩ vb 0) (sortWorldK encF K w blk off m dk os).drew = .ok () ((sortWorldK encF K w blk off m dk os).drew.setCells blk (off + i * K) vb) ∧
      Sem.run Tryz.prog (storeCells ⟨blk, off + j * K, none⟩ va 0) ((sortWorldK encF K w blk off m dk os).drew.setCells blk (off + i * K) vb) = .ok () (((sortWorldK encF K w blk off m dk os).drew.setCells blk (off + i * K) vb).setCells blk (off + j * K) va) ∧
      Aside ((((sortWorldK encF K w blk off m dk os).drew.setCells blk (off + i * K) vb).setCells blk (off + j * K) va) = sortWorldK encF K w blk off (m + 1) (swp dk i j) os) := by
  have hHd : HoldsK encF K (sortWorldK encF K w blk off m dk os).drew blk off dk := holdsK_sortWorldK_c encF K w blk off d dk m os hH hblk hs
  have bnd : ∀ x, x < dk.size → x * K + K ≤ dk.size * K := fun x hx => by
    have := Nat.mul_le_mul_right K (show x + 1 ≤ dk.size from hx); rwa [Nat.add_mul, Nat.one_mul] at this
  exact ⟨encF dk[i]!, encF dk[j]!, hK _, hK _, run_loadCellsFrom_list _ _ _ _ K (hK _) (HoldsK.cells hHd hK hi), run_loadCellsFrom_list _ _ _ _ K (hK _) (HoldsK.cells hHd hK hj),
    stores_of_holds _ hHd (i * K) _ (by rw [hK, size_flatK]; exact bnd i hi) (encF_one _),
    stores_of_holds _ (holds_setCells_c hHd (i * K) _ (by rw [hK, size_flatK]; exact bnd i hi)) (j * K) _ (by rw [hK, size_setMany, size_flatK]; exact bnd j hj) (encF_one _),
    sortWorldK_swp_c encF K w blk off hK m dk os hblk i j hi hj⟩

/-- A comparison of two places: what a walk wants to know. -/
theorem cmps {K blk off : Nat} {d : Array File} {w : World} {cf : File → File → Int} (hC : CmpG cf) (hK : ∀ x : File, (encF x).length = K) (hH : HoldsK encF K w blk off d) (hblk : blk < w.heap.size) (m : Nat) (dk : Array File) (os : Array Obj) (hs : dk.size = d.size) (i j : Nat) (hi : i < dk.size) (hj : j < dk.size) :
    ∃ va vb : List Value, va.length = K ∧ vb.length = K ∧
      (∀ n' os', Sem.run Tryz.prog (loadCellsFrom ⟨blk, off + i * K, none⟩ 0 K #[]) (grow ((sortWorldK encF K w blk off m dk os).drewN n') os') = .ok va.toArray (grow ((sortWorldK encF K w blk off m dk os).drewN n') os')) ∧
      (∀ n' os', Sem.run Tryz.prog (loadCellsFrom ⟨blk, off + j * K, none⟩ 0 K #[]) (grow ((sortWorldK encF K w blk off m dk os).drewN n') os') = .ok vb.toArray (grow ((sortWorldK encF K w blk off m dk os).drewN n') os')) ∧
      (∀ n' os', Calls Tryz.prog 60 #[.agg va.toArray, .agg vb.toArray] (grow ((sortWorldK encF K w blk off m dk os).drewN n') os') fun e w' => e = .returned (.int .i64 (cf dk[i]! dk[j]!)) ∧ ∃ q os'', w' = grow ((grow ((sortWorldK encF K w blk off m dk os).drewN n') os').drewN q) os'') ∧
      Aside (∀ n' os', grow ((sortWorldK encF K w blk off m dk os).drewN n') os' = sortWorldK encF K w blk off (m + n') dk (os ++ os')) :=
  ⟨encF dk[i]!, encF dk[j]!, hK _, hK _, fun n' os' => run_loadCellsFrom_list _ _ _ _ K (hK _) (HoldsK.cells (SWx hH hblk hs n' os').2 hK hi), fun n' os' => run_loadCellsFrom_list _ _ _ _ K (hK _) (HoldsK.cells (SWx hH hblk hs n' os').2 hK hj),
    fun _ _ => hC _ _ _, fun n' os' => (SWx hH hblk hs n' os').1⟩

set_option maxHeartbeats 8000000 in
set_option maxRecDepth 1000000 in
theorem sym1_k (K : Nat) (hK : K = 2) (cf : File → File → Int) (hcf : CmpG cf) (hS : SWO (ltOf cf)) (blk off cap a m b : Nat) (d : Array File) (w : World) (hH : HoldsK encF K w blk off d) (hblk : blk < w.heap.size)
    (hm : m = a + 1) (hmb : m < b) (hb : b ≤ d.size) (hsz : d.size ≤ 1000) (h2 : SortedIn (ltOf cf) m b d) :
    Calls Tryz.prog 110 #[.slice (some ⟨blk, off, none⟩) d.size cap, .int .i64 a, .int .i64 m, .int .i64 b, .func (.func 60) #[] #[]] w (Merged cf K blk off a b d w) := by
  have HST : Aside (w = sortWorldK encF K w blk off 0 d #[]) := sw_start hH
  have HH : Aside (HoldsK encF K w blk off d) := hH
  have HB : Aside (blk < w.heap.size) := hblk
  have HKK : Aside (K = 2) := hK
  have HM : Aside (m = a + 1) := hm
  have H2 : Aside (SortedIn (ltOf cf) m b d) := h2
  have HS : Aside (SWO (ltOf cf)) := hS
  have HC : Aside (CmpG cf) := hcf
  have mixed : Tryz.prog.follows .mixedOrders = true := by kernel_rfl
  have aE := Tryz.isAgg34
  have zE : ∀ w, (Go.sizeOf 34).run Tryz.prog w = .ok K w := by rw [hK]; exact Tryz.sizeOf34
  have HK : Aside (∀ x : File, (encF x).length = K) := (show Aside _ from by rw [HKK.out]; exact fun _ => rfl)
  have e1 : (m : Int) - (a : Int) = 1 := by omega
  have ham : a < m := by omega
  clear hH hK h2 hS hcf hm
  go_enter Tryz.func110, Tryz.ntmps110
  go_wp2
  go_loopg [10, 11] b (fun g1 vi vj wr => ∃ (i j n : Nat) (os : Array Obj), vi = .int .i64 i ∧ vj = .int .i64 j ∧ m ≤ i ∧ i ≤ j ∧ j ≤ b ∧ j - i ≤ g1 ∧ wr = sortWorldK encF K w blk off n d os ∧
    Aside ((∀ k, m ≤ k → k < i → ltOf cf d[k]! d[a]! = true) ∧ (∀ k, j ≤ k → k < b → ltOf cf d[k]! d[a]! = false)))
  case atStart => exact ⟨m, b, 0, #[], rfl, rfl, Nat.le_refl _, by omega, Nat.le_refl _, by omega, HST.out, (show Aside _ from ⟨fun k h1 h2 => by omega, fun k h1 h2 => by omega⟩)⟩
  case round =>
    obtain ⟨i, j, n, os, rfl, rfl, hmi, hij, hjb, hg, rfl, HI⟩ := hrel
    by_cases hlt : i < j
    · have hltz : (i : Int) < (j : Int) := by omega
      obtain ⟨h, hh⟩ : ∃ h : Nat, h = (i + j) / 2 := ⟨_, rfl⟩
      have hmid : ((i : Int) + (j : Int)) / 2 = (h : Int) := by omega
      have hih : i ≤ h := by omega
      have hhj : h < j := by omega
      have hhz : (h : Int) < (d.size : Int) := by omega
      have haz : (a : Int) < (d.size : Int) := by omega
      clear hh
      obtain ⟨vh, va, hs1, hs2, lh, la, hcg, CLS⟩ := cmps HC.out HK.out HH.out HB.out n d os rfl h a (by omega) (by omega)
      obtain ⟨r, hr⟩ : ∃ r, cf d[h]! d[a]! = r := ⟨_, rfl⟩
      rw [hr] at hcg
      have HR : Aside (ltOf cf d[h]! d[a]! = decide (r < 0)) := (show Aside _ from by rw [← hr]; rfl)
      clear hr
      generalize sortWorldK encF K w blk off n d os = wq at lh la hcg CLS ⊢
      by_cases hlv : r < 0
      · have HR2 : Aside (ltOf cf d[h]! d[a]! = true) := (show Aside _ from HR.out.trans (decide_eq_true hlv))
        go_wp2_with fail
        go_quiet_grown (first | (go_at_call 60; refine Calls.grown_of (hcg _ _)))
        go_wp2
        go_roundg (j - (h + 1))
        case measure => omega
        case rel => exact ⟨h + 1, j, _, _, by go_num, rfl, by omega, by omega, by omega, by omega, CLS.out nq osq, (show Aside _ from ⟨fun k h1 h2 => lt_below HS.out (sorted_le HS.out (d := fun k => d[k]!) H2.out h1 (by omega) (by omega)) HR2.out, HI.out.2⟩)⟩
      · have HR2 : Aside (ltOf cf d[h]! d[a]! = false) := (show Aside _ from HR.out.trans (decide_eq_false hlv))
        go_wp2_with fail
        go_quiet_grown (first | (go_at_call 60; refine Calls.grown_of (hcg _ _)))
        go_wp2
        go_roundg (h - i)
        case measure => omega
        case rel => exact ⟨i, h, _, _, rfl, by go_num, by omega, by omega, by omega, by omega, CLS.out nq osq, (show Aside _ from ⟨HI.out.1, fun k h1 h2 => HS.out.ntrans _ _ _ (sorted_le HS.out (d := fun k => d[k]!) H2.out (by omega) h1 h2) HR2.out⟩)⟩
    · obtain rfl : i = j := by omega
      obtain ⟨ip, hip⟩ : ∃ ip, i = ip + 1 := ⟨i - 1, by omega⟩
      have e2 : (i : Int) - 1 = (ip : Int) := by omega
      go_wp2
      go_loopg [13] b (fun g1 vk wr => ∃ (k n2 : Nat) (dk : Array File) (os2 : Array Obj), vk = .int .i64 k ∧ a ≤ k ∧ k ≤ ip ∧ ip - k ≤ g1 ∧ dk.size = d.size ∧ wr = sortWorldK encF K w blk off n2 dk os2 ∧
        Aside (PermIn a b d dk ∧ ∀ x, dk[x]! = carryUp (fun k => d[k]!) a k x))
      case atStart => exact ⟨a, n, d, os, rfl, Nat.le_refl _, by omega, by omega, rfl, rfl, (show Aside _ from ⟨permIn_refl _ _ _, fun x => (carryUp_zero _ _ _).symm⟩)⟩
      case round =>
        obtain ⟨k, n2, dk, os2, rfl, hak, hki, hg2, hsk, rfl, HI2⟩ := hrel
        by_cases hkl : k < ip
        · have hklz : (k : Int) < (ip : Int) := by omega
          obtain ⟨va, vb, hsa, hsb, la, lb, s1, s2, HW⟩ := exch HK.out HH.out HB.out n2 dk os2 hsk k (k + 1) (by omega) (by omega)
          generalize sortWorldK encF K w blk off n2 dk os2 = wq at la lb s1 s2 HW ⊢
          have kz : (k : Int) < (d.size : Int) := by omega
          have kz1 : (k : Int) + 1 < (d.size : Int) := by omega
          have kw : IntKind.i64.wrap ((k : Int) + 1) = (k : Int) + 1 := by rw [IntKind.wrap_i64]; omega
          have k0 : ((k : Int) + 1).toNat = k + 1 := by omega
          have kp : (0 : Int) ≤ (k : Int) + 1 := by omega
          go_wp2
          go_big_region_o
          all_goals
            go_wp2
            go_roundg (ip - (k + 1))
            case measure => omega
            case rel => exact ⟨k + 1, n2 + 1, _, os2, by go_num, by omega, by omega, by omega, by rw [size_swp]; exact hsk, HW.out, (show Aside _ from ⟨permIn_trans _ _ _ _ _ HI2.out.1 (swp_permIn dk a b k (k + 1) (by omega) (by omega) (by omega) (by omega) (by omega)), carryUp_step HI2.out.2 (by omega) (by omega)⟩)⟩
        · obtain rfl : k = ip := by omega
          go_wp2
          go_end0
          exact ⟨rfl, n2, os2, dk, rfl, hsk, HI2.out.1, carryUp_sorted (d := fun k => d[k]!) (e := fun k => dk[k]!) (i := i) (by omega) (by omega) (by rw [← HM.out]; exact H2.out) (fun k h1 h2 => SWO.asymm HS.out (HI.out.1 k (by rw [HM.out]; exact h1) h2)) (fun k h1 h2 => HI.out.2 k h1 h2) (fun x => by rw [show i - 1 = k by omega]; exact HI2.out.2 x)⟩
end Go.Proofs.YtndpgdegcbaigaaGreatDoor
