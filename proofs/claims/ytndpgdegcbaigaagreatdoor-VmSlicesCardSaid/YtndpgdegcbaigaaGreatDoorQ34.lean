/- Arguments that are slices of structs, opened to lists. · The laws' own guard: 'great'. · What a run writes is a tree that can be; only a run of MaxFuel steps gives up for want of fuel. Plain Lean. · VmFuel: the walk. -/
import Derived.Test.YtndpgdegcbaigaaGreatDoorQ30
import Derived.Test.YtndpgdegcbaigaaGreatDoorQ28
import Derived.Deep.Slices
import Derived.Deep.Fields
import Derived.SizedLaws
import Derived.ChangeSame
import Derived.Test.YtndpgdegcbaigaaGreatDoorQ29
import Derived.Test.YtndpgdegcbaigaaGreatDoorQ26
import Derived.Test.YtndpgdegcbaigaaGreatDoorQ19
namespace Go.Proofs.YtndpgdegcbaigaaGreatDoor
open Go Go.RowKit Go.ChangeShapes Go.WideShapes Go.Deep

section
variable {H : Type} {enc : TypeId × Value → H} {P : Program} {w : World} {base : Nat} {spare : Nat → Bool} {held : Bool}
/-- A slice whose elements read as values of α reads as a list of them. -/
theorem open_rows {α : Type} (T : Ty α) (Q : α → DataW H → Prop) {t e : TypeId} {fuel : Nat} {cs : List Value} {x : DataW H × List MemPlace} (ht : P.underlying t = some (.slice e)) (hC : P.cellsOf e = T.k)
    (hel : ∀ (n : Nat) (cs' : List Value) (y : DataW H × List MemPlace), cs'.length = T.k → DataW.trod enc P w base spare held n e cs' = some y → ∃ v : α, cs' = T.enc v ∧ Q v y.1)
    (h : DataW.trod enc P w base spare held fuel t cs = some x) :
    ∃ (a : Option Addr) (n c : Nat) (xs : List α), cs = [.slice a n c] ∧ Arr T w a n c xs ∧ ((x.1 = .nil ∧ xs = []) ∨ ∃ es sp, x.1 = .slice es sp ∧ ∀ v ∈ xs, ∃ d ∈ es, Q v d) := by
  rcases open_slice ht h with ⟨rfl, rfl⟩ | ⟨a, len, cap, m, n, D, Pl, rfl, hb, hl, hm, hmm, rfl, hi⟩
  · exact ⟨none, 0, 0, [], rfl, Arr.nil _ _ _ _ (Nat.zero_le _), .inl ⟨rfl, rfl⟩⟩
  have hle : len ≤ m := by rw [hmm]; split <;> omega
  have key : ∀ k, k ≤ len → ∃ xs : List α, xs.length = k ∧ ∀ i v, xs[i]? = some v → (∀ j u, (T.enc v)[j]? = some u → w.cell? (a.add (i * T.k + j)) = some u) ∧ Q v (D i) := by
    intro k
    induction k with
    | zero => intro _; exact ⟨[], rfl, fun i v h => by simp at h⟩
    | succ k ih =>
      intro hk
      obtain ⟨xs, hx, hxs⟩ := ih (by omega)
      obtain ⟨cs', hc, hy⟩ := hi k (by omega)
      rw [hC] at hc
      obtain ⟨_, hcl, hat⟩ := World.cells?_some hc
      obtain ⟨v, rfl, hq⟩ := hel n cs' _ hcl hy
      refine ⟨xs ++ [v], by simp [hx], fun i u hu => ?_⟩
      by_cases hik : i < k
      · rw [List.getElem?_append_left (by omega)] at hu
        exact hxs i u hu
      · rw [List.getElem?_append_right (by omega), hx] at hu
        have h0 : i - k = 0 := by have := (List.getElem?_eq_some_iff.1 hu).1; simp at this; omega
        obtain rfl : i = k := by omega
        rw [Nat.sub_self] at hu
        obtain rfl : v = u := by simpa using hu
        refine ⟨fun j u hu => ?_, hq⟩
        have hj : j < T.k := by have := (List.getElem?_eq_some_iff.1 hu).1; rw [T.len] at this; exact this
        have hcell := hat j hj
        rw [hu] at hcell
        rw [← Go.Deep.add_add]; exact hcell
  obtain ⟨xs, hxl, hxs⟩ := key len (Nat.le_refl _)
  refine ⟨some a, len, cap, xs, rfl, ⟨hxl, hl, hm, fun i v hv => ?_⟩, .inr ⟨_, _, rfl, fun v hv => ?_⟩⟩
  · have hil : i < len := by have := (List.getElem?_eq_some_iff.1 hv).1; omega
    obtain ⟨v0, hv0⟩ : ∃ v0, xs[0]? = some v0 := ⟨_, List.getElem?_eq_getElem (by omega)⟩
    have hp : 0 < (T.enc v0).length := by rw [T.len]; exact T.pos
    have h0 := (hxs 0 v0 hv0).1 0 _ (List.getElem?_eq_getElem hp)
    have hs : a.spot = none := by
      have := World.cell?_spot h0
      simpa [Addr.add] using this
    obtain ⟨b, o, sp⟩ := a
    obtain rfl : sp = none := hs
    refine ⟨b, o, rfl, fun j u hu => ?_⟩
    have := (hxs i v hv).1 j u hu
    rw [Addr.add_lit] at this
    rw [Nat.add_assoc]; exact this
  · obtain ⟨i, hi1, rfl⟩ := List.getElem_of_mem hv
    exact ⟨D i, List.mem_map.2 ⟨i, List.mem_range.2 (by omega), rfl⟩, (hxs i _ (List.getElem?_eq_getElem hi1)).2⟩
end

theorem weightsAll_mem {H : Type} {P : Program} {e : TypeId} : ∀ {l : List (DataW H)} {d : DataW H}, d ∈ l → ∀ n ∈ d.weights P e, n ∈ DataW.weightsAll P e l
  | _ :: _, _, hd, n, hn => by
    simp only [DataW.weightsAll, List.mem_append]
    rcases List.mem_cons.1 hd with rfl | h
    · exact Or.inl hn
    · exact Or.inr (weightsAll_mem h n hn)

section
variable {H : Type} {enc : TypeId × Value → H} {w : World} {base : Nat} {spare : Nat → Bool} {held : Bool}
def dIns (v : Ins) (d : DataW H) : Prop := inI v.op ∧ inI v.n ∧ d = .agg [.lit (.int .i64 v.op), .lit (.int .i64 v.n), .lit (.string v.s.data.toList)]
def dFile (v : File) (d : DataW H) : Prop := d = .agg [.lit (.string v.path.data.toList), .lit (.string v.data.data.toList)]

set_option maxRecDepth 100000 in
theorem open_ins (n : Nat) (cs' : List Value) (y : DataW H × List MemPlace) (hl : cs'.length = 3) (h : DataW.trod enc Tryz.prog w base spare held n 38 cs' = some y) : ∃ v : Ins, cs' = TIns.enc v ∧ dIns v y.1 := by
  obtain ⟨xs, n', _, rfl, _, hxl, hf⟩ := DataW.trod_struct Tryz.underlying38 h
  match cs', hl with
  | [c0, c1, c2], _ =>
  match xs, hxl with
  | [y0, y1, y2], _ =>
    have h0 : DataW.trod enc Tryz.prog w base spare held n' 3 (([c0, c1, c2].drop 0).take (Tryz.prog.cellsOf 3)) = some y0 := hf 0 _ rfl
    have h1 : DataW.trod enc Tryz.prog w base spare held n' 3 (([c0, c1, c2].drop 1).take (Tryz.prog.cellsOf 3)) = some y1 := hf 1 _ rfl
    have h2 : DataW.trod enc Tryz.prog w base spare held n' 9 (([c0, c1, c2].drop 2).take (Tryz.prog.cellsOf 9)) = some y2 := hf 2 _ rfl
    have k3 : Tryz.prog.cellsOf 3 = 1 := by kernel_rfl
    have k9 : Tryz.prog.cellsOf 9 = 1 := by kernel_rfl
    rw [k3] at h0 h1
    rw [k9] at h2
    obtain ⟨i0, e0, rfl, w0⟩ := DataW.trod_int Tryz.underlying3 h0
    obtain ⟨i1, e1, rfl, w1⟩ := DataW.trod_int Tryz.underlying3 h1
    obtain ⟨s, e2, rfl, _⟩ := DataW.trod_string Tryz.underlying9 h2
    obtain rfl : c0 = .int .i64 i0 := by simpa using e0
    obtain rfl : c1 = .int .i64 i1 := by simpa using e1
    obtain rfl : c2 = .string s := by simpa using e2
    exact ⟨⟨i0, i1, s⟩, rfl, in_of_wf w0, in_of_wf w1, rfl⟩

set_option maxRecDepth 100000 in
theorem open_file (n : Nat) (cs' : List Value) (y : DataW H × List MemPlace) (hl : cs'.length = 2) (h : DataW.trod enc Tryz.prog w base spare held n 34 cs' = some y) : ∃ v : File, cs' = TFile.enc v ∧ dFile v y.1 := by
  obtain ⟨xs, n', _, rfl, _, hxl, hf⟩ := DataW.trod_struct Tryz.underlying34 h
  match cs', hl with
  | [c0, c1], _ =>
  match xs, hxl with
  | [y0, y1], _ =>
    have h0 : DataW.trod enc Tryz.prog w base spare held n' 9 (([c0, c1].drop 0).take (Tryz.prog.cellsOf 9)) = some y0 := hf 0 _ rfl
    have h1 : DataW.trod enc Tryz.prog w base spare held n' 9 (([c0, c1].drop 1).take (Tryz.prog.cellsOf 9)) = some y1 := hf 1 _ rfl
    have k9 : Tryz.prog.cellsOf 9 = 1 := by kernel_rfl
    rw [k9] at h0 h1
    obtain ⟨s0, e0, rfl, _⟩ := DataW.trod_string Tryz.underlying9 h0
    obtain ⟨s1, e1, rfl, _⟩ := DataW.trod_string Tryz.underlying9 h1
    obtain rfl : c0 = .string s0 := by simpa using e0
    obtain rfl : c1 = .string s1 := by simpa using e1
    exact ⟨⟨s0, s1⟩, rfl, rfl⟩

/-- What a program that is handed in is. -/
structure ProgIn (w : World) (v : Value) (a : Option Addr) (n c : Nat) (xs : List Ins) : Prop where
  v : v = .slice a n c
  arr : Arr TIns w a n c xs
  ins : ∀ x ∈ xs, inI x.op ∧ inI x.n ∧ x.s.size ≤ 140737488351232
structure ViewIn (w : World) (v : Value) (a : Option Addr) (n c : Nat) (xs : List File) : Prop where
  v : v = .agg #[.slice a n c]
  arr : Arr TFile w a n c xs
  files : ∀ x ∈ xs, x.path.size ≤ 140737488351232 ∧ x.data.size ≤ 140737488351232

set_option maxRecDepth 100000 in
theorem open_prog {v : Value} {d : DataW H} {p : List MemPlace} {r : Reach} {b0 : Nat} (hv : Value.okWide Tryz.prog w r b0 22 v) (hd : DataW.Trod enc Tryz.prog w base spare held 22 v d p)
    (hw : ∀ n ∈ d.weights Tryz.prog 22, n ≤ reachBytes) : ∃ a n c xs, ProgIn w v a n c xs := by
  obtain ⟨a0, len, cap, rfl⟩ := okWide_slice Tryz.underlying22 hv
  obtain ⟨fuel, hf⟩ := hd
  obtain ⟨a, n, c, xs, hcs, hA, hx⟩ := open_rows TIns dIns Tryz.underlying22 (by kernel_rfl) open_ins hf
  obtain ⟨rfl, rfl, rfl⟩ : a0 = a ∧ len = n ∧ cap = c := by simpa [Value.cells] using hcs
  refine ⟨a0, len, cap, xs, rfl, hA, fun x hxm => ?_⟩
  rcases hx with ⟨_, rfl⟩ | ⟨es, sp, hd, hq⟩
  · simp at hxm
  · obtain ⟨d', hd', q0, q1, rfl⟩ := hq x hxm
    refine ⟨q0, q1, ?_⟩
    refine hw _ ?_
    have hd : d = .slice es sp := hd
    subst hd
    simp only [DataW.weights, Tryz.underlying22, List.mem_cons, List.mem_append]
    refine Or.inr (Or.inl (weightsAll_mem hd' _ ?_))
    simp only [DataW.weights, Tryz.underlying38]
    simp [DataW.weightsEach, DataW.weights]

set_option maxRecDepth 100000 in
theorem open_view {v : Value} {d : DataW H} {p : List MemPlace} {r : Reach} {b0 : Nat} (hv : Value.okWide Tryz.prog w r b0 25 v) (hd : DataW.Trod enc Tryz.prog w base spare held 25 v d p)
    (hw : ∀ n ∈ d.weights Tryz.prog 25, n ≤ reachBytes) : ∃ a n c xs, ViewIn w v a n c xs := by
  obtain ⟨cs, rfl, hsz⟩ := okWide_struct Tryz.underlying25 hv
  obtain ⟨l⟩ := cs
  have k1 : Tryz.prog.cellsOf 25 = 1 := by kernel_rfl
  match l, hsz.trans k1 with
  | [c0], _ =>
  obtain ⟨fuel, hf⟩ := hd
  obtain ⟨ys, n', _, hy, _, hyl, hg⟩ := DataW.trod_struct Tryz.underlying25 hf
  match ys, hyl with
  | [y0], _ =>
  have h0 : DataW.trod enc Tryz.prog w base spare held n' 23 (([c0].drop 0).take (Tryz.prog.cellsOf 23)) = some y0 := hg 0 _ rfl
  have k2 : Tryz.prog.cellsOf 23 = 1 := by kernel_rfl
  rw [k2] at h0
  obtain ⟨a, n, c, xs, hcs, hA, hx⟩ := open_rows TFile dFile Tryz.underlying23 (by kernel_rfl) open_file h0
  obtain rfl : c0 = .slice a n c := by simpa [Value.cells] using hcs
  simp only [Prod.mk.injEq] at hy
  obtain ⟨hd, _⟩ := hy
  refine ⟨a, n, c, xs, rfl, hA, fun x hxm => ?_⟩
  rcases hx with ⟨_, rfl⟩ | ⟨es, sp, hd2, hq⟩
  · simp at hxm
  · obtain ⟨d', hd', rfl⟩ := hq x hxm
    have hall : ∀ k ∈ DataW.weights Tryz.prog 34 (.agg [.lit (.string x.path.data.toList), .lit (.string x.data.data.toList)] : DataW H), k ≤ reachBytes := by
      intro k hk
      refine hw k ?_
      rw [hd]
      simp only [DataW.weights, Tryz.underlying25]
      simp only [List.map_cons, List.map_nil, DataW.weightsEach, hd2, List.append_nil]
      simp only [DataW.weights, Tryz.underlying23, List.mem_cons, List.mem_append]
      exact Or.inr (Or.inl (weightsAll_mem hd' _ hk))
    simp only [DataW.weights, Tryz.underlying34] at hall
    simp [DataW.weightsEach, DataW.weights] at hall
    exact hall
end

theorem weights_of {H : Type} {P : Program} {ts : List TypeId} {ds : List (DataW H)} (h : (DataW.weightsEach P ts ds).all (· ≤ reachBytes) = true) {j : Nat} {t : TypeId} {d : DataW H} (ht : ts[j]? = some t) (hd : ds[j]? = some d) : ∀ n ∈ d.weights P t, n ≤ reachBytes := fun n hn =>
  of_decide_eq_true (List.all_eq_true.1 h n (DataW.weights_mem_each ht hd n hn))
end Go.Proofs.YtndpgdegcbaigaaGreatDoor

namespace Go.Proofs.YtndpgdegcbaigaaGreatDoor
open Go Go.RowKit

def greatI : Nat → List Ins → Option Nat
  | n, [] => some n
  | n, x :: xs => if 131072 < n + x.s.size then none else greatI (n + x.s.size) xs
def greatF : Nat → List File → Option Nat
  | n, [] => some n
  | n, x :: xs => if 262144 < n + (x.path.size + x.data.size) then none else greatF (n + (x.path.size + x.data.size)) xs
def greatM (p : List Ins) (v : List File) : Bool := match greatI 0 p with
  | none => true
  | some n => match greatF n v with
    | none => true
    | some _ => decide (400 < p.length) || decide (100 < v.length)

theorem greatI_round {p : List Ins} {i m : Nat} {x : Ins} (hx : p[i]? = some x) (h : greatI 0 p = greatI m (p.drop i)) :
    (131072 < m + x.s.size → greatI 0 p = none) ∧ (¬ 131072 < m + x.s.size → greatI 0 p = greatI (m + x.s.size) (p.drop (i + 1))) := by
  have hd : p.drop i = x :: p.drop (i + 1) := by
    obtain ⟨hi, rfl⟩ := List.getElem?_eq_some_iff.1 hx
    exact List.drop_eq_getElem_cons hi
  rw [hd] at h
  exact ⟨fun hc => by rw [h, greatI, if_pos hc], fun hc => by rw [h, greatI, if_neg hc]⟩
theorem greatF_round {v : List File} {i m n : Nat} {x : File} (hx : v[i]? = some x) (h : greatF n v = greatF m (v.drop i)) :
    (262144 < m + (x.path.size + x.data.size) → greatF n v = none) ∧ (¬ 262144 < m + (x.path.size + x.data.size) → greatF n v = greatF (m + (x.path.size + x.data.size)) (v.drop (i + 1))) := by
  have hd : v.drop i = x :: v.drop (i + 1) := by
    obtain ⟨hi, rfl⟩ := List.getElem?_eq_some_iff.1 hx
    exact List.drop_eq_getElem_cons hi
  rw [hd] at h
  exact ⟨fun hc => by rw [h, greatF, if_pos hc], fun hc => by rw [h, greatF, if_neg hc]⟩

/-- What is not great is small. -/
theorem greatI_small : ∀ (p : List Ins) (n m : Nat), greatI n p = some m → n ≤ m ∧ ∀ x ∈ p, x.s.size ≤ m
  | [], n, m, h => by
    obtain rfl : n = m := Option.some.inj h
    exact ⟨Nat.le_refl _, by simp⟩
  | x :: xs, n, m, h => by
    unfold greatI at h
    split at h
    · cases h
    · obtain ⟨h1, h2⟩ := greatI_small xs _ _ h
      refine ⟨by omega, fun y hy => ?_⟩
      rcases List.mem_cons.1 hy with rfl | hy
      · omega
      · exact h2 y hy
theorem greatI_max : ∀ (p : List Ins) (n m : Nat), n ≤ 131072 → greatI n p = some m → m ≤ 131072
  | [], n, m, hn, h => by
    obtain rfl : n = m := Option.some.inj h
    exact hn
  | x :: xs, n, m, hn, h => by
    unfold greatI at h
    split at h
    · cases h
    · exact greatI_max xs _ _ (by omega) h
theorem greatF_small : ∀ (p : List File) (n m : Nat), greatF n p = some m → n ≤ m ∧ ∀ x ∈ p, x.path.size ≤ m ∧ x.data.size ≤ m
  | [], n, m, h => by
    obtain rfl : n = m := Option.some.inj h
    exact ⟨Nat.le_refl _, by simp⟩
  | x :: xs, n, m, h => by
    unfold greatF at h
    split at h
    · cases h
    · obtain ⟨h1, h2⟩ := greatF_small xs _ _ h
      refine ⟨by omega, fun y hy => ?_⟩
      rcases List.mem_cons.1 hy with rfl | hy
      · omega
      · exact h2 y hy
theorem greatF_max : ∀ (p : List File) (n m : Nat), n ≤ 262144 → greatF n p = some m → m ≤ 262144
  | [], n, m, hn, h => by
    obtain rfl : n = m := Option.some.inj h
    exact hn
  | x :: xs, n, m, hn, h => by
    unfold greatF at h
    split at h
    · cases h
    · exact greatF_max xs _ _ (by omega) h
theorem great_no {p : List Ins} {v : List File} (h : greatM p v = false) : p.length ≤ 400 ∧ v.length ≤ 100 ∧ (∀ x ∈ p, x.s.size ≤ 131072) ∧ ∀ g ∈ v, g.path.size ≤ 1048576 ∧ g.data.size ≤ 1048576 := by
  unfold greatM at h
  split at h
  · cases h
  rename_i n hn
  split at h
  · cases h
  rename_i k hk
  simp only [Bool.or_eq_false_iff, decide_eq_false_iff_not] at h
  have h1 := greatI_max p 0 n (by omega) hn
  have h2 := greatF_max v n k (by omega) hk
  refine ⟨by omega, by omega, fun x hx => ?_, fun g hg => ?_⟩
  · have := (greatI_small p 0 n hn).2 x hx; omega
  · have := (greatF_small v n k hk).2 g hg; omega

set_option maxHeartbeats 4000000 in
set_option maxRecDepth 20000 in
theorem great_calls (w : World) (a b : Option Addr) (n c n2 c2 : Nat) (p : List Ins) (v : List File) (hP : Arr TIns w a n c p) (hV : Arr TFile w b n2 c2 v) (hps : ∀ x ∈ p, x.s.size ≤ 140737488351232) (hvs : ∀ x ∈ v, x.path.size ≤ 140737488351232 ∧ x.data.size ≤ 140737488351232) :
    Calls Tryz.prog 14 #[.slice a n c, .agg #[.slice b n2 c2]] w fun e w' => e = .returned (.bool (greatM p v)) ∧ Ext w w' := by
  have hbn := hP.bound
  have hbn2 := hV.bound
  have hpl := hP.len
  have hvl := hV.len
  go_enter Tryz.func14, Tryz.ntmps14
  go_wp2_with fail
  go_loopg [5, 12] n (fun gg s5 s12 wr => ∃ i m : Nat, i ≤ n ∧ n - i ≤ gg ∧ s12 = .int .i64 i ∧ s5 = .int .i64 m ∧ m ≤ 131072 ∧ Aside (greatI 0 p = greatI m (p.drop i) ∧ Ext (w.alloc (.cells #[.slice b n2 c2] 25)) wr))
  case atStart => exact ⟨0, 0, Nat.zero_le _, by omega, rfl, rfl, by omega, (show Aside _ from ⟨rfl, Ext.refl _⟩)⟩
  case round =>
    obtain ⟨i, m, hin, hgg, rfl, rfl, hm, R⟩ := hrel
    by_cases hlt : i < n
    · have hltz : (i : Int) < (n : Int) := by omega
      obtain ⟨bb, oo, x, rfl, hx, x0, x1, x2⟩ := (hP.below ((Ext.alloc _ _).trans R.out.2)).ins hlt
      have hxs := hps x (List.mem_of_getElem? hx)
      have rr := aside (greatI_round hx R.out.1)
      clear hx
      by_cases hbig : 131072 < m + x.s.size
      · have hbigz : (m : Int) + (x.s.size : Int) > 131072 := by omega
        have hg : Aside (greatM p v = true) := by
          show greatM p v = true
          unfold greatM; rw [rr.out.1 hbig]
        go_wp2_with fail
        exact bodyPost_ret (v := .bool true) (by simp [results, Tryz.results14, go_sem]) rfl ⟨by rw [hg.out], (Ext.alloc _ _).trans (R.out.2.trans (by ((repeat (first | exact Ext.refl _ | assumption | refine Ext.drew' ?_ | refine Ext.alloc' ?_ _ | (with_reducible refine Ext.trans ?_ (Ext.drewN _ _)) | refine Ext.trans ?_ (by assumption))); done)))⟩
      · have hbigz : ¬ (m : Int) + (x.s.size : Int) > 131072 := by omega
        go_wp2_with fail
        go_roundg (n - (i + 1))
        case measure => omega
        case rel => exact ⟨i + 1, m + x.s.size, by omega, by omega, by go_num, by go_num, by omega, (show Aside _ from ⟨rr.out.2 hbig, R.out.2.trans (by ((repeat (first | exact Ext.refl _ | assumption | refine Ext.drew' ?_ | refine Ext.alloc' ?_ _ | (with_reducible refine Ext.trans ?_ (Ext.drewN _ _)) | refine Ext.trans ?_ (by assumption))); done))⟩)⟩
    · obtain rfl : i = n := by omega
      have hltz : ¬ (i : Int) < (i : Int) := by omega
      obtain ⟨t1, t2, t3⟩ := new_kept R.out.2 (new_block w (.cells #[.slice b n2 c2] 25) _ rfl)
      have h0 : Aside (greatI 0 p = some m) := by
        show greatI 0 p = some m
        rw [R.out.1, List.drop_eq_nil_of_le (by omega)]; rfl
      have RE := aside R.out.2
      clear R
      go_wp2_with fail
      go_loopg [5, 27] n2 (fun gg s5 s27 wt => ∃ i k : Nat, i ≤ n2 ∧ n2 - i ≤ gg ∧ s27 = .int .i64 i ∧ s5 = .int .i64 k ∧ k ≤ 262144 ∧ Aside (greatF m v = greatF k (v.drop i) ∧ Ext wr wt))
      case atStart => exact ⟨0, m, Nat.zero_le _, by omega, rfl, rfl, by omega, (show Aside _ from ⟨rfl, Ext.refl _⟩)⟩
      case round =>
        obtain ⟨j, k, hjn, hgg2, rfl, rfl, hk, S⟩ := hrel
        by_cases hlt2 : j < n2
        · have hltz2 : (j : Int) < (n2 : Int) := by omega
          obtain ⟨bb, oo, x, rfl, hx, x0, x1⟩ := (hV.below (((Ext.alloc _ _).trans RE.out).trans S.out.2)).file hlt2
          obtain ⟨hx1, hx2⟩ := hvs x (List.mem_of_getElem? hx)
          have rr := aside (greatF_round hx S.out.1)
          clear hx
          by_cases hbig : 262144 < k + (x.path.size + x.data.size)
          · have hbigz : (k : Int) + ((x.path.size : Int) + (x.data.size : Int)) > 262144 := by omega
            have hg : Aside (greatM p v = true) := by
              show greatM p v = true
              unfold greatM; rw [h0.out]; simp only [rr.out.1 hbig]
            go_wp2_with fail
            exact bodyPost_ret (v := .bool true) (by simp [results, Tryz.results14, go_sem]) rfl ⟨by rw [hg.out], (Ext.alloc _ _).trans (RE.out.trans (S.out.2.trans (by ((repeat (first | exact Ext.refl _ | assumption | refine Ext.drew' ?_ | refine Ext.alloc' ?_ _ | (with_reducible refine Ext.trans ?_ (Ext.drewN _ _)) | refine Ext.trans ?_ (by assumption))); done))))⟩
          · have hbigz : ¬ (k : Int) + ((x.path.size : Int) + (x.data.size : Int)) > 262144 := by omega
            go_wp2_with fail
            go_roundg (n2 - (j + 1))
            case measure => omega
            case rel => exact ⟨j + 1, k + (x.path.size + x.data.size), by omega, by omega, by go_num, by go_num, by omega, (show Aside _ from ⟨rr.out.2 hbig, S.out.2.trans (by ((repeat (first | exact Ext.refl _ | assumption | refine Ext.drew' ?_ | refine Ext.alloc' ?_ _ | (with_reducible refine Ext.trans ?_ (Ext.drewN _ _)) | refine Ext.trans ?_ (by assumption))); done))⟩)⟩
        · obtain rfl : j = n2 := by omega
          have hltz2 : ¬ (j : Int) < (j : Int) := by omega
          obtain ⟨y1, y2, y3⟩ := new_kept (RE.out.trans S.out.2) (new_block w (.cells #[.slice b j c2] 25) _ rfl)
          have hg : Aside (greatM p v = (decide (400 < i) || decide (100 < j))) := by
            show greatM p v = _
            unfold greatM; rw [h0.out]
            have : greatF m v = some k := by rw [S.out.1, List.drop_eq_nil_of_le (by omega)]; rfl
            simp only [this, hpl, hvl]
          by_cases q1 : (i : Int) > 400
          · go_wp2_with fail
            exact bodyPost_ret (v := .bool true) (by simp [results, Tryz.results14, go_sem]) rfl ⟨by rw [hg.out, decide_eq_true (show 400 < i by omega)]; rfl, (Ext.alloc _ _).trans (RE.out.trans (S.out.2.trans (by ((repeat (first | exact Ext.refl _ | assumption | refine Ext.drew' ?_ | refine Ext.alloc' ?_ _ | (with_reducible refine Ext.trans ?_ (Ext.drewN _ _)) | refine Ext.trans ?_ (by assumption))); done))))⟩
          · by_cases q2 : (j : Int) > 100
            · go_wp2_with fail
              exact bodyPost_ret (v := .bool true) (by simp [results, Tryz.results14, go_sem]) rfl ⟨by rw [hg.out, decide_eq_true (show 100 < j by omega), Bool.or_true], (Ext.alloc _ _).trans (RE.out.trans (S.out.2.trans (by ((repeat (first | exact Ext.refl _ | assumption | refine Ext.drew' ?_ | refine Ext.alloc' ?_ _ | (with_reducible refine Ext.trans ?_ (Ext.drewN _ _)) | refine Ext.trans ?_ (by assumption))); done))))⟩
            · go_wp2_with fail
              exact bodyPost_ret (v := .bool false) (by simp [results, Tryz.results14, go_sem]) rfl ⟨by rw [hg.out, decide_eq_false (show ¬ 400 < i by omega), decide_eq_false (show ¬ 100 < j by omega)]; rfl, (Ext.alloc _ _).trans (RE.out.trans (S.out.2.trans (by ((repeat (first | exact Ext.refl _ | assumption | refine Ext.drew' ?_ | refine Ext.alloc' ?_ _ | (with_reducible refine Ext.trans ?_ (Ext.drewN _ _)) | refine Ext.trans ?_ (by assumption))); done))))⟩
end Go.Proofs.YtndpgdegcbaigaaGreatDoor

namespace Go.Proofs.YtndpgdegcbaigaaGreatDoor
open Go Go.RowKit

theorem treeMake_cases (l : List File) : (treeMake l).2 = 0 ∨ ((treeMake l).1 = [] ∧ (treeMake l).2 ≠ 0 ∧ (treeMake l).2 ≠ 45) := by
  unfold treeMake
  split
  · right; exact ⟨rfl, by show (13 : Int) ≠ 0; decide, by show (13 : Int) ≠ 45; decide⟩
  · split
    · rename_i e he
      obtain ⟨f, _, hf⟩ := List.exists_of_findSome?_eq_some he
      right
      refine ⟨rfl, ?_, ?_⟩ <;>
      · show e ≠ _
        unfold fileErr at hf
        split at hf
        · split at hf
          · cases hf
          · cases hf; decide
        · cases hf; decide
    · split
      · right; exact ⟨rfl, by show (11 : Int) ≠ 0; decide, by show (11 : Int) ≠ 45; decide⟩
      · split
        · right; exact ⟨rfl, by show (12 : Int) ≠ 0; decide, by show (12 : Int) ≠ 45; decide⟩
        · left; rfl

theorem made_good {l : List File} (h : (treeMake l).2 = 0) : treeGood (treeMake l).1 = true := by
  have h32 : l.length ≤ 32 := by
    unfold treeMake at h
    split at h
    · exact absurd h (by show ¬ (13 : Int) = 0; decide)
    · omega
  have hn : l.findSome? fileErr = none := by
    unfold treeMake at h
    rw [if_neg (by omega)] at h
    split at h
    · rename_i e he
      obtain ⟨f, _, hf⟩ := List.exists_of_findSome?_eq_some he
      have h0 : e = 0 := h
      subst h0
      unfold fileErr at hf
      split at hf
      · split at hf
        · cases hf
        · exact absurd (Option.some.inj hf) (by decide)
      · exact absurd (Option.some.inj hf) (by decide)
    · rename_i he; exact he
  have hp := sortF_perm l
  have hs := sortF_sorted l
  have h1 := made_of h32 hn hp hs
  have hn2 : (sortF l).findSome? fileErr = none := by
    rw [List.findSome?_eq_none_iff] at hn ⊢
    intro x hx
    exact hn x (hp.mem_iff.1 hx)
  have h2 := made_of (l := sortF l) (s := sortF l) (by rw [hp.length_eq]; exact h32) hn2 (List.Perm.refl _) hs
  rw [h1] at h ⊢
  have h3 : made (sortF l) = (sortF l, 0) := by
    unfold made at h ⊢
    split at h
    · exact absurd h (by show ¬ (11 : Int) = 0; decide)
    · split at h
      · exact absurd h (by show ¬ (12 : Int) = 0; decide)
      · rename_i a b; rw [if_neg a, if_neg b]
  rw [h3]
  show treeGood (sortF l) = true
  unfold treeGood
  rw [h2, h3]; simp
theorem put_good {l : List File} {f : File} (h : (putF l f).2 = 0) : treeGood (putF l f).1 = true := by
  unfold putF at h ⊢
  split
  · rename_i hg
    rw [if_pos hg] at h
    exact made_good h
  · rename_i hg
    rw [if_neg hg] at h
    exact absurd h (by show ¬ (1 : Int) = 0; decide)
theorem put_err (l : List File) (f : File) : (putF l f).2 ≠ 45 := by
  unfold putF
  split
  · rcases treeMake_cases (l.filter (fun g => !(g.path == f.path)) ++ [f]) with h | h
    · rw [h]; decide
    · exact h.2.2
  · show (1 : Int) ≠ 45; decide

/-- An instruction leaves a tree that can be, and never speaks of fuel. -/
def Out.fair : Out → Prop
  | .stop e => e ≠ 45
  | .go c => treeGood c.out = true
  | .halt c => treeGood c.out = true
theorem pushV_fair {v : Val} {c : Cfg} (h : treeGood c.out = true) : (pushV v c).fair := by
  unfold pushV; split
  · exact h
  · show (40 : Int) ≠ 45; decide
theorem bind_fair {o : Out} {k : Cfg → Out} (h : o.fair) (hk : ∀ c, treeGood c.out = true → (k c).fair) : (o.bind k).fair := by
  cases o with
  | go c => exact hk c h
  | halt c => exact h
  | stop e => exact h
theorem takeK_fair {signs : List Bool} {c : Cfg} {k : List Val → Cfg → Out} (h : treeGood c.out = true) (hk : ∀ vs c, treeGood c.out = true → (k vs c).fair) : (takeK signs c k).fair := by
  unfold takeK
  split
  · exact hk _ _ h
  · show kindErr _ _ ≠ 45
    unfold kindErr; split <;> decide
theorem takeA_fair {n : Nat} {c : Cfg} {k : List Val → Cfg → Out} (h : treeGood c.out = true) (hk : ∀ vs c, treeGood c.out = true → (k vs c).fair) : (takeA n c k).fair := by
  unfold takeA
  split
  · exact hk _ _ h
  · show (40 : Int) ≠ 45; decide
theorem exec_fair (view : List File) (x : Ins) (c : Cfg) (h : treeGood c.out = true) : (exec view x c).fair := by
  unfold exec
  split
  · unfold execMoves
    split
    · exact h
    · exact h
    · refine takeK_fair h fun vs c h => ?_
      show treeGood (if _ then _ else _ : Cfg).out = true
      split
      · exact h
      · exact h
    · split
      · exact h
      · show (40 : Int) ≠ 45; decide
    · split
      · exact h
      · show (40 : Int) ≠ 45; decide
    · show (44 : Int) ≠ 45; decide
  · split
    · unfold execTexts
      split
      · exact pushV_fair h
      · refine takeK_fair h fun vs c h => ?_
        split
        · exact pushV_fair h
        · show (43 : Int) ≠ 45; decide
      · exact takeK_fair h fun vs c h => pushV_fair h
      · refine takeK_fair h fun vs c h => ?_
        split
        · exact pushV_fair h
        · show (43 : Int) ≠ 45; decide
      · exact takeK_fair h fun vs c h => pushV_fair h
      · exact takeK_fair h fun vs c h => bind_fair (pushV_fair h) fun _ h => pushV_fair h
    · split
      · unfold execFiles
        split
        · exact takeK_fair h fun vs c h => bind_fair (pushV_fair h) fun _ h => pushV_fair h
        · exact pushV_fair h
        · refine takeK_fair h fun vs c h => ?_
          split
          · exact bind_fair (pushV_fair h) fun _ h => pushV_fair h
          · exact bind_fair (pushV_fair h) fun _ h => pushV_fair h
        · refine takeK_fair h fun vs c h => ?_
          split
          · rename_i hp; exact put_good hp
          · exact put_err _ _
      · unfold execValues
        split
        · exact pushV_fair h
        · exact takeA_fair h fun vs c h => h
        · exact takeA_fair h fun vs _ _ => pushV_fair h
        · exact takeA_fair h fun vs c h => h
        · exact pushV_fair h
        · exact takeA_fair h fun vs c h => h
        · refine takeA_fair h fun vs c h => ?_
          split
          · exact pushV_fair h
          · show (41 : Int) ≠ 45; decide
        · exact takeA_fair h fun vs c h => pushV_fair h
        · exact takeK_fair h fun vs c h => pushV_fair h
        · refine takeK_fair h fun vs c h => ?_
          split
          · exact pushV_fair h
          · show (42 : Int) ≠ 45; decide

/-- What stays so of a run. -/
structure RFair (s : Run) : Prop where
  out : treeGood s.c.out = true
  fuel : s.fault = 45 → s.steps = 4096
theorem tick_fair {prog : List Ins} {view : List File} {s : Run} (h : RFair s) : RFair (tickS prog view s) := by
  have hx := exec_fair view (prog.getD s.c.at_.toNat default) { s.c with at_ := s.c.at_ + 1 } h.out
  have hS : RFair (stepS prog view s) := by
    unfold stepS
    revert hx
    cases exec view (prog.getD s.c.at_.toNat default) { s.c with at_ := s.c.at_ + 1 } with
    | go c => intro hx; exact ⟨hx, fun h0 => absurd h0 (by show ¬ (0 : Int) = 45; decide)⟩
    | halt c => intro hx; exact ⟨hx, fun h0 => absurd h0 (by show ¬ (0 : Int) = 45; decide)⟩
    | stop e => intro hx; exact ⟨h.out, fun h0 => absurd h0 hx⟩
  unfold tickS
  split
  · rename_i hc; exact ⟨hS.out, fun _ => hc.2⟩
  · exact hS
theorem run_fair {prog : List Ins} {view : List File} : ∀ (k : Nat) (s : Run), RFair s → RFair (runS prog view k s)
  | 0, _, h => h
  | k + 1, s, h => by
    unfold runS
    split
    · exact h
    · exact run_fair k _ (tick_fair h)
theorem start_fair : RFair start := ⟨by kernel_rfl, fun h => absurd h (by show ¬ (0 : Int) = 45; decide)⟩

theorem checkErr_cases (prog : List Ins) : checkErr prog = 0 ∨ checkErr prog = 13 ∨ checkErr prog = 30 := by
  unfold checkErr
  split
  · exact .inr (.inl rfl)
  · split
    · exact .inr (.inr rfl)
    · exact .inl rfl

/-- The law of the fuel. -/
theorem fuel_law (prog : List Ins) (view : List File) (hn : ∀ x ∈ prog, inI x.n) : (runM prog view).2.1 ≤ 4096 ∧ ((runM prog view).2.2 = 45 → (runM prog view).2.1 = 4096) ∧ treeGood (runM prog view).1 = true ∧ ((runM prog view).2.2 = 0 ∨ (runM prog view).1 = []) := by
  have hgood : treeGood [] = true := by kernel_rfl
  unfold runM
  split
  · rename_i h0
    refine ⟨by show (0 : Nat) ≤ 4096; omega, fun h1 => ?_, hgood, .inr rfl⟩
    have h1 : checkErr prog = 45 := h1
    rcases checkErr_cases prog with h | h | h <;> (rw [h] at h1; exact absurd h1 (by decide))
  · rename_i h0
    split
    · exact ⟨by show (0 : Nat) ≤ 4096; omega, fun h1 => absurd h1 (by show ¬ (1 : Int) = 45; decide), hgood, .inr rfl⟩
    · rename_i hv
      have h0 : checkErr prog = 0 := by simpa using h0
      have hv : treeGood view = true := by simpa using hv
      obtain ⟨h2, _, h4⟩ := checked h0 hn
      have hf := run_fair (prog := prog) (view := view) 4096 start start_fair
      have hr := (runS_on hv h4 4096 start (start_ok h2)).1
      refine ⟨hr.most, hf.fuel, ?_, ?_⟩
      · show treeGood (if _ then _ else _) = true
        split
        · exact hf.out
        · exact hgood
      · by_cases h5 : (runS prog view 4096 start).fault = 0
        · exact .inl h5
        · right
          show (if _ then _ else _) = _
          rw [if_neg h5]
theorem tree_small {l : List File} (h : treeGood l = true) : l.length ≤ 32 ∧ ∀ g ∈ l, g.path.size ≤ 1048576 ∧ g.data.size ≤ 1048576 := by
  obtain ⟨h1, h2⟩ := treeGood_small h
  exact ⟨h1, fun g hg => by have := h2 g hg; omega⟩
end Go.Proofs.YtndpgdegcbaigaaGreatDoor

namespace Go.Proofs.YtndpgdegcbaigaaGreatDoor
open Go Go.RowKit

set_option maxHeartbeats 8000000 in
set_option maxRecDepth 100000 in
theorem VmFuel_calls (w : World) (hg : Globals w) (a b : Option Addr) (n c n2 c2 : Nat) (p : List Ins) (v : List File) (hP : Arr TIns w a n c p) (hV : Arr TFile w b n2 c2 v) (hin : ∀ x ∈ p, inI x.op ∧ inI x.n ∧ x.s.size ≤ 140737488351232) (hfs : ∀ x ∈ v, x.path.size ≤ 140737488351232 ∧ x.data.size ≤ 140737488351232) :
    Calls Tryz.prog 4 #[.slice a n c, .agg #[.slice b n2 c2]] w fun e w' => e = .returned (.bool true) ∧ Ext w w' := by
  obtain rfl := hP.len
  obtain rfl := hV.len
  have G := aside hg
  have FL := fuel_law p v (fun x hx => (hin x hx).2.1)
  have AP := aside hP
  have AV := aside hV
  have I1 := aside hin
  have I2 := aside hfs
  clear hg hP hV hin hfs
  by_cases hgr : greatM p v = true
  · go_enter Tryz.func4, Tryz.ntmps4
    go_wp2_with (first
      | (go_at_call 13; refine (alive_calls _ (G.out.ext (show Ext w _ by ((repeat (first | exact Ext.refl _ | assumption | refine Ext.drew' ?_ | refine Ext.alloc' ?_ _ | (with_reducible refine Ext.trans ?_ (Ext.drewN _ _)) | refine Ext.trans ?_ (by assumption))); done)))).mono ?_; rintro e w1 ⟨rfl, hE⟩; obtain ⟨t1, t2, t3⟩ := new_kept hE (new_block w (.cells #[.slice b v.length c2] 25) _ rfl); have E1 := aside (Ext.trans (show Ext w _ by ((repeat (first | exact Ext.refl _ | assumption | refine Ext.drew' ?_ | refine Ext.alloc' ?_ _ | (with_reducible refine Ext.trans ?_ (Ext.drewN _ _)) | refine Ext.trans ?_ (by assumption))); done)) hE); clear hE)
      | (go_at_call 14; refine (great_calls _ a b p.length c v.length c2 p v (AP.out.below E1.out) (AV.out.below E1.out) (fun x hx => (I1.out x hx).2.2) I2.out).mono ?_; rintro e w2 ⟨rfl, hE2⟩; rw [hgr]; have E2 := aside (E1.out.trans hE2); clear hE2))
    exact bodyPost_ret (v := .bool true) (by simp [results, Tryz.results4, go_sem]) rfl ⟨rfl, E2.out⟩
  have hgr : greatM p v = false := by simpa using hgr
  have SM := aside (great_no hgr)
  have RUN := aside (fun (W : World) (hW : Ext w W) => Run_done (prog := p) (view := v) a b c c2 (AP.out.below hW) (AV.out.below hW) (fun x hx => (I1.out x hx).2.1) (by have := SM.out.2.1; omega) SM.out.2.2.2 (G.out.ext hW))
  obtain ⟨r, hr⟩ : ∃ r, runM p v = r := ⟨_, rfl⟩
  simp only [hr] at RUN FL
  clear hr
  obtain ⟨l, k, er⟩ := r
  obtain ⟨hk, hk2, hlg, he⟩ := FL
  have hlg : treeGood l = true := hlg
  have LG : Aside (treeGood l = true) := hlg
  have SL : Aside (l.length ≤ 1000 ∧ ∀ g ∈ l, g.path.size ≤ 1048576 ∧ g.data.size ≤ 1048576) := ⟨by have := (tree_small hlg).1; omega, (tree_small hlg).2⟩
  clear hlg
  have hk : k ≤ 4096 := hk
  have hk2 : er = 45 → k = 4096 := hk2
  have he : er = 0 ∨ l = [] := he
  by_cases e0 : er = 0
  · subst e0
    clear hk2 he
    have z1 : ¬ (k : Int) < 0 := by omega
    have z2 : ¬ (k : Int) > 4096 := by omega
    go_enter Tryz.func4, Tryz.ntmps4
    go_wp2_with (first
      | (go_at_call 13; refine (alive_calls _ (G.out.ext (show Ext w _ by ((repeat (first | exact Ext.refl _ | assumption | refine Ext.drew' ?_ | refine Ext.alloc' ?_ _ | (with_reducible refine Ext.trans ?_ (Ext.drewN _ _)) | refine Ext.trans ?_ (by assumption))); done)))).mono ?_; rintro e w1 ⟨rfl, hE⟩; obtain ⟨t1, t2, t3⟩ := new_kept hE (new_block w (.cells #[.slice b v.length c2] 25) _ rfl); have E1 := aside (Ext.trans (show Ext w _ by ((repeat (first | exact Ext.refl _ | assumption | refine Ext.drew' ?_ | refine Ext.alloc' ?_ _ | (with_reducible refine Ext.trans ?_ (Ext.drewN _ _)) | refine Ext.trans ?_ (by assumption))); done)) hE); clear hE)
      | (go_at_call 14; refine (great_calls _ a b p.length c v.length c2 p v (AP.out.below E1.out) (AV.out.below E1.out) (fun x hx => (I1.out x hx).2.2) I2.out).mono ?_; rintro e w2 ⟨rfl, hE2⟩; rw [hgr]; have E2 := aside (E1.out.trans hE2); have t4 := (hE2.cell (p := ⟨w.heap.size, 0, none⟩) t3).trans t1; clear hE2)
      | (go_at_call 15; refine (RUN.out _ E2.out).mono ?_; rintro e w3 ⟨a3, c3, rfl, hA3, hE3, -⟩; have A3 := aside hA3; have E3 := aside (E2.out.trans hE3); clear hA3 hE3)
      | (go_at_call 18; refine (good_done _ a3 c3 _ SL.out.1 SL.out.2 (A3.out.below (show Ext w3 _ by ((repeat (first | exact Ext.refl _ | assumption | refine Ext.drew' ?_ | refine Ext.alloc' ?_ _ | (with_reducible refine Ext.trans ?_ (Ext.drewN _ _)) | refine Ext.trans ?_ (by assumption))); done))) (G.out.ext (E3.out.trans (show Ext w3 _ by ((repeat (first | exact Ext.refl _ | assumption | refine Ext.drew' ?_ | refine Ext.alloc' ?_ _ | (with_reducible refine Ext.trans ?_ (Ext.drewN _ _)) | refine Ext.trans ?_ (by assumption))); done))))).mono ?_; rintro e w4 ⟨rfl, hE4⟩; rw [LG.out]; obtain ⟨t5, t6, t7⟩ := new_kept hE4 (new_block w3 (.cells #[.slice a3 l.length c3] 25) _ rfl); have E4 := aside (E3.out.trans (Ext.trans (show Ext w3 _ by ((repeat (first | exact Ext.refl _ | assumption | refine Ext.drew' ?_ | refine Ext.alloc' ?_ _ | (with_reducible refine Ext.trans ?_ (Ext.drewN _ _)) | refine Ext.trans ?_ (by assumption))); done)) hE4)); clear hE4))
    exact bodyPost_ret (v := .bool true) (by simp [results, Tryz.results4, go_sem] <;> omega) rfl ⟨rfl, E4.out⟩
  · obtain rfl : l = [] := he.resolve_left e0
    by_cases e45 : er = 45
    · obtain rfl := hk2 e45
      subst e45
      clear he hk2 hk
      go_enter Tryz.func4, Tryz.ntmps4
      go_wp2_with (first
        | (go_at_call 13; refine (alive_calls _ (G.out.ext (show Ext w _ by ((repeat (first | exact Ext.refl _ | assumption | refine Ext.drew' ?_ | refine Ext.alloc' ?_ _ | (with_reducible refine Ext.trans ?_ (Ext.drewN _ _)) | refine Ext.trans ?_ (by assumption))); done)))).mono ?_; rintro e w1 ⟨rfl, hE⟩; obtain ⟨t1, t2, t3⟩ := new_kept hE (new_block w (.cells #[.slice b v.length c2] 25) _ rfl); have E1 := aside (Ext.trans (show Ext w _ by ((repeat (first | exact Ext.refl _ | assumption | refine Ext.drew' ?_ | refine Ext.alloc' ?_ _ | (with_reducible refine Ext.trans ?_ (Ext.drewN _ _)) | refine Ext.trans ?_ (by assumption))); done)) hE); clear hE)
        | (go_at_call 14; refine (great_calls _ a b p.length c v.length c2 p v (AP.out.below E1.out) (AV.out.below E1.out) (fun x hx => (I1.out x hx).2.2) I2.out).mono ?_; rintro e w2 ⟨rfl, hE2⟩; rw [hgr]; have E2 := aside (E1.out.trans hE2); have t4 := (hE2.cell (p := ⟨w.heap.size, 0, none⟩) t3).trans t1; clear hE2)
        | (go_at_call 15; refine (RUN.out _ E2.out).mono ?_; rintro e w3 ⟨a3, c3, rfl, hA3, hE3, -⟩; have A3 := aside hA3; have E3 := aside (E2.out.trans hE3); clear hA3 hE3)
        | (go_at_call 18; refine (good_done _ a3 c3 _ SL.out.1 SL.out.2 (A3.out.below (show Ext w3 _ by ((repeat (first | exact Ext.refl _ | assumption | refine Ext.drew' ?_ | refine Ext.alloc' ?_ _ | (with_reducible refine Ext.trans ?_ (Ext.drewN _ _)) | refine Ext.trans ?_ (by assumption))); done))) (G.out.ext (E3.out.trans (show Ext w3 _ by ((repeat (first | exact Ext.refl _ | assumption | refine Ext.drew' ?_ | refine Ext.alloc' ?_ _ | (with_reducible refine Ext.trans ?_ (Ext.drewN _ _)) | refine Ext.trans ?_ (by assumption))); done))))).mono ?_; rintro e w4 ⟨rfl, hE4⟩; rw [LG.out]; obtain ⟨t5, t6, t7⟩ := new_kept hE4 (new_block w3 (.cells #[.slice a3 0 c3] 25) _ rfl); have E4 := aside (E3.out.trans (Ext.trans (show Ext w3 _ by ((repeat (first | exact Ext.refl _ | assumption | refine Ext.drew' ?_ | refine Ext.alloc' ?_ _ | (with_reducible refine Ext.trans ?_ (Ext.drewN _ _)) | refine Ext.trans ?_ (by assumption))); done)) hE4)); clear hE4))
      exact bodyPost_ret (v := .bool true) (by simp [results, Tryz.results4, go_sem] <;> omega) rfl ⟨rfl, E4.out⟩
    · clear he hk2
      have z1 : ¬ (k : Int) < 0 := by omega
      have z2 : ¬ (k : Int) > 4096 := by omega
      have z3 : (er == 45) = false := by simpa using e45
      have z4 : (er == 0) = false := by simpa using e0
      go_enter Tryz.func4, Tryz.ntmps4
      go_wp2_with (first
        | (go_at_call 13; refine (alive_calls _ (G.out.ext (show Ext w _ by ((repeat (first | exact Ext.refl _ | assumption | refine Ext.drew' ?_ | refine Ext.alloc' ?_ _ | (with_reducible refine Ext.trans ?_ (Ext.drewN _ _)) | refine Ext.trans ?_ (by assumption))); done)))).mono ?_; rintro e w1 ⟨rfl, hE⟩; obtain ⟨t1, t2, t3⟩ := new_kept hE (new_block w (.cells #[.slice b v.length c2] 25) _ rfl); have E1 := aside (Ext.trans (show Ext w _ by ((repeat (first | exact Ext.refl _ | assumption | refine Ext.drew' ?_ | refine Ext.alloc' ?_ _ | (with_reducible refine Ext.trans ?_ (Ext.drewN _ _)) | refine Ext.trans ?_ (by assumption))); done)) hE); clear hE)
        | (go_at_call 14; refine (great_calls _ a b p.length c v.length c2 p v (AP.out.below E1.out) (AV.out.below E1.out) (fun x hx => (I1.out x hx).2.2) I2.out).mono ?_; rintro e w2 ⟨rfl, hE2⟩; rw [hgr]; have E2 := aside (E1.out.trans hE2); have t4 := (hE2.cell (p := ⟨w.heap.size, 0, none⟩) t3).trans t1; clear hE2)
        | (go_at_call 15; refine (RUN.out _ E2.out).mono ?_; rintro e w3 ⟨a3, c3, rfl, hA3, hE3, -⟩; have A3 := aside hA3; have E3 := aside (E2.out.trans hE3); clear hA3 hE3)
        | (go_at_call 18; refine (good_done _ a3 c3 _ SL.out.1 SL.out.2 (A3.out.below (show Ext w3 _ by ((repeat (first | exact Ext.refl _ | assumption | refine Ext.drew' ?_ | refine Ext.alloc' ?_ _ | (with_reducible refine Ext.trans ?_ (Ext.drewN _ _)) | refine Ext.trans ?_ (by assumption))); done))) (G.out.ext (E3.out.trans (show Ext w3 _ by ((repeat (first | exact Ext.refl _ | assumption | refine Ext.drew' ?_ | refine Ext.alloc' ?_ _ | (with_reducible refine Ext.trans ?_ (Ext.drewN _ _)) | refine Ext.trans ?_ (by assumption))); done))))).mono ?_; rintro e w4 ⟨rfl, hE4⟩; rw [LG.out]; obtain ⟨t5, t6, t7⟩ := new_kept hE4 (new_block w3 (.cells #[.slice a3 0 c3] 25) _ rfl); have E4 := aside (E3.out.trans (Ext.trans (show Ext w3 _ by ((repeat (first | exact Ext.refl _ | assumption | refine Ext.drew' ?_ | refine Ext.alloc' ?_ _ | (with_reducible refine Ext.trans ?_ (Ext.drewN _ _)) | refine Ext.trans ?_ (by assumption))); done)) hE4)); clear hE4))
      exact bodyPost_ret (v := .bool true) (by simp [results, Tryz.results4, go_sem] <;> omega) rfl ⟨rfl, E4.out⟩
end Go.Proofs.YtndpgdegcbaigaaGreatDoor
