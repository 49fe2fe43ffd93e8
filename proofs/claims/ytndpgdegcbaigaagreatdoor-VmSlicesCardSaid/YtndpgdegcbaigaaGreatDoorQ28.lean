/- What a law's premise on the package-level variables gives a walk; a world that meets it; the frame in which each law's proof is set. · The frame in which each law's proof is set: a walk under the premise, which only makes memory and answers true, is the law. -/
import Derived.Test.YtndpgdegcbaigaaGreatDoorRows
import Derived.Test.YtndpgdegcbaigaaGreatDoorQ06
import Derived.ProofKit
import Derived.OpenShut
import Derived.LaidMore
import Derived.Lay
import Derived.SevenTiedAt
import Derived.Stop.Joined
import Derived.HandedShaped
import Derived.Shelf.Vars
import Derived.Lib.LaidTab
import Derived.Stop.LaidErr
import Derived.WideKeyArgs
namespace Go.Proofs.YtndpgdegcbaigaaGreatDoor
open Go Go.RowKit Go.ChangeShapes Go.WideShapes Go.ChangeAt

/-- The variables that every law's row lists. -/
def laid8 : List (String × DataW Unit) := Rows.vmLoopsRow.laid

theorem iface_of_trod {H : Type} {enc : TypeId × Value → H} {P : Program} {w : World} {base : Nat} {sp : Nat → Bool} {held : Bool} {fuel : Nat} {t : TypeId} {ms : Array (String × TypeId)} {cs : List Value} {x : DataW H × List MemPlace}
    (ht : P.underlying t = some (.interface ms)) (h : DataW.trod enc P w base sp held fuel t cs = some x) : cs = [.nilIface] ∨ ∃ u v, cs = [.iface u v] := by
  cases fuel with
  | zero => simp [DataW.trod] at h
  | succ m =>
    unfold DataW.trod at h
    rw [ht] at h
    split at h <;> simp_all

theorem string_of_trod {H : Type} {enc : TypeId × Value → H} {P : Program} {w : World} {base : Nat} {sp : Nat → Bool} {held : Bool} {fuel : Nat} {t : TypeId} {cs : List Value} {x : DataW H × List MemPlace}
    (ht : P.underlying t = some .string) (h : DataW.trod enc P w base sp held fuel t cs = some x) : ∃ s : ByteArray, cs = [.string s] ∧ x.1 = .lit (.string s.data.toList) := by
  cases fuel with
  | zero => simp [DataW.trod] at h
  | succ m =>
    unfold DataW.trod at h
    rw [ht] at h
    split at h <;> simp_all
    obtain ⟨_, rfl⟩ := h
    rfl

/-- What is said of one listed variable. -/
theorem laid_head {P : Program} {n : String} {d : DataW Unit} {r : List (String × DataW Unit)} {W : World} {g : Nat} {t : TypeId} (h : laidMet P ((n, d) :: r) W) (hg : P.globalNamed n = some g) (ht : (P.globals[g]?).map (·.type) = some t) :
    ∃ cs fuel p, W.var? P n = some cs ∧ DataW.trod (fun _ => ()) P W 0 (fun _ => true) false fuel t cs.toList = some (d, p) := by
  obtain ⟨ps, ⟨g', t', cs, fuel, p, q, hg', ht', hv, hd, _⟩, _⟩ := h
  obtain rfl := Option.some.inj (hg.symm.trans hg')
  obtain rfl := Option.some.inj (ht.symm.trans ht')
  exact ⟨cs, fuel, p, hv, hd⟩

theorem var_block {P : Program} {W : World} {n : String} {cs : Array Value} {g : Nat} (hg : P.globalNamed n = some g) (h : W.var? P n = some cs) : g < W.heap.size := by
  unfold World.var? at h
  rw [hg] at h
  simp only [Option.bind_some] at h
  rcases Nat.lt_or_ge g W.heap.size with h' | h'
  · exact h'
  · simp [Array.getElem?_eq_none h'] at h

/-- The words, as the row lists them. -/
def wordData : DataW Unit := Rows.laid_sapling_code_words
theorem wordData_eq : wordData = .agg (wordList.map fun s => .lit (.string s.data.toList)) := rfl
theorem pow_eq : (Rows.laid_internal_strconv_uint64pow10 : DataW Unit) = Lib.tabData .u64 Lib.pow10Tab := rfl

theorem bytes_of_list {a b : ByteArray} (h : a.data.toList = b.data.toList) : a = b := by
  obtain ⟨⟨a⟩⟩ := a
  obtain ⟨⟨b⟩⟩ := b
  simp only at h; subst h; rfl

theorem words_of {W : World} {r : List (String × DataW Unit)} (h : laidMet Tryz.prog (("sapling/code.words", wordData) :: r) W) : Words W := by
  have hgn : Tryz.prog.globalNamed "sapling/code.words" = some 0 := by kernel_rfl
  obtain ⟨cs, fuel, p, hv, hd⟩ := laid_head h hgn (show (Tryz.prog.globals[0]?).map (·.type) = some 109 by kernel_rfl)
  refine ⟨var_block hgn hv, fun i hi => ?_⟩
  obtain ⟨xs, m, _, ex, _, hl, hel⟩ := DataW.trod_array Tryz.underlying109 hd
  have c9 : Tryz.prog.cellsOf 9 = 1 := by kernel_rfl
  have hE := hel i hi
  rw [c9, Nat.mul_one, List.getElem?_eq_getElem (by omega)] at hE
  obtain ⟨s, e1, e2⟩ := string_of_trod Tryz.underlying9 hE
  have hlen : wordList.length = 31 := rfl
  have e3 : xs.map (·.1) = wordList.map fun s => .lit (.string s.data.toList) := by
    have := (Prod.mk.inj ex).1
    rw [wordData_eq] at this
    exact (DataW.agg.inj this).symm
  have e4 : (xs.map (·.1))[i]? = (wordList.map fun s => (DataW.lit (.string s.data.toList) : DataW Unit))[i]? := by rw [e3]
  rw [List.getElem?_map, List.getElem?_map, List.getElem?_eq_getElem (by omega : i < xs.length), List.getElem?_eq_getElem (by omega : i < wordList.length)] at e4
  have e5 : xs[i].1 = .lit (.string (wordList[i]'(by omega)).data.toList) := by simpa using e4
  have e6 : s.data.toList = (wordList[i]'(by omega)).data.toList := by
    rw [e2] at e5
    simpa using e5
  have hs : s = wordList.getD i ByteArray.empty := by
    rw [bytes_of_list e6, List.getD, List.getElem?_eq_getElem (by omega : i < wordList.length)]; rfl
  rw [World.var?_cell hgn hv i, ← hs]
  have : cs.toList[i]? = some (.string s) := by
    have h0 : ((cs.toList.drop i).take 1)[0]? = some (.string s) := by rw [e1]; rfl
    simpa using h0
  simpa using this

theorem err_of {W : World} {n : String} {d : DataW Unit} {r : List (String × DataW Unit)} {g : Nat} {ms : Array (String × TypeId)} (h : laidMet Tryz.prog ((n, d) :: r) W) (hgn : Tryz.prog.globalNamed n = some g) (ht : (Tryz.prog.globals[g]?).map (·.type) = some 102)
    (hu : Tryz.prog.underlying 102 = some (.interface ms)) : ∃ v, W.cell? ⟨g, 0, none⟩ = some v ∧ (v = .nilIface ∨ ∃ te pe, v = .iface te pe) := by
  obtain ⟨cs, fuel, p, hv, hd⟩ := laid_head h hgn ht
  have hc := World.var?_cell hgn hv 0
  obtain ⟨l⟩ := cs
  rcases iface_of_trod hu hd with e | ⟨u, v, e⟩
  · simp only at e; subst e; exact ⟨.nilIface, by simpa using hc, .inl rfl⟩
  · simp only at e; subst e; exact ⟨.iface u v, by simpa using hc, .inr ⟨u, v, rfl⟩⟩

/-- The premise of every law, as its walk wants it. -/
theorem globals_of {W : World} (h : laidMetH Tryz.prog laid8 W) (hs : W.ShapedOpen Tryz.prog) : Globals W := by
  rw [MakeChecks.laidMetH_plain _ _ _ (by kernel_rfl)] at h
  have h2 : laidMet Tryz.prog (("internal/strconv.uint64pow10", Lib.tabData .u64 Lib.pow10Tab) :: _) W := h.tail.tail
  have h4 := h2.tail.tail
  have h5 := h4.tail
  have h6 : laidMet Tryz.prog (("sapling/code.words", wordData) :: _) W := h5.tail
  have h7 := h6.tail
  have hg7 : Tryz.prog.globalNamed "unicode/utf8.first" = some 7 := by kernel_rfl
  have hg8 : Tryz.prog.globalNamed "unicode/utf8.acceptRanges" = some 8 := by kernel_rfl
  obtain ⟨cs8, f8, p8, hv8, hd8⟩ := laid_head h2.tail hg8 (show (Tryz.prog.globals[8]?).map (·.type) = some 172 by kernel_rfl)
  refine ⟨var_block hg8 hv8, words_of h6, Lib.tabIs_of_head (g := 1) (t := 137) (e := 120) (n := 20) (by kernel_rfl) (by kernel_rfl) Tryz.underlying137 Tryz.underlying120 (by kernel_rfl) (by kernel_rfl) h2, ?_, ?_, ?_⟩
  · exact cell_of_shapedOpen_int hs (show 2 < Tryz.prog.globals.size by decide +kernel) (t := 3) (zero := #[.int .i64 0]) (by kernel_rfl) rfl (by kernel_rfl) (by kernel_rfl) Tryz.underlying3
  · exact err_of h5 (by kernel_rfl) (by kernel_rfl) Tryz.underlying102
  · exact err_of h4 (by kernel_rfl) (by kernel_rfl) Tryz.underlying102

theorem own : ownKnob Tryz.prog.godebug = none := by kernel_rfl

/-- A world that meets the premise. -/
theorem wit_shape (os : Os) (args : Array Value) : ((World.laidAll Tryz.prog os laid8).forCall (fun _ _ => 0) ⟨#[], args, []⟩).Shaped Tryz.prog := World.shaped_of_ZipB (by kernel_rfl) (by kernel_rfl)
theorem wit_met (os : Os) (args : Array Value) : laidMetH Tryz.prog laid8 ((World.laidAll Tryz.prog os laid8).forCall (fun _ _ => 0) ⟨#[], args, []⟩).memory := by
  rw [MakeChecks.laidMetH_plain _ _ _ (by kernel_rfl)]; exact laidMet_laidAll _ (by kernel_rfl) (by kernel_rfl)
end Go.Proofs.YtndpgdegcbaigaaGreatDoor

namespace Go.Proofs.YtndpgdegcbaigaaGreatDoor
open Go Go.RowKit Go.ChangeShapes Go.WideShapes Go.ChangeAt

section
variable {H : Type} {enc : TypeId × Value → H} {P : Program}
theorem post_of_below {f : Func} {s : ChangeSpec} {apart fresh handsOn again : Bool} {W W' : World} {args : Array Value} {v : Value} {ds gs : List (DataW H)} {before pa pv : List MemPlace}
    (hW : DataW.Whole enc P f.params.toList s.vars apart W args.toList ds gs before)
    (hres : ∀ (b : Nat) (sp : Nat → Bool) (hd : Bool), DataW.TrodAll enc P W' b sp hd f.resultTypes.toList (v.resultList f.resultTypes.size) (s.fn H (ds ++ gs)).results [])
    (hargs : ∀ sp : Nat → Bool, (∀ p ∈ before, sp p.block = true) → DataW.TrodAll enc P W' 0 sp true f.params.toList args.toList (s.fn H (ds ++ gs)).args pa)
    (hvars : ∀ sp : Nat → Bool, (∀ p ∈ before, sp p.block = true) → DataW.TrodVars enc P W' sp s.vars (s.fn H (ds ++ gs)).vars pv)
    (hps : before = pa ++ pv) (hb : Below W.heap.size W W')
    (hok : ∀ (j : Nat) (t : TypeId) (r : Value), f.resultTypes[j]? = some t → (v.resultList f.resultTypes.size)[j]? = some r → Value.okWide P W' .any 0 t r) :
    s.post enc P f apart fresh handsOn again W args v W' := by
  have hlt : ∀ p ∈ before, p.block < W.heap.size := fun p hp => hW.lt p hp
  have hold : ∀ p ∈ before, (fun b => decide (b < W.heap.size)) p.block = true := fun p hp => by simpa using hlt p hp
  refine ⟨ds, gs, before, [], pa, pv, hW, hres _ _ _, hargs _ hold, hvars _ hold, World.keptBut_mono (fun p hp => ⟨hp, ?_⟩) (hb.frame (· ∈ before)), fun _ => ?_⟩
  · rw [hps, List.mem_append] at hp
    exact Or.inr hp
  · obtain ⟨_, _, _, _, _, hz, hn⟩ := hW
    refine ⟨hok, _, _, ([] ++ pa) ++ pv, ⟨[] ++ pa, pv, trodAll_append (hargs _ (fun _ _ => rfl)) (hres _ _ _), hvars _ (fun _ _ => rfl), rfl, ?_, ?_⟩, ?_⟩
    · intro b off hp
      have hin : MemPlace.cell b off ∈ before := by rw [hps]; simpa using hp
      rw [hb.frozen (hlt _ hin)]
      exact hz b off hin
    · intro ha
      have := hn ha
      rw [hps] at this
      simpa using this
    · intro p hp _
      rw [hps]
      simpa using hp

theorem trodAll_stays (hl : laidOutB P = true) {W W' : World} {sp' : Nat → Bool} : ∀ (ts : List TypeId) (vs : List Value) (ds : List (DataW H)) (ps : List MemPlace), (∀ t ∈ ts, P.readableRec t = true ∧ t < P.types.size) →
    DataW.TrodAll enc P W 0 (fun _ => true) true ts vs ds ps → (∀ p ∈ ps, W.sameAt W' p) → (∀ p ∈ ps, sp' p.block = true) → DataW.TrodAll enc P W' 0 sp' true ts vs ds ps
  | [], [], [], _, _, h, _, _ => h
  | [], _ :: _, _, _, _, h, _, _ => h.elim
  | [], [], _ :: _, _, _, h, _, _ => h.elim
  | _ :: _, [], _, _, _, h, _, _ => h.elim
  | _ :: _, _ :: _, [], _, _, h, _, _ => h.elim
  | t :: ts, v :: vs, d :: ds, ps, hr, h, hs, hp => by
    obtain ⟨p, q, h1, h2, rfl⟩ := h
    exact ⟨p, q, WideElems.Trod_stays hl (hr t (List.mem_cons_self ..)).1 (hr t (List.mem_cons_self ..)).2 h1 (fun x hx => hs x (List.mem_append_left _ hx)) (fun x hx => hp x (List.mem_append_left _ hx)),
      trodAll_stays hl ts vs ds q (fun u hu => hr u (List.mem_cons_of_mem _ hu)) h2 (fun x hx => hs x (List.mem_append_right _ hx)) (fun x hx => hp x (List.mem_append_right _ hx)), rfl⟩
end

theorem in_of_wf {n : Int} (h : (Lit.int .i64 n).wf = true) : inI n := by
  simp [Lit.wf, IntKind.min, IntKind.max, IntKind.signed, IntKind.bits] at h
  unfold inI; omega

theorem laid_out : laidOutB Tryz.prog = true := by kernel_rfl

set_option maxRecDepth 100000 in
/-- What a law's proof owes: a world that fits, and the walk. -/
theorem returns_law {os : Os} {H : Type} {enc : TypeId × Value → H} {f : FuncId} {fn : Func} {s : ChangeSpec} {conds : List PathCond} (hv : s.vars = []) (started : os.Started) (noInit : Tryz.prog.inits.idxOf? f = none) (hfn : Tryz.prog.funcs[f]? = some fn)
    (hrt : fn.resultTypes = #[4]) (hread : ∀ t ∈ fn.params.toList, Tryz.prog.readableRec t = true ∧ t < Tryz.prog.types.size)
    (witness : ∃ (w : World) (tape : Tape) (i : Input), w.os = os ∧ (w.forCall tape i).Shaped Tryz.prog ∧ i.vars = [] ∧ Input.okWide Tryz.prog (w.forCall tape i) .any w.heap.size f i ∧
      ((s.pre enc Tryz.prog fn conds false (w.forCall tape i).memory i.args ∧ laidMetH Tryz.prog laid8 (w.forCall tape i).memory) ∧ sizedMet enc Tryz.prog fn (OpenSpec.ofChange s) false (w.forCall tape i).memory i.args) ∧ ({ modest := false } : Assume).holds Tryz.prog (lone (Frame.enter Tryz.prog f i.args .normal) [] (w.forCall tape i)))
    (walk : ∀ (W : World) (base : Nat) (args : Array Value) (ds : List (DataW H)) (before : List MemPlace),
      (∀ (j : Nat) t v, fn.params[j]? = some t → args[j]? = some v → Value.okWide Tryz.prog W .any base t v) →
      DataW.TrodAll enc Tryz.prog W 0 (fun _ => true) true fn.params.toList args.toList ds before →
      (DataW.weightsEach Tryz.prog fn.params.toList ds).all (· ≤ reachBytes) = true → Globals W →
      s.fn H ds = { results := [.lit (.bool true)], args := ds } ∧ Calls Tryz.prog f args W fun e W' => e = .returned (.bool true) ∧ Ext W W') :
    ReturnsInHanded {} Tryz.checked os f .any (fun w args => (s.pre enc Tryz.prog fn conds false w args ∧ laidMetH Tryz.prog laid8 w) ∧ sizedMet enc Tryz.prog fn (OpenSpec.ofChange s) false w args)
      (s.post enc Tryz.prog fn false true false false) := by
  refine returnsInHanded_of_calls (C := Tryz.checked) own started noInit witness ?_
  intro w tape i _ hsh _ hok hpre _
  obtain ⟨_, _, _, fn', hfn', _, _, _, _, hval⟩ := hok
  have e : fn' = fn := Option.some.inj (hfn'.symm.trans hfn)
  subst e
  obtain ⟨⟨⟨ds, gs, before, hw, hc⟩, hx⟩, hz⟩ := hpre
  have hw' := DataW.Whole.of_heap (w' := w.forCall tape i) (by rfl) hw
  have hx' : laidMetH Tryz.prog laid8 (w.forCall tape i) := hx.of_heap (by rfl)
  have hwt := hz.weights hw
  have hA0 := hw'
  obtain ⟨p, q, hA, hV, hpq, _, _⟩ := hA0
  rw [hv] at hV
  obtain ⟨rfl, rfl⟩ := trodVars_none hV
  rw [List.append_nil] at hpq
  subst hpq
  have hwt' : (DataW.weightsEach Tryz.prog fn'.params.toList ds).all (· ≤ reachBytes) = true := by
    have hvv : (OpenSpec.ofChange s).bare.plain.vars = [] := hv
    have hvt : DataSpec.varTypes Tryz.prog (OpenSpec.ofChange s).bare.plain = [] := by
      unfold DataSpec.varTypes
      rw [hvv]; rfl
    have h2 := hwt
    rw [hvt] at h2
    simp only [List.append_nil] at h2
    exact h2
  obtain ⟨h1, h2⟩ := walk (w.forCall tape i) w.heap.size i.args ds before hval hA hwt' (globals_of hx' hsh)
  refine h2.mono fun e W' ⟨he, hE⟩ => ?_
  subst he
  refine ChangeSpec.post_blind ?_
  have hlt : ∀ p ∈ before, p.block < (w.forCall tape i).heap.size := fun p hp => hw'.lt p hp
  refine post_of_below (pa := before) (pv := []) hw' ?_ ?_ ?_ (by simp) hE ?_
  · intro b sp hd
    rw [List.append_nil, h1, hrt]
    exact trodAll_mk1 (shut_bool Tryz.underlying4 _)
  · intro sp hsp
    rw [List.append_nil, h1]
    exact trodAll_stays laid_out _ _ _ _ hread hA (fun x hx => Below.same hE (hlt x hx)) hsp
  · intro sp _
    rw [List.append_nil, h1, hv]
    rfl
  · exact ok_one hrt rfl (okWide_bool_mk Tryz.underlying4 _)
end Go.Proofs.YtndpgdegcbaigaaGreatDoor
