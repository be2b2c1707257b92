/- awake of chapter 29, walked; the two laws whole. -/
import Derived.Test.YtgebeiaffjpcaaaGreatDoorE60
import Derived.Test.YtgebeiaffjpcaaaGreatDoorEX0
import Derived.Lib.LaidTab
import Derived.LaidLaws
import Derived.Lay
import Derived.Handed
import Derived.MakeChecks
namespace Xe
open Go Go.Proofs
set_option maxRecDepth 16000
set_option maxHeartbeats 4000000
def oAw : Outc := oNon ⟨[0], [⟨1, []⟩]⟩
def wAw : List UInt8 := [110, 111, 110, 101, 10, 99, 111, 114, 101, 32, 48, 10, 102, 111, 108, 108, 111, 119, 10]
theorem cleanNil : CleanR [] (some []) := ⟨by simp [Rise], by simp⟩
theorem good_aw : GoodO oAw := by
  have hs : StepOk ⟨1, []⟩ := ⟨by show (0 : Int) ≤ 1; omega, by show (1 : Int) ≤ 2; omega, by simp, cleanNil⟩
  have hc : CertOk ⟨[0], [⟨1, []⟩]⟩ := ⟨by simp, by simp, CoreTo.zero.next (l := [0]) (x := 0) rfl (by omega) (by omega) (fun y h _ => absurd h (Nat.lt_irrefl _)), StepsTo.zero.next (l := [⟨1, []⟩]) (x := ⟨1, []⟩) rfl hs⟩
  have h1 : OutIn (wNon :: certL ⟨[0], [⟨1, []⟩]⟩) oAw := out_non.2 ⟨_, ⟨hc, rfl⟩, rfl⟩
  exact h1.1
theorem text_aw : goodT oAw = wAw := by
  show wNone ++ (rowT wCore [0] ++ stepsT [⟨1, []⟩]) = wAw
  have : Lib.itoa 0 = [48] := by
    show Lib.decDigits 0 = [48]
    rw [decDigits_small (by decide)]
    rfl
  unfold rowT stepsT numsT
  simp [this]
  rfl
@[go_sem ↓ high] theorem fill_cert {x0 x1 x2 x3 x4 x5 x6 x7 x8 x9 a b : Value} : fillA [(0, 1), (1, 1), (2, 2), (4, 1), (5, 1), (6, 1), (7, 3)] [x0, x1, x2, x3, x4, x5, x6, x7, x8, x9] [(2, .agg #[a, b])] = some #[x0, x1, a, b, x4, x5, x6, x7, x8, x9] := rfl
@[go_sem ↓ high] theorem fill_pack1 {x0 x1 : Value} {a : List UInt8} : fillA [(0, 1), (1, 1)] [x0, x1] [(0, S a)] = some #[S a, x1] := rfl
section
variable {h : Heap}
theorem awake29_ok (G : Glob h) : CallsH Tryz.prog 5 [] h fun r h' => r = .bool true ∧ Gr h h' := by
  refine calls_of 27 [.tmp 0] Go.Proofs.Tryz.func5 rfl rfl rfl ?_
  simp -implicitDefEqProofs (disch := first | omega | (simp only [push_size, hset_size]; done) | (simp only [push_size, hset_size]; omega)) [go_sem]
  refine buildI1 ?_
  obtain ⟨H1, hH1⟩ : ∃ H1, H1 = h.push (.cells #[.int .i64 0] 3) := ⟨_, rfl⟩
  have q1 : Gr h H1 := by rw [hH1]; exact (Fr.refl _ _).push
  have S1 : SlAt H1 (some ⟨h.size, 0, none⟩) 1 [.int .i64 0] := by rw [hH1]; exact SlAt.new (vs := [.int .i64 0])
  rw [← hH1]
  clear hH1
  simp -implicitDefEqProofs (disch := first | omega | (simp only [push_size, hset_size]; done) | (simp only [push_size, hset_size]; omega)) [go_sem]
  refine build2i' ?_
  obtain ⟨H2, hH2⟩ : ∃ H2, H2 = H1.push (.cells #[.int .i64 1, .slice none 0 0] 40) := ⟨_, rfl⟩
  have q2 : Gr H1 H2 := by rw [hH2]; exact (Fr.refl _ _).push
  have w0 : hcell H2 ⟨H1.size, 0, none⟩ = some (.int .i64 1) := by rw [hH2]; exact hcell_push_lit
  have w1 : hcell H2 ⟨H1.size, 1, none⟩ = some (.slice none 0 0) := by rw [hH2]; exact hcell_push_lit
  rw [← hH2]
  clear hH2
  simp -implicitDefEqProofs (disch := first | omega | (simp only [push_size, hset_size]; done) | (simp only [push_size, hset_size]; omega)) [go_sem]
  obtain ⟨H3, hH3⟩ : ∃ H3, H3 = H2.push (.cells (outC oAw ⟨none, 0, some ⟨h.size, 0, none⟩, 1, some ⟨H1.size, 0, none⟩, 1⟩).toArray 31) := ⟨_, rfl⟩
  have q3 : Gr H2 H3 := by rw [hH3]; exact (Fr.refl _ _).push
  have O3 : OutAt H3 H2.size oAw ⟨none, 0, some ⟨h.size, 0, none⟩, 1, some ⟨H1.size, 0, none⟩, 1⟩ := by rw [hH3]; exact OutAt.new
  have V3 : OutcR H3 oAw ⟨none, 0, some ⟨h.size, 0, none⟩, 1, some ⟨H1.size, 0, none⟩, 1⟩ := by
    have hi1 : I64 1 := by unfold I64; omega
    refine ⟨.nil, ⟨(S1.row.fr0 q2).fr0 q3, ⟨fun i s hs => ?_⟩, Nat.le_refl _, Nat.le_refl _, by show 1 < _; omega, by show 1 < _; omega, fun x hx => ?_⟩, by show 0 < _; omega, Nat.le_refl _, fun p hp => by simp [oAw, oNon] at hp, hi1, i64_zero, i64_zero, i64_zero, i64_zero, i64_zero, i64_zero⟩
    · cases i with
      | zero =>
        cases hs
        exact ⟨H1.size, 0, none, 0, rfl, (q3.cell (hcell_lt w0) id).trans w0, (q3.cell (hcell_lt w0) id).trans w1, .nil, Nat.le_refl _, by show 0 < _; omega, hi1, fun y hy => by simp at hy⟩
      | succ i => simp [oAw, oNon] at hs
    · simp [oAw, oNon] at hx
      subst hx
      exact i64_zero
  simp only [outC, oAw, oNon, List.length_cons, List.length_nil] at hH3
  refine buildAg2 ?_
  rw [← hH3]
  clear hH3
  obtain ⟨H4, hH4⟩ : ∃ H4, H4 = H3.push (.cells #[S nA, .slice none 0 0] 47) := ⟨_, rfl⟩
  have q4 : Gr H3 H4 := by rw [hH4]; exact (Fr.refl _ _).push
  have P4 : One H4 H3.size nA := by rw [hH4]; exact ⟨hcell_push_lit, hcell_push_lit⟩
  rw [show H3.push (.cells #[S [97], .slice none 0 0] 47) = H4 from hH4.symm]
  clear hH4
  simp -implicitDefEqProofs (disch := first | omega | (simp only [push_size, hset_size]; done) | (simp only [push_size, hset_size]; omega)) [go_sem]
  refine useC (rankNew_ok P4) ?_
  rintro _ h5 ⟨⟨t, rfl, T⟩, f5⟩
  simp -implicitDefEqProofs (disch := first | omega | (simp only [push_size, hset_size]; done) | (simp only [push_size, hset_size]; omega)) [go_sem]
  refine useC (wordsOne_ok T) ?_
  rintro _ h6 ⟨rfl, f6⟩
  have f36 := (q4.trans f5).trans f6
  have O6 := O3.gr f36
  have V6 := V3.gr f36
  have f06 := ((q1.trans q2).trans q3).trans f36
  obtain ⟨c0, c1, c2, c3, c4, c5, c6, c7, c8, c9⟩ := id O6
  have C := textP29_ok (G.gr f06) V6 fun g => by show (0 : Nat) ≤ _; omega
  simp only [outV, outC, oAw, oNon, List.length_cons, List.length_nil] at C c0 c1 c2 c3 c4 c5 c6 c7 c8 c9
  simp -implicitDefEqProofs (disch := first | omega | (simp only [push_size, hset_size]; done) | (simp only [push_size, hset_size]; omega)) [go_sem, c0, c1, c2, c3, c4, c5, c6, c7, c8, c9]
  refine useC C ?_
  rintro _ h7 ⟨hT, f7⟩
  have e := hT.1 good_aw
  have e2 := text_aw
  unfold oAw oNon at e2
  rw [e2] at e
  subst e
  have e3 : S (nA ++ wIsnt) = S [97, 32, 105, 115, 110, 39, 116, 32, 116, 104, 101, 114, 101] := rfl
  rw [e3]
  unfold wAw
  simp -implicitDefEqProofs (disch := first | omega | (simp only [push_size, hset_size]; done) | (simp only [push_size, hset_size]; omega)) [go_sem]
  exact f06.trans f7

theorem texts_law {o : Outc} {P : OutA} (G : Glob h) (V : OutcW h o P) : CallsH Tryz.prog 3 [outV o P] h fun r h' => r = .bool true ∧ Gr h h' := texts29_walk G (fun _ G => awake29_ok G) V
end
end Xe

/- From the rows' hypotheses to a walk's: what the variables hold; strings, outcomes, opened. -/
namespace Xe
open Go Go.Proofs Go.ChangeShapes Go.WideShapes Go.ChangeAt Go.RowKit
set_option maxRecDepth 100000

/-- a row's form whose hypotheses hand on the world's shape, too -/
theorem returnsInHanded_shaped {H : Type} {enc : TypeId × Value → H} {a : Assume} {C : Checked} {os : Os} {f : FuncId} {fn : Func} {s : ChangeSpec} {conds : List PathCond} {apart fresh handsOn again : Bool} {X : World → Array Value → Prop}
    (hX : ∀ (w w' : World) (args : Array Value), w.heap = w'.heap → X w args → X w' args)
    (own : ownKnob C.prog.godebug = none) (started : os.Started) (noInit : C.prog.inits.idxOf? f = none) (hfn : C.prog.funcs[f]? = some fn)
    (witness : ∃ (w : World) (tape : Tape) (i : Input), w.os = os ∧ (w.forCall tape i).Shaped C.prog ∧ i.vars = [] ∧ Input.okWide C.prog (w.forCall tape i) .any w.heap.size f i ∧
      ((s.pre enc C.prog fn conds apart (w.forCall tape i).memory i.args ∧ X (w.forCall tape i).memory i.args) ∧ sizedMet enc C.prog fn (OpenSpec.ofChange s) apart (w.forCall tape i).memory i.args) ∧ a.holds C.prog (lone (Frame.enter C.prog f i.args .normal) [] (w.forCall tape i)))
    (contract : ∀ (W : World) (base : Nat) (args : Array Value) (ds gs : List (DataW H)) (before : List MemPlace),
      (∀ (j : Nat) t v, fn.params[j]? = some t → args[j]? = some v → Value.okWide C.prog W .any base t v) →
      DataW.Whole enc C.prog fn.params.toList s.vars apart W args.toList ds gs before → X W args → W.ShapedOpen C.prog →
      Calls C.prog f args W fun e W' => ∃ v, e = .returned v ∧ s.post enc C.prog fn apart fresh handsOn again W args v W') :
    ReturnsInHanded a C os f .any (fun w args => (s.pre enc C.prog fn conds apart w args ∧ X w args) ∧ sizedMet enc C.prog fn (OpenSpec.ofChange s) apart w args) (s.post enc C.prog fn apart fresh handsOn again) := by
  refine returnsInHanded_of_calls own started noInit witness ?_
  intro w tape i _ hsh _ hok hpre hholds
  obtain ⟨_, _, _, fn', hfn', _, _, _, _, hval⟩ := hok
  have e : fn' = fn := Option.some.inj (hfn'.symm.trans hfn)
  subst e
  obtain ⟨⟨⟨ds, gs, before, hw, hc⟩, hx⟩, hz⟩ := hpre
  have hw' := DataW.Whole.of_heap (w' := w.forCall tape i) (by rfl) hw
  refine (contract (w.forCall tape i) w.heap.size i.args ds gs before hval hw' (hX _ _ _ (by rfl) hx) hsh).mono fun e W' ⟨v, he, hp⟩ => ?_
  subst he
  exact ChangeSpec.post_blind hp

/-! ### What the variables hold -/
def VarR (P : Program) (w : World) (n : String) (d : DataW Unit) : Prop :=
  ∃ g t cs fuel p, P.globalNamed n = some g ∧ (P.globals[g]?).map (·.type) = some t ∧ w.var? P n = some cs ∧ DataW.trod (fun _ => ()) P w 0 (fun _ => true) false fuel t cs.toList = some (d, p)
theorem laid_var {P : Program} {w : World} : ∀ {l : List (String × DataW Unit)} {ps : List MemPlace}, DataW.LaidVars P w l ps → ∀ n d, (n, d) ∈ l → VarR P w n d
  | [], _, _, _, _, hm => by cases hm
  | (n', d') :: r, ps, h, n, d, hm => by
    obtain ⟨g, t, cs, fuel, p, q, h1, h2, h3, h4, h5, _⟩ := h
    rcases List.mem_cons.1 hm with e | e
    · cases e
      exact ⟨g, t, cs, fuel, p, h1, h2, h3, h4⟩
    · exact laid_var h5 n d e
theorem var_block {P : Program} {w : World} {n : String} {g : Nat} {cs : Array Value} (hg : P.globalNamed n = some g) (h : w.var? P n = some cs) : ∃ e fz, w.heap[g]? = some (.cells cs e fz) := by
  unfold World.var? at h
  rw [hg] at h
  simp only [Option.bind_some] at h
  split at h
  · rename_i c e f hb
    cases h
    exact ⟨_, _, hb⟩
  · cases h
theorem block_cell {h : Heap} {g : Nat} {cs : Array Value} {e : TypeId} {fz : Nat × Nat} (hb : h[g]? = some (.cells cs e fz)) (i : Nat) : hcell h ⟨g, i, none⟩ = cs[i]? := by
  unfold hcell
  simp only [hb]
  rfl
theorem strs_of_trod {H : Type} {enc : TypeId × Value → H} {P : Program} {w : World} {base : Nat} {sp : Nat → Bool} {held : Bool} {fuel : Nat} {t e : TypeId} {n : Nat} {cs : List Value} {zs : List (List UInt8)} {p : List MemPlace}
    (ht : P.underlying t = some (.array n e)) (he : P.underlying e = some .string) (hce : P.cellsOf e = 1) (hct : P.cellsOf t = n)
    (h : DataW.trod enc P w base sp held fuel t cs = some (.agg (zs.map fun z => .lit (.string z)), p)) : cs = strs zs := by
  obtain ⟨xs, m, _, hx, hl, hxl, hall⟩ := DataW.trod_array ht h
  have hxs : xs.map (·.1) = zs.map fun z => (DataW.lit (.string z) : DataW H) := by
    have := congrArg Prod.fst hx
    simpa using this.symm
  have hzl : zs.length = n := by
    have := congrArg List.length hxs
    simp at this
    omega
  apply List.ext_getElem?
  intro i
  by_cases hi : i < n
  · have h0 := hall i hi
    rw [hce, Nat.mul_one] at h0
    obtain ⟨b, hb⟩ : ∃ b, xs[i]? = some b := ⟨_, List.getElem?_eq_getElem (by omega)⟩
    rw [hb] at h0
    obtain ⟨s, hc, rfl, _⟩ := DataW.trod_string he h0
    have h1 : cs[i]? = some (.string s) := by
      have := congrArg (·[0]?) hc
      simpa [List.getElem?_take, List.getElem?_drop] using this
    have h2 : (xs.map (·.1))[i]? = some (DataW.lit (.string s.data.toList) : DataW H) := by simp [hb]
    rw [hxs] at h2
    simp only [List.getElem?_map, Option.map_eq_some_iff, DataW.lit.injEq, Lit.string.injEq] at h2
    obtain ⟨z', hz', rfl⟩ := h2
    rw [h1]
    unfold strs
    rw [List.getElem?_map, hz']
    rfl
  · rw [List.getElem?_eq_none (by omega), List.getElem?_eq_none (by unfold strs; simp; omega)]

/-- what the listed variables hold, and the one that is left open -/
theorem glob_of {W : World} {l : List (String × DataW Unit)} (hL : laidMet Tryz.prog l W) (hS : W.ShapedOpen Tryz.prog)
    (m1 : ("internal/strconv.uint64pow10", YtgebeiaffjpcaaaGreatDoor.Rows.laid_internal_strconv_uint64pow10) ∈ l) (m2 : ("strconv.ErrRange", YtgebeiaffjpcaaaGreatDoor.Rows.laid_strconv_ErrRange) ∈ l) (m3 : ("strconv.ErrSyntax", YtgebeiaffjpcaaaGreatDoor.Rows.laid_strconv_ErrSyntax) ∈ l)
    (m4 : ("ferrule/explain.steps", YtgebeiaffjpcaaaGreatDoor.Rows.laid_ferrule_explain_steps) ∈ l) (m5 : ("math/bits.deBruijn64tab", YtgebeiaffjpcaaaGreatDoor.Rows.laid_math_bits_deBruijn64tab) ∈ l) : Glob W.heap := by
  obtain ⟨ps, hv, _, _⟩ := hL
  have g1 : Tryz.prog.globalNamed "internal/strconv.uint64pow10" = some 2 := by kernel_rfl
  have g2 : Tryz.prog.globalNamed "strconv.ErrRange" = some 4 := by kernel_rfl
  have g3 : Tryz.prog.globalNamed "strconv.ErrSyntax" = some 3 := by kernel_rfl
  have g4 : Tryz.prog.globalNamed "ferrule/explain.steps" = some 0 := by kernel_rfl
  have g5 : Tryz.prog.globalNamed "math/bits.deBruijn64tab" = some 10 := by kernel_rfl
  have err : ∀ {n : String} {g : Nat} {nm : String} {d : DataW Unit}, Tryz.prog.globalNamed n = some g → (∀ t, (Tryz.prog.globals[g]?).map (·.type) = some t → ∃ ms, Tryz.prog.underlying t = some (.interface ms)) → VarR Tryz.prog W n (.iface nm d) → ∃ t p, hcell W.heap ⟨g, 0, none⟩ = some (.iface t p) := by
    rintro n g nm d hg ht ⟨g', t, cs, fuel, p, h1, h2, h3, h4⟩
    obtain rfl := Option.some.inj (hg.symm.trans h1)
    obtain ⟨ms, hms⟩ := ht t h2
    obtain ⟨_, u, v, hcs, _⟩ := iface_of_trod hms h4
    obtain ⟨e, fz, hb⟩ := var_block hg h3
    refine ⟨u, v, ?_⟩
    rw [block_cell hb, ← Array.getElem?_toList, hcs]
    rfl
  refine ⟨?_, ?_, ?_, ?_, ?_, ?_⟩
  · obtain ⟨g', t, cs, fuel, p, h1, h2, h3, h4⟩ := laid_var hv _ _ m5
    obtain ⟨e, fz, hb⟩ := var_block g5 h3
    have := (Array.getElem?_eq_some_iff.1 hb).1
    omega
  · obtain ⟨cs, hb, hsz, hok⟩ := hS.1 1 #[.int .i64 0] 3 (of_decide_eq_true (by kernel_rfl)) (by kernel_rfl)
    obtain ⟨ts, hts, _, hall⟩ := hok (by kernel_rfl)
    obtain rfl := Option.some.inj ((show Tryz.prog.cellTypes Tryz.prog.depth 3 = some [3] by kernel_rfl).symm.trans hts)
    have h1 : cs.size = 1 := hsz
    obtain ⟨v, hv0⟩ : ∃ v, cs[0]? = some v := ⟨_, Array.getElem?_eq_getElem (by omega)⟩
    obtain ⟨u, hu, hc⟩ := hall 0 v hv0
    obtain rfl := Option.some.inj hu
    unfold Cell.ok at hc
    rw [Tryz.underlying3] at hc
    cases v <;> simp only at hc
    rename_i k n
    obtain ⟨rfl, _⟩ := hc
    exact ⟨n, by rw [block_cell hb]; exact hv0⟩
  · obtain ⟨g', t, cs, fuel, p, h1, h2, h3, h4⟩ := laid_var hv _ _ m1
    obtain rfl := Option.some.inj (g1.symm.trans h1)
    obtain rfl := Option.some.inj ((show (Tryz.prog.globals[2]?).map (·.type) = some 239 by kernel_rfl).symm.trans h2)
    have hc := Lib.cells_of_tab (k := .u64) (zs := Lib.pow10Tab) Tryz.underlying239 Tryz.underlying96 (by kernel_rfl) (by kernel_rfl) (cs := cs.toList) h4
    obtain ⟨e, fz, hb⟩ := var_block g1 h3
    refine ⟨e, fz, ?_⟩
    rw [hb, ← hc]
  · exact err g3 (fun t ht => by obtain rfl := Option.some.inj ((show (Tryz.prog.globals[3]?).map (·.type) = some 63 by kernel_rfl).symm.trans ht); exact ⟨_, Tryz.underlying63⟩) (laid_var hv _ _ m3)
  · exact err g2 (fun t ht => by obtain rfl := Option.some.inj ((show (Tryz.prog.globals[4]?).map (·.type) = some 63 by kernel_rfl).symm.trans ht); exact ⟨_, Tryz.underlying63⟩) (laid_var hv _ _ m2)
  · obtain ⟨g', t, cs, fuel, p, h1, h2, h3, h4⟩ := laid_var hv _ _ m4
    obtain rfl := Option.some.inj (g4.symm.trans h1)
    obtain rfl := Option.some.inj ((show (Tryz.prog.globals[0]?).map (·.type) = some 66 by kernel_rfl).symm.trans h2)
    have hc := strs_of_trod (zs := [[116, 104, 101, 111, 114, 121], [102, 111, 108, 108, 111, 119], [103, 111, 110, 101]]) Tryz.underlying66 Tryz.underlying9 (by kernel_rfl) (by kernel_rfl) (cs := cs.toList) h4
    obtain ⟨e, fz, hb⟩ := var_block g4 h3
    have hi : ∀ i, hcell W.heap ⟨0, i, none⟩ = (strs [[116, 104, 101, 111, 114, 121], [102, 111, 108, 108, 111, 119], [103, 111, 110, 101]])[i]? := fun i => by rw [block_cell hb, ← Array.getElem?_toList, hc]
    exact ⟨hi 0, hi 1, hi 2⟩
end Xe

/- An argument that is an outcome, opened. -/
namespace Xe
open Go Go.Proofs Go.ChangeShapes Go.WideShapes Go.ChangeAt Go.RowKit
set_option maxRecDepth 100000
theorem choose_list {α : Type} {F : Nat → α → Prop} : ∀ {len : Nat}, (∀ i, i < len → ∃ y, F i y) → ∃ l : List α, l.length = len ∧ ∀ (i : Nat) y, l[i]? = some y → F i y
  | 0, _ => ⟨[], rfl, fun i y h => by simp at h⟩
  | len + 1, h => by
    obtain ⟨l, h1, h2⟩ := choose_list (len := len) fun i hi => h i (by omega)
    obtain ⟨y, hy⟩ := h len (by omega)
    refine ⟨l ++ [y], by simp [h1], fun i z hz => ?_⟩
    by_cases hi : i < len
    · rw [List.getElem?_append_left (by omega)] at hz
      exact h2 i z hz
    · have e : i = len := by
        have := (List.getElem?_eq_some_iff.1 hz).1
        simp [h1] at this
        omega
      subst e
      rw [List.getElem?_append_right (by omega), h1, Nat.sub_self] at hz
      cases hz
      exact hy
section
variable {H : Type} {enc : TypeId × Value → H} {P : Program} {w : World} {sp : Nat → Bool} {held : Bool} {r : Reach} {b0 : Nat} {t e : TypeId}
/-- a slice among other cells -/
theorem open_sliceD {n fuel : Nat} {cs0 : List Value} {x0 : DataW H × List MemPlace} (ht : P.underlying t = some (.slice e)) (hc : P.cellsOf e = n) (hn : 0 < n) (hf : DataW.trod enc P w 0 sp held fuel t cs0 = some x0) :
    ∃ A len cap, cs0 = [.slice A len cap] ∧ len ≤ cap ∧ cap < 2 ^ 63 ∧ ∀ i, i < len → ∃ bk off cs fuel x, A = some ⟨bk, off, none⟩ ∧ cs.length = n ∧ (∀ j u, cs[j]? = some u → hcell w.heap ⟨bk, off + i * n + j, none⟩ = some u) ∧
      DataW.trod enc P w 0 sp held fuel e cs = some x := by
  rcases DataW.trod_slice ht hf with ⟨hcs, _⟩ | ⟨a', len', cap', elems, rest, m, _, hcs, _, _, hl, hm, hlen, hel, _, _⟩
  · exact ⟨none, 0, 0, hcs, by decide, by decide, fun i hi => by omega⟩
  · have hm2 : cap' ≤ 2 ^ 63 - 1 := hm
    refine ⟨some a', len', cap', hcs, hl, by omega, fun i hi => ?_⟩
    have h1 := hel i hi
    rw [List.getElem?_eq_getElem (by omega), Option.bind_eq_some_iff] at h1
    obtain ⟨cs, h2, h3⟩ := h1
    rw [hc] at h2
    obtain ⟨_, hl2, hcell⟩ := World.cells?_some h2
    have hspot : a'.spot = none := by
      have g1 := hel 0 (by omega)
      rw [List.getElem?_eq_getElem (by omega), Option.bind_eq_some_iff] at g1
      obtain ⟨cs0, g2, _⟩ := g1
      rw [hc] at g2
      obtain ⟨_, gl, gcell⟩ := World.cells?_some g2
      have h0 := gcell 0 hn
      rw [List.getElem?_eq_getElem (by omega), Nat.zero_mul, add_0, add_0] at h0
      unfold World.cell? at h0
      split at h0
      · split at h0
        · cases h0
        · rename_i hns
          simpa using hns
      · cases h0
    obtain ⟨bk, off, spot⟩ := a'
    simp only at hspot
    subst hspot
    refine ⟨bk, off, cs, m, _, rfl, hl2, fun j u hj => ?_, h3⟩
    have hj' := (List.getElem?_eq_some_iff.1 hj).1
    have h4 := hcell j (by omega)
    rw [add_n, add_n] at h4
    exact h4.trans hj
/-- rows of one cell an element -/
theorem row_of {A : Option Addr} {l : List Value} {h : Heap} (hr : ∀ (i : Nat) v, l[i]? = some v → ∃ bk off, A = some ⟨bk, off, none⟩ ∧ hcell h ⟨bk, off + i, none⟩ = some v) : RowAt h A l := by
  cases l with
  | nil => exact .nil
  | cons a l =>
    obtain ⟨bk, off, hA, _⟩ := hr 0 a rfl
    refine .inr ⟨bk, off, hA, fun i v hv => ?_⟩
    obtain ⟨bk', off', hA', hc⟩ := hr i v hv
    rw [hA] at hA'
    cases hA'
    exact hc
theorem open_intsD {fuel : Nat} {cs0 : List Value} {x0 : DataW H × List MemPlace} (ht : P.underlying t = some (.slice e)) (he : P.underlying e = some (.int .i64)) (hc : P.cellsOf e = 1) (hf : DataW.trod enc P w 0 sp held fuel t cs0 = some x0) :
    ∃ A c, ∃ l : List Int, cs0 = [.slice A l.length c] ∧ l.length ≤ c ∧ c < 2 ^ 63 ∧ RowAt w.heap A (ints l) ∧ ∀ x ∈ l, I64 x := by
  obtain ⟨A, len, cap, rfl, hl, hcp, hel⟩ := open_sliceD ht hc (by omega) hf
  obtain ⟨l, hll, hF⟩ := choose_list (F := fun i (y : Int) => I64 y ∧ ∃ bk off, A = some ⟨bk, off, none⟩ ∧ hcell w.heap ⟨bk, off + i, none⟩ = some (.int .i64 y)) (len := len) fun i hi => by
    obtain ⟨bk, off, cs, fuel, x, rfl, hl, hcell, hx⟩ := hel i hi
    obtain ⟨y, rfl, _, hw⟩ := DataW.trod_int he hx
    have := hcell 0 _ rfl
    simp only [Nat.mul_one, Nat.add_zero] at this
    simp only [Lit.wf, Bool.and_eq_true, decide_eq_true_eq] at hw
    exact ⟨y, ⟨hw.1, hw.2⟩, bk, off, rfl, this⟩
  refine ⟨A, cap, l, by rw [hll], by omega, hcp, row_of fun i v hv => ?_, fun x hx => ?_⟩
  · unfold ints at hv
    rw [List.getElem?_map, Option.map_eq_some_iff] at hv
    obtain ⟨y, hy, rfl⟩ := hv
    exact (hF i y hy).2
  · obtain ⟨i, hi, rfl⟩ := List.getElem_of_mem hx
    exact (hF i _ (List.getElem?_eq_getElem hi)).1
theorem open_strsD {fuel : Nat} {cs0 : List Value} {x0 : DataW H × List MemPlace} (ht : P.underlying t = some (.slice e)) (he : P.underlying e = some .string) (hc : P.cellsOf e = 1) (hf : DataW.trod enc P w 0 sp held fuel t cs0 = some x0) :
    ∃ A c, ∃ l : List (List UInt8), cs0 = [.slice A l.length c] ∧ l.length ≤ c ∧ c < 2 ^ 63 ∧ RowAt w.heap A (strs l) := by
  obtain ⟨A, len, cap, rfl, hl, hcp, hel⟩ := open_sliceD ht hc (by omega) hf
  obtain ⟨l, hll, hF⟩ := choose_list (F := fun i (y : List UInt8) => ∃ bk off, A = some ⟨bk, off, none⟩ ∧ hcell w.heap ⟨bk, off + i, none⟩ = some (S y)) (len := len) fun i hi => by
    obtain ⟨bk, off, cs, fuel, x, rfl, hl, hcell, hx⟩ := hel i hi
    obtain ⟨y, rfl, _, hw⟩ := DataW.trod_string he hx
    have := hcell 0 _ rfl
    simp only [Nat.mul_one, Nat.add_zero] at this
    exact ⟨y.data.toList, bk, off, rfl, this⟩
  refine ⟨A, cap, l, by rw [hll], by omega, hcp, row_of fun i v hv => ?_⟩
  unfold strs at hv
  rw [List.getElem?_map, Option.map_eq_some_iff] at hv
  obtain ⟨y, hy, rfl⟩ := hv
  exact hF i y hy
end
/-- a field of a struct that reads -/
theorem fld {H : Type} {enc : TypeId × Value → H} {P : Program} {w : World} {sp : Nat → Bool} {held : Bool} {n : Nat} {fs : Array Field} {cs : List Value} {xs : List (DataW H × List MemPlace)}
    (hf : ∀ (i : Nat) (f : Field), fs[i]? = some f → DataW.trod enc P w 0 sp held n f.type ((cs.drop f.offset).take (P.cellsOf f.type)) = xs[i]?) (i ty off c : Nat) (h1 : (fs[i]?).map (fun f => (f.type, f.offset)) = some (ty, off)) (hc : P.cellsOf ty = c) (hi : i < xs.length) :
    ∃ x, DataW.trod enc P w 0 sp held n ty ((cs.drop off).take c) = some x := by
  obtain ⟨f, hfi, e⟩ := Option.map_eq_some_iff.1 h1
  have h2 := hf i f hfi
  cases e
  rw [hc, List.getElem?_eq_getElem hi] at h2
  exact ⟨_, h2⟩
section
variable {H : Type} {enc : TypeId × Value → H} {w : World} {sp : Nat → Bool} {held : Bool} {n : Nat} {cs : List Value} {x : DataW H × List MemPlace}
theorem c1 : Tryz.prog.cellsOf 3 = 1 := by kernel_rfl
theorem cS : Tryz.prog.cellsOf 9 = 1 := by kernel_rfl
theorem cU : Tryz.prog.cellsOf 96 = 1 := by kernel_rfl
theorem cSl : Tryz.prog.cellsOf 74 = 1 := by kernel_rfl
theorem cIl : Tryz.prog.cellsOf 23 = 1 := by kernel_rfl
theorem cV : Tryz.prog.cellsOf 98 = 5 := by kernel_rfl
theorem cP : Tryz.prog.cellsOf 100 = 6 := by kernel_rfl
theorem cSt : Tryz.prog.cellsOf 40 = 2 := by kernel_rfl
theorem cC : Tryz.prog.cellsOf 26 = 2 := by kernel_rfl
theorem cW : Tryz.prog.cellsOf 29 = 3 := by kernel_rfl
theorem cO : Tryz.prog.cellsOf 31 = 10 := by kernel_rfl
theorem cPl : Tryz.prog.cellsOf 22 = 1 := by kernel_rfl
theorem cStl : Tryz.prog.cellsOf 24 = 1 := by kernel_rfl
theorem cE : Tryz.prog.cellsOf 27 = 1 := by kernel_rfl
theorem open_verD (h : DataW.trod enc Tryz.prog w 0 sp held n 98 cs = some x) : ∃ v A a B b, cs = verC v A a B b ∧ RowAt w.heap A (strs v.pre) ∧ RowAt w.heap B (strs v.build) ∧ v.pre.length ≤ a ∧ v.build.length ≤ b ∧ a < 2 ^ 63 ∧ b < 2 ^ 63 ∧
    v.maj < 18446744073709551616 ∧ v.min < 18446744073709551616 ∧ v.pat < 18446744073709551616 := by
  obtain ⟨xs, m, _, _, hl, hxl, hf⟩ := DataW.trod_struct Tryz.underlying98 h
  rw [cV] at hl
  have hxl : xs.length = 5 := hxl
  match cs, hl with
  | [d0, d1, d2, d3, d4], _ =>
    obtain ⟨_, g0⟩ := fld hf 0 96 0 1 rfl cU (by omega)
    obtain ⟨_, g1⟩ := fld hf 1 96 1 1 rfl cU (by omega)
    obtain ⟨_, g2⟩ := fld hf 2 96 2 1 rfl cU (by omega)
    obtain ⟨_, g3⟩ := fld hf 3 74 3 1 rfl cSl (by omega)
    obtain ⟨_, g4⟩ := fld hf 4 74 4 1 rfl cSl (by omega)
    obtain ⟨y0, k0, _, w0⟩ := DataW.trod_int Tryz.underlying96 g0
    obtain ⟨y1, k1, _, w1⟩ := DataW.trod_int Tryz.underlying96 g1
    obtain ⟨y2, k2, _, w2⟩ := DataW.trod_int Tryz.underlying96 g2
    obtain ⟨A, a, la, k3, la1, la2, RA⟩ := open_strsD Tryz.underlying74 Tryz.underlying9 cS g3
    obtain ⟨B, b, lb, k4, lb1, lb2, RB⟩ := open_strsD Tryz.underlying74 Tryz.underlying9 cS g4
    simp only [Lit.wf, Bool.and_eq_true, decide_eq_true_eq] at w0 w1 w2
    have b0 : (0 : Int) ≤ y0 ∧ y0 ≤ 18446744073709551615 := w0
    have b1 : (0 : Int) ≤ y1 ∧ y1 ≤ 18446744073709551615 := w1
    have b2 : (0 : Int) ≤ y2 ∧ y2 ≤ 18446744073709551615 := w2
    simp at k0 k1 k2 k3 k4
    subst k0 k1 k2 k3 k4
    refine ⟨⟨y0.toNat, y1.toNat, y2.toNat, la, lb⟩, A, a, B, b, ?_, RA, RB, la1, lb1, la2, lb2, by show y0.toNat < _; omega, by show y1.toNat < _; omega, by show y2.toNat < _; omega⟩
    have q0 : ((y0.toNat : Nat) : Int) = y0 := by omega
    have q1 : ((y1.toNat : Nat) : Int) = y1 := by omega
    have q2 : ((y2.toNat : Nat) : Int) = y2 := by omega
    unfold verC
    simp only [q0, q1, q2]
theorem open_pinsD (h : DataW.trod enc Tryz.prog w 0 sp held n 22 cs = some x) : ∃ A a, ∃ ps : List PinS, cs = [.slice A ps.length a] ∧ ps.length ≤ a ∧ a < 2 ^ 63 ∧ PinsW w.heap A ps := by
  obtain ⟨A, len, cap, rfl, hl, hcp, hel⟩ := open_sliceD Tryz.underlying22 cP (by omega) h
  obtain ⟨ps, hll, hF⟩ := choose_list (F := fun i (p : PinS) => ∃ bk off C c D d, A = some ⟨bk, off, none⟩ ∧ hcell w.heap ⟨bk, off + i * 6, none⟩ = some (S p.name) ∧ hcell w.heap ⟨bk, off + i * 6 + 1, none⟩ = some (.int .u64 p.v.maj) ∧
    hcell w.heap ⟨bk, off + i * 6 + 2, none⟩ = some (.int .u64 p.v.min) ∧ hcell w.heap ⟨bk, off + i * 6 + 3, none⟩ = some (.int .u64 p.v.pat) ∧
    hcell w.heap ⟨bk, off + i * 6 + 4, none⟩ = some (.slice C p.v.pre.length c) ∧ hcell w.heap ⟨bk, off + i * 6 + 5, none⟩ = some (.slice D p.v.build.length d) ∧
    RowAt w.heap C (strs p.v.pre) ∧ RowAt w.heap D (strs p.v.build) ∧ p.v.pre.length ≤ c ∧ p.v.build.length ≤ d ∧ c < 2 ^ 63 ∧ d < 2 ^ 63 ∧ p.name.length < 2 ^ 63 ∧ p.v.maj < 18446744073709551616 ∧ p.v.min < 18446744073709551616 ∧ p.v.pat < 18446744073709551616) (len := len) fun i hi => by
    obtain ⟨bk, off, cs, fuel, x, hA, hl, hcell, hx⟩ := hel i hi
    obtain ⟨xs, m, _, _, _, hxl, hf⟩ := DataW.trod_struct Tryz.underlying100 hx
    have hxl : xs.length = 2 := hxl
    match cs, hl with
    | [d0, d1, d2, d3, d4, d5], _ =>
      obtain ⟨_, g0⟩ := fld hf 0 9 0 1 rfl cS (by omega)
      obtain ⟨_, g1⟩ := fld hf 1 98 1 5 rfl cV (by omega)
      obtain ⟨s, k0, _, hs⟩ := DataW.trod_string Tryz.underlying9 g0
      obtain ⟨v, C, c, D, d, k1, RC, RD, k2, k3, k4, k5, m1, m2, m3⟩ := open_verD g1
      unfold verC at k1
      simp at k0 k1
      obtain ⟨rfl, rfl, rfl, rfl, rfl⟩ := k1
      subst k0
      have hsz : s.data.toList.length < 2 ^ 63 := by
        have : s.data.toList.length = s.size := rfl
        unfold maxLen at hs
        omega
      exact ⟨⟨s.data.toList, v⟩, bk, off, C, c, D, d, hA, hcell 0 _ rfl, hcell 1 _ rfl, hcell 2 _ rfl, hcell 3 _ rfl, hcell 4 _ rfl, hcell 5 _ rfl, RC, RD, k2, k3, k4, k5, hsz, m1, m2, m3⟩
  exact ⟨A, cap, ps, by rw [hll], by omega, hcp, ⟨hF⟩⟩
theorem open_stepsD (h : DataW.trod enc Tryz.prog w 0 sp held n 24 cs = some x) : ∃ A a, ∃ ss : List StepS, cs = [.slice A ss.length a] ∧ ss.length ≤ a ∧ a < 2 ^ 63 ∧ StepsW w.heap A ss := by
  obtain ⟨A, len, cap, rfl, hl, hcp, hel⟩ := open_sliceD Tryz.underlying24 cSt (by omega) h
  obtain ⟨ss, hll, hF⟩ := choose_list (F := fun i (s : StepS) => ∃ bk off X x, A = some ⟨bk, off, none⟩ ∧ hcell w.heap ⟨bk, off + i * 2, none⟩ = some (.int .i64 s.kind) ∧ hcell w.heap ⟨bk, off + i * 2 + 1, none⟩ = some (.slice X s.lits.length x) ∧
    RowAt w.heap X (ints s.lits) ∧ s.lits.length ≤ x ∧ x < 2 ^ 63 ∧ I64 s.kind ∧ ∀ y ∈ s.lits, I64 y) (len := len) fun i hi => by
    obtain ⟨bk, off, cs, fuel, x, hA, hl, hcell, hx⟩ := hel i hi
    obtain ⟨xs, m, _, _, _, hxl, hf⟩ := DataW.trod_struct Tryz.underlying40 hx
    have hxl : xs.length = 2 := hxl
    match cs, hl with
    | [d0, d1], _ =>
      obtain ⟨_, g0⟩ := fld hf 0 3 0 1 rfl c1 (by omega)
      obtain ⟨_, g1⟩ := fld hf 1 23 1 1 rfl cIl (by omega)
      obtain ⟨y, k0, _, hw⟩ := DataW.trod_int Tryz.underlying3 g0
      obtain ⟨X, c, l, k1, k2, k3, RX, hi⟩ := open_intsD Tryz.underlying23 Tryz.underlying3 c1 g1
      simp only [Lit.wf, Bool.and_eq_true, decide_eq_true_eq] at hw
      simp at k0 k1
      subst k0 k1
      exact ⟨⟨y, l⟩, bk, off, X, c, hA, hcell 0 _ rfl, hcell 1 _ rfl, RX, k2, k3, ⟨hw.1, hw.2⟩, hi⟩
  exact ⟨A, cap, ss, by rw [hll], by omega, hcp, ⟨hF⟩⟩
/-- an outcome that came in -/
theorem open_out {r : Reach} {b0 : Nat} {v : Value} {d : DataW H} {ps : List MemPlace} (hval : Value.okWide Tryz.prog w r b0 31 v) (h : DataW.Trod enc Tryz.prog w 0 sp held 31 v d ps) : ∃ o P, v = outV o P ∧ OutcW w.heap o P := by
  obtain ⟨cs, rfl, hs⟩ := okWide_struct Tryz.underlying31 hval
  obtain ⟨fuel, hx⟩ := h
  obtain ⟨xs, n, _, _, hl, hxl, hf⟩ := DataW.trod_struct Tryz.underlying31 hx
  have hcs : (Value.agg cs).cells.toList = cs.toList := rfl
  rw [hcs] at hf
  obtain ⟨l⟩ := cs
  have hxl : xs.length = 7 := hxl
  rw [cO] at hs
  match l, hs with
  | [d0, d1, d2, d3, d4, d5, d6, d7, d8, d9], _ =>
    obtain ⟨_, g0⟩ := fld hf 0 3 0 1 rfl c1 (by omega)
    obtain ⟨_, g1⟩ := fld hf 1 22 1 1 rfl cPl (by omega)
    obtain ⟨_, g2⟩ := fld hf 2 26 2 2 rfl cC (by omega)
    obtain ⟨_, g3⟩ := fld hf 3 3 4 1 rfl c1 (by omega)
    obtain ⟨_, g4⟩ := fld hf 4 3 5 1 rfl c1 (by omega)
    obtain ⟨_, g5⟩ := fld hf 5 27 6 1 rfl cE (by omega)
    obtain ⟨_, g6⟩ := fld hf 6 29 7 3 rfl cW (by omega)
    obtain ⟨y0, k0, _, w0⟩ := DataW.trod_int Tryz.underlying3 g0
    obtain ⟨A, a, pl, k1, p1, p2, PW⟩ := open_pinsD g1
    obtain ⟨ys, n2, _, _, _, hyl, hf2⟩ := DataW.trod_struct Tryz.underlying26 g2
    have hyl : ys.length = 2 := hyl
    obtain ⟨_, u0⟩ := fld hf2 0 23 0 1 rfl cIl (by omega)
    obtain ⟨_, u1⟩ := fld hf2 1 24 1 1 rfl cStl (by omega)
    obtain ⟨B, b, co, k2, q1, q2, RB, hi⟩ := open_intsD Tryz.underlying23 Tryz.underlying3 c1 u0
    obtain ⟨C, c, ss, k3, s1, s2, SW⟩ := open_stepsD u1
    obtain ⟨y3, k4, _, w3⟩ := DataW.trod_int Tryz.underlying3 g3
    obtain ⟨y4, k5, _, w4⟩ := DataW.trod_int Tryz.underlying3 g4
    obtain ⟨y5, k6, _, w5⟩ := DataW.trod_int Tryz.underlying27 g5
    obtain ⟨zs, n3, _, _, _, hzl, hf3⟩ := DataW.trod_struct Tryz.underlying29 g6
    have hzl : zs.length = 3 := hzl
    obtain ⟨_, t0⟩ := fld hf3 0 3 0 1 rfl c1 (by omega)
    obtain ⟨_, t1⟩ := fld hf3 1 3 1 1 rfl c1 (by omega)
    obtain ⟨_, t2⟩ := fld hf3 2 3 2 1 rfl c1 (by omega)
    obtain ⟨y7, k7, _, w7⟩ := DataW.trod_int Tryz.underlying3 t0
    obtain ⟨y8, k8, _, w8⟩ := DataW.trod_int Tryz.underlying3 t1
    obtain ⟨y9, k9, _, w9⟩ := DataW.trod_int Tryz.underlying3 t2
    simp only [Lit.wf, Bool.and_eq_true, decide_eq_true_eq] at w0 w3 w4 w5 w7 w8 w9
    simp at k0 k1 k2 k3 k4 k5 k6 k7 k8 k9
    subst k0 k1 k2 k3 k4 k5 k6 k7 k8 k9
    exact ⟨⟨y0, pl, ⟨co, ss⟩, y3, y4, y5, y7, y8, y9⟩, ⟨A, a, B, b, C, c⟩, rfl, ⟨PW, RB, SW, p1, q1, s1, p2, q2, s2, hi, ⟨w0.1, w0.2⟩, ⟨w3.1, w3.2⟩, ⟨w4.1, w4.2⟩, ⟨w5.1, w5.2⟩, ⟨w7.1, w7.2⟩, ⟨w8.1, w8.2⟩, ⟨w9.1, w9.2⟩⟩⟩
end
end Xe
