/- The text of an outcome. -/
import Derived.Test.YtgebeiaffjpcaaaGreatDoorE23
namespace Xe
open Go Go.Proofs
set_option maxRecDepth 16000
set_option maxHeartbeats 2000000

def wTheory : List UInt8 := [116, 104, 101, 111, 114, 121]
def wFollow : List UInt8 := [102, 111, 108, 108, 111, 119]
def wGone : List UInt8 := [103, 111, 110, 101]
def wordT (k : Int) : List UInt8 := if k = 0 then wTheory else if k = 1 then wFollow else wGone
def stepsT (l : List StepS) : List UInt8 := (l.map fun s => rowT (wordT s.kind) s.lits).flatten
def wSolution : List UInt8 := [115, 111, 108, 117, 116, 105, 111, 110, 10]
def wNone : List UInt8 := [110, 111, 110, 101, 10]
def wCore : List UInt8 := [99, 111, 114, 101]
def wParse : List UInt8 := [112, 97, 114, 115, 101]
def wInvalid : List UInt8 := [105, 110, 118, 97, 108, 105, 100]
def wLimit : List UInt8 := [108, 105, 109, 105, 116]
/-- the text of a good outcome -/
def goodT (o : Outc) : List UInt8 :=
  if o.kind = 0 then wSolution ++ pinsText o.pins
  else if o.kind = 1 then wNone ++ (rowT wCore o.cert.core ++ stepsT o.cert.steps)
  else if o.kind = 2 then rowT wParse [o.text, o.at', o.e]
  else if o.kind = 3 then rowT wInvalid [o.text, o.at', o.e, o.wp, o.wr, o.wd]
  else rowT wLimit [o.e]
/-- what an outcome's text is -/
def TextR (o : Outc) (r : Value) : Prop := (GoodO o → r = S (goodT o)) ∧ (¬ GoodO o → r = S [])
theorem wordT_len {k : Int} : (wordT k).length ≤ 6 := by
  unfold wordT
  split
  · decide
  · split <;> decide

section
variable {e : TypeId} {j : Heap → Prop} {h : Heap} {a b c a' b' c' : Value}
@[go_sem high] theorem store_a3 : @storeK (some 3) (.pointer (some ⟨h.size, 0, none⟩)) (.agg #[a, b, c]) ⟨h.push (.cells #[a', b', c'] e)⟩ ⟨j⟩ = @guardK ([a, b, c].all (·.oneCell')) ⟨j (h.push (.cells #[a, b, c] e))⟩ := store_all (l := [a, b, c]) (vs := [a', b', c']) rfl rfl
end
section
variable {h : Heap} {o : Outc} {P : OutA}
theorem word29_ok {k : Int} (h0 : 0 ≤ k) (h2 : k ≤ 2) : CallsH Tryz.prog 31 [.int .i64 k] h fun r h' => r = S (wordT k) ∧ Gr h h' := by
  refine calls_of 8 [.tmp 2] Go.Proofs.Tryz.func31 rfl rfl rfl ?_
  rcases (show k = 0 ∨ k = 1 ∨ k = 2 by omega) with rfl | rfl | rfl
  · simp -implicitDefEqProofs (disch := first | omega | (simp only [push_size, hset_size]; done) | (simp only [push_size, hset_size]; omega)) [go_sem]
    exact ⟨rfl, (Fr.refl _ _).push⟩
  · simp -implicitDefEqProofs (disch := first | omega | (simp only [push_size, hset_size]; done) | (simp only [push_size, hset_size]; omega)) [go_sem]
    exact ⟨rfl, (Fr.refl _ _).push⟩
  · simp -implicitDefEqProofs (disch := first | omega | (simp only [push_size, hset_size]; done) | (simp only [push_size, hset_size]; omega)) [go_sem]
    exact ⟨rfl, (Fr.refl _ _).push⟩
theorem stepsT_step {l : List StepS} {i : Nat} {s : StepS} (hs : l[i]? = some s) : stepsT (l.take (i + 1)) = stepsT (l.take i) ++ rowT (wordT s.kind) s.lits := by
  unfold stepsT
  rw [List.take_add_one, hs, List.map_append, List.flatten_append]
  simp
theorem stepsT_len {l : List StepS} (h : ∀ s ∈ l, s.lits.length ≤ 4096 ∧ ∀ x ∈ s.lits, I64 x) : (stepsT l).length ≤ 90200 * l.length := by
  induction l with
  | nil => simp [stepsT]
  | cons s l ih =>
    have h0 := h s (List.mem_cons_self ..)
    have h1 := rowT_len (w := wordT s.kind) h0.2
    have hw := @wordT_len s.kind
    have h2 := ih fun y hy => h y (List.mem_cons_of_mem _ hy)
    unfold stepsT at h2 ⊢
    simp only [List.map_cons, List.flatten_cons, List.length_append, List.length_cons]
    have := h0.1
    omega
theorem stepsT_take_len {l : List StepS} (h : ∀ s ∈ l, s.lits.length ≤ 4096 ∧ ∀ x ∈ s.lits, I64 x) {i : Nat} : (stepsT (l.take i)).length ≤ 90200 * l.length := by
  have h1 := stepsT_len (l := l.take i) fun x hx => h x (List.mem_of_mem_take hx)
  rw [List.length_take] at h1
  omega
theorem lits_small {s : StepS} (h : StepOk s) : ∀ x ∈ s.lits, -16777216 ≤ x ∧ x ≤ 16777216 := fun x hx => by
  have := ((h.2.2.2.2 x).1 hx).2
  unfold okL at this
  omega
theorem steps_all {l : List StepS} (h : StepsTo l l.length) : ∀ s ∈ l, StepOk s := fun s hs => by
  obtain ⟨i, hi⟩ := List.getElem?_of_mem hs
  exact h i s (List.getElem?_eq_some_iff.1 hi).1 hi
theorem core_all {l : List Int} (h : CoreTo l l.length) : ∀ x ∈ l, 0 ≤ x ∧ x ≤ 1048575 := fun x hx => by
  obtain ⟨i, hi⟩ := List.getElem?_of_mem hx
  have := h i x (List.getElem?_eq_some_iff.1 hi).1 hi
  exact ⟨this.1, this.2.1⟩
theorem num_i64 {n : Int} (h : NumO n) : -9223372036854775807 ≤ n ∧ n ≤ 9223372036854775807 := by unfold NumO at h; omega
theorem text29_ok (V : OutcR h o P) (hg : GoodO o → (pinsText o.pins).length ≤ 2 ^ 39) : CallsH Tryz.prog 10 [outV o P] h fun r h' => TextR o r ∧ Gr h h' := by
  obtain ⟨H, hH⟩ : ∃ H, H = h.push (.cells (outC o P).toArray 31) := ⟨_, rfl⟩
  have f0 : Gr h H := by rw [hH]; exact (Fr.refl _ _).push
  have O0 : OutAt H h.size o P := by rw [hH]; exact OutAt.new
  have hHs : H.size = h.size + 1 := by rw [hH, push_size]
  have C := good29_ok (V.gr f0)
  simp only [outC] at hH
  refine calls_of 83 [.tmp 2] Go.Proofs.Tryz.func10 rfl rfl rfl ?_
  unfold outV outC at C ⊢
  simp -implicitDefEqProofs (disch := first | omega | (simp only [push_size, hset_size]; done) | (simp only [push_size, hset_size]; omega)) [go_sem]
  rw [← hH]
  clear hH
  refine useC C ?_
  rintro _ h1 ⟨⟨b, rfl, hb⟩, f1⟩
  have f01 := f0.trans f1
  cases b with
  | false =>
    have hb' : ¬ GoodO o := fun g => by cases hb.2 g
    simp -implicitDefEqProofs (disch := first | omega | (simp only [push_size, hset_size]; done) | (simp only [push_size, hset_size]; omega)) [go_sem]
    exact ⟨⟨fun g => absurd g hb', fun _ => rfl⟩, f01⟩
  | true =>
    have g := hb.1 rfl
    have hg := hg g
    have hs1 := f1.size
    have fin : ∀ {r : Value} {h' : Heap}, r = S (goodT o) → Gr h h' → TextR o r ∧ Gr h h' := fun e f => ⟨⟨fun _ => e, fun x => absurd g x⟩, f⟩
    obtain ⟨c0, c1, c2, c3, c4, c5, c6, c7, c8, c9⟩ := O0.gr f1
    obtain ⟨k0, k4, hpk, hck, n1, n2, n3, n4, n5, n6, hbl⟩ := g
    rcases (show o.kind = 0 ∨ o.kind = 1 ∨ o.kind = 2 ∨ o.kind = 3 ∨ o.kind = 4 by omega) with hk | hk | hk | hk | hk
    · rw [hk] at c0
      have hT : goodT o = wSolution ++ pinsText o.pins := by unfold goodT; rw [if_pos hk]
      simp -implicitDefEqProofs (disch := first | omega | (simp only [push_size, hset_size]; done) | (simp only [push_size, hset_size]; omega)) [go_sem, c0, c1]
      refine useC (rpinsText10_ok (V.gr f01).pins rfl V.lp hg) ?_
      rintro _ h2 ⟨rfl, f2⟩
      simp -implicitDefEqProofs (disch := first | omega | (simp only [List.length_append, List.length_cons, List.length_nil]; omega)) [go_sem]
      exact fin (by rw [hT]; rfl) (f01.trans f2)
    · rw [hk] at c0
      have hT : goodT o = wNone ++ (rowT wCore o.cert.core ++ stepsT o.cert.steps) := by unfold goodT; rw [if_neg (by omega), if_pos hk]
      have hcl := hck.1; have hsl := hck.2.1
      have hcore := core_all hck.2.2.1
      have hsteps := steps_all hck.2.2.2
      have hci : ∀ x ∈ o.cert.core, I64 x := V.cert.ia
      have hrl := rowT_len (w := wCore) hci
      have hwl : wCore.length = 4 := rfl
      have hwn : wNone.length = 5 := rfl
      have hSl : ∀ i, (stepsT (o.cert.steps.take i)).length ≤ 90200 * o.cert.steps.length := fun i => stepsT_take_len fun s hs => ⟨(hsteps s hs).2.2.1, fun x hx => by have := lits_small (hsteps s hs) x hx; unfold I64; omega⟩
      simp -implicitDefEqProofs (disch := first | omega | (simp only [push_size, hset_size]; done) | (simp only [push_size, hset_size]; omega)) [go_sem, c0, c2]
      refine useC (row29_ok (V.gr f01).cert.core rfl V.cert.la (fun x hx => by have := hcore x hx; omega) wCore (by decide)) ?_
      rintro _ h2 ⟨rfl, f2⟩
      have f02 := f01.trans f2
      have hs2 := f2.size
      obtain ⟨c0, c1, c2, c3, c4, c5, c6, c7, c8, c9⟩ := O0.gr (f1.trans f2)
      simp -implicitDefEqProofs (disch := first | omega | (simp only [List.length_append, List.length_cons, List.length_nil]; omega)) [go_sem]
      refine loopK (fun ρ h' => ρ 1 = .pointer (some ⟨h.size, 0, none⟩) ∧ Gr h2 h' ∧ ∃ i : Nat, ρ 4 = .int .i64 i ∧ i ≤ o.cert.steps.length ∧ ρ 3 = S (wNone ++ (rowT wCore o.cert.core ++ stepsT (o.cert.steps.take i)))) (fun ρ _ => o.cert.steps.length - (intOf (ρ 4)).toNat) (by kernel_rfl) ?_ ?_
      · exact ⟨rfl, Fr.refl _ _, 0, rfl, by omega, by simp [stepsT, wNone, put]⟩
      rintro ρ h3 ⟨r1, f3, i, r4, hi, r3⟩
      have hs3 := f3.size
      have f03 := f02.trans f3
      have d3 := (f3.cell (by omega) id).trans c3
      have hSi := hSl i
      by_cases hil : i < o.cert.steps.length
      · obtain ⟨s, hs⟩ : ∃ s, o.cert.steps[i]? = some s := ⟨_, List.getElem?_eq_getElem hil⟩
        have hso := hsteps s (List.mem_of_getElem? hs)
        obtain ⟨bk, off, X, x, hPC, e0, e1, RX, hX, hX2, hkk, hll⟩ := (V.gr f03).cert.steps.at' i s hs
        rw [hPC] at d3
        have hls := rowT_len (w := wordT s.kind) hll
        have hwk := @wordT_len s.kind
        have hl4 := hso.2.2.1
        simp -implicitDefEqProofs (disch := first | omega | (simp only [List.length_append, List.length_cons, List.length_nil]; omega)) [go_sem, r1, r4, r3, d3]
        refine drawC [(0, 0), (1, 0), (2, 0), (3, 1), (4, 0), (5, 0), (6, 0), (7, 1), (9, 0), (10, 0), (11, 2), (12, 0), (13, 0), (14, 0), (15, 2), (8, 3), (16, 3), (17, 0), (18, 0)] (fun h' => Gr h3 h') (Fr.refl _ _) ?_
        simp -implicitDefEqProofs (disch := first | omega | (simp only [List.length_append, List.length_cons, List.length_nil]; omega)) [go_sem, r1, r4, r3, d3, e0, e1]
        refine float2 (.slice (some ⟨bk, off, none⟩) o.cert.steps.length P.c) (fun h' hC => by simp [go_sem, (hC.cell (by omega) id).trans d3]) ?_
        simp -implicitDefEqProofs (disch := first | omega | (simp only [List.length_append, List.length_cons, List.length_nil]; omega)) [go_sem, r1, r4, r3, d3, e0, e1]
        refine float2 (.slice X s.lits.length x) (fun h' hC => by simp [go_sem, (hC.cell (hcell_lt e1) id).trans e1]) ?_
        simp -implicitDefEqProofs (disch := first | omega | (simp only [List.length_append, List.length_cons, List.length_nil]; omega)) [go_sem, r1, r4, r3, d3, e0, e1]
        refine useC (word29_ok hso.1 hso.2.1) ?_
        rintro _ h4 ⟨rfl, f4⟩
        refine ⟨f4, ?_⟩
        simp -implicitDefEqProofs (disch := first | omega | (simp only [List.length_append, List.length_cons, List.length_nil]; omega)) [go_sem, r1, r4, r3, d3]
        refine useC (row29_ok (RX.fr0 f4) rfl hX2 (fun y hy => by have := lits_small hso y hy; omega) (wordT s.kind) (by omega)) ?_
        rintro _ h5 ⟨rfl, f5⟩
        refine ⟨f4.trans f5, ?_⟩
        simp -implicitDefEqProofs (disch := first | omega | (simp only [List.length_append, List.length_cons, List.length_nil]; omega)) [go_sem, r1, r4, r3, d3]
        refine ⟨⟨f3.trans (f4.trans f5), i + 1, by omega, by omega, ?_⟩, by omega⟩
        rw [stepsT_step hs]
      · have e : i = o.cert.steps.length := by omega
        subst e
        rw [List.take_length] at r3
        simp -implicitDefEqProofs (disch := first | omega | (simp only [List.length_append, List.length_cons, List.length_nil]; omega)) [go_sem, r1, r4, r3, d3]
        exact fin (by rw [hT]) f03
    · rw [hk] at c0
      have hT : goodT o = rowT wParse [o.text, o.at', o.e] := by unfold goodT; rw [if_neg (by omega), if_neg (by omega), if_pos hk]
      simp -implicitDefEqProofs (disch := first | omega | (simp only [push_size, hset_size]; done) | (simp only [push_size, hset_size]; omega)) [go_sem, c0, c4, c5, c6]
      refine buildI3 ?_
      simp -implicitDefEqProofs (disch := first | omega | (simp only [push_size, hset_size]; done) | (simp only [push_size, hset_size]; omega)) [go_sem]
      refine useC (row29_ok (l := [o.text, o.at', o.e]) (SlAt.new (vs := ints [o.text, o.at', o.e])).row rfl (by simp) (fun x hx => ?_) wParse (by decide)) ?_
      · simp only [List.mem_cons, List.not_mem_nil, or_false] at hx
        rcases hx with rfl | rfl | rfl <;> exact num_i64 (by assumption)
      rintro _ h2 ⟨rfl, f2⟩
      simp -implicitDefEqProofs (disch := first | omega | (simp only [List.length_append, List.length_cons, List.length_nil]; omega)) [go_sem]
      exact fin (by rw [hT]) (f01.trans ((Fr.refl _ _).push.trans f2))
    · rw [hk] at c0
      have hT : goodT o = rowT wInvalid [o.text, o.at', o.e, o.wp, o.wr, o.wd] := by unfold goodT; rw [if_neg (by omega), if_neg (by omega), if_neg (by omega), if_pos hk]
      simp -implicitDefEqProofs (disch := first | omega | (simp only [push_size, hset_size]; done) | (simp only [push_size, hset_size]; omega)) [go_sem, c0, c4, c5, c6, c7, c8, c9]
      refine buildI6 ?_
      simp -implicitDefEqProofs (disch := first | omega | (simp only [push_size, hset_size]; done) | (simp only [push_size, hset_size]; omega)) [go_sem]
      refine useC (row29_ok (l := [o.text, o.at', o.e, o.wp, o.wr, o.wd]) (SlAt.new (vs := ints [o.text, o.at', o.e, o.wp, o.wr, o.wd])).row rfl (by simp) (fun x hx => ?_) wInvalid (by decide)) ?_
      · simp only [List.mem_cons, List.not_mem_nil, or_false] at hx
        rcases hx with rfl | rfl | rfl | rfl | rfl | rfl <;> exact num_i64 (by assumption)
      rintro _ h2 ⟨rfl, f2⟩
      simp -implicitDefEqProofs (disch := first | omega | (simp only [List.length_append, List.length_cons, List.length_nil]; omega)) [go_sem]
      exact fin (by rw [hT]) (f01.trans ((Fr.refl _ _).push.trans f2))
    · rw [hk] at c0
      have hT : goodT o = rowT wLimit [o.e] := by unfold goodT; rw [if_neg (by omega), if_neg (by omega), if_neg (by omega), if_neg (by omega)]
      simp -implicitDefEqProofs (disch := first | omega | (simp only [push_size, hset_size]; done) | (simp only [push_size, hset_size]; omega)) [go_sem, c0, c6]
      refine buildI1 ?_
      simp -implicitDefEqProofs (disch := first | omega | (simp only [push_size, hset_size]; done) | (simp only [push_size, hset_size]; omega)) [go_sem]
      refine useC (row29_ok (l := [o.e]) (SlAt.new (vs := ints [o.e])).row rfl (by simp) (fun x hx => ?_) wLimit (by decide)) ?_
      · simp only [List.mem_cons, List.not_mem_nil, or_false] at hx
        subst hx; exact num_i64 (by assumption)
      rintro _ h2 ⟨rfl, f2⟩
      simp -implicitDefEqProofs (disch := first | omega | (simp only [List.length_append, List.length_cons, List.length_nil]; omega)) [go_sem]
      exact fin (by rw [hT]) (f01.trans ((Fr.refl _ _).push.trans f2))
end
end Xe

/- The text of an outcome: the program's. -/
namespace Xe
open Go Go.Proofs
set_option maxRecDepth 16000
set_option maxHeartbeats 2000000

section
variable {h : Heap} {o : Outc} {P : OutA}
@[go_sem ↓] theorem ev_global {ρ : Env} {g : Nat} : ev ρ (.global g) = .pointer (some ⟨g, 0, none⟩) := rfl
theorem stepWord {k : Int} (G : Glob h) (h0 : 0 ≤ k) (h2 : k ≤ 2) : hcell h ⟨0, k.toNat, none⟩ = some (S (wordT k)) := by
  obtain ⟨s0, s1, s2⟩ := G.steps
  rcases (show k = 0 ∨ k = 1 ∨ k = 2 by omega) with rfl | rfl | rfl
  · exact s0
  · exact s1
  · exact s2
theorem textP29_ok (G : Glob h) (V : OutcR h o P) (hg : GoodO o → (pinsText o.pins).length ≤ 2 ^ 39) : CallsH Tryz.prog 8 [outV o P] h fun r h' => TextR o r ∧ Gr h h' := by
  have hgs := G.size
  obtain ⟨H, hH⟩ : ∃ H, H = h.push (.cells (outC o P).toArray 31) := ⟨_, rfl⟩
  have f0 : Gr h H := by rw [hH]; exact (Fr.refl _ _).push
  have O0 : OutAt H h.size o P := by rw [hH]; exact OutAt.new
  have hHs : H.size = h.size + 1 := by rw [hH, push_size]
  have C := goodP29_ok (V.gr f0)
  simp only [outC] at hH
  refine calls_of 76 [.tmp 2] Go.Proofs.Tryz.func8 rfl rfl rfl ?_
  unfold outV outC at C ⊢
  simp -implicitDefEqProofs (disch := first | omega | (simp only [push_size, hset_size]; done) | (simp only [push_size, hset_size]; omega)) [go_sem]
  rw [← hH]
  clear hH
  refine useC C ?_
  rintro _ h1 ⟨⟨b, rfl, hb⟩, f1⟩
  have f01 := f0.trans f1
  cases b with
  | false =>
    have hb' : ¬ GoodO o := fun g => by cases hb.2 g
    simp -implicitDefEqProofs (disch := first | omega | (simp only [push_size, hset_size]; done) | (simp only [push_size, hset_size]; omega)) [go_sem]
    exact ⟨⟨fun g => absurd g hb', fun _ => rfl⟩, f01⟩
  | true =>
    have g := hb.1 rfl
    have hg := hg g
    have hs1 := f1.size
    have fin : ∀ {r : Value} {h' : Heap}, r = S (goodT o) → Gr h h' → TextR o r ∧ Gr h h' := fun e f => ⟨⟨fun _ => e, fun x => absurd g x⟩, f⟩
    obtain ⟨c0, c1, c2, c3, c4, c5, c6, c7, c8, c9⟩ := O0.gr f1
    obtain ⟨k0, k4, hpk, hck, n1, n2, n3, n4, n5, n6, hbl⟩ := g
    have G1 := G.gr f01
    rcases (show o.kind = 0 ∨ o.kind = 1 ∨ o.kind = 2 ∨ o.kind = 3 ∨ o.kind = 4 by omega) with hk | hk | hk | hk | hk
    · rw [hk] at c0
      have hT : goodT o = wSolution ++ pinsText o.pins := by unfold goodT; rw [if_pos hk]
      simp -implicitDefEqProofs (disch := first | omega | (simp only [push_size, hset_size]; done) | (simp only [push_size, hset_size]; omega)) [go_sem, c0, c1]
      refine useC (ptextP_ok G1 (V.gr f01).pins rfl V.lp hg) ?_
      rintro _ h2 ⟨rfl, f2⟩
      simp -implicitDefEqProofs (disch := first | omega | (simp only [List.length_append, List.length_cons, List.length_nil]; omega)) [go_sem]
      exact fin (by rw [hT]; rfl) (f01.trans f2)
    · rw [hk] at c0
      have hT : goodT o = wNone ++ (rowT wCore o.cert.core ++ stepsT o.cert.steps) := by unfold goodT; rw [if_neg (by omega), if_pos hk]
      have hcl := hck.1; have hsl := hck.2.1
      have hcore := core_all hck.2.2.1
      have hsteps := steps_all hck.2.2.2
      have hci : ∀ x ∈ o.cert.core, I64 x := V.cert.ia
      have hrl := rowT_len (w := wCore) hci
      have hwl : wCore.length = 4 := rfl
      have hwn : wNone.length = 5 := rfl
      have hSl : ∀ i, (stepsT (o.cert.steps.take i)).length ≤ 90200 * o.cert.steps.length := fun i => stepsT_take_len fun s hs => ⟨(hsteps s hs).2.2.1, fun x hx => by have := lits_small (hsteps s hs) x hx; unfold I64; omega⟩
      simp -implicitDefEqProofs (disch := first | omega | (simp only [push_size, hset_size]; done) | (simp only [push_size, hset_size]; omega)) [go_sem, c0, c2]
      obtain ⟨H2, hH2⟩ : ∃ H2, H2 = h1.push (.cells #[.pointer none, .slice none 0 0] 61) := ⟨_, rfl⟩
      rw [← hH2]
      have q1 : Gr h1 H2 := by rw [hH2]; exact (Fr.refl _ _).push
      have B0 : Bld h1.size [] H2 := by rw [hH2]; exact Bld.new
      have hH2s : H2.size = h1.size + 1 := by rw [hH2, push_size]
      clear hH2
      have f02 := f01.trans q1
      refine useC (rowP_ok (G1.gr q1) (V.gr f02).cert.core rfl V.cert.la hci wCore (by decide)) ?_
      rintro _ h3 ⟨rfl, f3⟩
      simp -implicitDefEqProofs (disch := first | omega | (simp only [List.length_append, List.length_cons, List.length_nil]; omega)) [go_sem]
      refine useC (writeString_ok (B0.gr f3) (wNone ++ rowT wCore o.cert.core) (by simp only [List.length_append, List.length_nil]; omega)) ?_
      rintro v h4 ⟨B4, f4⟩
      rw [List.nil_append] at B4
      have e4 : Gr h h4 := (f02.trans f3).upto f4 (by omega)
      have hs3 := f3.size
      have hs4 := f4.size
      have d3 : hcell h4 ⟨h.size, 3, none⟩ = some (.slice P.C o.cert.steps.length P.c) := (f4.cell (by omega) (by omega)).trans (((q1.trans f3).cell (by omega) id).trans c3)
      simp -implicitDefEqProofs (disch := first | omega | (simp only [List.length_append, List.length_cons, List.length_nil]; omega)) [go_sem, d3]
      refine loopK (fun ρ h' => ρ 3 = .pointer (some ⟨h1.size, 0, none⟩) ∧ ρ 60 = .slice P.C o.cert.steps.length P.c ∧ ρ 61 = .int .i64 o.cert.steps.length ∧ Gb h1.size h4 h' ∧ ∃ i : Nat, ρ 62 = .int .i64 i ∧ i ≤ o.cert.steps.length ∧ Bld h1.size (wNone ++ (rowT wCore o.cert.core ++ stepsT (o.cert.steps.take i))) h') (fun ρ _ => o.cert.steps.length - (intOf (ρ 62)).toNat) (by kernel_rfl) ?_ ?_
      · exact ⟨rfl, rfl, rfl, Fr.refl _ _, 0, rfl, by omega, by simpa [stepsT] using B4⟩
      rintro ρ h5 ⟨r3, r60, r61, f5, i, r62, hi, B5⟩
      have hs5 := f5.size
      have e5 : Gr h h5 := (e4).upto f5 (by omega)
      have hSi := hSl i
      by_cases hil : i < o.cert.steps.length
      · obtain ⟨s, hs⟩ : ∃ s, o.cert.steps[i]? = some s := ⟨_, List.getElem?_eq_getElem hil⟩
        have hso := hsteps s (List.mem_of_getElem? hs)
        obtain ⟨bk, off, X, x, hPC, g0, g1, RX, hX, hX2, hkk, hll⟩ := (V.gr e5).cert.steps.at' i s hs
        rw [hPC] at r60
        have hls := rowT_len (w := wordT s.kind) hll
        have hwk := @wordT_len s.kind
        have hl4 := hso.2.2.1
        simp -implicitDefEqProofs (disch := first | omega | (simp only [push_size, hset_size]; done) | (simp only [push_size, hset_size]; omega)) [go_sem, r3, r60, r61, r62, g0, g1]
        obtain ⟨H6, hH6⟩ : ∃ H2, H2 = h5.push (.cells #[.int .i64 s.kind, .slice X s.lits.length x] 40) := ⟨_, rfl⟩
        rw [← hH6]
        have q6 : Gr h5 H6 := by rw [hH6]; exact (Fr.refl _ _).push
        have p2 : hcell H6 ⟨h5.size, 0, none⟩ = some (.int .i64 s.kind) := by rw [hH6]; exact hcell_push_lit
        have p3 : hcell H6 ⟨h5.size, 1, none⟩ = some (.slice X s.lits.length x) := by rw [hH6]; exact hcell_push_lit
        have hH6s : H6.size = h5.size + 1 := by rw [hH6, push_size]
        clear hH6
        have G6 := (G.gr e5).gr q6
        have sw := stepWord G6 hso.1 hso.2.1
        obtain ⟨kn, hkn⟩ : ∃ kn : Nat, s.kind = (kn : Int) := ⟨s.kind.toNat, by have := hso.1; omega⟩
        have hk2 : kn < 3 := by have := hso.2.1; omega
        rw [hkn] at p2
        rw [hkn, Int.toNat_natCast, ← hkn] at sw
        refine drawK [(0, 0), (1, 1), (2, 0), (3, 1), (4, 0), (5, 1), (6, 3), (7, 3)] ?_
        simp -implicitDefEqProofs (disch := first | omega | (simp only [List.length_append, List.length_cons, List.length_nil]; omega)) [go_sem, r3, r60, r61, r62, p2, p3, sw]
        refine useC (rowP_ok G6 (RX.fr0 q6) rfl hX2 hll (wordT s.kind) (by omega)) ?_
        rintro _ h7 ⟨rfl, f7⟩
        simp -implicitDefEqProofs (disch := first | omega | (simp only [List.length_append, List.length_cons, List.length_nil]; omega)) [go_sem, r3, r60, r61, r62]
        refine useC (writeString_ok ((B5.gr q6).gr f7) (rowT (wordT s.kind) s.lits) (by simp only [List.length_append]; omega)) ?_
        rintro v h8 ⟨B8, f8⟩
        simp -implicitDefEqProofs (disch := first | omega | (simp only [List.length_append, List.length_cons, List.length_nil]; omega)) [go_sem, r3, r60, r61, r62]
        refine ⟨⟨hPC.symm, f5.trans ((q6.trans f7).gb.trans f8), i + 1, by omega, by omega, ?_⟩, by omega⟩
        rw [stepsT_step hs]
        simpa [List.append_assoc] using B8
      · have e : i = o.cert.steps.length := by omega
        subst e
        rw [List.take_length] at B5
        simp -implicitDefEqProofs (disch := first | omega | (simp only [List.length_append, List.length_cons, List.length_nil]; omega)) [go_sem, r3, r60, r61, r62]
        refine useC (string_ok B5) ?_
        rintro _ h6 ⟨rfl, _, f6⟩
        simp -implicitDefEqProofs (disch := first | omega | (simp only [push_size, hset_size]; done) | (simp only [push_size, hset_size]; omega)) [go_sem]
        exact fin (by rw [hT]) (e5.upto f6 (by omega))
    · rw [hk] at c0
      have hT : goodT o = rowT wParse [o.text, o.at', o.e] := by unfold goodT; rw [if_neg (by omega), if_neg (by omega), if_pos hk]
      simp -implicitDefEqProofs (disch := first | omega | (simp only [push_size, hset_size]; done) | (simp only [push_size, hset_size]; omega)) [go_sem, c0, c4, c5, c6]
      refine buildI3 ?_
      simp -implicitDefEqProofs (disch := first | omega | (simp only [push_size, hset_size]; done) | (simp only [push_size, hset_size]; omega)) [go_sem]
      refine useC (rowP_ok (l := [o.text, o.at', o.e]) (G1.gr (Fr.refl _ _).push) (SlAt.new (vs := ints [o.text, o.at', o.e])).row rfl (by simp) (fun x hx => ?_) wParse (by decide)) ?_
      · simp only [List.mem_cons, List.not_mem_nil, or_false] at hx
        rcases hx with rfl | rfl | rfl
        · exact V.i2
        · exact V.i3
        · exact V.i4
      rintro _ h2 ⟨rfl, f2⟩
      simp -implicitDefEqProofs (disch := first | omega | (simp only [List.length_append, List.length_cons, List.length_nil]; omega)) [go_sem]
      exact fin (by rw [hT]) (f01.trans ((Fr.refl _ _).push.trans f2))
    · rw [hk] at c0
      have hT : goodT o = rowT wInvalid [o.text, o.at', o.e, o.wp, o.wr, o.wd] := by unfold goodT; rw [if_neg (by omega), if_neg (by omega), if_neg (by omega), if_pos hk]
      simp -implicitDefEqProofs (disch := first | omega | (simp only [push_size, hset_size]; done) | (simp only [push_size, hset_size]; omega)) [go_sem, c0, c4, c5, c6, c7, c8, c9]
      refine buildI6 ?_
      simp -implicitDefEqProofs (disch := first | omega | (simp only [push_size, hset_size]; done) | (simp only [push_size, hset_size]; omega)) [go_sem]
      refine useC (rowP_ok (l := [o.text, o.at', o.e, o.wp, o.wr, o.wd]) (G1.gr (Fr.refl _ _).push) (SlAt.new (vs := ints [o.text, o.at', o.e, o.wp, o.wr, o.wd])).row rfl (by simp) (fun x hx => ?_) wInvalid (by decide)) ?_
      · simp only [List.mem_cons, List.not_mem_nil, or_false] at hx
        rcases hx with rfl | rfl | rfl | rfl | rfl | rfl
        · exact V.i2
        · exact V.i3
        · exact V.i4
        · exact V.i5
        · exact V.i6
        · exact V.i7
      rintro _ h2 ⟨rfl, f2⟩
      simp -implicitDefEqProofs (disch := first | omega | (simp only [List.length_append, List.length_cons, List.length_nil]; omega)) [go_sem]
      exact fin (by rw [hT]) (f01.trans ((Fr.refl _ _).push.trans f2))
    · rw [hk] at c0
      have hT : goodT o = rowT wLimit [o.e] := by unfold goodT; rw [if_neg (by omega), if_neg (by omega), if_neg (by omega), if_neg (by omega)]
      simp -implicitDefEqProofs (disch := first | omega | (simp only [push_size, hset_size]; done) | (simp only [push_size, hset_size]; omega)) [go_sem, c0, c6]
      refine buildI1 ?_
      simp -implicitDefEqProofs (disch := first | omega | (simp only [push_size, hset_size]; done) | (simp only [push_size, hset_size]; omega)) [go_sem]
      refine useC (rowP_ok (l := [o.e]) (G1.gr (Fr.refl _ _).push) (SlAt.new (vs := ints [o.e])).row rfl (by simp) (fun x hx => ?_) wLimit (by decide)) ?_
      · simp only [List.mem_cons, List.not_mem_nil, or_false] at hx
        subst hx; exact V.i4
      rintro _ h2 ⟨rfl, f2⟩
      simp -implicitDefEqProofs (disch := first | omega | (simp only [List.length_append, List.length_cons, List.length_nil]; omega)) [go_sem]
      exact fin (by rw [hT]) (f01.trans ((Fr.refl _ _).push.trans f2))
end
end Xe

/- Numerals: what is written is read back; lines of a word and numbers, taken apart. -/
namespace Xe
open Go Go.Proofs
set_option maxRecDepth 16000
set_option maxHeartbeats 1000000

theorem dgc_nat {n : Nat} (h : n < 10) : (dgc n).toNat = 48 + n := by unfold dgc; rw [UInt8.toNat_ofNat']; omega
theorem decDigits_dig : ∀ (u : Nat), ∀ c ∈ Lib.decDigits u, 48 ≤ c.toNat ∧ c.toNat ≤ 57 := by
  intro u
  induction u using Nat.strongRecOn with
  | ind u ih =>
    intro c hc
    by_cases hu : u < 10
    · rw [decDigits_small hu, List.mem_singleton] at hc
      subst hc; rw [dgc_nat hu]; omega
    · rw [decDigits_big hu, List.mem_append, List.mem_singleton] at hc
      rcases hc with hc | rfl
      · exact ih (u / 10) (by omega) c hc
      · rw [dgc_nat (by omega)]; omega
theorem itoa_chars {n : Int} : ∀ c ∈ Lib.itoa n, c.toNat = 45 ∨ (48 ≤ c.toNat ∧ c.toNat ≤ 57) := by
  intro c hc
  unfold Lib.itoa at hc
  split at hc
  · rcases List.mem_cons.1 hc with rfl | hc
    · exact .inl rfl
    · exact .inr (decDigits_dig _ c hc)
  · exact .inr (decDigits_dig _ c hc)
theorem parse_app (c : UInt8) : ∀ (l : List UInt8) (acc a : Nat), Lib.parseUint10 acc l = .ok a → Lib.parseUint10 acc (l ++ [c]) = Lib.parseUint10 a [c]
  | [], acc, a, h => by
    simp only [Lib.parseUint10] at h
    injection h with h
    subst h; rfl
  | b :: l, acc, a, h => by
    rw [List.cons_append]
    unfold Lib.parseUint10 at h ⊢
    split
    · rename_i hb
      rw [if_pos hb] at h
      split
      · rename_i h2; rw [if_pos h2] at h; cases h
      · rename_i h2
        rw [if_neg h2] at h
        split
        · rename_i h3; rw [if_pos h3] at h; cases h
        · rename_i h3
          rw [if_neg h3] at h
          exact parse_app c l _ a h
    · rename_i hb; rw [if_neg hb] at h; cases h
theorem parse_dec : ∀ (u : Nat), u < 18446744073709551616 → Lib.parseUint10 0 (Lib.decDigits u) = .ok u := by
  intro u
  induction u using Nat.strongRecOn with
  | ind u ih =>
    intro hu64
    have one : ∀ a n : Nat, n < 10 → a * 10 + n < 18446744073709551616 → Lib.parseUint10 a [dgc n] = .ok (a * 10 + n) := fun a n hn ha => by
      unfold Lib.parseUint10
      rw [dgc_nat hn, if_pos (by omega), if_neg (by omega), if_neg (by omega)]
      unfold Lib.parseUint10
      congr 1; omega
    by_cases hu : u < 10
    · rw [decDigits_small hu, one 0 u hu (by omega)]
      congr 1; omega
    · rw [decDigits_big hu, parse_app _ _ 0 (u / 10) (ih (u / 10) (by omega) (by omega)), one _ _ (by omega) (by omega)]
      congr 1; omega
theorem dec_ne (u : Nat) : Lib.decDigits u ≠ [] := fun h => by have := decDigits_len u; rw [h] at this; simp at this
theorem atoi_itoa {n : Int} (h : I64 n) : Lib.atoiAll (Lib.itoa n) = .ok n := by
  unfold I64 at h
  by_cases hn : n < 0
  · have e : Lib.itoa n = 45 :: Lib.decDigits n.natAbs := if_pos hn
    rw [e, Lib.atoiAll_minus]
    unfold Lib.parseMag
    rw [if_neg (dec_ne _), parse_dec _ (by omega)]
    unfold Lib.signed
    simp only
    rw [if_neg (by omega)]
    congr 1; omega
  · have e : Lib.itoa n = Lib.decDigits n.toNat := if_neg hn
    rw [e]
    obtain ⟨c, r, hr⟩ := List.exists_cons_of_ne_nil (dec_ne n.toNat)
    have hc := decDigits_dig n.toNat c (by rw [hr]; exact List.mem_cons_self)
    rw [hr, Lib.atoiAll_plain c r (by omega) (by omega), ← hr]
    unfold Lib.parseMag
    rw [if_neg (dec_ne _), parse_dec _ (by omega)]
    unfold Lib.signless
    simp only
    rw [if_neg (by omega)]
    congr 1; omega
theorem itoa_inj {a b : Int} (ha : I64 a) (hb : I64 b) (h : Lib.itoa a = Lib.itoa b) : a = b := by
  have h1 := atoi_itoa ha
  rw [h, atoi_itoa hb] at h1
  injection h1 with h1
  exact h1.symm

/-! ### A word and numbers, taken apart at the blanks -/
theorem glue_nums (w : List UInt8) (l : List Int) : glue 32 (w :: l.map Lib.itoa) = w ++ numsT l := by
  induction l generalizing w with
  | nil => simp [glue, numsT]
  | cons x l ih =>
    show w ++ 32 :: glue 32 (Lib.itoa x :: l.map Lib.itoa) = _
    rw [ih]
    simp [numsT]
theorem itoa_no {n : Int} {c : UInt8} (hc : c.toNat < 45) : c ∉ Lib.itoa n := fun h => by
  have := itoa_chars c h; omega
theorem split_nums {w : List UInt8} (hw : (32 : UInt8) ∉ w) (l : List Int) : splitOn 32 (w ++ numsT l) = w :: l.map Lib.itoa := by
  rw [← glue_nums]
  refine splitOn_glue (by simp) fun a ha => ?_
  rcases List.mem_cons.1 ha with rfl | ha
  · exact hw
  · obtain ⟨n, _, rfl⟩ := List.mem_map.1 ha
    exact itoa_no (by decide)
/-- a line is a word and numbers -/
def NumsIn (line w : List UInt8) (ns : List Int) : Prop := line = w ++ numsT ns ∧ ∀ n ∈ ns, I64 n
theorem NumsIn.split {line w : List UInt8} {ns : List Int} (hw : (32 : UInt8) ∉ w) (h : NumsIn line w ns) : splitOn 32 line = w :: ns.map Lib.itoa := by
  rw [h.1]; exact split_nums hw ns
theorem NumsIn.of {line w : List UInt8} {ns : List Int} (h : splitOn 32 line = w :: ns.map Lib.itoa) (hi : ∀ n ∈ ns, I64 n) : NumsIn line w ns :=
  ⟨by rw [← glue_nums, ← h, glue_split], hi⟩
theorem map_inj {a b : List Int} (ha : ∀ n ∈ a, I64 n) (hb : ∀ n ∈ b, I64 n) (h : a.map Lib.itoa = b.map Lib.itoa) : a = b := by
  induction a generalizing b with
  | nil => cases b with
    | nil => rfl
    | cons y b => simp at h
  | cons x a ih =>
    cases b with
    | nil => simp at h
    | cons y b =>
      simp only [List.map_cons, List.cons.injEq] at h
      rw [itoa_inj (ha x (List.mem_cons_self ..)) (hb y (List.mem_cons_self ..)) h.1, ih (fun n hn => ha n (List.mem_cons_of_mem _ hn)) (fun n hn => hb n (List.mem_cons_of_mem _ hn)) h.2]
theorem NumsIn.uniq {line w w' : List UInt8} {ns ns' : List Int} (hw : (32 : UInt8) ∉ w) (hw' : (32 : UInt8) ∉ w') (h : NumsIn line w ns) (h' : NumsIn line w' ns') : w = w' ∧ ns = ns' := by
  have h1 := h.split hw
  rw [h'.split hw'] at h1
  simp only [List.cons.injEq] at h1
  exact ⟨h1.1.symm, map_inj h.2 h'.2 h1.2.symm⟩
end Xe

/- Reading lines of a word and numbers. -/
namespace Xe
open Go Go.Proofs
set_option maxRecDepth 16000
set_option maxHeartbeats 1000000

section
variable {h : Heap}
/-- what explain.numbers hands back -/
def NumbersR (N : Nat) (line w : List UInt8) (h' : Heap) (r : Value) : Prop :=
  (∃ ns X x, NumsIn line w ns ∧ r = .tuple #[.slice X ns.length x, .bool true] ∧ SlAt h' X x (ints ns) ∧ ∀ y, blk X y → N ≤ y) ∨ ((¬ ∃ ns, NumsIn line w ns) ∧ r = .tuple #[.slice none 0 0, .bool false])
/-- up to here they are numbers -/
def NumsTo' (l : List (List UInt8)) (i : Nat) (ns : List Int) : Prop := l.take i = ns.map Lib.itoa ∧ ∀ n ∈ ns, I64 n
theorem NumsTo'.next {l : List (List UInt8)} {i : Nat} {ns : List Int} {n : Int} (I : NumsTo' l i ns) (hs : l[i]? = some (Lib.itoa n)) (hn : I64 n) : NumsTo' l (i + 1) (ns ++ [n]) :=
  ⟨by rw [List.take_add_one, hs, I.1, List.map_append]; rfl, fun x hx => by
    rcases List.mem_append.1 hx with hx | hx
    · exact I.2 x hx
    · rw [List.mem_singleton] at hx; subst hx; exact hn⟩
theorem none_bad {line w s : List UInt8} {t : List (List UInt8)} {i : Nat} (hw : (32 : UInt8) ∉ w) (hs : splitOn 32 line = w :: t) (hi : t[i]? = some s) (hb : ∀ n, I64 n → Lib.itoa n ≠ s) : ¬ ∃ ns, NumsIn line w ns := by
  rintro ⟨ns, hN⟩
  have h1 := hN.split hw
  rw [hs] at h1
  simp only [List.cons.injEq, true_and] at h1
  rw [h1, List.getElem?_map, Option.map_eq_some_iff] at hi
  obtain ⟨n, hn, e⟩ := hi
  exact hb n (hN.2 n (List.mem_of_getElem? hn)) e
theorem itoa_ne {s : List UInt8} {n : Int} (hn : I64 n) (h : ∀ v, Lib.atoiAll s ≠ .ok v) : Lib.itoa n ≠ s := fun e => h n (by rw [← e]; exact atoi_itoa hn)
theorem numbers_ok (G : Glob h) (line w : List UInt8) (hl : line.length < 2 ^ 30) (hw : (32 : UInt8) ∉ w) (hw2 : w.length < 2 ^ 40) :
    CallsH Tryz.prog 60 [S line, S w] h fun r h' => NumbersR h.size line w h' r ∧ Gr h h' := by
  refine calls_of 45 [.tmp 4, .tmp 5] Go.Proofs.Tryz.func60 rfl rfl rfl ?_
  simp -implicitDefEqProofs (disch := first | omega | (simp only [push_size, hset_size]; done) | (simp only [push_size, hset_size]; omega)) [go_sem]
  refine useC (split_ok G line 32 (by omega)) ?_
  rintro _ h1 ⟨rfl, SL, f1⟩
  obtain ⟨w', t, hs⟩ := List.exists_cons_of_ne_nil (splitOn_ne 32 line)
  have hlen : (w' :: t).length ≤ line.length + 1 := by
    rw [← hs, splitOn_len]
    have := List.count_le_length (a := (32 : UInt8)) (l := line)
    omega
  have hsz : ∀ a ∈ t, a.length ≤ line.length := fun a ha => splitOn_size 32 line a (by rw [hs]; exact List.mem_cons_of_mem _ ha)
  rw [hs] at SL ⊢
  simp only [List.length_cons] at hlen
  obtain ⟨bk, off, hA, hc⟩ := SL.row.get (by rw [strs_len]; simp)
  cases hA
  have c0 : hcell h1 ⟨h.size, 0, none⟩ = some (S w') := hc 0 _ rfl
  by_cases e : w' = w
  case neg =>
    simp -implicitDefEqProofs (disch := first | omega | (simp only [List.length_append, List.length_cons, List.length_nil]; omega)) [go_sem, c0, e]
    refine ⟨.inr ⟨?_, rfl⟩, f1⟩
    rintro ⟨ns, hN⟩
    have := hN.split hw
    rw [hs] at this
    simp only [List.cons.injEq] at this
    exact e this.1
  subst e
  obtain ⟨B', d', hsl, RB, own⟩ := slice_fromR (kd := .i64) (j := 1) SL (by rw [strs_len]; simp)
  rw [strs_len, List.length_cons, show t.length + 1 - 1 = t.length by omega, show ((1 : Nat) : Int) = 1 from rfl] at hsl
  have RB : RowAt h1 B' (strs t) := RB
  have ownB : ∀ y, blk B' y → ¬ h1.size ≤ y := fun y hy => by have := SL.blk_lt (own y hy); omega
  simp -implicitDefEqProofs (disch := first | omega | (simp only [List.length_append, List.length_cons, List.length_nil]; omega)) [go_sem, c0, hsl]
  refine loopK (fun ρ h' => ρ 20 = .slice B' t.length d' ∧ ρ 21 = .int .i64 t.length ∧ Gb h1.size h1 h' ∧ ∃ i : Nat, ρ 22 = .int .i64 i ∧ i ≤ t.length ∧ ∃ (ns : List Int) (X : Option Addr) (x : Nat), ρ 7 = .slice X ns.length x ∧ SlAt h' X x (ints ns) ∧ (∀ y, blk X y → h1.size ≤ y) ∧ NumsTo' t i ns)
    (fun ρ _ => t.length - (intOf (ρ 22)).toNat) (by kernel_rfl) ?_ ?_
  · exact ⟨rfl, rfl, Fr.refl _ _, 0, rfl, by omega, [], none, 0, rfl, SlAt.nil h1, fun y ⟨a, ha, _⟩ => (nomatch ha), rfl, fun n hn => (nomatch hn)⟩
  rintro ρ h2 ⟨r20, r21, f2, i, r22, hi, ns, X, x, r7, SX, ownX, I⟩
  have f12 : Gr h h2 := f1.upto f2 f1.size
  have hnl : ns.length = i := by
    have := congrArg List.length I.1
    rw [List.length_take, List.length_map] at this
    omega
  by_cases hin : i < t.length
  · obtain ⟨s, hs'⟩ : ∃ s, t[i]? = some s := ⟨_, List.getElem?_eq_getElem hin⟩
    obtain ⟨bk, off, rfl, hc'⟩ := (RB.fr f2 ownB).get (by rw [strs_len]; omega)
    have d0 := hc' _ _ (strs_at hs')
    have hsl' := hsz s (List.mem_of_getElem? hs')
    simp -implicitDefEqProofs (disch := first | omega | (simp only [push_size, hset_size]; done) | (simp only [push_size, hset_size]; omega)) [go_sem, r20, r21, r22, r7, d0]
    refine useC (atoi_ok (G.gr f12) s (by omega)) ?_
    rintro _ h3 ⟨hR, f3⟩
    have f13 := f12.trans f3
    unfold AtoiR at hR
    rcases ha : Lib.atoiAll s with v | _ | _
    · skip
      rw [ha] at hR
      obtain ⟨rfl, hv0, hv1⟩ := hR
      have hlv := itoa_len (n := v) ⟨hv0, hv1⟩
      simp -implicitDefEqProofs (disch := first | omega | (simp only [push_size, hset_size]; done) | (simp only [push_size, hset_size]; omega)) [go_sem, r20, r21, r22, r7]
      refine useC (itoa_ok (G.gr f13) v hv0 hv1) ?_
      rintro _ h4 ⟨rfl, f4⟩
      have f14 := f13.trans f4
      by_cases ev : Lib.itoa v = s
      case neg =>
        simp -implicitDefEqProofs (disch := first | omega | (simp only [push_size, hset_size]; done) | (simp only [push_size, hset_size]; omega)) [go_sem, r20, r21, r22, r7, ev]
        refine ⟨.inr ⟨none_bad hw hs hs' fun n hn e => ev ?_, rfl⟩, f14⟩
        have := atoi_itoa hn
        rw [e, ha] at this
        injection this with this
        rw [this, e]
      subst ev
      simp -implicitDefEqProofs (disch := first | omega | (simp only [push_size, hset_size]; done) | (simp only [push_size, hset_size]; omega)) [go_sem, r20, r21, r22, r7]
      refine buildI1 ?_
      simp -implicitDefEqProofs (disch := first | omega | (simp only [push_size, hset_size]; done) | (simp only [push_size, hset_size]; omega)) [go_sem, r20, r21, r22, r7]
      obtain ⟨H5, hH5⟩ : ∃ H2, H2 = h4.push (.cells #[.int .i64 v] 3) := ⟨_, rfl⟩
      have q5 : Gr h4 H5 := by rw [hH5]; exact (Fr.refl _ _).push
      have S5 : SlAt H5 (some ⟨h4.size, 0, none⟩) 1 [.int .i64 v] := by rw [hH5]; exact SlAt.new (vs := [.int .i64 v])
      rw [← hH5]
      clear hH5
      refine appendB (vs := ints ns) (ws := [.int .i64 v]) ((SX.fr f3 fun _ _ => id).fr (f4.trans q5) fun _ _ => id) (by rw [ints_len]) S5.row rfl (by simp [Value.oneCell']) (by omega) (by omega) ?_
      intro X' x' h6 S6 f6 own6
      simp -implicitDefEqProofs (disch := first | omega | (simp only [push_size, hset_size]; done) | (simp only [push_size, hset_size]; omega)) [go_sem, r20, r21, r22]
      have f26 : Gb h1.size h1 h6 := f2.trans (((f3.trans f4).trans q5).gb.trans (f6.mono fun y _ hy => ownX y hy))
      have hs2 := f2.size
      have hs5 := ((f3.trans f4).trans q5).size
      refine ⟨⟨f26, i + 1, by omega, by omega, ?_⟩, by omega⟩
      refine ⟨ns ++ [v], X', x', ⟨rfl, by rw [List.length_append]; rfl, rfl⟩, by unfold ints at S6 ⊢; rw [List.map_append]; exact S6, fun y hy => ?_, I.next hs' ⟨hv0, hv1⟩⟩
      rcases own6 y hy with hy | hy
      · exact ownX y hy
      · omega
    · rw [ha] at hR
      obtain ⟨v, ty, p, rfl⟩ := hR
      simp -implicitDefEqProofs (disch := first | omega | (simp only [push_size, hset_size]; done) | (simp only [push_size, hset_size]; omega)) [go_sem, r20, r21, r22, r7]
      exact ⟨.inr ⟨none_bad hw hs hs' fun n hn => itoa_ne hn (by rw [ha]; intro v hv; cases hv), rfl⟩, f13⟩
    · rw [ha] at hR
      obtain ⟨v, ty, p, rfl⟩ := hR
      simp -implicitDefEqProofs (disch := first | omega | (simp only [push_size, hset_size]; done) | (simp only [push_size, hset_size]; omega)) [go_sem, r20, r21, r22, r7]
      exact ⟨.inr ⟨none_bad hw hs hs' fun n hn => itoa_ne hn (by rw [ha]; intro v hv; cases hv), rfl⟩, f13⟩
  · have e : i = t.length := by omega
    subst e
    simp -implicitDefEqProofs (disch := first | omega | (simp only [push_size, hset_size]; done) | (simp only [push_size, hset_size]; omega)) [go_sem, r20, r21, r22, r7]
    have hI := I.1
    rw [List.take_length] at hI
    exact ⟨.inl ⟨ns, X, x, .of (by rw [hs, hI]) I.2, rfl, SX, fun y hy => by have := ownX y hy; have := f1.size; omega⟩, f12⟩
end
end Xe

/- Lines; an outcome of one line. -/
namespace Xe
open Go Go.Proofs
set_option maxRecDepth 16000
set_option maxHeartbeats 1000000

section
variable {h : Heap}
theorem lines_ok (G : Glob h) (s : List UInt8) (hl : s.length < 2 ^ 30) {l : List (List UInt8)} {z : List UInt8} (hs : splitOn 10 s = l ++ [z]) :
    CallsH Tryz.prog 32 [S s] h fun r h' => (∃ X x, r = .tuple #[.slice X l.length x, .bool (decide (z = []))] ∧ RowAt h' X (strs l)) ∧ Gr h h' := by
  have hlen : l.length + 1 ≤ s.length + 1 := by
    have h1 := splitOn_len 10 s
    rw [hs] at h1
    have := List.count_le_length (a := (10 : UInt8)) (l := s)
    simp only [List.length_append, List.length_cons, List.length_nil] at h1
    omega
  refine calls_of 19 [.tmp 2, .tmp 3] Go.Proofs.Tryz.func32 rfl rfl rfl ?_
  simp -implicitDefEqProofs (disch := first | omega | (simp only [push_size, hset_size]; done) | (simp only [push_size, hset_size]; omega)) [go_sem]
  refine useC (split_ok G s 10 (by omega)) ?_
  rintro _ h1 ⟨rfl, SL, f1⟩
  rw [hs] at SL ⊢
  obtain ⟨bk, off, hA, hc⟩ := SL.row.get (by rw [strs_len]; simp)
  cases hA
  have c0 : hcell h1 ⟨h.size, l.length, none⟩ = some (S z) := by
    have := hc l.length (S z) (strs_at (by simp))
    rwa [Nat.zero_add] at this
  have e1 : ((l ++ [z]).length : Int) - 1 = (l.length : Int) := by simp only [List.length_append, List.length_cons, List.length_nil]; omega
  have e2 : (l ++ [z]).length = l.length + 1 := by simp
  have RB : RowAt h1 (some ⟨h.size, 0, none⟩) (strs l) := by
    have := SL.row.take l.length
    have e3 : (strs (l ++ [z])).take l.length = strs l := by unfold strs; rw [← List.map_take, List.take_left']; rfl
    rwa [e3] at this
  rw [e2]
  simp -implicitDefEqProofs (disch := first | omega | (simp only [List.length_append, List.length_cons, List.length_nil]; omega)) [go_sem]
  refine drawK [(0, 0), (1, 0), (2, 0), (3, 0), (4, 0), (5, 0), (6, 0), (7, 0), (8, 0), (9, 0), (10, 1), (11, 0), (12, 0), (13, 0)] ?_
  simp -implicitDefEqProofs (disch := first | omega | (simp only [List.length_append, List.length_cons, List.length_nil]; omega)) [go_sem, c0]
  exact ⟨RB, f1⟩

def zeroA : OutA := ⟨none, 0, none, 0, none, 0⟩
def zeroO : Outc := ⟨0, [], ⟨[], []⟩, 0, 0, 0, 0, 0, 0⟩
def o2 (a b c : Int) : Outc := ⟨2, [], ⟨[], []⟩, a, b, c, 0, 0, 0⟩
def o3 (a b c d e f : Int) : Outc := ⟨3, [], ⟨[], []⟩, a, b, c, d, e, f⟩
def o4 (a : Int) : Outc := ⟨4, [], ⟨[], []⟩, 0, 0, a, 0, 0, 0⟩
/-- the outcome of one line -/
def PlainO (line : List UInt8) (o : Outc) : Prop :=
  (∃ a b c, NumsIn line wParse [a, b, c] ∧ o = o2 a b c) ∨ (∃ a b c d e f, NumsIn line wInvalid [a, b, c, d, e, f] ∧ o = o3 a b c d e f) ∨ (∃ a, NumsIn line wLimit [a] ∧ o = o4 a)
def PlainR (line : List UInt8) (r : Value) : Prop :=
  (∃ o, PlainO line o ∧ r = .tuple #[outV o zeroA, .bool true]) ∨ ((¬ ∃ o, PlainO line o) ∧ r = .tuple #[outV zeroO zeroA, .bool false])
/-- what is told of a word and its number of numbers -/
theorem NumbersR.case {N : Nat} {line w : List UInt8} {h' : Heap} {r : Value} (R : NumbersR N line w h' r) (hw : (32 : UInt8) ∉ w) (hl : line.length < 2 ^ 30) (k : Nat) :
    (∃ ns X x, ns.length = k ∧ NumsIn line w ns ∧ r = .tuple #[.slice X ns.length x, .bool true] ∧ RowAt h' X (ints ns)) ∨
    ((∀ ns, ns.length = k → ¬ NumsIn line w ns) ∧ ∃ b X n x, r = .tuple #[.slice X n x, .bool b] ∧ (b = false ∨ n ≠ k) ∧ n < 2 ^ 62) := by
  rcases R with ⟨ns, X, x, hN, rfl, S, own⟩ | ⟨hn, rfl⟩
  · by_cases e : ns.length = k
    · exact .inl ⟨ns, X, x, e, hN, rfl, S.row⟩
    · refine .inr ⟨fun ms hm g => e ?_, true, X, ns.length, x, rfl, .inr e, ?_⟩
      · rw [(NumsIn.uniq hw hw hN g).2, hm]
      · have h1 := splitOn_len 32 line
        rw [hN.split hw] at h1
        have := List.count_le_length (a := (32 : UInt8)) (l := line)
        simp only [List.length_cons, List.length_map] at h1
        omega
  · exact .inr ⟨fun ns _ g => hn ⟨ns, g⟩, false, none, 0, 0, rfl, .inl rfl, by omega⟩
@[go_sem ↓ high] theorem fill_where {x0 x1 x2 x3 x4 x5 x6 y7 y8 y9 d e f : Value} : fillA [(0, 1), (1, 1), (2, 2), (4, 1), (5, 1), (6, 1), (7, 3)] [x0, x1, x2, x3, x4, x5, x6, y7, y8, y9] [(6, .agg #[d, e, f])] = some #[x0, x1, x2, x3, x4, x5, x6, d, e, f] := rfl
theorem pick_false {b : Bool} {n k : Nat} (h : b = false ∨ n ≠ k) : b = false ∨ (b = true ∧ ((n : Int) = (k : Int)) = False) := by
  rcases h with h | h
  · exact .inl h
  · cases b
    · exact .inl rfl
    · refine .inr ⟨rfl, ?_⟩
      rw [eq_iff_iff, iff_false]; omega
theorem plain_ok (G : Glob h) (line : List UInt8) (hl : line.length < 2 ^ 30) :
    CallsH Tryz.prog 35 [S line] h fun r h' => PlainR line r ∧ Gr h h' := by
  refine calls_of 78 [.cell 2 31, .tmp 3] Go.Proofs.Tryz.func35 rfl rfl rfl ?_
  simp -implicitDefEqProofs (disch := first | omega | (simp only [push_size, hset_size]; done) | (simp only [push_size, hset_size]; omega)) [go_sem]
  obtain ⟨H, hH⟩ : ∃ H, H = h.push (.cells (outC zeroO zeroA).toArray 31) := ⟨_, rfl⟩
  have hH' := hH
  simp only [outC, zeroO, zeroA, List.length_nil] at hH'
  have f0 : Gr h H := by rw [hH]; exact (Fr.refl _ _).push
  have O0 : OutAt H h.size zeroO zeroA := by rw [hH]; exact OutAt.new
  have Z0 : ∀ o, hfrz H ⟨h.size, o, none⟩ = false := fun o => by rw [hH]; exact hfrz_push_new
  have hHs : H.size = h.size + 1 := by rw [hH, push_size]
  have G0 := G.gr f0
  clear hH
  refine useC (numbers_ok (G.gr (Fr.refl _ _).push) line wParse hl (by decide) (by decide)) ?_
  rintro _ h1 ⟨R1, f1⟩
  have f1 : Gr H h1 := by rw [hH']; exact f1
  clear hH'
  have f01 := f0.trans f1
  rcases R1.case (by decide) hl 3 with ⟨ns, X, x, hk, hN, rfl, RX⟩ | ⟨no3, b, X, n, x, rfl, hbn, hn⟩
  · match ns, hk with
    | [a, b, c], _ =>
      obtain ⟨bk, off, rfl, hc⟩ := RX.get (by simp [ints])
      have d0 := hc 0 _ rfl
      have d1 := hc 1 _ rfl
      have d2 := hc 2 _ rfl
      simp only [Nat.add_zero] at d0
      obtain ⟨c0, c1, c2, c3, c4, c5, c6, c7, c8, c9⟩ := O0.gr f1
      have Z1 : ∀ o, hfrz h1 ⟨h.size, o, none⟩ = false := fun o => (f1.frz (by omega) id).trans (Z0 o)
      simp -implicitDefEqProofs (disch := first | omega | (simp only [List.length_append, List.length_cons, List.length_nil]; omega)) [go_sem]
      refine drawK [(0, 0), (1, 0), (2, 1), (3, 0), (4, 0), (5, 1), (6, 0), (7, 0), (8, 1), (9, 0), (10, 3), (11, 0)] ?_
      simp -implicitDefEqProofs (disch := first | omega | (simp only [List.length_append, List.length_cons, List.length_nil]; omega)) [go_sem, d0, d1, d2, c0, c1, c2, c3, c4, c5, c6, c7, c8, c9, Z1, zeroO, zeroA]
      refine ⟨.inl ⟨o2 a b c, .inl ⟨a, b, c, hN, rfl⟩, rfl⟩, ?_⟩
      iterate 10 refine Fr.newA ?_ (by omega)
      exact f01
  · have hs1 := f1.size
    rcases pick_false (k := 3) hbn with rfl | ⟨rfl, e'⟩
    all_goals
      first
      | (have e3 : ((n : Int) = 3) = False := e'
         simp -implicitDefEqProofs (disch := first | omega | (simp only [List.length_append, List.length_cons, List.length_nil]; omega)) [go_sem, e3])
      | simp -implicitDefEqProofs (disch := first | omega | (simp only [List.length_append, List.length_cons, List.length_nil]; omega)) [go_sem]
      refine useC (numbers_ok (G.gr f01) line wInvalid hl (by decide) (by decide)) ?_
      rintro _ h2 ⟨R2, f2⟩
      have f02 := f01.trans f2
      have f12 := f1.trans f2
      rcases R2.case (by decide) hl 6 with ⟨ns, X, x, hk, hN, rfl, RX⟩ | ⟨no6, b6, X6, n6, x6, rfl, hbn6, hn6⟩
      · match ns, hk with
        | [a, b, c, d, e, f], _ =>
          obtain ⟨bk, off, rfl, hc⟩ := RX.get (by simp [ints])
          have d0 := hc 0 _ rfl
          have d1 := hc 1 _ rfl
          have d2 := hc 2 _ rfl
          have d3 := hc 3 _ rfl
          have d4 := hc 4 _ rfl
          have d5 := hc 5 _ rfl
          simp only [Nat.add_zero] at d0
          obtain ⟨c0, c1, c2, c3, c4, c5, c6, c7, c8, c9⟩ := O0.gr f12
          have Z1 : ∀ o, hfrz h2 ⟨h.size, o, none⟩ = false := fun o => (f12.frz (by omega) id).trans (Z0 o)
          simp -implicitDefEqProofs (disch := first | omega | (simp only [List.length_append, List.length_cons, List.length_nil]; omega)) [go_sem]
          refine drawK [(0, 0), (1, 0), (2, 1), (3, 0), (4, 0), (5, 1), (6, 0), (7, 0), (8, 1), (9, 0), (10, 0), (11, 1), (12, 0), (13, 0), (14, 1), (15, 0), (16, 0), (17, 1), (18, 0), (19, 0), (20, 3), (21, 0)] ?_
          simp -implicitDefEqProofs (disch := first | omega | (simp only [List.length_append, List.length_cons, List.length_nil]; omega)) [go_sem, d0, d1, d2, d3, d4, d5, c0, c1, c2, c3, c4, c5, c6, c7, c8, c9, Z1, zeroO, zeroA]
          refine ⟨.inl ⟨o3 a b c d e f, .inr (.inl ⟨a, b, c, d, e, f, hN, rfl⟩), rfl⟩, ?_⟩
          iterate 10 refine Fr.newA ?_ (by omega)
          exact f02
      · have hs2 := f2.size
        rcases pick_false (k := 6) hbn6 with rfl | ⟨rfl, e6⟩
        all_goals
          first
          | (have e3 : ((n6 : Int) = 6) = False := e6
             simp -implicitDefEqProofs (disch := first | omega | (simp only [List.length_append, List.length_cons, List.length_nil]; omega)) [go_sem, e3])
          | simp -implicitDefEqProofs (disch := first | omega | (simp only [List.length_append, List.length_cons, List.length_nil]; omega)) [go_sem]
          refine useC (numbers_ok (G.gr f02) line wLimit hl (by decide) (by decide)) ?_
          rintro _ h3 ⟨R3, f3⟩
          have f03 := f02.trans f3
          have f13 := f12.trans f3
          obtain ⟨c0, c1, c2, c3, c4, c5, c6, c7, c8, c9⟩ := O0.gr f13
          have Z1 : ∀ o, hfrz h3 ⟨h.size, o, none⟩ = false := fun o => (f13.frz (by omega) id).trans (Z0 o)
          rcases R3.case (by decide) hl 1 with ⟨ns, X, x, hk, hN, rfl, RX⟩ | ⟨no1, b1, X1, n1, x1, rfl, hbn1, hn1⟩
          · match ns, hk with
            | [a], _ =>
              obtain ⟨bk, off, rfl, hc⟩ := RX.get (by simp [ints])
              have d0 := hc 0 _ rfl
              simp only [Nat.add_zero] at d0
              simp -implicitDefEqProofs (disch := first | omega | (simp only [List.length_append, List.length_cons, List.length_nil]; omega)) [go_sem, d0, c0, c1, c2, c3, c4, c5, c6, c7, c8, c9, Z1, zeroO, zeroA]
              refine ⟨.inl ⟨o4 a, .inr (.inr ⟨a, hN, rfl⟩), rfl⟩, ?_⟩
              iterate 10 refine Fr.newA ?_ (by omega)
              exact f03
          · have hs3 := f3.size
            have none' : ¬ ∃ o, PlainO line o := by
              rintro ⟨o, ⟨a, b, c, hN, _⟩ | ⟨a, b, c, d, e, f, hN, _⟩ | ⟨a, hN, _⟩⟩
              · exact no3 _ rfl hN
              · exact no6 _ rfl hN
              · exact no1 _ rfl hN
            rcases pick_false (k := 1) hbn1 with rfl | ⟨rfl, e1⟩
            all_goals
              first
              | (have e3 : ((n1 : Int) = 1) = False := e1
                 simp -implicitDefEqProofs (disch := first | omega | (simp only [List.length_append, List.length_cons, List.length_nil]; omega)) [go_sem, e3, c0, c1, c2, c3, c4, c5, c6, c7, c8, c9, Z1, zeroO, zeroA])
              | simp -implicitDefEqProofs (disch := first | omega | (simp only [List.length_append, List.length_cons, List.length_nil]; omega)) [go_sem, c0, c1, c2, c3, c4, c5, c6, c7, c8, c9, Z1, zeroO, zeroA]
              refine ⟨.inr ⟨none', rfl⟩, ?_⟩
              iterate 10 refine Fr.newA ?_ (by omega)
              exact f03
end
end Xe

/- Reading a certificate's lines: what is told of it; its steps in memory. -/
namespace Xe
open Go Go.Proofs
set_option maxRecDepth 16000
set_option maxHeartbeats 2000000

/-- a certificate's lines -/
def stepL (s : StepS) : List UInt8 := wordT s.kind ++ numsT s.lits
def certL (c : CertS) : List (List UInt8) := (wCore ++ numsT c.core) :: c.steps.map stepL
theorem wordT_no {k : Int} : (32 : UInt8) ∉ wordT k := by
  unfold wordT
  split
  · decide
  · split <;> decide
theorem wordT_inj {a b : Int} (ha : 0 ≤ a ∧ a ≤ 2) (hb : 0 ≤ b ∧ b ≤ 2) (h : wordT a = wordT b) : a = b := by
  rcases (show a = 0 ∨ a = 1 ∨ a = 2 by omega) with rfl | rfl | rfl <;> rcases (show b = 0 ∨ b = 1 ∨ b = 2 by omega) with rfl | rfl | rfl <;> first | rfl | (exfalso; revert h; decide)
/-- a line is a step's -/
def StepIn (line : List UInt8) (s : StepS) : Prop := NumsIn line (wordT s.kind) s.lits ∧ StepOk s
theorem StepIn.uniq {line : List UInt8} {s t : StepS} (h : StepIn line s) (h' : StepIn line t) : s = t := by
  obtain ⟨e1, e2⟩ := NumsIn.uniq wordT_no wordT_no h.1 h'.1
  have := wordT_inj ⟨h.2.1, h.2.2.1⟩ ⟨h'.2.1, h'.2.2.1⟩ e1
  cases s; cases t; simp_all
theorem StepIn.of {s : StepS} (h : StepOk s) : StepIn (stepL s) s := ⟨⟨rfl, fun n hn => by have := lits_small h n hn; unfold I64; omega⟩, h⟩
/-- a certificate is that of lines -/
def CertIn (l : List (List UInt8)) (c : CertS) : Prop := CertOk c ∧ l = certL c
theorem core_in {line : List UInt8} {t : List (List UInt8)} {c : CertS} (h : CertIn (line :: t) c) : NumsIn line wCore c.core ∧ CertOk ⟨c.core, []⟩ := by
  obtain ⟨h1, h2⟩ := h
  simp only [certL, List.cons.injEq] at h2
  refine ⟨⟨h2.1, fun n hn => by have := core_all h1.2.2.1 n hn; unfold I64; omega⟩, h1.1, by simp, h1.2.2.1, fun k s hk => by simp at hk⟩
theorem step_in {l : List (List UInt8)} {c : CertS} (h : CertIn l c) {i : Nat} {line : List UInt8} (hi : l[i + 1]? = some line) : ∃ s, c.steps[i]? = some s ∧ StepIn line s := by
  obtain ⟨h1, h2⟩ := h
  rw [h2, certL, List.getElem?_cons_succ, List.getElem?_map, Option.map_eq_some_iff] at hi
  obtain ⟨s, hs, rfl⟩ := hi
  exact ⟨s, hs, .of (steps_all h1.2.2.2 s (List.mem_of_getElem? hs))⟩

/-- steps in a row of one's own -/
structure StW (h : Heap) (N : Nat) (P : Option Addr) (pc : Nat) (ss : List StepS) (vs : List Value) : Prop where
  S : SlAt h P (pc * 2) vs
  len : vs.length = ss.length * 2
  own : ∀ y, blk P y → N ≤ y
  at' : ∀ (i : Nat) s, ss[i]? = some s → ∃ A d, vs[i * 2]? = some (.int .i64 s.kind) ∧ vs[i * 2 + 1]? = some (.slice A s.lits.length d) ∧ RowAt h A (ints s.lits) ∧ s.lits.length ≤ d ∧ (∀ y, blk A y → y < h.size ∧ ¬ blk P y ∧ N ≤ y) ∧ s.lits.length < 2 ^ 40 ∧ I64 s.kind ∧ ∀ y ∈ s.lits, I64 y
theorem StW.nil {h : Heap} {N : Nat} : StW h N none 0 [] [] := ⟨SlAt.nil h, rfl, fun y ⟨a, ha, _⟩ => (nomatch ha), fun i s hs => by simp at hs⟩
theorem StW.gr {h h' : Heap} {N : Nat} {P : Option Addr} {pc : Nat} {ss : List StepS} {vs : List Value} (W : StW h N P pc ss vs) (f : Gr h h') : StW h' N P pc ss vs :=
  ⟨W.S.fr f fun _ _ => id, W.len, W.own, fun i s hs => by
    obtain ⟨A, d, h1, h2, h3, h4, h5, h6⟩ := W.at' i s hs
    exact ⟨A, d, h1, h2, h3.fr0 f, h4, fun y hy => ⟨Nat.lt_of_lt_of_le (h5 y hy).1 f.size, (h5 y hy).2⟩, h6⟩⟩
theorem StW.fr {U : Nat → Prop} {h h' : Heap} {N : Nat} {P : Option Addr} {pc : Nat} {ss : List StepS} {vs : List Value} (W : StW h N P pc ss vs) (f : Fr U h h') (hP : ∀ y, blk P y → ¬ U y) (hA : ∀ y, y < h.size → N ≤ y → ¬ blk P y → ¬ U y) : StW h' N P pc ss vs :=
  ⟨W.S.fr f hP, W.len, W.own, fun i s hs => by
    obtain ⟨A, d, h1, h2, h3, h4, h5, h6⟩ := W.at' i s hs
    exact ⟨A, d, h1, h2, h3.fr f fun y hy => hA y (h5 y hy).1 (h5 y hy).2.2 (h5 y hy).2.1, h4, fun y hy => ⟨Nat.lt_of_lt_of_le (h5 y hy).1 f.size, (h5 y hy).2⟩, h6⟩⟩
theorem StW.snoc {h h' : Heap} {N : Nat} {P P' : Option Addr} {pc pc' : Nat} {ss : List StepS} {vs : List Value} {s : StepS} {A : Option Addr} {d : Nat} (W : StW h N P pc ss vs)
    (S' : SlAt h' P' (pc' * 2) (vs ++ [.int .i64 s.kind, .slice A s.lits.length d])) (f : Fr (blk P) h h') (hP : ∀ y, blk P' y → blk P y ∨ h.size ≤ y) (hN : N ≤ h.size)
    (RA : RowAt h A (ints s.lits)) (hd : s.lits.length ≤ d) (hA : ∀ y, blk A y → y < h.size ∧ ¬ blk P y ∧ N ≤ y) (hl : s.lits.length < 2 ^ 40) (hk : I64 s.kind) (hi : ∀ y ∈ s.lits, I64 y) :
    StW h' N P' pc' (ss ++ [s]) (vs ++ [.int .i64 s.kind, .slice A s.lits.length d]) where
  S := S'
  len := by rw [List.length_append, List.length_append, W.len]; simp only [List.length_cons, List.length_nil]; omega
  own y hy := (hP y hy).elim (W.own y) fun h => by omega
  at' i t ht := by
    have hlen := W.len
    have old : ∀ y, y < h.size → ¬ blk P y → ¬ blk P' y := fun y h1 h2 h3 => (hP y h3).elim h2 fun h => by omega
    by_cases hi' : i < ss.length
    · rw [List.getElem?_append_left hi'] at ht
      obtain ⟨A1, d1, h1, h2, h3, h4, h5, h6⟩ := W.at' i t ht
      refine ⟨A1, d1, by rw [List.getElem?_append_left (by omega)]; exact h1, by rw [List.getElem?_append_left (by omega)]; exact h2, h3.fr f fun y hy => (h5 y hy).2.1, h4, fun y hy => ⟨Nat.lt_of_lt_of_le (h5 y hy).1 f.size, old y (h5 y hy).1 (h5 y hy).2.1, (h5 y hy).2.2⟩, h6⟩
    · have e : i = ss.length := by
        have := (List.getElem?_eq_some_iff.1 ht).1
        simp only [List.length_append, List.length_cons, List.length_nil] at this
        omega
      subst e
      rw [List.getElem?_append_right (Nat.le_refl _), Nat.sub_self] at ht
      simp only [List.getElem?_cons_zero, Option.some.injEq] at ht
      subst ht
      refine ⟨A, d, by rw [List.getElem?_append_right (by omega), show ss.length * 2 - vs.length = 0 by omega]; rfl, by rw [List.getElem?_append_right (by omega), show ss.length * 2 + 1 - vs.length = 1 by omega]; rfl, RA.fr f fun y hy => (hA y hy).2.1, hd, fun y hy => ⟨Nat.lt_of_lt_of_le (hA y hy).1 f.size, old y (hA y hy).1 (hA y hy).2.1, (hA y hy).2.2⟩, hl, hk, hi⟩
theorem StW.steps {h : Heap} {N : Nat} {P : Option Addr} {pc : Nat} {ss : List StepS} {vs : List Value} (W : StW h N P pc ss vs) : StepsR h P ss := ⟨fun i s hs => by
  obtain ⟨A, d, h1, h2, h3, h4, h5, h6⟩ := W.at' i s hs
  obtain ⟨bk, off, rfl, hc⟩ := W.S.row.get (by have := (List.getElem?_eq_some_iff.1 h1).1; omega)
  exact ⟨bk, off, A, d, rfl, hc _ _ h1, hc _ _ h2, h3, h4, h6⟩⟩
end Xe
