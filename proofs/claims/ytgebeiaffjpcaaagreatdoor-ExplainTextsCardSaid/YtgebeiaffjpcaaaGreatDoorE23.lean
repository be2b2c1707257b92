/- Outcomes: in memory; are two the same? -/
import Derived.Test.YtgebeiaffjpcaaaGreatDoorE12b
import Derived.Test.YtgebeiaffjpcaaaGreatDoorE17
namespace Xe
open Go Go.Proofs
set_option maxRecDepth 16000
set_option maxHeartbeats 1000000

structure Outc where
  kind : Int
  pins : List PinS
  cert : CertS
  text : Int
  at' : Int
  e : Int
  wp : Int
  wr : Int
  wd : Int
  deriving DecidableEq
/-- where an outcome's rows lie -/
structure OutA where
  A : Option Addr
  a : Nat
  B : Option Addr
  b : Nat
  C : Option Addr
  c : Nat
def outC (o : Outc) (P : OutA) : List Value := [.int .i64 o.kind, .slice P.A o.pins.length P.a, .slice P.B o.cert.core.length P.b, .slice P.C o.cert.steps.length P.c, .int .i64 o.text, .int .i64 o.at', .int .i64 o.e, .int .i64 o.wp, .int .i64 o.wr, .int .i64 o.wd]
def outV (o : Outc) (P : OutA) : Value := .agg (outC o P).toArray
structure OutcR (h : Heap) (o : Outc) (P : OutA) : Prop where
  pins : PinsR h P.A o.pins
  cert : CertR h o.cert P.B P.b P.C P.c
  lp : o.pins.length < 2 ^ 40
  cp : o.pins.length ≤ P.a
  ln : ∀ p ∈ o.pins, p.name.length < 2 ^ 40
  i1 : I64 o.kind
  i2 : I64 o.text
  i3 : I64 o.at'
  i4 : I64 o.e
  i5 : I64 o.wp
  i6 : I64 o.wr
  i7 : I64 o.wd
theorem OutcR.gr {h h' : Heap} {o : Outc} {P : OutA} (V : OutcR h o P) (f : Gr h h') : OutcR h' o P :=
  ⟨V.pins.gr f, V.cert.gr f, V.lp, V.cp, V.ln, V.i1, V.i2, V.i3, V.i4, V.i5, V.i6, V.i7⟩
/-- an outcome in a block of its own -/
structure OutAt (h : Heap) (b : Nat) (o : Outc) (P : OutA) : Prop where
  c0 : hcell h ⟨b, 0, none⟩ = some (.int .i64 o.kind)
  c1 : hcell h ⟨b, 1, none⟩ = some (.slice P.A o.pins.length P.a)
  c2 : hcell h ⟨b, 2, none⟩ = some (.slice P.B o.cert.core.length P.b)
  c3 : hcell h ⟨b, 3, none⟩ = some (.slice P.C o.cert.steps.length P.c)
  c4 : hcell h ⟨b, 4, none⟩ = some (.int .i64 o.text)
  c5 : hcell h ⟨b, 5, none⟩ = some (.int .i64 o.at')
  c6 : hcell h ⟨b, 6, none⟩ = some (.int .i64 o.e)
  c7 : hcell h ⟨b, 7, none⟩ = some (.int .i64 o.wp)
  c8 : hcell h ⟨b, 8, none⟩ = some (.int .i64 o.wr)
  c9 : hcell h ⟨b, 9, none⟩ = some (.int .i64 o.wd)
theorem OutAt.fr {U : Nat → Prop} {h h' : Heap} {b : Nat} {o : Outc} {P : OutA} (V : OutAt h b o P) (f : Fr U h h') (hu : ¬ U b) : OutAt h' b o P := by
  have g : ∀ {i v}, hcell h ⟨b, i, none⟩ = some v → hcell h' ⟨b, i, none⟩ = some v := fun hv => (f.cell (hcell_lt hv) hu).trans hv
  exact ⟨g V.c0, g V.c1, g V.c2, g V.c3, g V.c4, g V.c5, g V.c6, g V.c7, g V.c8, g V.c9⟩
theorem OutAt.gr {h h' : Heap} {b : Nat} {o : Outc} {P : OutA} (V : OutAt h b o P) (f : Gr h h') : OutAt h' b o P := V.fr f id
theorem OutAt.new {h : Heap} {o : Outc} {P : OutA} {t : Nat} : OutAt (h.push (.cells (outC o P).toArray t)) h.size o P :=
  ⟨hcell_push_lit, hcell_push_lit, hcell_push_lit, hcell_push_lit, hcell_push_lit, hcell_push_lit, hcell_push_lit, hcell_push_lit, hcell_push_lit, hcell_push_lit⟩

theorem eq3_ints {P : Program} {t : TypeId} (ht : intsT P t = some 3) {x y z x' y' z' : Int} : cmpV P .eql t (.agg #[.int .i64 x, .int .i64 y, .int .i64 z]) (.agg #[.int .i64 x', .int .i64 y', .int .i64 z']) =
    some (.bool (decide (x = x') && (decide (y = y') && decide (z = z')))) := by
  show (if intsT P t = some 3 ∧ 3 = 3 then (eqInts [.int .i64 x, .int .i64 y, .int .i64 z] [.int .i64 x', .int .i64 y', .int .i64 z']).map Value.bool else none) = _
  rw [ht]
  simp [eqInts]
@[go_sem] theorem eq_where {x y z x' y' z' : Int} : cmpV Tryz.prog .eql 29 (.agg #[.int .i64 x, .int .i64 y, .int .i64 z]) (.agg #[.int .i64 x', .int .i64 y', .int .i64 z']) =
    some (.bool (decide (x = x') && (decide (y = y') && decide (z = z')))) := eq3_ints (by kernel_rfl)
section
variable {h : Heap} {o o' : Outc} {P P' : OutA}
theorem out28_ok (V : OutcR h o P) (W : OutcR h o' P') : CallsH Tryz.prog 12 [outV o P, outV o' P'] h fun r h' => r = .bool (decide (o = o')) ∧ Gr h h' := by
  obtain ⟨H, hH⟩ : ∃ H, H = (h.push (.cells (outC o P).toArray 31)).push (.cells (outC o' P').toArray 31) := ⟨_, rfl⟩
  have f0 : Gr h H := by rw [hH]; exact (Fr.refl _ _).push.push
  have O1 : OutAt H h.size o P := by rw [hH]; exact OutAt.new.fr ((Fr.refl (fun _ => False) _).push) id
  have O2 : OutAt H (h.size + 1) o' P' := by rw [hH, show h.size + 1 = (h.push (.cells (outC o P).toArray 31)).size by rw [push_size]]; exact OutAt.new
  refine calls_of 52 [.tmp 4] Go.Proofs.Tryz.func12 rfl rfl rfl ?_
  obtain ⟨c0, c1, c2, c3, c4, c5, c6, c7, c8, c9⟩ := O1
  obtain ⟨d0, d1, d2, d3, d4, d5, d6, d7, d8, d9⟩ := O2
  simp only [outC] at hH
  unfold outV outC
  by_cases e1 : o.kind = o'.kind
  case neg =>
    have : ¬ o = o' := fun g => e1 (by rw [g])
    simp -implicitDefEqProofs (disch := first | omega | (simp only [push_size, hset_size]; done) | (simp only [push_size, hset_size]; omega)) [go_sem, e1, this]
    exact (Fr.refl _ _).push.push
  by_cases e2 : o.text = o'.text
  case neg =>
    have : ¬ o = o' := fun g => e2 (by rw [g])
    simp -implicitDefEqProofs (disch := first | omega | (simp only [push_size, hset_size]; done) | (simp only [push_size, hset_size]; omega)) [go_sem, e2, this]
    exact (Fr.refl _ _).push.push
  by_cases e3 : o.at' = o'.at'
  case neg =>
    have : ¬ o = o' := fun g => e3 (by rw [g])
    simp -implicitDefEqProofs (disch := first | omega | (simp only [push_size, hset_size]; done) | (simp only [push_size, hset_size]; omega)) [go_sem, e3, this]
    exact (Fr.refl _ _).push.push
  by_cases e4 : o.e = o'.e
  case neg =>
    have : ¬ o = o' := fun g => e4 (by rw [g])
    simp -implicitDefEqProofs (disch := first | omega | (simp only [push_size, hset_size]; done) | (simp only [push_size, hset_size]; omega)) [go_sem, e4, this]
    exact (Fr.refl _ _).push.push
  by_cases e5 : o.wp = o'.wp
  case neg =>
    have : ¬ o = o' := fun g => e5 (by rw [g])
    simp -implicitDefEqProofs (disch := first | omega | (simp only [push_size, hset_size]; done) | (simp only [push_size, hset_size]; omega)) [go_sem, e5, this]
    exact (Fr.refl _ _).push.push
  by_cases e6 : o.wr = o'.wr
  case neg =>
    have : ¬ o = o' := fun g => e6 (by rw [g])
    simp -implicitDefEqProofs (disch := first | omega | (simp only [push_size, hset_size]; done) | (simp only [push_size, hset_size]; omega)) [go_sem, e6, this]
    exact (Fr.refl _ _).push.push
  by_cases e7 : o.wd = o'.wd
  case neg =>
    have : ¬ o = o' := fun g => e7 (by rw [g])
    simp -implicitDefEqProofs (disch := first | omega | (simp only [push_size, hset_size]; done) | (simp only [push_size, hset_size]; omega)) [go_sem, e7, this]
    exact (Fr.refl _ _).push.push
  simp -implicitDefEqProofs (disch := first | omega | (simp only [push_size, hset_size]; done) | (simp only [push_size, hset_size]; omega)) [go_sem, e1, e2, e3, e4, e5, e6, e7]
  rw [e1, e2, e3, e4, e5, e6, e7] at hH
  rw [← hH]
  clear hH
  refine useC (pins28_ok (V.gr f0).pins (W.gr f0).pins rfl rfl V.lp W.lp) ?_
  rintro _ h2 ⟨rfl, f2⟩
  by_cases e8 : o.pins = o'.pins
  case neg =>
    have : ¬ o = o' := fun g => e8 (by rw [g])
    simp -implicitDefEqProofs (disch := first | omega | (simp only [push_size, hset_size]; done) | (simp only [push_size, hset_size]; omega)) [go_sem, e8, this]
    exact f0.trans f2
  have hs2 := f2.size
  obtain ⟨-, -, c2, c3, -⟩ := OutAt.gr ⟨c0, c1, c2, c3, c4, c5, c6, c7, c8, c9⟩ f2
  obtain ⟨-, -, d2, d3, -⟩ := OutAt.gr ⟨d0, d1, d2, d3, d4, d5, d6, d7, d8, d9⟩ f2
  simp -implicitDefEqProofs (disch := first | omega | (simp only [push_size, hset_size]; done) | (simp only [push_size, hset_size]; omega)) [go_sem, e8, c2, c3, d2, d3]
  refine useC (same23_ok ((V.gr f0).gr f2).cert ((W.gr f0).gr f2).cert) ?_
  rintro _ h3 ⟨rfl, f3⟩
  have : decide (o = o') = decide (o.cert = o'.cert) := by
    rw [Bool.eq_iff_iff, decide_eq_true_iff, decide_eq_true_iff]
    refine ⟨fun g => by rw [g], fun g => ?_⟩
    cases o; cases o'; simp_all
  simp -implicitDefEqProofs (disch := first | omega | (simp only [push_size, hset_size]; done) | (simp only [push_size, hset_size]; omega)) [go_sem, this]
  exact (f0.trans f2).trans f3
end
end Xe

/- Outcomes: what an outcome's kind leaves of it. -/
namespace Xe
open Go Go.Proofs
set_option maxRecDepth 16000
set_option maxHeartbeats 2000000

def blankO (o : Outc) : Outc :=
  { kind := o.kind, pins := if o.kind = 0 then o.pins else [], cert := if o.kind = 1 then o.cert else ⟨[], []⟩, text := if o.kind = 2 ∨ o.kind = 3 then o.text else 0, at' := if o.kind = 2 ∨ o.kind = 3 then o.at' else 0,
    e := if 2 ≤ o.kind then o.e else 0, wp := if o.kind = 3 then o.wp else 0, wr := if o.kind = 3 then o.wr else 0, wd := if o.kind = 3 then o.wd else 0 }
def blankA (k : Int) (P : OutA) : OutA :=
  { A := if k = 0 then P.A else none, a := if k = 0 then P.a else 0, B := if k = 1 then P.B else none, b := if k = 1 then P.b else 0, C := if k = 1 then P.C else none, c := if k = 1 then P.c else 0 }
def NumO (n : Int) : Prop := -1 ≤ n ∧ n ≤ 1099511627776
instance : DecidablePred NumO := fun x => by unfold NumO; exact inferInstance
def GoodO (o : Outc) : Prop := 0 ≤ o.kind ∧ o.kind ≤ 4 ∧ pinsOk o.pins = true ∧ CertOk o.cert ∧ NumO o.text ∧ NumO o.at' ∧ NumO o.e ∧ NumO o.wp ∧ NumO o.wr ∧ NumO o.wd ∧ o = blankO o

theorem i64_zero : I64 0 := by unfold I64; omega
theorem CertR.nil {h : Heap} {A B : Option Addr} : CertR h ⟨[], []⟩ A 0 B 0 := ⟨RowAt.nil, .nil, Nat.le_refl _, Nat.le_refl _, by show 0 < _; omega, by show 0 < _; omega, fun x hx => by simp at hx⟩
theorem OutcR.blank {h : Heap} {o : Outc} {P : OutA} (V : OutcR h o P) : OutcR h (blankO o) (blankA o.kind P) := by
  have z := i64_zero
  refine ⟨?_, ?_, ?_, ?_, ?_, V.i1, ?_, ?_, ?_, ?_, ?_, ?_⟩ <;> simp only [blankO, blankA]
  · split
    · exact V.pins
    · exact .nil
  · split
    · exact V.cert
    · exact .nil
  · split
    · exact V.lp
    · show 0 < _; omega
  · split
    · exact V.cp
    · exact Nat.le_refl _
  · split
    · exact V.ln
    · intro p hp; simp at hp
  · split; exact V.i2; exact z
  · split; exact V.i3; exact z
  · split; exact V.i4; exact z
  · split; exact V.i5; exact z
  · split; exact V.i6; exact z
  · split; exact V.i7; exact z

theorem Fr.newA {U : Nat → Prop} {a b : Heap} {bk o : Nat} {v : Value} (f : Fr U a b) (hs : a.size ≤ bk) : Fr U a (hset b ⟨bk, o, none⟩ v) := f.new hs
section
variable {h : Heap} {o o' : Outc} {P P' : OutA}
theorem blank_ok (h0 : 0 ≤ o.kind) (h4 : o.kind ≤ 4) : CallsH Tryz.prog 26 [outV o P] h fun r h' => r = outV (blankO o) (blankA o.kind P) ∧ Gr h h' := by
  obtain ⟨k, ps, ⟨co, ss⟩, tx, a, e, wp, wr, wd⟩ := o
  simp only at h0 h4 ⊢
  refine calls_of 50 [.cell 2 31] Go.Proofs.Tryz.func26 rfl rfl rfl ?_
  unfold outV outC
  have z1 : (h.size = h.size + 1) = False := by simp
  have z2 : (h.size = h.size + 1 + 1) = False := by rw [eq_iff_iff, iff_false]; omega
  have z3 : (h.size + 1 = h.size + 1 + 1) = False := by rw [eq_iff_iff, iff_false]; omega
  have z4 : (h.size + 1 = h.size) = False := by rw [eq_iff_iff, iff_false]; omega
  have z5 : (h.size + 1 + 1 = h.size) = False := by rw [eq_iff_iff, iff_false]; omega
  have z6 : (h.size + 1 + 1 = h.size + 1) = False := by rw [eq_iff_iff, iff_false]; omega
  rcases (show k = 0 ∨ k = 1 ∨ k = 2 ∨ k = 3 ∨ k = 4 by omega) with rfl | rfl | rfl | rfl | rfl
  · simp -implicitDefEqProofs (disch := first | omega | (simp only [push_size, hset_size]; done) | (simp only [push_size, hset_size]; omega)) [go_sem, z1, z2, z3, z4, z5, z6]
    refine ⟨by simp [blankO, blankA], ?_⟩
    iterate 21 refine Fr.newA ?_ (by omega)
    exact (Fr.refl _ _).push.push.push
  · simp -implicitDefEqProofs (disch := first | omega | (simp only [push_size, hset_size]; done) | (simp only [push_size, hset_size]; omega)) [go_sem, z1, z2, z3, z4, z5, z6]
    refine ⟨by simp [blankO, blankA], ?_⟩
    iterate 22 refine Fr.newA ?_ (by omega)
    exact (Fr.refl _ _).push.push.push
  · simp -implicitDefEqProofs (disch := first | omega | (simp only [push_size, hset_size]; done) | (simp only [push_size, hset_size]; omega)) [go_sem, z1, z2, z3, z4, z5, z6]
    refine drawC [(0, 0), (1, 1), (2, 0), (3, 2), (4, 0), (5, 2), (6, 0), (7, 3), (8, 0), (9, 3), (10, 0), (11, 4)] (fun h' => hcell h' ⟨h.size, 5, none⟩ = some (.int .i64 a) ∧ hcell h' ⟨h.size, 6, none⟩ = some (.int .i64 e)) (by simp -implicitDefEqProofs (disch := first | omega | (simp only [push_size, hset_size]; done) | (simp only [push_size, hset_size]; omega)) [go_sem, z1, z2, z3, z4, z5, z6]) ?_
    simp -implicitDefEqProofs (disch := first | omega | (simp only [push_size, hset_size]; done) | (simp only [push_size, hset_size]; omega)) [go_sem, z1, z2, z3, z4, z5, z6]
    refine float2 (.int .i64 a) (fun h' hC => by simp [go_sem, hC.1]) ?_
    simp -implicitDefEqProofs (disch := first | omega | (simp only [push_size, hset_size]; done) | (simp only [push_size, hset_size]; omega)) [go_sem, z1, z2, z3, z4, z5, z6]
    refine float2 (.int .i64 e) (fun h' hC => by simp [go_sem, hC.2]) ?_
    simp -implicitDefEqProofs (disch := first | omega | (simp only [push_size, hset_size]; done) | (simp only [push_size, hset_size]; omega)) [go_sem, z1, z2, z3, z4, z5, z6]
    refine ⟨by simp [blankO, blankA], ?_⟩
    iterate 23 refine Fr.newA ?_ (by omega)
    exact (Fr.refl _ _).push.push.push
  · simp -implicitDefEqProofs (disch := first | omega | (simp only [push_size, hset_size]; done) | (simp only [push_size, hset_size]; omega)) [go_sem, z1, z2, z3, z4, z5, z6]
    refine drawC [(0, 0), (1, 1), (2, 0), (3, 2), (4, 0), (5, 2), (6, 0), (7, 3), (8, 0), (9, 3), (10, 0), (11, 4)] (fun h' => hcell h' ⟨h.size, 5, none⟩ = some (.int .i64 a) ∧ hcell h' ⟨h.size, 6, none⟩ = some (.int .i64 e)) (by simp -implicitDefEqProofs (disch := first | omega | (simp only [push_size, hset_size]; done) | (simp only [push_size, hset_size]; omega)) [go_sem, z1, z2, z3, z4, z5, z6]) ?_
    simp -implicitDefEqProofs (disch := first | omega | (simp only [push_size, hset_size]; done) | (simp only [push_size, hset_size]; omega)) [go_sem, z1, z2, z3, z4, z5, z6]
    refine float2 (.int .i64 a) (fun h' hC => by simp [go_sem, hC.1]) ?_
    simp -implicitDefEqProofs (disch := first | omega | (simp only [push_size, hset_size]; done) | (simp only [push_size, hset_size]; omega)) [go_sem, z1, z2, z3, z4, z5, z6]
    refine float2 (.int .i64 e) (fun h' hC => by simp [go_sem, hC.2]) ?_
    simp -implicitDefEqProofs (disch := first | omega | (simp only [push_size, hset_size]; done) | (simp only [push_size, hset_size]; omega)) [go_sem, z1, z2, z3, z4, z5, z6]
    refine ⟨by simp [blankO, blankA], ?_⟩
    iterate 26 refine Fr.newA ?_ (by omega)
    exact (Fr.refl _ _).push.push.push
  · simp -implicitDefEqProofs (disch := first | omega | (simp only [push_size, hset_size]; done) | (simp only [push_size, hset_size]; omega)) [go_sem, z1, z2, z3, z4, z5, z6]
    refine ⟨by simp [blankO, blankA], ?_⟩
    iterate 21 refine Fr.newA ?_ (by omega)
    exact (Fr.refl _ _).push.push.push
end
end Xe

/- Outcomes: the parts of what makes one right. -/
namespace Xe
open Go Go.Proofs
set_option maxRecDepth 16000
set_option maxHeartbeats 2000000

/-- what the program compares -/
def SameP (o o' : Outc) : Prop := o.text = o'.text ∧ o.at' = o'.at' ∧ o.e = o'.e ∧ (o.wp = o'.wp ∧ o.wr = o'.wr ∧ o.wd = o'.wd) ∧ o.pins.length = o'.pins.length ∧ o.cert.core.length = o'.cert.core.length ∧ o.cert.steps.length = o'.cert.steps.length
theorem same_blank (o : Outc) : SameP o (blankO o) ↔ o = blankO o := by
  constructor
  · rintro ⟨h1, h2, h3, ⟨h4, h5, h6⟩, h7, h8, h9⟩
    have p : o.pins = (blankO o).pins := by
      unfold blankO at h7 ⊢
      simp only at h7 ⊢
      split
      · rfl
      · rename_i hk; rw [if_neg hk] at h7; exact List.length_eq_zero_iff.1 h7
    have c : o.cert = (blankO o).cert := by
      unfold blankO at h8 h9 ⊢
      simp only at h8 h9 ⊢
      split
      · rfl
      · rename_i hk
        rw [if_neg hk] at h8 h9
        have e1 := List.length_eq_zero_iff.1 h8
        have e2 := List.length_eq_zero_iff.1 h9
        rw [← e1, ← e2]
    have k : o.kind = (blankO o).kind := rfl
    have ext : ∀ {x y : Outc}, x.kind = y.kind → x.pins = y.pins → x.cert = y.cert → x.text = y.text → x.at' = y.at' → x.e = y.e → x.wp = y.wp → x.wr = y.wr → x.wd = y.wd → x = y := by
      intro x y; cases x; cases y; simp only; intros; subst_vars; rfl
    exact ext k p c h1 h2 h3 h4 h5 h6
  · intro h
    exact ⟨congrArg Outc.text h, congrArg Outc.at' h, congrArg Outc.e h, ⟨congrArg Outc.wp h, congrArg Outc.wr h, congrArg Outc.wd h⟩, congrArg (fun x => x.pins.length) h, congrArg (fun x => x.cert.core.length) h, congrArg (fun x => x.cert.steps.length) h⟩

section
variable {h : Heap} {o o' : Outc} {P P' : OutA}

theorem same_ok (h1 : o.pins.length < 2 ^ 40) (h2 : o.cert.core.length < 2 ^ 40) (h3 : o.cert.steps.length < 2 ^ 40) (h1' : o'.pins.length < 2 ^ 40) (h2' : o'.cert.core.length < 2 ^ 40) (h3' : o'.cert.steps.length < 2 ^ 40) :
    CallsH Tryz.prog 25 [outV o P, outV o' P'] h fun r h' => Tells (SameP o o') r ∧ Gr h h' := by
  refine calls_of 62 [.tmp 4] Go.Proofs.Tryz.func25 rfl rfl rfl ?_
  unfold outV outC
  by_cases e1 : o.text = o'.text
  case neg =>
    simp -implicitDefEqProofs (disch := first | omega | (simp only [push_size, hset_size]; done) | (simp only [push_size, hset_size]; omega)) [go_sem, e1]
    exact ⟨.no fun g => e1 g.1, (Fr.refl _ _).push.push⟩
  by_cases e2 : o.at' = o'.at'
  case neg =>
    simp -implicitDefEqProofs (disch := first | omega | (simp only [push_size, hset_size]; done) | (simp only [push_size, hset_size]; omega)) [go_sem, e1, e2]
    exact ⟨.no fun g => e2 g.2.1, (Fr.refl _ _).push.push⟩
  by_cases e3 : o.e = o'.e
  case neg =>
    simp -implicitDefEqProofs (disch := first | omega | (simp only [push_size, hset_size]; done) | (simp only [push_size, hset_size]; omega)) [go_sem, e1, e2, e3]
    exact ⟨.no fun g => e3 g.2.2.1, (Fr.refl _ _).push.push⟩
  by_cases e4 : o.wp = o'.wp
  case neg =>
    simp -implicitDefEqProofs (disch := first | omega | (simp only [push_size, hset_size]; done) | (simp only [push_size, hset_size]; omega)) [go_sem, e1, e2, e3, e4]
    exact ⟨.no fun g => e4 g.2.2.2.1.1, (Fr.refl _ _).push.push⟩
  by_cases e5 : o.wr = o'.wr
  case neg =>
    simp -implicitDefEqProofs (disch := first | omega | (simp only [push_size, hset_size]; done) | (simp only [push_size, hset_size]; omega)) [go_sem, e1, e2, e3, e4, e5]
    exact ⟨.no fun g => e5 g.2.2.2.1.2.1, (Fr.refl _ _).push.push⟩
  by_cases e6 : o.wd = o'.wd
  case neg =>
    simp -implicitDefEqProofs (disch := first | omega | (simp only [push_size, hset_size]; done) | (simp only [push_size, hset_size]; omega)) [go_sem, e1, e2, e3, e4, e5, e6]
    exact ⟨.no fun g => e6 g.2.2.2.1.2.2, (Fr.refl _ _).push.push⟩
  by_cases e7 : o.pins.length = o'.pins.length
  case neg =>
    simp -implicitDefEqProofs (disch := first | omega | (simp only [push_size, hset_size]; done) | (simp only [push_size, hset_size]; omega)) [go_sem, e1, e2, e3, e4, e5, e6, e7]
    exact ⟨.no fun g => e7 g.2.2.2.2.1, (Fr.refl _ _).push.push⟩
  by_cases e8 : o.cert.core.length = o'.cert.core.length
  case neg =>
    simp -implicitDefEqProofs (disch := first | omega | (simp only [push_size, hset_size]; done) | (simp only [push_size, hset_size]; omega)) [go_sem, e1, e2, e3, e4, e5, e6, e7, e8]
    exact ⟨.no fun g => e8 g.2.2.2.2.2.1, (Fr.refl _ _).push.push⟩
  by_cases e9 : o.cert.steps.length = o'.cert.steps.length
  case neg =>
    simp -implicitDefEqProofs (disch := first | omega | (simp only [push_size, hset_size]; done) | (simp only [push_size, hset_size]; omega)) [go_sem, e1, e2, e3, e4, e5, e6, e7, e8, e9]
    exact ⟨.no fun g => e9 g.2.2.2.2.2.2, (Fr.refl _ _).push.push⟩
  simp -implicitDefEqProofs (disch := first | omega | (simp only [push_size, hset_size]; done) | (simp only [push_size, hset_size]; omega)) [go_sem, e1, e2, e3, e4, e5, e6, e7, e8, e9]
  exact ⟨.yes ⟨e1, e2, e3, ⟨e4, e5, e6⟩, e7, e8, e9⟩, (Fr.refl _ _).push.push⟩
theorem num29_ok (n : Int) : CallsH Tryz.prog 18 [.int .i64 n] h fun r h' => r = .bool (decide (NumO n)) ∧ h' = h := by
  refine calls_of 9 [.tmp 2] Go.Proofs.Tryz.func18 rfl rfl rfl ?_
  by_cases h1 : -1 ≤ n
  · by_cases h2 : n ≤ 1099511627776
    · have : NumO n := ⟨h1, h2⟩
      simp -implicitDefEqProofs (disch := first | omega | (simp only [push_size, hset_size]; done) | (simp only [push_size, hset_size]; omega)) [go_sem, this]
    · have : ¬ NumO n := fun g => h2 g.2
      simp -implicitDefEqProofs (disch := first | omega | (simp only [push_size, hset_size]; done) | (simp only [push_size, hset_size]; omega)) [go_sem, this]
  · have : ¬ NumO n := fun g => h1 g.1
    simp -implicitDefEqProofs (disch := first | omega | (simp only [push_size, hset_size]; done) | (simp only [push_size, hset_size]; omega)) [go_sem, this]
theorem badNum_ok (n : Int) : CallsH Tryz.prog 28 [.int .i64 n] h fun r h' => r = .bool (!decide (NumO n)) ∧ h' = h := by
  refine calls_of 9 [.tmp 2] Go.Proofs.Tryz.func28 rfl rfl rfl ?_
  by_cases h1 : -1 ≤ n
  · by_cases h2 : n ≤ 1099511627776
    · have : NumO n := ⟨h1, h2⟩
      simp -implicitDefEqProofs (disch := first | omega | (simp only [push_size, hset_size]; done) | (simp only [push_size, hset_size]; omega)) [go_sem, this]
    · have : ¬ NumO n := fun g => h2 g.2
      simp -implicitDefEqProofs (disch := first | omega | (simp only [push_size, hset_size]; done) | (simp only [push_size, hset_size]; omega)) [go_sem, this]
  · have : ¬ NumO n := fun g => h1 g.1
    simp -implicitDefEqProofs (disch := first | omega | (simp only [push_size, hset_size]; done) | (simp only [push_size, hset_size]; omega)) [go_sem, this]
def NumsTo (l : List Int) (i : Nat) : Prop := ∀ (k : Nat) x, k < i → l[k]? = some x → NumO x
theorem badNums_ok {A : Option Addr} {n a : Nat} {l : List Int} (R : RowAt h A (ints l)) (hn : n = l.length) (hl : n < 2 ^ 40) :
    CallsH Tryz.prog 55 [.slice A n a, .func (.func 28) #[] #[]] h fun r h' => (∃ i : Int, r = .int .i64 i ∧ (i < 0 ↔ NumsTo l l.length)) ∧ h' = h := by
  subst hn
  refine calls_of 19 [.tmp 4] Go.Proofs.Tryz.func55 rfl rfl rfl ?_
  simp -implicitDefEqProofs (disch := first | omega | (simp only [push_size, hset_size]; done) | (simp only [push_size, hset_size]; omega)) [go_sem]
  refine loopK (fun ρ h' => ρ 0 = .slice A l.length a ∧ ρ 1 = .func (.func 28) #[] #[] ∧ ρ 7 = .int .i64 l.length ∧ h' = h ∧ ∃ i : Nat, ρ 8 = .int .i64 i ∧ i ≤ l.length ∧ NumsTo l i) (fun ρ _ => l.length - (intOf (ρ 8)).toNat) (by kernel_rfl) ?_ ?_
  · exact ⟨rfl, rfl, rfl, rfl, 0, rfl, by omega, fun k x hk => by omega⟩
  rintro ρ h1 ⟨r0, r1, r7, rfl, i, r8, hi, I⟩
  by_cases hin : i < l.length
  · obtain ⟨x, hx⟩ : ∃ s, l[i]? = some s := ⟨_, List.getElem?_eq_getElem hin⟩
    obtain ⟨bk, off, rfl, hc⟩ := R.get (by rw [ints_len]; omega)
    have c0 := hc _ _ (ints_at hx)
    simp -implicitDefEqProofs (disch := first | omega | (simp only [push_size, hset_size]; done) | (simp only [push_size, hset_size]; omega)) [go_sem, r0, r1, r7, r8, c0]
    refine useC (badNum_ok x) ?_
    rintro _ h2 ⟨rfl, rfl⟩
    by_cases hN : NumO x
    · simp -implicitDefEqProofs (disch := first | omega | (simp only [push_size, hset_size]; done) | (simp only [push_size, hset_size]; omega)) [go_sem, r0, r1, r7, r8, hN]
      refine ⟨⟨i + 1, by omega, by omega, fun k y hk hy => ?_⟩, by omega⟩
      by_cases e : k = i
      · subst e; rw [hx] at hy; cases hy; exact hN
      · exact I k y (by omega) hy
    · simp -implicitDefEqProofs (disch := first | omega | (simp only [push_size, hset_size]; done) | (simp only [push_size, hset_size]; omega)) [go_sem, r0, r1, r7, r8, hN]
      exact ⟨fun g => by omega, fun g => absurd (g i x hin hx) hN⟩
  · have e : i = l.length := by omega
    subst e
    simp -implicitDefEqProofs (disch := first | omega | (simp only [push_size, hset_size]; done) | (simp only [push_size, hset_size]; omega)) [go_sem, r0, r1, r7, r8]
    exact I
theorem anyBadNum_ok {A : Option Addr} {n a : Nat} {l : List Int} (R : RowAt h A (ints l)) (hn : n = l.length) (hl : n < 2 ^ 40) :
    CallsH Tryz.prog 27 [.slice A n a, .func (.func 28) #[] #[]] h fun r h' => Tells (¬ NumsTo l l.length) r ∧ h' = h := by
  refine calls_of 9 [.tmp 4] Go.Proofs.Tryz.func27 rfl rfl rfl ?_
  simp -implicitDefEqProofs (disch := first | omega | (simp only [push_size, hset_size]; done) | (simp only [push_size, hset_size]; omega)) [go_sem]
  refine useC (badNums_ok R hn hl) ?_
  rintro _ h2 ⟨⟨i, rfl, hi⟩, rfl⟩
  simp -implicitDefEqProofs (disch := first | omega | (simp only [push_size, hset_size]; done) | (simp only [push_size, hset_size]; omega)) [go_sem]
  refine ⟨_, rfl, ?_⟩
  rw [decide_eq_true_iff, ← hi]
  omega
end
end Xe

/- Which outcomes are right. -/
namespace Xe
open Go Go.Proofs
set_option maxRecDepth 16000
set_option maxHeartbeats 2000000

/-- a slice of six numbers, fresh -/
theorem buildI6 {h : Heap} {e : TypeId} {bt : Nat} {w a b c d f g : Int} {k : Value → Heap → Prop}
    (hk : k (.slice (some ⟨h.size, 0, none⟩) 6 6) (h.push (.cells #[.int .i64 a, .int .i64 b, .int .i64 c, .int .i64 d, .int .i64 f, .int .i64 g] e))) :
    @buildSliceK (some (e, 1, bt, .int .i64 w)) 6 [(0, .int .i64 a), (1, .int .i64 b), (2, .int .i64 c), (3, .int .i64 d), (4, .int .i64 f), (5, .int .i64 g)] ⟨h⟩ ⟨k⟩ := by
  refine ⟨by omega, #[.int .i64 a, .int .i64 b, .int .i64 c, .int .i64 d, .int .i64 f, .int .i64 g], ?_, hk⟩
  have hz : (zerosOf (Value.int .i64 w).cells (6 * 1)).size = 6 := by simp [zerosOf]
  obtain ⟨L, hL⟩ : ∃ L, zerosOf (Value.int .i64 w).cells (6 * 1) = ⟨L⟩ := ⟨_, rfl⟩
  rw [hL] at hz ⊢
  match L, hz with
  | [p, q, r, s, t, u], _ => simp [Instr.fill, Value.cells, List.zipIdx]
theorem buildI3 {h : Heap} {e : TypeId} {bt : Nat} {w a b c : Int} {k : Value → Heap → Prop}
    (hk : k (.slice (some ⟨h.size, 0, none⟩) 3 3) (h.push (.cells #[.int .i64 a, .int .i64 b, .int .i64 c] e))) :
    @buildSliceK (some (e, 1, bt, .int .i64 w)) 3 [(0, .int .i64 a), (1, .int .i64 b), (2, .int .i64 c)] ⟨h⟩ ⟨k⟩ := by
  refine ⟨by omega, #[.int .i64 a, .int .i64 b, .int .i64 c], ?_, hk⟩
  have hz : (zerosOf (Value.int .i64 w).cells (3 * 1)).size = 3 := by simp [zerosOf]
  obtain ⟨L, hL⟩ : ∃ L, zerosOf (Value.int .i64 w).cells (3 * 1) = ⟨L⟩ := ⟨_, rfl⟩
  rw [hL] at hz ⊢
  match L, hz with
  | [p, q, r], _ => simp [Instr.fill, Value.cells, List.zipIdx]
theorem buildI1 {h : Heap} {e : TypeId} {bt : Nat} {w a : Int} {k : Value → Heap → Prop}
    (hk : k (.slice (some ⟨h.size, 0, none⟩) 1 1) (h.push (.cells #[.int .i64 a] e))) :
    @buildSliceK (some (e, 1, bt, .int .i64 w)) 1 [(0, .int .i64 a)] ⟨h⟩ ⟨k⟩ := by
  refine ⟨by omega, #[.int .i64 a], ?_, hk⟩
  have hz : (zerosOf (Value.int .i64 w).cells (1 * 1)).size = 1 := by simp [zerosOf]
  obtain ⟨L, hL⟩ : ∃ L, zerosOf (Value.int .i64 w).cells (1 * 1) = ⟨L⟩ := ⟨_, rfl⟩
  rw [hL] at hz ⊢
  match L, hz with
  | [p], _ => simp [Instr.fill, Value.cells, List.zipIdx]
section
variable {h : Heap} {o o' : Outc} {P P' : OutA}
theorem nums_six {x1 x2 x3 x4 x5 x6 : Int} : NumsTo [x1, x2, x3, x4, x5, x6] [x1, x2, x3, x4, x5, x6].length ↔ NumO x1 ∧ NumO x2 ∧ NumO x3 ∧ NumO x4 ∧ NumO x5 ∧ NumO x6 := by
  constructor
  · intro g
    exact ⟨g 0 _ (by simp) rfl, g 1 _ (by simp) rfl, g 2 _ (by simp) rfl, g 3 _ (by simp) rfl, g 4 _ (by simp) rfl, g 5 _ (by simp) rfl⟩
  · rintro ⟨g1, g2, g3, g4, g5, g6⟩ k x hk hx
    simp only [List.length_cons, List.length_nil] at hk
    rcases (show k = 0 ∨ k = 1 ∨ k = 2 ∨ k = 3 ∨ k = 4 ∨ k = 5 by omega) with rfl | rfl | rfl | rfl | rfl | rfl <;> simp at hx <;> subst hx <;> assumption
theorem goodP29_ok (V : OutcR h o P) : CallsH Tryz.prog 9 [outV o P] h fun r h' => Tells (GoodO o) r ∧ Gr h h' := by
  obtain ⟨H, hH⟩ : ∃ H, H = h.push (.cells (outC o P).toArray 31) := ⟨_, rfl⟩
  have f0 : Gr h H := by rw [hH]; exact (Fr.refl _ _).push
  have O0 : OutAt H h.size o P := by rw [hH]; exact OutAt.new
  have hHs : H.size = h.size + 1 := by rw [hH, push_size]
  simp only [outC] at hH
  refine calls_of 56 [.tmp 2] Go.Proofs.Tryz.func9 rfl rfl rfl ?_
  unfold outV outC
  simp -implicitDefEqProofs (disch := first | omega | (simp only [push_size, hset_size]; done) | (simp only [push_size, hset_size]; omega)) [go_sem]
  rw [← hH]
  clear hH
  refine useC (pinsM_ok (V.gr f0).pins rfl V.lp V.ln) ?_
  rintro _ h1 ⟨⟨ea, ee, rfl, he⟩, f1⟩
  obtain ⟨c0, c1, c2, c3, c4, c5, c6, c7, c8, c9⟩ := O0.gr f1
  have hs1 := f1.size
  simp -implicitDefEqProofs (disch := first | omega | (simp only [push_size, hset_size]; done) | (simp only [push_size, hset_size]; omega)) [go_sem, c4, c5, c6, c7, c8, c9]
  refine buildI6 ?_
  obtain ⟨H2, hH2⟩ : ∃ H2, H2 = h1.push (.cells #[.int .i64 o.text, .int .i64 o.at', .int .i64 o.e, .int .i64 o.wp, .int .i64 o.wr, .int .i64 o.wd] 3) := ⟨_, rfl⟩
  have R6 : RowAt H2 (some ⟨h1.size, 0, none⟩) (ints [o.text, o.at', o.e, o.wp, o.wr, o.wd]) := by rw [hH2]; exact (SlAt.new (vs := ints [o.text, o.at', o.e, o.wp, o.wr, o.wd])).row
  have q1 : Gr h1 H2 := by rw [hH2]; exact (Fr.refl _ _).push
  have hH2s : H2.size = h1.size + 1 := by rw [hH2, push_size]
  rw [← hH2]
  clear hH2
  obtain ⟨c0, c1, c2, c3, c4, c5, c6, c7, c8, c9⟩ := O0.gr (f1.trans q1)
  have f02 : Gr h H2 := f0.trans (f1.trans q1)
  simp -implicitDefEqProofs (disch := first | omega | (simp only [push_size, hset_size]; done) | (simp only [push_size, hset_size]; omega)) [go_sem]
  refine drawC [(0, 0), (1, 1), (2, 0), (3, 0), (4, 0), (5, 1), (6, 0), (7, 0), (8, 0), (9, 0), (10, 0), (11, 0), (12, 0), (13, 0), (14, 1), (15, 3), (16, 0), (17, 0), (18, 2), (19, 1), (20, 3), (21, 3), (22, 0), (23, 0), (24, 0), (25, 3), (26, 0), (27, 0), (28, 0)] (fun h' => Gr H2 h') (Fr.refl _ _) ?_
  by_cases k0 : 0 ≤ o.kind
  case neg =>
    simp -implicitDefEqProofs (disch := first | omega | (simp only [push_size, hset_size]; done) | (simp only [push_size, hset_size]; omega)) [go_sem, c0]
    exact ⟨.no fun g => k0 g.1, f02⟩
  by_cases k4 : o.kind ≤ 4
  case neg =>
    simp -implicitDefEqProofs (disch := first | omega | (simp only [push_size, hset_size]; done) | (simp only [push_size, hset_size]; omega)) [go_sem, c0]
    exact ⟨.no fun g => k4 g.2.1, f02⟩
  by_cases hp : ee = 0
  case neg =>
    simp -implicitDefEqProofs (disch := first | omega | (simp only [push_size, hset_size]; done) | (simp only [push_size, hset_size]; omega)) [go_sem, c0, hp]
    exact ⟨.no fun g => hp (he.2 g.2.2.1), f02⟩
  subst hp
  have hpk := he.1 rfl
  simp -implicitDefEqProofs (disch := first | omega | (simp only [push_size, hset_size]; done) | (simp only [push_size, hset_size]; omega)) [go_sem, c0, c2, c3]
  refine useC (goodCert_ok (V.gr f02).cert) ?_
  rintro _ h3 ⟨⟨b, rfl, hb⟩, f3⟩
  refine ⟨f3, ?_⟩
  cases b with
  | false =>
    simp -implicitDefEqProofs (disch := first | omega | (simp only [push_size, hset_size]; done) | (simp only [push_size, hset_size]; omega)) [go_sem]
    exact ⟨.no fun g => (by cases hb.2 g.2.2.2.1), f02.trans f3⟩
  | true =>
    have hck := hb.1 rfl
    have hs3 := f3.size
    obtain ⟨d0, d1, d2, d3, d4, d5, d6, d7, d8, d9⟩ := O0.gr ((f1.trans q1).trans f3)
    simp -implicitDefEqProofs (disch := first | omega | (simp only [push_size, hset_size]; done) | (simp only [push_size, hset_size]; omega)) [go_sem]
    refine float2g (outV o P) (by rfl) (fun h' hC => by
      obtain ⟨c0, c1, c2, c3, c4, c5, c6, c7, c8, c9⟩ := O0.gr ((f1.trans q1).trans hC)
      simp -implicitDefEqProofs (disch := first | omega | (simp only [push_size, hset_size]; done) | (simp only [push_size, hset_size]; omega)) [go_sem, c0, c1, c2, c3, c4, c5, c6, c7, c8, c9, outV, outC]) ?_
    simp -implicitDefEqProofs (disch := first | omega | (simp only [push_size, hset_size]; done) | (simp only [push_size, hset_size]; omega)) [go_sem, d0, d1, d2, d3, d4, d5, d6, d7, d8, d9]
    refine useC (blank_ok (o := o) (P := P) k0 k4) ?_
    rintro _ h4 ⟨rfl, f4⟩
    refine ⟨f3.trans f4, ?_⟩
    simp -implicitDefEqProofs (disch := first | omega | (simp only [push_size, hset_size]; done) | (simp only [push_size, hset_size]; omega)) [go_sem]
    have W := V.blank
    refine useC (same_ok V.lp V.cert.la V.cert.lb W.lp W.cert.la W.cert.lb) ?_
    rintro _ h5 ⟨⟨b, rfl, hb5⟩, f5⟩
    have f35 := f3.trans (f4.trans f5)
    refine ⟨f35, ?_⟩
    rw [same_blank] at hb5
    cases b with
    | false =>
      simp -implicitDefEqProofs (disch := first | omega | (simp only [push_size, hset_size]; done) | (simp only [push_size, hset_size]; omega)) [go_sem]
      exact ⟨.no fun g => (by cases hb5.2 g.2.2.2.2.2.2.2.2.2.2), f02.trans f35⟩
    | true =>
      have hbl := hb5.1 rfl
      simp -implicitDefEqProofs (disch := first | omega | (simp only [push_size, hset_size]; done) | (simp only [push_size, hset_size]; omega)) [go_sem]
      refine useC (anyBadNum_ok (R6.fr0 f35) rfl (by simp)) ?_
      rintro _ h6 ⟨⟨b, rfl, hb6⟩, rfl⟩
      rw [nums_six] at hb6
      refine ⟨f35, ?_⟩
      simp -implicitDefEqProofs (disch := first | omega | (simp only [push_size, hset_size]; done) | (simp only [push_size, hset_size]; omega)) [go_sem]
      refine ⟨⟨_, rfl, ?_⟩, f02.trans f35⟩
      cases b with
      | true => exact ⟨fun g => (by cases g), fun g => absurd ⟨g.2.2.2.2.1, g.2.2.2.2.2.1, g.2.2.2.2.2.2.1, g.2.2.2.2.2.2.2.1, g.2.2.2.2.2.2.2.2.1, g.2.2.2.2.2.2.2.2.2.1⟩ (hb6.1 rfl)⟩
      | false =>
        have hN := Classical.byContradiction fun g => by cases hb6.2 g
        exact ⟨fun _ => ⟨k0, k4, hpk, hck, hN.1, hN.2.1, hN.2.2.1, hN.2.2.2.1, hN.2.2.2.2.1, hN.2.2.2.2.2, hbl⟩, fun _ => rfl⟩
end
end Xe

/- Which outcomes are right, by the document. -/
namespace Xe
open Go Go.Proofs
set_option maxRecDepth 16000
set_option maxHeartbeats 2000000

section
variable {h : Heap} {o o' : Outc} {P P' : OutA}
theorem good29_ok (V : OutcR h o P) : CallsH Tryz.prog 7 [outV o P] h fun r h' => Tells (GoodO o) r ∧ Gr h h' := by
  obtain ⟨H, hH⟩ : ∃ H, H = h.push (.cells (outC o P).toArray 31) := ⟨_, rfl⟩
  have f0 : Gr h H := by rw [hH]; exact (Fr.refl _ _).push
  have O0 : OutAt H h.size o P := by rw [hH]; exact OutAt.new
  have hHs : H.size = h.size + 1 := by rw [hH, push_size]
  simp only [outC] at hH
  refine calls_of 111 [.tmp 2] Go.Proofs.Tryz.func7 rfl rfl rfl ?_
  unfold outV outC
  simp -implicitDefEqProofs (disch := first | omega | (simp only [push_size, hset_size]; done) | (simp only [push_size, hset_size]; omega)) [go_sem]
  rw [← hH]
  clear hH
  refine useC (rpins09_ok (V.gr f0).pins rfl V.lp V.ln) ?_
  rintro _ h1 ⟨⟨ea, ee, rfl, he⟩, f1⟩
  obtain ⟨c0, c1, c2, c3, c4, c5, c6, c7, c8, c9⟩ := O0.gr f1
  have hs1 := f1.size
  have f01 := f0.trans f1
  by_cases k0 : 0 ≤ o.kind
  case neg =>
    simp -implicitDefEqProofs (disch := first | omega | (simp only [push_size, hset_size]; done) | (simp only [push_size, hset_size]; omega)) [go_sem, c0]
    exact ⟨.no fun g => k0 g.1, f01⟩
  by_cases k4 : o.kind ≤ 4
  case neg =>
    simp -implicitDefEqProofs (disch := first | omega | (simp only [push_size, hset_size]; done) | (simp only [push_size, hset_size]; omega)) [go_sem, c0]
    exact ⟨.no fun g => k4 g.2.1, f01⟩
  by_cases hp : ee = 0
  case neg =>
    simp -implicitDefEqProofs (disch := first | omega | (simp only [push_size, hset_size]; done) | (simp only [push_size, hset_size]; omega)) [go_sem, c0, hp]
    exact ⟨.no fun g => hp (he.2 g.2.2.1), f01⟩
  subst hp
  have hpk := he.1 rfl
  simp -implicitDefEqProofs (disch := first | omega | (simp only [push_size, hset_size]; done) | (simp only [push_size, hset_size]; omega)) [go_sem, c0, c2, c3]
  refine useC (good23_ok (V.gr f01).cert) ?_
  rintro _ h3 ⟨⟨b, rfl, hb⟩, f3⟩
  cases b with
  | false =>
    simp -implicitDefEqProofs (disch := first | omega | (simp only [push_size, hset_size]; done) | (simp only [push_size, hset_size]; omega)) [go_sem]
    exact ⟨.no fun g => (by cases hb.2 g.2.2.2.1), f01.trans f3⟩
  | true =>
    have hck := hb.1 rfl
    have hs3 := f3.size
    have f03 := f01.trans f3
    clear c0 c1 c2 c3 c4 c5 c6 c7 c8 c9
    obtain ⟨c0, c1, c2, c3, c4, c5, c6, c7, c8, c9⟩ := O0.gr (f1.trans f3)
    simp -implicitDefEqProofs (disch := first | omega | (simp only [push_size, hset_size]; done) | (simp only [push_size, hset_size]; omega)) [go_sem, c4]
    refine useC (num29_ok o.text) ?_
    rintro _ h' ⟨rfl, rfl⟩
    by_cases n1 : NumO o.text
    case neg =>
      simp -implicitDefEqProofs (disch := first | omega | (simp only [push_size, hset_size]; done) | (simp only [push_size, hset_size]; omega)) [go_sem, n1]
      exact ⟨.no fun g => n1 g.2.2.2.2.1, f03⟩
    simp -implicitDefEqProofs (disch := first | omega | (simp only [push_size, hset_size]; done) | (simp only [push_size, hset_size]; omega)) [go_sem, n1, c5]
    refine useC (num29_ok o.at') ?_
    rintro _ h' ⟨rfl, rfl⟩
    by_cases n2 : NumO o.at'
    case neg =>
      simp -implicitDefEqProofs (disch := first | omega | (simp only [push_size, hset_size]; done) | (simp only [push_size, hset_size]; omega)) [go_sem, n2]
      exact ⟨.no fun g => n2 g.2.2.2.2.2.1, f03⟩
    simp -implicitDefEqProofs (disch := first | omega | (simp only [push_size, hset_size]; done) | (simp only [push_size, hset_size]; omega)) [go_sem, n2, c6]
    refine useC (num29_ok o.e) ?_
    rintro _ h' ⟨rfl, rfl⟩
    by_cases n3 : NumO o.e
    case neg =>
      simp -implicitDefEqProofs (disch := first | omega | (simp only [push_size, hset_size]; done) | (simp only [push_size, hset_size]; omega)) [go_sem, n3]
      exact ⟨.no fun g => n3 g.2.2.2.2.2.2.1, f03⟩
    simp -implicitDefEqProofs (disch := first | omega | (simp only [push_size, hset_size]; done) | (simp only [push_size, hset_size]; omega)) [go_sem, n3, c7]
    refine useC (num29_ok o.wp) ?_
    rintro _ h' ⟨rfl, rfl⟩
    by_cases n4 : NumO o.wp
    case neg =>
      simp -implicitDefEqProofs (disch := first | omega | (simp only [push_size, hset_size]; done) | (simp only [push_size, hset_size]; omega)) [go_sem, n4]
      exact ⟨.no fun g => n4 g.2.2.2.2.2.2.2.1, f03⟩
    simp -implicitDefEqProofs (disch := first | omega | (simp only [push_size, hset_size]; done) | (simp only [push_size, hset_size]; omega)) [go_sem, n4, c8]
    refine useC (num29_ok o.wr) ?_
    rintro _ h' ⟨rfl, rfl⟩
    by_cases n5 : NumO o.wr
    case neg =>
      simp -implicitDefEqProofs (disch := first | omega | (simp only [push_size, hset_size]; done) | (simp only [push_size, hset_size]; omega)) [go_sem, n5]
      exact ⟨.no fun g => n5 g.2.2.2.2.2.2.2.2.1, f03⟩
    simp -implicitDefEqProofs (disch := first | omega | (simp only [push_size, hset_size]; done) | (simp only [push_size, hset_size]; omega)) [go_sem, n5, c9]
    refine useC (num29_ok o.wd) ?_
    rintro _ h' ⟨rfl, rfl⟩
    by_cases n6 : NumO o.wd
    case neg =>
      simp -implicitDefEqProofs (disch := first | omega | (simp only [push_size, hset_size]; done) | (simp only [push_size, hset_size]; omega)) [go_sem, n6]
      exact ⟨.no fun g => n6 g.2.2.2.2.2.2.2.2.2.1, f03⟩
    have fin : ∀ {r : Value} {h' : Heap}, r = .bool (decide (o = blankO o)) → Gr h h' → Tells (GoodO o) r ∧ Gr h h' := fun e f => ⟨⟨_, e, by
      rw [decide_eq_true_iff]
      exact ⟨fun g => ⟨k0, k4, hpk, hck, n1, n2, n3, n4, n5, n6, g⟩, fun g => g.2.2.2.2.2.2.2.2.2.2⟩⟩, f⟩
    have key : ∀ Hk, Gr h Hk → CallsH Tryz.prog 12 [outV o P, outV (blankO o) (blankA o.kind P)] Hk fun r h' => r = .bool (decide (o = blankO o)) ∧ Gr Hk h' := fun Hk f => out28_ok (V.gr f) (V.blank.gr f)
    have hHs1 : h.size < h'.size := by omega
    have z1 : (h.size = h'.size) = False := by rw [eq_iff_iff, iff_false]; omega
    have z2 : (h'.size = h.size) = False := by rw [eq_iff_iff, iff_false]; omega
    simp -implicitDefEqProofs (disch := first | omega | (simp only [push_size, hset_size]; done) | (simp only [push_size, hset_size]; omega)) [go_sem, n6, c0]
    clear he hb
    obtain ⟨k, ps, ⟨co, ss⟩, tx, a, e, wp, wr, wd⟩ := o
    simp only at k0 k4 c0 c1 c2 c3 c4 c5 c6 c7 c8 c9
    rcases (show k = 0 ∨ k = 1 ∨ k = 2 ∨ k = 3 ∨ k = 4 by omega) with rfl | rfl | rfl | rfl | rfl
    · simp -implicitDefEqProofs (disch := first | omega | (simp only [push_size, hset_size]; done) | (simp only [push_size, hset_size]; omega)) [go_sem, z1, z2, c0, c1, c2, c3, c4, c5, c6, c7, c8, c9]
      refine useC (key _ ?_) ?_
      · iterate 1 refine Fr.newA ?_ (by omega)
        exact f03.push
      · rintro _ h6 ⟨rfl, f6⟩
        simp -implicitDefEqProofs (disch := first | omega | (simp only [push_size, hset_size]; done) | (simp only [push_size, hset_size]; omega)) [go_sem]
        refine fin rfl (Fr.trans ?_ f6)
        iterate 1 refine Fr.newA ?_ (by omega)
        exact f03.push
    · simp -implicitDefEqProofs (disch := first | omega | (simp only [push_size, hset_size]; done) | (simp only [push_size, hset_size]; omega)) [go_sem, z1, z2, c0, c1, c2, c3, c4, c5, c6, c7, c8, c9]
      refine useC (key _ ?_) ?_
      · iterate 2 refine Fr.newA ?_ (by omega)
        exact f03.push
      · rintro _ h6 ⟨rfl, f6⟩
        simp -implicitDefEqProofs (disch := first | omega | (simp only [push_size, hset_size]; done) | (simp only [push_size, hset_size]; omega)) [go_sem]
        refine fin rfl (Fr.trans ?_ f6)
        iterate 2 refine Fr.newA ?_ (by omega)
        exact f03.push
    · simp -implicitDefEqProofs (disch := first | omega | (simp only [push_size, hset_size]; done) | (simp only [push_size, hset_size]; omega)) [go_sem, z1, z2, c0, c1, c2, c3, c4, c5, c6, c7, c8, c9]
      refine useC (key _ ?_) ?_
      · iterate 3 refine Fr.newA ?_ (by omega)
        exact f03.push
      · rintro _ h6 ⟨rfl, f6⟩
        simp -implicitDefEqProofs (disch := first | omega | (simp only [push_size, hset_size]; done) | (simp only [push_size, hset_size]; omega)) [go_sem]
        refine fin rfl (Fr.trans ?_ f6)
        iterate 3 refine Fr.newA ?_ (by omega)
        exact f03.push
    · simp -implicitDefEqProofs (disch := first | omega | (simp only [push_size, hset_size]; done) | (simp only [push_size, hset_size]; omega)) [go_sem, z1, z2, c0, c1, c2, c3, c4, c5, c6, c7, c8, c9]
      refine useC (key _ ?_) ?_
      · iterate 6 refine Fr.newA ?_ (by omega)
        exact f03.push
      · rintro _ h6 ⟨rfl, f6⟩
        simp -implicitDefEqProofs (disch := first | omega | (simp only [push_size, hset_size]; done) | (simp only [push_size, hset_size]; omega)) [go_sem]
        refine fin rfl (Fr.trans ?_ f6)
        iterate 6 refine Fr.newA ?_ (by omega)
        exact f03.push
    · simp -implicitDefEqProofs (disch := first | omega | (simp only [push_size, hset_size]; done) | (simp only [push_size, hset_size]; omega)) [go_sem, z1, z2, c0, c1, c2, c3, c4, c5, c6, c7, c8, c9]
      refine useC (key _ ?_) ?_
      · iterate 1 refine Fr.newA ?_ (by omega)
        exact f03.push
      · rintro _ h6 ⟨rfl, f6⟩
        simp -implicitDefEqProofs (disch := first | omega | (simp only [push_size, hset_size]; done) | (simp only [push_size, hset_size]; omega)) [go_sem]
        refine fin rfl (Fr.trans ?_ f6)
        iterate 1 refine Fr.newA ?_ (by omega)
        exact f03.push
end
end Xe

/- Lines of a word and numbers. -/
namespace Xe
open Go Go.Proofs
set_option maxRecDepth 16000
set_option maxHeartbeats 2000000

def numsT (l : List Int) : List UInt8 := (l.map fun n => 32 :: Lib.itoa n).flatten
def rowT (w : List UInt8) (l : List Int) : List UInt8 := w ++ (numsT l ++ [10])
theorem itoa_len {n : Int} (h : I64 n) : (Lib.itoa n).length ≤ 21 := by
  unfold I64 at h
  unfold Lib.itoa
  split
  · have := decDigits_le (u := n.natAbs) (by omega)
    simp only [List.length_cons]; omega
  · have := decDigits_le (u := n.toNat) (by omega)
    omega
theorem numsT_step {l : List Int} {i : Nat} {x : Int} (hx : l[i]? = some x) : numsT (l.take (i + 1)) = numsT (l.take i) ++ 32 :: Lib.itoa x := by
  unfold numsT
  rw [List.take_add_one, hx, List.map_append, List.flatten_append]
  simp
theorem numsT_len {l : List Int} (h : ∀ x ∈ l, I64 x) : (numsT l).length ≤ 22 * l.length := by
  induction l with
  | nil => simp [numsT]
  | cons x l ih =>
    have h1 := itoa_len (h x (List.mem_cons_self ..))
    have h2 := ih fun y hy => h y (List.mem_cons_of_mem _ hy)
    unfold numsT at h2 ⊢
    simp only [List.map_cons, List.flatten_cons, List.length_append, List.length_cons]
    omega
theorem numsT_take_len {l : List Int} (h : ∀ x ∈ l, I64 x) {i : Nat} : (numsT (l.take i)).length ≤ 22 * l.length := by
  have h1 := numsT_len (l := l.take i) fun x hx => h x (List.mem_of_mem_take hx)
  rw [List.length_take] at h1
  omega
theorem rowT_len {w : List UInt8} {l : List Int} (h : ∀ x ∈ l, I64 x) : (rowT w l).length ≤ w.length + 22 * l.length + 1 := by
  have h1 := numsT_len h
  unfold rowT
  simp only [List.length_append, List.length_cons, List.length_nil]
  omega

section
variable {h : Heap} {A : Option Addr} {n c : Nat} {l : List Int}
theorem rowP_ok (G : Glob h) (R : RowAt h A (ints l)) (hn : n = l.length) (hl : n < 2 ^ 40) (hi : ∀ x ∈ l, I64 x) (w : List UInt8) (hw : w.length < 2 ^ 40) :
    CallsH Tryz.prog 20 [S w, .slice A n c] h fun r h' => r = S (rowT w l) ∧ Gr h h' := by
  subst hn
  refine calls_of 21 [.tmp 4] Go.Proofs.Tryz.func20 rfl rfl rfl ?_
  simp -implicitDefEqProofs (disch := first | omega | (simp only [push_size, hset_size]; done) | (simp only [push_size, hset_size]; omega)) [go_sem]
  refine loopK (fun ρ h' => ρ 7 = .slice A l.length c ∧ ρ 8 = .int .i64 l.length ∧ Gr h h' ∧ ∃ i : Nat, ρ 9 = .int .i64 i ∧ i ≤ l.length ∧ ρ 0 = S (w ++ numsT (l.take i))) (fun ρ _ => l.length - (intOf (ρ 9)).toNat) (by kernel_rfl) ?_ ?_
  · exact ⟨rfl, rfl, Fr.refl _ _, 0, rfl, by omega, by simp [numsT, put]; rfl⟩
  rintro ρ h1 ⟨r7, r8, f1, i, r9, hi', r0⟩
  have hT := numsT_take_len hi (i := i)
  by_cases hil : i < l.length
  · obtain ⟨x, hx⟩ : ∃ x, l[i]? = some x := ⟨_, List.getElem?_eq_getElem hil⟩
    obtain ⟨bk, off, rfl, hc⟩ := (R.fr0 f1).get (by rw [ints_len]; omega)
    have c0 := hc _ _ (ints_at hx)
    have hx2 := hi x (List.mem_of_getElem? hx)
    have hil2 := itoa_len hx2
    simp -implicitDefEqProofs (disch := first | omega | (simp only [push_size, hset_size]; done) | (simp only [push_size, hset_size]; omega)) [go_sem, r7, r8, r9, r0, c0]
    refine useC (itoa_ok (G.gr f1) x hx2.1 hx2.2) ?_
    rintro _ h2 ⟨rfl, f2⟩
    simp -implicitDefEqProofs (disch := first | omega | (simp only [List.length_append, List.length_cons, List.length_nil]; omega)) [go_sem, r7, r8, r9, r0]
    refine ⟨⟨f1.trans f2, i + 1, by omega, by omega, ?_⟩, by omega⟩
    rw [numsT_step hx]
  · have e : i = l.length := by omega
    subst e
    rw [List.take_length] at r0 hT
    simp -implicitDefEqProofs (disch := first | omega | (simp only [List.length_append, List.length_cons, List.length_nil]; omega)) [go_sem, r7, r8, r9, r0]
    exact ⟨by simp [rowT], f1⟩
theorem dec29_ok (n : Int) (h0 : -9223372036854775807 ≤ n) (h1 : n ≤ 9223372036854775807) : CallsH Tryz.prog 57 [.int .i64 n] h fun r h' => r = S (Lib.itoa n) ∧ Gr h h' := by
  refine calls_of 13 [.tmp 2] Go.Proofs.Tryz.func57 rfl rfl rfl ?_
  by_cases hn : n < 0
  · have e : Lib.itoa n = 45 :: Lib.decDigits n.natAbs := if_pos hn
    have hd := decDigits_le (u := n.natAbs) (by omega)
    obtain ⟨m, rfl⟩ : ∃ m : Nat, n = -(m : Int) := ⟨n.natAbs, by omega⟩
    have e2 : (-(m : Int)).natAbs = m := by omega
    rw [e2] at e hd
    have e3 : 0 - -(m : Int) = (m : Int) := by omega
    simp -implicitDefEqProofs (disch := first | omega | (simp only [push_size, hset_size]; done) | (simp only [push_size, hset_size]; omega)) [go_sem, e3]
    refine useC (rtext01_ok m (by omega)) ?_
    rintro _ h2 ⟨rfl, f2⟩
    simp -implicitDefEqProofs (disch := first | omega | (simp only [List.length_append, List.length_cons, List.length_nil]; omega)) [go_sem, e]
    exact f2
  · have e : Lib.itoa n = Lib.decDigits n.toNat := if_neg hn
    obtain ⟨m, rfl⟩ : ∃ m : Nat, n = (m : Int) := ⟨n.toNat, by omega⟩
    rw [Int.toNat_natCast] at e
    simp -implicitDefEqProofs (disch := first | omega | (simp only [push_size, hset_size]; done) | (simp only [push_size, hset_size]; omega)) [go_sem]
    refine useC (rtext01_ok m (by omega)) ?_
    rintro _ h2 ⟨rfl, f2⟩
    simp -implicitDefEqProofs (disch := first | omega | (simp only [push_size, hset_size]; done) | (simp only [push_size, hset_size]; omega)) [go_sem, e]
    exact f2
theorem row29_ok (R : RowAt h A (ints l)) (hn : n = l.length) (hl : n < 2 ^ 40) (hi : ∀ x ∈ l, -9223372036854775807 ≤ x ∧ x ≤ 9223372036854775807) (w : List UInt8) (hw : w.length < 2 ^ 40) :
    CallsH Tryz.prog 30 [S w, .slice A n c] h fun r h' => r = S (rowT w l) ∧ Gr h h' := by
  have hI : ∀ x ∈ l, I64 x := fun x hx => ⟨by have := (hi x hx).1; omega, (hi x hx).2⟩
  subst hn
  refine calls_of 22 [.tmp 4] Go.Proofs.Tryz.func30 rfl rfl rfl ?_
  simp -implicitDefEqProofs (disch := first | omega | (simp only [push_size, hset_size]; done) | (simp only [push_size, hset_size]; omega)) [go_sem]
  refine loopK (fun ρ h' => ρ 1 = .slice A l.length c ∧ Gr h h' ∧ ∃ i : Nat, ρ 5 = .int .i64 i ∧ i ≤ l.length ∧ ρ 0 = S (w ++ numsT (l.take i))) (fun ρ _ => l.length - (intOf (ρ 5)).toNat) (by kernel_rfl) ?_ ?_
  · exact ⟨rfl, Fr.refl _ _, 0, rfl, by omega, by simp [numsT, put]; rfl⟩
  rintro ρ h1 ⟨r1, f1, i, r5, hi', r0⟩
  have hT := numsT_take_len hI (i := i)
  by_cases hil : i < l.length
  · obtain ⟨x, hx⟩ : ∃ x, l[i]? = some x := ⟨_, List.getElem?_eq_getElem hil⟩
    obtain ⟨bk, off, rfl, hc⟩ := (R.fr0 f1).get (by rw [ints_len]; omega)
    have c0 := hc _ _ (ints_at hx)
    have hx2 := hi x (List.mem_of_getElem? hx)
    have hil2 := itoa_len (hI x (List.mem_of_getElem? hx))
    simp -implicitDefEqProofs (disch := first | omega | (simp only [List.length_append, List.length_cons, List.length_nil]; omega)) [go_sem, r1, r5, r0, c0]
    refine useC (dec29_ok x hx2.1 hx2.2) ?_
    rintro _ h2 ⟨rfl, f2⟩
    simp -implicitDefEqProofs (disch := first | omega | (simp only [List.length_append, List.length_cons, List.length_nil]; omega)) [go_sem, r1, r5, r0]
    refine ⟨⟨f1.trans f2, i + 1, by omega, by omega, ?_⟩, by omega⟩
    rw [numsT_step hx]
  · have e : i = l.length := by omega
    subst e
    rw [List.take_length] at r0 hT
    simp -implicitDefEqProofs (disch := first | omega | (simp only [List.length_append, List.length_cons, List.length_nil]; omega)) [go_sem, r1, r5, r0]
    exact ⟨by simp [rowT], f1⟩
end
end Xe
