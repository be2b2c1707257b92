/- TrailLevels. -/
import Derived.Test.YtkghjecglmmloaaT16h
namespace Xe
open Go Tp Go.Proofs
set_option maxRecDepth 16000

section
variable {h : Heap}

/-- a trail of the law's own -/
structure Some16 (h0 h : Heap) (b vars : Nat) : Prop where
  ex : ∃ O l level, TrailOk h b O vars l level ∧ ∀ y, O y → h0.size ≤ y
  fr : Fr (fun _ => False) h0 h
theorem some_mk {h0 h1 h2 : Heap} {b vars level' : Nat} {O O' : Nat → Prop} {l' : List St} (fr : Fr (fun _ => False) h0 h1) (hO : ∀ y, O y → h0.size ≤ y) (T : TrailOk h2 b O' vars l' level') (nx : Nx O O' h1 h2) : Some16 h0 h2 b vars :=
  ⟨⟨O', l', level', T, fun y hy => (nx.own y hy).elim (hO y) fun h => Nat.le_trans fr.size h⟩, fr.trans' nx.fr fun y hy ho => by have := hO y ho; omega⟩

theorem tr_neg {vars : Nat} {l : List St} (G : Good vars l) {k : Nat} {s : St} (hs : l[k]? = some s) : trI l s.lit = 1 ∧ trI l (-s.lit) = -1 := by
  have hr := G.rng s (List.mem_of_getElem? hs)
  refine ⟨?_, ?_⟩
  · rw [tr_at G hs rfl, if_pos rfl]
  · rw [tr_at G hs (by omega), if_neg (by omega)]

theorem tlevels_walk (a0 : Int) (w0 : -9223372036854775808 ≤ a0 ∧ a0 ≤ 9223372036854775807) (A : Option Addr) (m c : Nat) (R : Act3 h A m) :
    CallsH Try.prog 7 [.int .i64 a0, .slice A m c] h fun r h' => r = .bool true ∧ Fr (fun _ => False) h h' := by
  have hms := R.small
  refine calls_of 140 [.tmp 4] Go.Proofs.Try.func7 rfl rfl rfl (by kernel_rfl) (Nat.le_of_ble_eq_true rfl) ?_
  simp -implicitDefEqProofs (disch := omega) [go_sem]
  refine useC awake16 ?_
  rintro _ h1 ⟨rfl, fr1⟩
  by_cases hm : 40 < m
  · simp -implicitDefEqProofs (disch := omega) [go_sem]
    exact fr1
  by_cases hv1 : 60 < a0
  · simp -implicitDefEqProofs (disch := omega) [go_sem]
    exact fr1
  by_cases hv2 : a0 < 0
  · simp -implicitDefEqProofs (disch := omega) [go_sem]
    exact fr1
  simp -implicitDefEqProofs (disch := omega) [go_sem]
  refine useC (tnew_ok w0.1 w0.2) ?_
  rintro _ h2 (⟨hneg, rfl, rfl⟩ | ⟨vars, b, rfl, hv, rfl, O, T, nx⟩)
  · omega
  simp -implicitDefEqProofs (disch := omega) [go_sem]
  have P0 : Some16 h h2 b vars := some_mk (O := fun _ => False) fr1 (fun _ h => h.elim) T nx
  refine loopK (fun ρ h' => ρ 1 = .slice A m c ∧ ρ 5 = .pointer (some ⟨b, 0, none⟩) ∧ (∃ i : Nat, ρ 6 = .int .i64 i ∧ i ≤ m) ∧ Some16 h h' b vars)
    (fun ρ _ => m - (intOf (ρ 6)).toNat) (by kernel_rfl) ?_ ?_
  · exact ⟨rfl, rfl, ⟨0, rfl, by omega⟩, P0⟩
  · clear P0 T nx
    rintro ρ h3 ⟨r1, r5, ⟨i, r6, hi⟩, ⟨⟨O, l, level, T, hO⟩, fr⟩⟩
    by_cases him : i = m
    · subst him
      have hvv := T.hv
      have hln := T.len
      simp -implicitDefEqProofs (disch := omega) [go_sem, r1, r5, r6]
      refine useC (tlits_ok T) ?_
      rintro _ h4 ⟨B, d, rfl, S, own, f4⟩
      have T4 := T.fr0 f4
      simp -implicitDefEqProofs (disch := omega) [go_sem, r1, r5, r6]
      refine loopK (fun ρ h' => ρ 5 = .pointer (some ⟨b, 0, none⟩) ∧ ρ 8 = .slice B l.length d ∧ h' = h4 ∧ ∃ i : Nat, ρ 9 = .int .i64 i ∧ i ≤ l.length ∧ ρ 7 = .int .i64 (lastLv (l.take i) : Nat))
        (fun ρ _ => l.length - (intOf (ρ 9)).toNat) (by kernel_rfl) ?_ ?_
      · exact ⟨r5, rfl, rfl, 0, rfl, by omega, rfl⟩
      · clear r1 r5 r6
        rintro ρ h5 ⟨r5, r8, rfl, i, r9, hi, r7⟩
        by_cases hin : i < l.length
        · obtain ⟨s, hs⟩ : ∃ s, l[i]? = some s := ⟨_, List.getElem?_eq_getElem hin⟩
          obtain ⟨bk2, off2, rfl, hc2⟩ := S.row.get (by rw [ints_len]; unfold lits; rw [List.length_map]; omega)
          have c1 := hc2 i _ (ints_at (show (lits l)[i]? = some s.lit by unfold lits; rw [List.getElem?_map, hs]; rfl))
          have hrg := T.good.rng s (List.mem_of_getElem? hs)
          have tl := T.lv s (List.mem_of_getElem? hs)
          have ev : var12 s.lit = s.lit.natAbs := if_pos (by omega)
          obtain ⟨g1, g2, g3⟩ := T.lvs.at i s hs
          have t1 : LVi l (s.lit.natAbs : Int) = s.lv := by unfold LVi; rw [if_neg (by omega), Int.toNat_natCast, T.good.lv hs]
          have t2 : PLi l (s.lit.natAbs : Int) = i := by unfold PLi; rw [if_neg (by omega), Int.toNat_natCast, T.good.pl hs]
          have t3 : RSi l (s.lit.natAbs : Int) = s.rs := by unfold RSi; rw [if_neg (by omega), Int.toNat_natCast, T.good.rs hs]
          obtain ⟨q1, q2⟩ := tr_neg T.good hs
          have htk : lastLv (l.take (i + 1)) = s.lv := by rw [List.take_add_one, hs]; simp [lastLv]
          simp -implicitDefEqProofs (disch := omega) [go_sem, r5, r7, r8, r9, c1]
          refine useC (var12_ok (x := s.lit) (by omega) (by omega)) ?_
          rintro _ h6 ⟨rfl, rfl⟩
          simp -implicitDefEqProofs (disch := omega) [go_sem, r5, r7, r8, r9, ev]
          have cl := tlevelOf_ok T4 (v := (s.lit.natAbs : Int)) (by omega) (by omega)
          have cr := treason_ok T4 (v := (s.lit.natAbs : Int)) (by omega) (by omega)
          have cp := tplace_ok T4 (v := (s.lit.natAbs : Int)) (by omega) (by omega)
          have ct := ttruth_ok T4 (x := s.lit) (by omega) (by omega)
          have cn := ttruth_ok T4 (x := -s.lit) (by omega) (by omega)
          rw [t1] at cl
          rw [t2] at cp
          rw [t3] at cr
          rw [q1] at ct
          rw [q2] at cn
          refine useC cl ?_
          rintro _ h6 ⟨rfl, rfl⟩
          by_cases hlt : lastLv (l.take i) < s.lv
          · have hrs := g3 hlt
            simp -implicitDefEqProofs (disch := omega) [go_sem, r5, r7, r8, r9]
            refine useC cr ?_
            rintro _ h6 ⟨rfl, rfl⟩
            simp -implicitDefEqProofs (disch := omega) [go_sem, r5, r7, r8, r9, hrs]
            refine useC cp ?_
            rintro _ h6 ⟨rfl, rfl⟩
            simp -implicitDefEqProofs (disch := omega) [go_sem, r5, r7, r8, r9, c1]
            refine useC ct ?_
            rintro _ h6 ⟨rfl, rfl⟩
            simp -implicitDefEqProofs (disch := omega) [go_sem, r5, r7, r8, r9, c1]
            refine useC cn ?_
            rintro _ h6 ⟨rfl, rfl⟩
            simp -implicitDefEqProofs (disch := omega) [go_sem, r5, r7, r8, r9, c1]
            exact ⟨⟨i + 1, by omega, by omega, by rw [htk]⟩, by omega⟩
          · simp -implicitDefEqProofs (disch := omega) [go_sem, r5, r7, r8, r9]
            refine useC cp ?_
            rintro _ h6 ⟨rfl, rfl⟩
            simp -implicitDefEqProofs (disch := omega) [go_sem, r5, r7, r8, r9, c1]
            refine useC ct ?_
            rintro _ h6 ⟨rfl, rfl⟩
            simp -implicitDefEqProofs (disch := omega) [go_sem, r5, r7, r8, r9, c1]
            refine useC cn ?_
            rintro _ h6 ⟨rfl, rfl⟩
            simp -implicitDefEqProofs (disch := omega) [go_sem, r5, r7, r8, r9, c1]
            exact ⟨⟨i + 1, by omega, by omega, by rw [htk]⟩, by omega⟩
        · have e : i = l.length := by omega
          subst e
          rw [List.take_length, T.lvs.last] at r7
          simp -implicitDefEqProofs (disch := omega) [go_sem, r5, r7, r8, r9]
          refine useC (tlevel_ok T4) ?_
          rintro _ h6 ⟨rfl, rfl⟩
          simp -implicitDefEqProofs (disch := omega) [go_sem, r5, r7, r8, r9]
          exact fr.trans f4
    · obtain ⟨bk, off, kd, x, y, rfl, e0, e1, e2, x0, x1, y0, y1⟩ := (R.fr fr).at' i (by omega)
      by_cases c0 : kd = 0 ∨ kd = 1
      · rcases c0 with rfl | rfl
        · simp -implicitDefEqProofs (disch := omega) [go_sem, r1, r5, r6, e0]
          refine drawK [(0, 0), (1, 0), (2, 0), (3, 0), (4, 0), (5, 1), (6, 0), (7, 0), (8, 0), (9, 0), (10, 1), (11, 3)] mixed (by kernel_rfl) ?_
          simp -implicitDefEqProofs (disch := omega) [go_sem, r1, r5, r6, e0, e1, e2]
          refine useC (tpush_ok T x0 x1) ?_
          rintro _ h4 ⟨rfl, O4, T4, nx4⟩
          simp -implicitDefEqProofs (disch := omega) [go_sem, r1, r5, r6]
          exact ⟨⟨⟨i + 1, by omega, by omega⟩, some_mk fr hO T4 nx4⟩, by omega⟩
        · simp -implicitDefEqProofs (disch := omega) [go_sem, r1, r5, r6, e0]
          refine drawK [(0, 0), (1, 0), (2, 0), (3, 0), (4, 0), (5, 1), (6, 0), (7, 0), (8, 0), (9, 0), (10, 1), (11, 3)] mixed (by kernel_rfl) ?_
          simp -implicitDefEqProofs (disch := omega) [go_sem, r1, r5, r6, e0, e1, e2]
          refine useC (tpush_ok T x0 x1) ?_
          rintro _ h4 ⟨rfl, O4, T4, nx4⟩
          simp -implicitDefEqProofs (disch := omega) [go_sem, r1, r5, r6]
          exact ⟨⟨⟨i + 1, by omega, by omega⟩, some_mk fr hO T4 nx4⟩, by omega⟩
      by_cases c2 : kd = 2
      · subst c2
        simp -implicitDefEqProofs (disch := omega) [go_sem, r1, r5, r6, e0, e1, e2]
        refine useC (tdecide_ok T x0 x1) ?_
        rintro _ h4 ⟨rfl, O4, T4, nx4⟩
        simp -implicitDefEqProofs (disch := omega) [go_sem, r1, r5, r6]
        exact ⟨⟨⟨i + 1, by omega, by omega⟩, some_mk fr hO T4 nx4⟩, by omega⟩
      by_cases c3 : kd = 3
      · subst c3
        simp -implicitDefEqProofs (disch := omega) [go_sem, r1, r5, r6, e0, e1, e2]
        refine useC (tback_ok T x0 x1) ?_
        rintro _ h4 ⟨rfl, T4, nx4⟩
        simp -implicitDefEqProofs (disch := omega) [go_sem, r1, r5, r6]
        exact ⟨⟨⟨i + 1, by omega, by omega⟩, some_mk fr hO T4 nx4⟩, by omega⟩
      · simp -implicitDefEqProofs (disch := omega) [go_sem, r1, r5, r6, e0, e1, e2]
        exact ⟨⟨⟨i + 1, by omega, by omega⟩, ⟨⟨O, l, level, T, hO⟩, fr⟩⟩, by omega⟩
end
end Xe
