/- The laws of layer 16: awake, same. -/
import Derived.Test.YtkghjecglmmloaaT16f
namespace Xe
open Go Tp Go.Proofs
set_option maxRecDepth 16000

section
variable {h : Heap} {b vars level : Nat} {O : Nat → Prop} {l : List St}

theorem awake16 : CallsH Try.prog 28 [] h fun r h' => r = .bool true ∧ Fr (fun _ => False) h h' := by
  refine calls_of 58 [.tmp 0] Go.Proofs.Try.func28 rfl rfl rfl (by kernel_rfl) (Nat.le_of_ble_eq_true rfl) ?_
  simp -implicitDefEqProofs (disch := omega) [go_sem]
  refine useC (tnew_ok (x := 3) (by omega) (by omega)) ?_
  rintro _ h1 (⟨hb, _, _⟩ | ⟨vars, b, hv, _, rfl, O, T, nx⟩)
  · omega
  obtain rfl : vars = 3 := by omega
  simp -implicitDefEqProofs (disch := omega) [go_sem]
  refine useC (tpush_ok T (x := 1) (r := 0) (by omega) (by omega)) ?_
  have e1 : pushE 3 [] 1 0 = 0 := by decide
  rintro _ h2 ⟨rfl, O2, T2, nx2⟩
  rw [show pushL 3 [] 1 0 0 = [⟨1, 0, 0⟩] from rfl] at T2
  simp -implicitDefEqProofs (disch := omega) [go_sem]
  refine useC (tdecide_ok T2 (x := -2) (by omega) (by omega)) ?_
  have e2 : pushE 3 [⟨1, 0, 0⟩] (-2) (-1) = 0 := by decide
  rintro _ h3 ⟨rfl, O3, T3, nx3⟩
  rw [show pushL 3 [⟨1, 0, 0⟩] (-2) (-1) (0 + 1) = [⟨1, 0, 0⟩, ⟨-2, -1, 1⟩] from rfl, if_pos e2] at T3
  simp -implicitDefEqProofs (disch := omega) [go_sem]
  refine useC (tpush_ok T3 (x := 3) (r := 7) (by omega) (by omega)) ?_
  have e3 : pushE 3 [⟨1, 0, 0⟩, ⟨-2, -1, 1⟩] 3 7 = 0 := by decide
  rintro _ h4 ⟨rfl, O4, T4, nx4⟩
  rw [show pushL 3 [⟨1, 0, 0⟩, ⟨-2, -1, 1⟩] 3 7 (0 + 1) = [⟨1, 0, 0⟩, ⟨-2, -1, 1⟩, ⟨3, 7, 1⟩] from rfl] at T4
  simp -implicitDefEqProofs (disch := omega) [go_sem]
  refine useC (tlevelOf_ok T4 (v := 1) (by omega) (by omega)) ?_
  rintro _ h5 ⟨rfl, rfl⟩
  simp -implicitDefEqProofs (disch := omega) [go_sem]
  refine useC (tlevelOf_ok T4 (v := 3) (by omega) (by omega)) ?_
  rintro _ h6 ⟨rfl, rfl⟩
  have e4 : LVi [⟨1, 0, 0⟩, ⟨-2, -1, 1⟩, ⟨3, 7, 1⟩] 1 = 0 := by decide
  have e5 : LVi [⟨1, 0, 0⟩, ⟨-2, -1, 1⟩, ⟨3, 7, 1⟩] 3 = 1 := by decide
  simp -implicitDefEqProofs (disch := omega) [go_sem, e1, e2, e3, e4, e5]
  refine useC (treason_ok T4 (v := 3) (by omega) (by omega)) ?_
  rintro _ h7 ⟨rfl, rfl⟩
  have e6 : RSi [⟨1, 0, 0⟩, ⟨-2, -1, 1⟩, ⟨3, 7, 1⟩] 3 = 7 := by decide
  simp -implicitDefEqProofs (disch := omega) [go_sem, e6]
  refine useC (tback_ok T4 (n := 0) (by omega) (by omega)) ?_
  rintro _ h8 ⟨rfl, T8, nx8⟩
  have e7 : cutTo [⟨1, 0, 0⟩, ⟨-2, -1, 1⟩, ⟨3, 7, 1⟩] (backK (0 + 1) 0) = [⟨1, 0, 0⟩] := by rfl
  rw [e7] at T8 ⊢
  simp -implicitDefEqProofs (disch := omega) [go_sem]
  refine useC (ttruth_ok T8 (x := 1) (by omega) (by omega)) ?_
  rintro _ h9 ⟨rfl, rfl⟩
  have e8 : trI [⟨1, 0, 0⟩] 1 = 1 := by decide
  simp -implicitDefEqProofs (disch := omega) [go_sem, e8]
  refine useC (ttruth_ok T8 (x := 2) (by omega) (by omega)) ?_
  rintro _ h10 ⟨rfl, rfl⟩
  have e9 : trI [⟨1, 0, 0⟩] 2 = 0 := by decide
  simp -implicitDefEqProofs (disch := omega) [go_sem, e9]
  have nx' := (((nx.trans nx2).trans nx3).trans nx4).trans nx8
  exact nx'.fr

/-- does a trail tell what the document's does? -/
theorem same16_ok (T : TrailOk h b O vars l level) {A : Option Addr} {n c : Nat} {look : Int} (R : RowAt h A (stVs l)) (hn : n = l.length) (h0 : -9223372036854775808 ≤ look) (h1 : look ≤ 9223372036854775807) :
    CallsH Try.prog 43 [.pointer (some ⟨b, 0, none⟩), .slice A n c, .int .i64 level, .int .i64 vars, .int .i64 look] h fun r h' => r = .bool true ∧ Fr (fun _ => False) h h' := by
  subst hn
  have hv := T.hv
  have hln := T.len
  refine calls_of 128 [.tmp 10] Go.Proofs.Try.func43 rfl rfl rfl (by kernel_rfl) (Nat.le_of_ble_eq_true rfl) ?_
  simp -implicitDefEqProofs (disch := omega) [go_sem]
  refine useC (tlits_ok T) ?_
  rintro _ h2 ⟨B, d, rfl, S, own, f2⟩
  have T2 := T.fr0 f2
  have R2 := R.fr0 f2
  simp -implicitDefEqProofs (disch := omega) [go_sem]
  refine useC (tlevel_ok T2) ?_
  rintro _ h3 ⟨rfl, rfl⟩
  simp -implicitDefEqProofs (disch := omega) [go_sem]
  refine useC (tvars_ok T2) ?_
  rintro _ h4 ⟨rfl, rfl⟩
  simp -implicitDefEqProofs (disch := omega) [go_sem]
  refine loopK (fun ρ h' => ρ 0 = .pointer (some ⟨b, 0, none⟩) ∧ ρ 1 = .slice A l.length c ∧ ρ 3 = .int .i64 vars ∧ ρ 4 = .int .i64 look ∧ ρ 11 = .slice B l.length d ∧ h' = h4 ∧ ∃ i : Nat, ρ 12 = .int .i64 i ∧ i ≤ l.length)
    (fun ρ _ => l.length - (intOf (ρ 12)).toNat) (by kernel_rfl) ?_ ?_
  · exact ⟨rfl, rfl, rfl, rfl, rfl, rfl, 0, rfl, by omega⟩
  · rintro ρ h5 ⟨r0, r1, r3, r4, r11, rfl, i, r12, hi⟩
    by_cases hin : i < l.length
    · obtain ⟨s, hs⟩ : ∃ s, l[i]? = some s := ⟨_, List.getElem?_eq_getElem hin⟩
      obtain ⟨bk, off, rfl, hc⟩ := R2.get (by rw [stVs_len]; omega)
      obtain ⟨bk2, off2, rfl, hc2⟩ := S.row.get (by rw [ints_len]; unfold lits; rw [List.length_map]; omega)
      have c0 := hc _ _ (stVs_at hs).1
      have c1 := hc2 i _ (ints_at (show (lits l)[i]? = some s.lit by unfold lits; rw [List.getElem?_map, hs]; rfl))
      simp -implicitDefEqProofs (disch := omega) [go_sem, r0, r1, r3, r4, r11, r12]
      refine drawK [(0, 0), (1, 0), (2, 0), (3, 1), (4, 0), (5, 0), (6, 0), (7, 0), (8, 1), (9, 0)] mixed (by kernel_rfl) ?_
      simp -implicitDefEqProofs (disch := omega) [go_sem, r0, r1, r3, r4, r11, r12, c0, c1]
      exact ⟨⟨i + 1, by omega, by omega⟩, by omega⟩
    · simp -implicitDefEqProofs (disch := omega) [go_sem, r0, r1, r3, r4, r11, r12]
      refine useC (var12_ok h0 h1) ?_
      rintro _ h6 ⟨rfl, rfl⟩
      have hv12 : var12 look ≤ 16777216 := by unfold var12; split <;> omega
      simp -implicitDefEqProofs (disch := omega) [go_sem, r0, r1, r3, r4, r11, r12]
      refine useC (find16_ok R2 rfl (by omega) (fun s hs => by have := T.good.rng s hs; omega) (var12 look) hv12) ?_
      rintro _ h7 ⟨rfl, rfl⟩
      cases hf : find l (var12 look) with
      | none =>
        have hf2 : find l look.natAbs = none := by
          by_cases e : look.natAbs ≤ 16777216
          · unfold var12 at hf; rwa [if_pos e] at hf
          · exact find_none' fun s hs => by have := T.good.rng s hs; omega
        have t0 : trI l look = 0 := tr_none (vars := vars) hf2
        have t1 : LVi l look = -1 ∧ PLi l look = -1 ∧ RSi l look = -1 := by
          unfold LVi PLi RSi
          by_cases e : look < 0
          · simp only [if_pos e, and_self]
          · have e2 : look.toNat = look.natAbs := by omega
            simp only [if_neg e, e2]
            exact none_of hf2
        obtain ⟨t1, t2, t3⟩ := t1
        have hp := (none_of hf).2.1
        have fin : ∀ ρ : Env, ρ 0 = .pointer (some ⟨b, 0, none⟩) → True := fun _ _ => trivial
        by_cases e1 : var12 look = 0
        · simp -implicitDefEqProofs (disch := omega) [go_sem, r0, r1, r3, r4, r11, r12, hp, e1]
          refine useC (ttruth_ok T2 h0 h1) ?_
          rintro _ h8 ⟨rfl, rfl⟩
          simp -implicitDefEqProofs (disch := omega) [go_sem, r0, r4, t0]
          refine useC (tlevelOf_ok T2 h0 h1) ?_
          rintro _ h8 ⟨rfl, rfl⟩
          simp -implicitDefEqProofs (disch := omega) [go_sem, r0, r4, t1]
          refine useC (treason_ok T2 h0 h1) ?_
          rintro _ h8 ⟨rfl, rfl⟩
          simp -implicitDefEqProofs (disch := omega) [go_sem, r0, r4, t3]
          refine useC (tplace_ok T2 h0 h1) ?_
          rintro _ h8 ⟨rfl, rfl⟩
          simp -implicitDefEqProofs (disch := omega) [go_sem, r0, r4, t2]
          exact f2
        · by_cases e2 : vars < var12 look
          · simp -implicitDefEqProofs (disch := omega) [go_sem, r0, r1, r3, r4, r11, r12, hp]
            refine useC (ttruth_ok T2 h0 h1) ?_
            rintro _ h8 ⟨rfl, rfl⟩
            simp -implicitDefEqProofs (disch := omega) [go_sem, r0, r4, t0]
            refine useC (tlevelOf_ok T2 h0 h1) ?_
            rintro _ h8 ⟨rfl, rfl⟩
            simp -implicitDefEqProofs (disch := omega) [go_sem, r0, r4, t1]
            refine useC (treason_ok T2 h0 h1) ?_
            rintro _ h8 ⟨rfl, rfl⟩
            simp -implicitDefEqProofs (disch := omega) [go_sem, r0, r4, t3]
            refine useC (tplace_ok T2 h0 h1) ?_
            rintro _ h8 ⟨rfl, rfl⟩
            simp -implicitDefEqProofs (disch := omega) [go_sem, r0, r4, t2]
            exact f2
          · simp -implicitDefEqProofs (disch := omega) [go_sem, r0, r1, r3, r4, r11, r12, hp]
            refine useC (ttruth_ok T2 h0 h1) ?_
            rintro _ h8 ⟨rfl, rfl⟩
            simp -implicitDefEqProofs (disch := omega) [go_sem, r0, r4, t0]
            refine useC (tlevelOf_ok T2 h0 h1) ?_
            rintro _ h8 ⟨rfl, rfl⟩
            simp -implicitDefEqProofs (disch := omega) [go_sem, r0, r4, t1]
            refine useC (treason_ok T2 h0 h1) ?_
            rintro _ h8 ⟨rfl, rfl⟩
            simp -implicitDefEqProofs (disch := omega) [go_sem, r0, r4, t3]
            refine useC (tplace_ok T2 h0 h1) ?_
            rintro _ h8 ⟨rfl, rfl⟩
            simp -implicitDefEqProofs (disch := omega) [go_sem, r0, r4, t2]
            exact f2
      | some k =>
        obtain ⟨s, hs, hs2, hk⟩ := find_some hf
        have hrg := T.good.rng s (List.mem_of_getElem? hs)
        have hp : PL l (var12 look) = k := by unfold PL; rw [hf]
        have hx : look.natAbs = s.lit.natAbs := by unfold var12 at hs2; split at hs2 <;> omega
        have t0 := tr_at T.good hs hx
        have t1 : LVi l (var12 look : Int) = s.lv := by unfold LVi; rw [if_neg (by omega), Int.toNat_natCast, ← hs2, T.good.lv hs]
        have t2 : PLi l (var12 look : Int) = k := by unfold PLi; rw [if_neg (by omega), Int.toNat_natCast, ← hs2, T.good.pl hs]
        have t3 : RSi l (var12 look : Int) = s.rs := by unfold RSi; rw [if_neg (by omega), Int.toNat_natCast, ← hs2, T.good.rs hs]
        obtain ⟨bk, off, rfl, hc⟩ := R2.get (by rw [stVs_len]; omega)
        obtain ⟨q0, q1, q2⟩ := stVs_at hs
        have c0 := hc _ _ q0
        have c1 := hc _ _ q1
        have c2 := hc _ _ q2
        rw [← Nat.add_assoc] at c1 c2
        have tl := T.lv s (List.mem_of_getElem? hs)
        by_cases e : s.lit = look
        · rw [if_pos e] at t0
          simp -implicitDefEqProofs (disch := omega) [go_sem, r0, r1, r3, r4, r11, r12, hp, c0, e]
          refine useC (ttruth_ok T2 h0 h1) ?_
          rintro _ h8 ⟨rfl, rfl⟩
          simp -implicitDefEqProofs (disch := omega) [go_sem, r0, r1, r3, r4, t0]
          refine drawC [(0, 0), (1, 0), (3, 0), (4, 0), (5, 0), (6, 0), (7, 2), (2, 3), (8, 0), (9, 0), (10, 0), (11, 0), (13, 0), (14, 0), (15, 0), (16, 0), (17, 2), (12, 3), (18, 0), (19, 0), (20, 0), (21, 0), (22, 0), (24, 0), (23, 3), (25, 0), (26, 0), (27, 0)] (Eq _) mixed (by kernel_rfl) rfl ?_
          simp -implicitDefEqProofs (disch := omega) [go_sem, r0, r1, r3, r4, c1, c2]
          refine useC (tlevelOf_ok T2 (v := (var12 look : Int)) (by omega) (by omega)) ?_
          rintro _ h8 ⟨rfl, rfl⟩
          simp -implicitDefEqProofs (disch := omega) [go_sem, r0, r1, r3, r4, c1, c2, t1]
          refine useC (treason_ok T2 (v := (var12 look : Int)) (by omega) (by omega)) ?_
          rintro _ h8 ⟨rfl, rfl⟩
          simp -implicitDefEqProofs (disch := omega) [go_sem, r0, r1, r3, r4, c1, c2, t3]
          refine useC (tplace_ok T2 (v := (var12 look : Int)) (by omega) (by omega)) ?_
          rintro _ h8 ⟨rfl, rfl⟩
          simp -implicitDefEqProofs (disch := omega) [go_sem, r0, r1, r3, r4, c1, c2, t2]
          exact f2
        · rw [if_neg e] at t0
          simp -implicitDefEqProofs (disch := omega) [go_sem, r0, r1, r3, r4, r11, r12, hp, c0, e]
          refine useC (ttruth_ok T2 h0 h1) ?_
          rintro _ h8 ⟨rfl, rfl⟩
          simp -implicitDefEqProofs (disch := omega) [go_sem, r0, r1, r3, r4, t0]
          refine drawC [(0, 0), (1, 0), (3, 0), (4, 0), (5, 0), (6, 0), (7, 2), (2, 3), (8, 0), (9, 0), (10, 0), (11, 0), (13, 0), (14, 0), (15, 0), (16, 0), (17, 2), (12, 3), (18, 0), (19, 0), (20, 0), (21, 0), (22, 0), (24, 0), (23, 3), (25, 0), (26, 0), (27, 0)] (Eq _) mixed (by kernel_rfl) rfl ?_
          simp -implicitDefEqProofs (disch := omega) [go_sem, r0, r1, r3, r4, c1, c2]
          refine useC (tlevelOf_ok T2 (v := (var12 look : Int)) (by omega) (by omega)) ?_
          rintro _ h8 ⟨rfl, rfl⟩
          simp -implicitDefEqProofs (disch := omega) [go_sem, r0, r1, r3, r4, c1, c2, t1]
          refine useC (treason_ok T2 (v := (var12 look : Int)) (by omega) (by omega)) ?_
          rintro _ h8 ⟨rfl, rfl⟩
          simp -implicitDefEqProofs (disch := omega) [go_sem, r0, r1, r3, r4, c1, c2, t3]
          refine useC (tplace_ok T2 (v := (var12 look : Int)) (by omega) (by omega)) ?_
          rintro _ h8 ⟨rfl, rfl⟩
          simp -implicitDefEqProofs (disch := omega) [go_sem, r0, r1, r3, r4, c1, c2, t2]
          exact f2
end
end Xe
