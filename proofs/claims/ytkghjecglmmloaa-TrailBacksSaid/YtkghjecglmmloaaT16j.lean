/- TrailBacks. -/
import Derived.Test.YtkghjecglmmloaaT16i
namespace Xe
open Go Tp Go.Proofs
set_option maxRecDepth 16000

theorem pushE_none {vars : Nat} {l : List St} {x r : Int} (e : pushE vars l x r = 0) : find l x.natAbs = none := by
  unfold pushE at e
  split at e
  · omega
  · split at e
    · omega
    · rename_i h; simpa using h

section
variable {h : Heap}

/-- a trail of the law's own that begins so -/
structure Ext16 (h0 h : Heap) (b vars : Nat) (l : List St) (level : Nat) (B : Option Addr) (d : Nat) : Prop where
  ex : ∃ O ext n, TrailOk h b O vars (l ++ ext) n ∧ (∀ s ∈ ext, level < s.lv) ∧ level < n ∧ (∀ y, O y → h0.size ≤ y) ∧ ∀ y, blk B y → ¬ O y
  fr : Fr (fun _ => False) h0 h
  sl : SlAt h B d (ints (lits l))
theorem ext_push {h0 h1 h2 : Heap} {b vars level n' : Nat} {O O' : Nat → Prop} {l ext : List St} {x r : Int} {k d : Nat} {B : Option Addr} (S : SlAt h1 B d (ints (lits l))) (hB : ∀ y, blk B y → ¬ O y) (fr : Fr (fun _ => False) h0 h1) (hO : ∀ y, O y → h0.size ≤ y) (hx : ∀ s ∈ ext, level < s.lv) (hk : level < k) (hn : level < n')
    (T : TrailOk h2 b O' vars (pushL vars (l ++ ext) x r k) n') (nx : Nx O O' h1 h2) : Ext16 h0 h2 b vars l level B d := by
  have fr' := fr.trans' nx.fr fun y hy ho => by have := hO y ho; omega
  have hO' : ∀ y, O' y → h0.size ≤ y := fun y hy => (nx.own y hy).elim (hO y) fun h => Nat.le_trans fr.size h
  have hB' : ∀ y, blk B y → ¬ O' y := fun y hy ho => by
    rcases nx.own y ho with h | h
    · exact hB y hy h
    · have := S.blk_lt hy; omega
  have S' := S.fr nx.fr hB
  unfold pushL at T
  split at T
  · rw [List.append_assoc] at T
    refine ⟨⟨O', ext ++ [⟨x, r, k⟩], n', T, fun s hs => ?_, hn, hO', hB'⟩, fr', S'⟩
    rw [List.mem_append, List.mem_singleton] at hs
    rcases hs with hs | rfl
    · exact hx s hs
    · exact hk
  · exact ⟨⟨O', ext, n', T, hx, hn, hO', hB'⟩, fr', S'⟩

theorem tbacks_walk (a0 : Int) (w0 : -9223372036854775808 ≤ a0 ∧ a0 ≤ 9223372036854775807) (A : Option Addr) (m c : Nat) (R : Act3 h A m) (A2 : Option Addr) (m2 c2 : Nat) (R2 : Act3 h A2 m2)
    (a3 : Int) (w3 : -9223372036854775808 ≤ a3 ∧ a3 ≤ 9223372036854775807) :
    CallsH Try.prog 6 [.int .i64 a0, .slice A m c, .slice A2 m2 c2, .int .i64 a3] h fun r h' => r = .bool true ∧ Fr (fun _ => False) h h' := by
  have hms := R.small
  have hms2 := R2.small
  refine calls_of 140 [.tmp 8] Go.Proofs.Try.func6 rfl rfl rfl (by kernel_rfl) (Nat.le_of_ble_eq_true rfl) ?_
  simp -implicitDefEqProofs (disch := omega) [go_sem]
  refine useC awake16 ?_
  rintro _ h1 ⟨rfl, fr1⟩
  by_cases hm : 40 < m
  · simp -implicitDefEqProofs (disch := omega) [go_sem]
    exact fr1
  by_cases hm2 : 40 < m2
  · simp -implicitDefEqProofs (disch := omega) [go_sem]
    exact fr1
  by_cases hv1 : 60 < a0
  · simp -implicitDefEqProofs (disch := omega) [go_sem]
    exact fr1
  by_cases hv2 : a0 < 0
  · simp -implicitDefEqProofs (disch := omega) [go_sem]
    exact fr1
  simp -implicitDefEqProofs (disch := omega) [go_sem]
  refine useC (tnew_ok w0.1 w0.2) ?_
  rintro _ h2 (⟨hneg, rfl, rfl⟩ | ⟨vars, b, rfl, hv, rfl, O, T, nx⟩)
  · omega
  simp -implicitDefEqProofs (disch := omega) [go_sem]
  have P0 : Some16 h h2 b vars := some_mk (O := fun _ => False) fr1 (fun _ h => h.elim) T nx
  refine loopK (fun ρ h' => ρ 1 = .slice A m c ∧ ρ 2 = .slice A2 m2 c2 ∧ ρ 3 = .int .i64 a3 ∧ ρ 9 = .pointer (some ⟨b, 0, none⟩) ∧ (∃ i : Nat, ρ 10 = .int .i64 i ∧ i ≤ m) ∧ Some16 h h' b vars)
    (fun ρ _ => m - (intOf (ρ 10)).toNat) (by kernel_rfl) ?_ ?_
  · exact ⟨rfl, rfl, rfl, rfl, ⟨0, rfl, by omega⟩, P0⟩
  · clear P0 T nx
    rintro ρ h3 ⟨r1, r2, r3, r9, ⟨i, r10, hi⟩, ⟨⟨O, l, level, T, hO⟩, fr⟩⟩
    by_cases him : i = m
    · subst him
      have hvv := T.hv
      have hln := T.len
      have hlv := T.lvle
      simp -implicitDefEqProofs (disch := omega) [go_sem, r1, r2, r3, r9, r10]
      refine useC (tlits_ok T) ?_
      rintro _ h4 ⟨B, d, rfl, S, own, f4⟩
      have T4 := T.fr0 f4
      have hll : l.length = (lits l).length := by unfold lits; rw [List.length_map]
      simp -implicitDefEqProofs (disch := omega) [go_sem, r1, r2, r3, r9, r10]
      refine useC (tlevel_ok T4) ?_
      rintro _ h5 ⟨rfl, rfl⟩
      simp -implicitDefEqProofs (disch := omega) [go_sem, r1, r2, r3, r9, r10]
      have hBO : ∀ y, blk B y → ¬ O y := fun y hy ho => by have := own y hy; have := T.low y ho; omega
      refine useC (tdecide_ok T4 w3.1 w3.2) ?_
      rintro _ h6 ⟨rfl, O6, T6, nx6⟩
      have S6 := S.fr nx6.fr hBO
      have hB6 : ∀ y, blk B y → ¬ O6 y := fun y hy ho => by
        rcases nx6.own y ho with h | h
        · exact hBO y hy h
        · have := S.blk_lt hy; omega
      by_cases e : pushE vars l a3 (-1) = 0
      · have hfn := pushE_none e
        have htr : trI l a3 = 0 := tr_none (vars := vars) hfn
        rw [if_pos e] at T6
        have P1 : Ext16 h h6 b vars l level B d := by
          have T6' : TrailOk h6 b O6 vars (pushL vars (l ++ []) a3 (-1) (level + 1)) (level + 1) := by rw [List.append_nil]; exact T6
          exact ext_push (ext := []) S hBO (fr.trans f4) hO (fun s hs => absurd hs List.not_mem_nil) (Nat.lt_succ_self _) (Nat.lt_succ_self _) T6' nx6
        simp -implicitDefEqProofs (disch := omega) [go_sem, r1, r2, r3, r9, r10, e]
        refine loopK (fun ρ h' => ρ 2 = .slice A2 m2 c2 ∧ ρ 3 = .int .i64 a3 ∧ ρ 9 = .pointer (some ⟨b, 0, none⟩) ∧ ρ 11 = .slice B l.length d ∧ ρ 12 = .int .i64 level ∧ (∃ i : Nat, ρ 13 = .int .i64 i ∧ i ≤ m2) ∧ Ext16 h h' b vars l level B d)
          (fun ρ _ => m2 - (intOf (ρ 13)).toNat) (by kernel_rfl) ?_ ?_
        · exact ⟨r2, r3, r9, rfl, rfl, ⟨0, rfl, by omega⟩, P1⟩
        · clear r1 r2 r3 r9 r10 P1 T6 nx6 S6 hB6 T4
          rintro ρ h7 ⟨r2, r3, r9, r11, r12, ⟨j, r13, hj⟩, ⟨⟨O7, ext, n, T7, hx, hn, hO7, hB7⟩, fr7, S7⟩⟩
          by_cases hjm : j = m2
          · subst hjm
            have ek : backK n (level : Int) = level := by unfold backK; rw [if_pos (by omega)]; omega
            have ec : cutTo (l ++ ext) level = l := by
              unfold cutTo
              rw [List.filter_append, List.filter_eq_self.2 (fun s hs => decide_eq_true (T.lvs.le s hs)), List.filter_eq_nil_iff.2 (fun s hs => by have := hx s hs; rw [decide_eq_true_eq]; omega), List.append_nil]
            simp -implicitDefEqProofs (disch := omega) [go_sem, r2, r3, r9, r11, r12, r13]
            have cb := tback_ok T7 (n := (level : Int)) (by omega) (by omega)
            rw [ek, ec] at cb
            refine useC cb ?_
            rintro _ h8 ⟨rfl, T8, nx8⟩
            have S8 := S7.fr nx8.fr hB7
            simp -implicitDefEqProofs (disch := omega) [go_sem, r2, r3, r9, r11, r12, r13]
            refine useC (tlits_ok T8) ?_
            rintro _ h9 ⟨B9, d9, rfl, S9, own9, f9⟩
            simp -implicitDefEqProofs (disch := omega) [go_sem, r2, r3, r9, r11, r12, r13]
            refine useC (same12_ok S9.row (S8.row.fr0 f9) hll hll (by omega) (by omega)) ?_
            rintro _ h10 ⟨rfl, rfl⟩
            simp -implicitDefEqProofs (disch := omega) [go_sem, r2, r3, r9, r11, r12, r13]
            refine useC (tlevel_ok (T8.fr0 f9)) ?_
            rintro _ h10 ⟨rfl, rfl⟩
            simp -implicitDefEqProofs (disch := omega) [go_sem, r2, r3, r9, r11, r12, r13]
            refine useC (ttruth_ok (T8.fr0 f9) w3.1 w3.2) ?_
            rintro _ h10 ⟨rfl, rfl⟩
            simp -implicitDefEqProofs (disch := omega) [go_sem, r2, r3, r9, r11, r12, r13, htr]
            exact (fr7.trans' nx8.fr fun y hy ho => by have := hO7 y ho; omega).trans f9
          · obtain ⟨bk, off, kd, x, y, rfl, e0, e1, e2, x0, x1, y0, y1⟩ := (R2.fr fr7).at' j (by omega)
            by_cases cc : kd = 2
            · subst cc
              simp -implicitDefEqProofs (disch := omega) [go_sem, r2, r3, r9, r11, r12, r13, e0, e1, e2]
              refine useC (tdecide_ok T7 x0 x1) ?_
              rintro _ h8 ⟨rfl, O8, T8, nx8⟩
              simp -implicitDefEqProofs (disch := omega) [go_sem, r2, r3, r9, r11, r12, r13]
              exact ⟨⟨⟨j + 1, by omega, by omega⟩, ext_push S7 hB7 fr7 hO7 hx (by omega) (by split <;> omega) T8 nx8⟩, by omega⟩
            · simp -implicitDefEqProofs (disch := omega) [go_sem, r2, r3, r9, r11, r12, r13, e0]
              refine drawK [(0, 0), (1, 0), (2, 0), (3, 0), (4, 0), (5, 1), (6, 0), (7, 0), (8, 0), (9, 0), (10, 1), (11, 3)] mixed (by kernel_rfl) ?_
              simp -implicitDefEqProofs (disch := omega) [go_sem, r2, r3, r9, r11, r12, r13, e0, e1, e2]
              refine useC (tpush_ok T7 x0 x1) ?_
              rintro _ h8 ⟨rfl, O8, T8, nx8⟩
              simp -implicitDefEqProofs (disch := omega) [go_sem, r2, r3, r9, r11, r12, r13]
              exact ⟨⟨⟨j + 1, by omega, by omega⟩, ext_push S7 hB7 fr7 hO7 hx hn hn T8 nx8⟩, by omega⟩
      · have e' : ¬ ((pushE vars l a3 (-1) : Nat) : Int) = 0 := by omega
        rw [if_neg e, show pushL vars l a3 (-1) (level + 1) = l from if_neg e] at T6
        simp -implicitDefEqProofs (disch := omega) [go_sem, r1, r2, r3, r9, r10, e, e']
        refine useC (tlits_ok T6) ?_
        rintro _ h7 ⟨B7, d7, rfl, S7, own7, f7⟩
        simp -implicitDefEqProofs (disch := omega) [go_sem, r1, r2, r3, r9, r10]
        refine useC (same12_ok S7.row (S6.row.fr0 f7) hll hll (by omega) (by omega)) ?_
        rintro _ h8 ⟨rfl, rfl⟩
        simp -implicitDefEqProofs (disch := omega) [go_sem, r1, r2, r3, r9, r10]
        refine useC (tlevel_ok (T6.fr0 f7)) ?_
        rintro _ h8 ⟨rfl, rfl⟩
        simp -implicitDefEqProofs (disch := omega) [go_sem, r1, r2, r3, r9, r10]
        exact ((fr.trans f4).trans' nx6.fr fun y hy ho => by have := hO y ho; omega).trans f7
    · obtain ⟨bk, off, kd, x, y, rfl, e0, e1, e2, x0, x1, y0, y1⟩ := (R.fr fr).at' i (by omega)
      by_cases cc : kd = 2
      · subst cc
        simp -implicitDefEqProofs (disch := omega) [go_sem, r1, r2, r3, r9, r10, e0, e1, e2]
        refine useC (tdecide_ok T x0 x1) ?_
        rintro _ h4 ⟨rfl, O4, T4, nx4⟩
        simp -implicitDefEqProofs (disch := omega) [go_sem, r1, r2, r3, r9, r10]
        exact ⟨⟨⟨i + 1, by omega, by omega⟩, some_mk fr hO T4 nx4⟩, by omega⟩
      · simp -implicitDefEqProofs (disch := omega) [go_sem, r1, r2, r3, r9, r10, e0]
        refine drawK [(0, 0), (1, 0), (2, 0), (3, 0), (4, 0), (5, 1), (6, 0), (7, 0), (8, 0), (9, 0), (10, 1), (11, 3)] mixed (by kernel_rfl) ?_
        simp -implicitDefEqProofs (disch := omega) [go_sem, r1, r2, r3, r9, r10, e0, e1, e2]
        refine useC (tpush_ok T x0 x1) ?_
        rintro _ h4 ⟨rfl, O4, T4, nx4⟩
        simp -implicitDefEqProofs (disch := omega) [go_sem, r1, r2, r3, r9, r10]
        exact ⟨⟨⟨i + 1, by omega, by omega⟩, some_mk fr hO T4 nx4⟩, by omega⟩
end
end Xe
