/- The document's answer for layer 18, walked. -/
import Derived.Test.YtkghjecglmmloaaL18b
namespace Xe
open Go Hp Go.Proofs
set_option maxRecDepth 16000

/-- who is in, as a set -/
def Inn (vars : Nat) (s : Nat → Bool) (v : Nat) : Prop := 1 ≤ v ∧ v ≤ vars ∧ s v = true

/-- the document's heap: two rows -/
structure RefAt (h : Heap) (ab ib vars : Nat) (a : Nat → Int) (s : Nat → Bool) : Prop where
  ca : ∀ v, v ≤ vars → hcell h ⟨ab, v, none⟩ = some (.int .i64 (a v))
  ci : ∀ v, v ≤ vars → hcell h ⟨ib, v, none⟩ = some (.bool (s v))
  fa : ∀ o, hfrz h ⟨ab, o, none⟩ = false
  fi : ∀ o, hfrz h ⟨ib, o, none⟩ = false
  ne : ab ≠ ib
  hv : vars ≤ 16777216

def refV (ab ib vars : Nat) : Value := .agg #[.slice (some ⟨ab, 0, none⟩) (vars + 1) (vars + 1), .slice (some ⟨ib, 0, none⟩) (vars + 1) (vars + 1)]

section
variable {h : Heap} {ab ib vars : Nat} {a : Nat → Int} {s : Nat → Bool}

theorem RefAt.lts (R : RefAt h ab ib vars a s) : ab < h.size ∧ ib < h.size := ⟨hcell_lt (R.ca 0 (by omega)), hcell_lt (R.ci 0 (by omega))⟩
theorem RefAt.fr (R : RefAt h ab ib vars a s) {h' : Heap} {T : Nat → Prop} (f : Fr T h h') (h1 : ¬ T ab) (h2 : ¬ T ib) : RefAt h' ab ib vars a s where
  ca v hv := (f.cell R.lts.1 h1).trans (R.ca v hv)
  ci v hv := (f.cell R.lts.2 h2).trans (R.ci v hv)
  fa o := (f.frz R.lts.1 h1).trans (R.fa o)
  fi o := (f.frz R.lts.2 h2).trans (R.fi o)
  ne := R.ne
  hv := R.hv
theorem RefAt.setA (R : RefAt h ab ib vars a s) {v : Nat} (hv : v ≤ vars) (x : Int) : RefAt (hset h ⟨ab, v, none⟩ (.int .i64 x)) ab ib vars (upd a v x) s where
  ca u hu := by
    rw [hcell_hset]
    by_cases e : u = v
    · subst e; rw [if_pos ⟨rfl, rfl⟩, R.ca u hu, upd_same]; rfl
    · rw [if_neg (fun h => e h.2), upd_other _ _ e]; exact R.ca u hu
  ci u hu := by rw [hcell_hset, if_neg (fun e => R.ne e.1.symm)]; exact R.ci u hu
  fa o := by rw [hfrz_hset]; exact R.fa o
  fi o := by rw [hfrz_hset]; exact R.fi o
  ne := R.ne
  hv := R.hv
theorem RefAt.setI (R : RefAt h ab ib vars a s) {v : Nat} (hv : v ≤ vars) (x : Bool) : RefAt (hset h ⟨ib, v, none⟩ (.bool x)) ab ib vars a (upd s v x) where
  ca u hu := by rw [hcell_hset, if_neg (fun e => R.ne e.1)]; exact R.ca u hu
  ci u hu := by
    rw [hcell_hset]
    by_cases e : u = v
    · subst e; rw [if_pos ⟨rfl, rfl⟩, R.ci u hu, upd_same]; rfl
    · rw [if_neg (fun h => e h.2), upd_other _ _ e]; exact R.ci u hu
  fa o := by rw [hfrz_hset]; exact R.fa o
  fi o := by rw [hfrz_hset]; exact R.fi o
  ne := R.ne
  hv := R.hv

theorem rthere_h (x : Int) : CallsH Try.prog 20 [refV ab ib vars, .int .i64 x] h fun r h' => r = .bool (decide (1 ≤ x ∧ x ≤ vars)) ∧ Fr (fun _ => False) h h' := by
  refine calls_of 14 [.tmp 4] Go.Proofs.Try.func20 rfl rfl rfl (by kernel_rfl) (Nat.le_of_ble_eq_true rfl) ?_
  by_cases h1 : 1 ≤ x
  · simp -implicitDefEqProofs (disch := omega) [go_sem, refV, h1]
    exact ⟨by omega, (Fr.refl _ _).push⟩
  · simp -implicitDefEqProofs (disch := omega) [go_sem, refV, h1]
    exact (Fr.refl _ _).push

theorem zerosOf_at {z : Value} {n i : Nat} (hi : i < n) : (zerosOf #[z] n)[i]? = some z := by
  unfold zerosOf
  rw [Array.getElem?_map, Array.getElem?_range, if_pos hi]
  simp [Nat.mod_one]

theorem RefAt.mk0 {e e' : TypeId} (hA : h[ab]? = some (.cells (zerosOf #[.int .i64 0] (vars + 1)) e (0, 0))) (hI : h[ib]? = some (.cells (zerosOf #[.bool false] (vars + 1)) e' (0, 0))) (ne : ab ≠ ib) (hv : vars ≤ 16777216) :
    RefAt h ab ib vars (fun _ => 0) (fun _ => false) where
  ca v hv := by unfold hcell; rw [hA]; exact zerosOf_at (Nat.lt_succ_of_le hv)
  ci v hv := by unfold hcell; rw [hI]; exact zerosOf_at (Nat.lt_succ_of_le hv)
  fa o := by unfold hfrz; rw [hA]; simp
  fi o := by unfold hfrz; rw [hI]; simp
  ne := ne
  hv := hv
theorem RefAt.cong {a' : Nat → Int} {s' : Nat → Bool} (R : RefAt h ab ib vars a s) (e1 : ∀ v, v ≤ vars → a v = a' v) (e2 : ∀ v, v ≤ vars → s v = s' v) : RefAt h ab ib vars a' s' where
  ca v hv := by rw [← e1 v hv]; exact R.ca v hv
  ci v hv := by rw [← e2 v hv]; exact R.ci v hv
  fa := R.fa
  fi := R.fi
  ne := R.ne
  hv := R.hv
theorem hset_oth {b c o : Nat} {v : Value} (hb : b ≠ c) : (hset h ⟨c, o, none⟩ v)[b]? = h[b]? := hset_other hb
theorem get_push_at {X : Obj} {b : Nat} (hb : b = h.size) : (h.push X)[b]? = some X := by subst hb; exact push_new

theorem rnew_h (hv : vars ≤ 30) : CallsH Try.prog 19 [.int .i64 vars] h fun r h' => ∃ ab ib, r = refV ab ib vars ∧ h.size ≤ ab ∧ h.size ≤ ib ∧ RefAt h' ab ib vars (fun _ => 0) (fun v => decide (1 ≤ v)) ∧ Fr (fun _ => False) h h' := by
  refine calls_of 22 [.cell 2 35] Go.Proofs.Try.func19 rfl rfl rfl (by kernel_rfl) (Nat.le_of_ble_eq_true rfl) ?_
  simp -implicitDefEqProofs (disch := omega) [go_sem]
  refine drawT (.br3 [(0, 0), (1, 0), (3, 0), (4, 0)] 2 (.br2 [] 5 (.fin [(6, 0), (7, 3), (8, 3)]) 7 (.fin [(5, 3), (6, 0), (8, 3)])) 5 (.br2 [] 2 (.fin [(6, 0), (7, 3), (8, 3)]) 7 (.fin [(2, 3), (6, 0), (8, 3)])) 7 (.br2 [] 2 (.fin [(5, 3), (6, 0), (8, 3)]) 5 (.fin [(2, 3), (6, 0), (8, 3)]))) mixed (by kernel_rfl) ?_
  simp -implicitDefEqProofs (disch := first | omega | (simp only [push_size, hset_size]; done) | (simp only [push_size, hset_size]; omega)) [go_sem]
  refine ⟨⟨?_, ?_⟩, ⟨?_, ?_⟩, ?_, ?_⟩
  all_goals
    refine loopK (fun ρ h' => ρ 0 = .int .i64 vars ∧ ρ 2 = .pointer (some ⟨h.size, 0, none⟩) ∧ ∃ ab ib xb i : Nat, ρ 3 = .pointer (some ⟨xb, 0, none⟩) ∧ ρ 4 = .int .i64 i ∧ 1 ≤ i ∧ i ≤ vars + 1 ∧
      hcell h' ⟨xb, 0, none⟩ = some (.slice (some ⟨ab, 0, none⟩) (vars + 1) (vars + 1)) ∧ hcell h' ⟨xb, 1, none⟩ = some (.slice (some ⟨ib, 0, none⟩) (vars + 1) (vars + 1)) ∧ RefAt h' ab ib vars (fun _ => 0) (fun v => decide (1 ≤ v ∧ v < i)) ∧
      (hcell h' ⟨h.size, 0, none⟩).isSome = true ∧ (hcell h' ⟨h.size, 1, none⟩).isSome = true ∧ (∀ o, hfrz h' ⟨h.size, o, none⟩ = false) ∧ h.size < ab ∧ h.size < ib ∧ h.size < xb ∧ xb ≠ ab ∧ xb ≠ ib ∧ Fr (fun _ => False) h h')
      (fun ρ _ => vars + 1 - (intOf (ρ 4)).toNat) (by kernel_rfl) ?_ ?_
  case refine_1.refine_1 =>
    have hne : ¬ h.size = (h.size + 1 + 1 + 1) := by omega
    refine ⟨rfl, rfl, (h.size + 1), (h.size + 1 + 1), (h.size + 1 + 1 + 1), 1, ?_, rfl, by omega, by omega, ?_, ?_, RefAt.cong (RefAt.mk0 (e := 3) (e' := 4) ?_ ?_ (by omega) (by omega)) (fun _ _ => rfl) (fun v _ => ?_), ?_, ?_, fun o => ?_, by omega, by omega, by omega, by omega, by omega, ?_⟩
    · simp -implicitDefEqProofs (disch := first | omega | (simp only [push_size, hset_size]; done) | (simp only [push_size, hset_size]; omega)) [go_sem]
    · simp -implicitDefEqProofs (disch := first | omega | (simp only [push_size, hset_size]; done) | (simp only [push_size, hset_size]; omega)) [go_sem]
    · simp -implicitDefEqProofs (disch := first | omega | (simp only [push_size, hset_size]; done) | (simp only [push_size, hset_size]; omega)) [go_sem]
    · rw [hset_oth (by omega), hset_oth (by omega), push_old (by simp only [push_size]; omega), push_old (by simp only [push_size]; omega), get_push_at (by simp only [push_size])]; simp [Value.cells]
    · rw [hset_oth (by omega), hset_oth (by omega), push_old (by simp only [push_size]; omega), get_push_at (by simp only [push_size])]; simp [Value.cells]
    · exact (decide_eq_false (by omega)).symm
    · simp -implicitDefEqProofs (disch := first | omega | (simp only [push_size, hset_size]; done) | (simp only [push_size, hset_size]; omega)) [go_sem, hne]
    · simp -implicitDefEqProofs (disch := first | omega | (simp only [push_size, hset_size]; done) | (simp only [push_size, hset_size]; omega)) [go_sem, hne]
    · simp -implicitDefEqProofs (disch := first | omega | (simp only [push_size, hset_size]; done) | (simp only [push_size, hset_size]; omega)) [go_sem]
    · exact (((Fr.refl _ _).push.push.push.push).new (by simp only [push_size]; omega)).new (by simp only [push_size]; omega)
  case refine_2.refine_1 =>
    have hne : ¬ h.size = (h.size + 1 + 1) := by omega
    refine ⟨rfl, rfl, (h.size + 1), (h.size + 1 + 1 + 1), (h.size + 1 + 1), 1, ?_, rfl, by omega, by omega, ?_, ?_, RefAt.cong (RefAt.mk0 (e := 3) (e' := 4) ?_ ?_ (by omega) (by omega)) (fun _ _ => rfl) (fun v _ => ?_), ?_, ?_, fun o => ?_, by omega, by omega, by omega, by omega, by omega, ?_⟩
    · simp -implicitDefEqProofs (disch := first | omega | (simp only [push_size, hset_size]; done) | (simp only [push_size, hset_size]; omega)) [go_sem]
    · simp -implicitDefEqProofs (disch := first | omega | (simp only [push_size, hset_size]; done) | (simp only [push_size, hset_size]; omega)) [go_sem]
    · simp -implicitDefEqProofs (disch := first | omega | (simp only [push_size, hset_size]; done) | (simp only [push_size, hset_size]; omega)) [go_sem]
    · rw [hset_oth (by omega), hset_oth (by omega), push_old (by simp only [push_size]; omega), push_old (by simp only [push_size]; omega), get_push_at (by simp only [push_size])]; simp [Value.cells]
    · rw [hset_oth (by omega), hset_oth (by omega), get_push_at (by simp only [push_size])]; simp [Value.cells]
    · exact (decide_eq_false (by omega)).symm
    · simp -implicitDefEqProofs (disch := first | omega | (simp only [push_size, hset_size]; done) | (simp only [push_size, hset_size]; omega)) [go_sem, hne]
    · simp -implicitDefEqProofs (disch := first | omega | (simp only [push_size, hset_size]; done) | (simp only [push_size, hset_size]; omega)) [go_sem, hne]
    · simp -implicitDefEqProofs (disch := first | omega | (simp only [push_size, hset_size]; done) | (simp only [push_size, hset_size]; omega)) [go_sem]
    · exact (((Fr.refl _ _).push.push.push.push).new (by simp only [push_size]; omega)).new (by simp only [push_size]; omega)
  case refine_3.refine_1 =>
    have hne : ¬ h.size = (h.size + 1 + 1 + 1) := by omega
    refine ⟨rfl, rfl, (h.size + 1 + 1), (h.size + 1), (h.size + 1 + 1 + 1), 1, ?_, rfl, by omega, by omega, ?_, ?_, RefAt.cong (RefAt.mk0 (e := 3) (e' := 4) ?_ ?_ (by omega) (by omega)) (fun _ _ => rfl) (fun v _ => ?_), ?_, ?_, fun o => ?_, by omega, by omega, by omega, by omega, by omega, ?_⟩
    · simp -implicitDefEqProofs (disch := first | omega | (simp only [push_size, hset_size]; done) | (simp only [push_size, hset_size]; omega)) [go_sem]
    · simp -implicitDefEqProofs (disch := first | omega | (simp only [push_size, hset_size]; done) | (simp only [push_size, hset_size]; omega)) [go_sem]
    · simp -implicitDefEqProofs (disch := first | omega | (simp only [push_size, hset_size]; done) | (simp only [push_size, hset_size]; omega)) [go_sem]
    · rw [hset_oth (by omega), hset_oth (by omega), push_old (by simp only [push_size]; omega), get_push_at (by simp only [push_size])]; simp [Value.cells]
    · rw [hset_oth (by omega), hset_oth (by omega), push_old (by simp only [push_size]; omega), push_old (by simp only [push_size]; omega), get_push_at (by simp only [push_size])]; simp [Value.cells]
    · exact (decide_eq_false (by omega)).symm
    · simp -implicitDefEqProofs (disch := first | omega | (simp only [push_size, hset_size]; done) | (simp only [push_size, hset_size]; omega)) [go_sem, hne]
    · simp -implicitDefEqProofs (disch := first | omega | (simp only [push_size, hset_size]; done) | (simp only [push_size, hset_size]; omega)) [go_sem, hne]
    · simp -implicitDefEqProofs (disch := first | omega | (simp only [push_size, hset_size]; done) | (simp only [push_size, hset_size]; omega)) [go_sem]
    · exact (((Fr.refl _ _).push.push.push.push).new (by simp only [push_size]; omega)).new (by simp only [push_size]; omega)
  case refine_4.refine_1 =>
    have hne : ¬ h.size = (h.size + 1 + 1) := by omega
    refine ⟨rfl, rfl, (h.size + 1 + 1 + 1), (h.size + 1), (h.size + 1 + 1), 1, ?_, rfl, by omega, by omega, ?_, ?_, RefAt.cong (RefAt.mk0 (e := 3) (e' := 4) ?_ ?_ (by omega) (by omega)) (fun _ _ => rfl) (fun v _ => ?_), ?_, ?_, fun o => ?_, by omega, by omega, by omega, by omega, by omega, ?_⟩
    · simp -implicitDefEqProofs (disch := first | omega | (simp only [push_size, hset_size]; done) | (simp only [push_size, hset_size]; omega)) [go_sem]
    · simp -implicitDefEqProofs (disch := first | omega | (simp only [push_size, hset_size]; done) | (simp only [push_size, hset_size]; omega)) [go_sem]
    · simp -implicitDefEqProofs (disch := first | omega | (simp only [push_size, hset_size]; done) | (simp only [push_size, hset_size]; omega)) [go_sem]
    · rw [hset_oth (by omega), hset_oth (by omega), get_push_at (by simp only [push_size])]; simp [Value.cells]
    · rw [hset_oth (by omega), hset_oth (by omega), push_old (by simp only [push_size]; omega), push_old (by simp only [push_size]; omega), get_push_at (by simp only [push_size])]; simp [Value.cells]
    · exact (decide_eq_false (by omega)).symm
    · simp -implicitDefEqProofs (disch := first | omega | (simp only [push_size, hset_size]; done) | (simp only [push_size, hset_size]; omega)) [go_sem, hne]
    · simp -implicitDefEqProofs (disch := first | omega | (simp only [push_size, hset_size]; done) | (simp only [push_size, hset_size]; omega)) [go_sem, hne]
    · simp -implicitDefEqProofs (disch := first | omega | (simp only [push_size, hset_size]; done) | (simp only [push_size, hset_size]; omega)) [go_sem]
    · exact (((Fr.refl _ _).push.push.push.push).new (by simp only [push_size]; omega)).new (by simp only [push_size]; omega)
  case refine_5.refine_1 =>
    have hne : ¬ h.size = (h.size + 1) := by omega
    refine ⟨rfl, rfl, (h.size + 1 + 1), (h.size + 1 + 1 + 1), (h.size + 1), 1, ?_, rfl, by omega, by omega, ?_, ?_, RefAt.cong (RefAt.mk0 (e := 3) (e' := 4) ?_ ?_ (by omega) (by omega)) (fun _ _ => rfl) (fun v _ => ?_), ?_, ?_, fun o => ?_, by omega, by omega, by omega, by omega, by omega, ?_⟩
    · simp -implicitDefEqProofs (disch := first | omega | (simp only [push_size, hset_size]; done) | (simp only [push_size, hset_size]; omega)) [go_sem]
    · simp -implicitDefEqProofs (disch := first | omega | (simp only [push_size, hset_size]; done) | (simp only [push_size, hset_size]; omega)) [go_sem]
    · simp -implicitDefEqProofs (disch := first | omega | (simp only [push_size, hset_size]; done) | (simp only [push_size, hset_size]; omega)) [go_sem]
    · rw [hset_oth (by omega), hset_oth (by omega), push_old (by simp only [push_size]; omega), get_push_at (by simp only [push_size])]; simp [Value.cells]
    · rw [hset_oth (by omega), hset_oth (by omega), get_push_at (by simp only [push_size])]; simp [Value.cells]
    · exact (decide_eq_false (by omega)).symm
    · simp -implicitDefEqProofs (disch := first | omega | (simp only [push_size, hset_size]; done) | (simp only [push_size, hset_size]; omega)) [go_sem, hne]
    · simp -implicitDefEqProofs (disch := first | omega | (simp only [push_size, hset_size]; done) | (simp only [push_size, hset_size]; omega)) [go_sem, hne]
    · simp -implicitDefEqProofs (disch := first | omega | (simp only [push_size, hset_size]; done) | (simp only [push_size, hset_size]; omega)) [go_sem]
    · exact (((Fr.refl _ _).push.push.push.push).new (by simp only [push_size]; omega)).new (by simp only [push_size]; omega)
  case refine_6.refine_1 =>
    have hne : ¬ h.size = (h.size + 1) := by omega
    refine ⟨rfl, rfl, (h.size + 1 + 1 + 1), (h.size + 1 + 1), (h.size + 1), 1, ?_, rfl, by omega, by omega, ?_, ?_, RefAt.cong (RefAt.mk0 (e := 3) (e' := 4) ?_ ?_ (by omega) (by omega)) (fun _ _ => rfl) (fun v _ => ?_), ?_, ?_, fun o => ?_, by omega, by omega, by omega, by omega, by omega, ?_⟩
    · simp -implicitDefEqProofs (disch := first | omega | (simp only [push_size, hset_size]; done) | (simp only [push_size, hset_size]; omega)) [go_sem]
    · simp -implicitDefEqProofs (disch := first | omega | (simp only [push_size, hset_size]; done) | (simp only [push_size, hset_size]; omega)) [go_sem]
    · simp -implicitDefEqProofs (disch := first | omega | (simp only [push_size, hset_size]; done) | (simp only [push_size, hset_size]; omega)) [go_sem]
    · rw [hset_oth (by omega), hset_oth (by omega), get_push_at (by simp only [push_size])]; simp [Value.cells]
    · rw [hset_oth (by omega), hset_oth (by omega), push_old (by simp only [push_size]; omega), get_push_at (by simp only [push_size])]; simp [Value.cells]
    · exact (decide_eq_false (by omega)).symm
    · simp -implicitDefEqProofs (disch := first | omega | (simp only [push_size, hset_size]; done) | (simp only [push_size, hset_size]; omega)) [go_sem, hne]
    · simp -implicitDefEqProofs (disch := first | omega | (simp only [push_size, hset_size]; done) | (simp only [push_size, hset_size]; omega)) [go_sem, hne]
    · simp -implicitDefEqProofs (disch := first | omega | (simp only [push_size, hset_size]; done) | (simp only [push_size, hset_size]; omega)) [go_sem]
    · exact (((Fr.refl _ _).push.push.push.push).new (by simp only [push_size]; omega)).new (by simp only [push_size]; omega)
  all_goals
    rintro ρ h1 ⟨r0, r2, ab, ib, xb, i, r3, r4, hi1, hi2, k0, k1, R, n0, n1, nf, l1, l2, l3, x1, x2, fr⟩
    by_cases hin : i = vars + 1
    · subst hin
      obtain ⟨u0, e0⟩ := Option.isSome_iff_exists.1 n0
      obtain ⟨u1, e1⟩ := Option.isSome_iff_exists.1 n1
      simp -implicitDefEqProofs (disch := omega) [go_sem, r0, r2, r3, r4, k0, k1, e0, e1, nf]
      have f2 : Fr (fun x => x = h.size) h1 (hset (hset h1 ⟨h.size, 0, none⟩ (.slice (some ⟨ab, 0, none⟩) (vars + 1) (vars + 1))) ⟨h.size, 1, none⟩ (.slice (some ⟨ib, 0, none⟩) (vars + 1) (vars + 1))) := by
        refine Fr.set (Fr.set (Fr.refl _ _) ?_) ?_
        · rfl
        · rfl
      exact ⟨ab, ib, rfl, by omega, by omega, (R.fr f2 (by omega) (by omega)).cong (fun _ _ => rfl) (fun v hv => by apply decide_eq_decide.2; omega), fr.trans' f2 (fun x hx e => by omega)⟩
    · have cI := R.ci i (by omega)
      have hz1 : ¬ h.size = ib := by omega
      have R2 := R.setI (v := i) (by omega) true
      simp -implicitDefEqProofs (disch := omega) [go_sem, r0, r2, r3, r4, k0, k1, cI, R.fi, x2, hz1, n0, n1, nf]
      refine ⟨⟨ab, ib, i + 1, by omega, by omega, by omega, rfl, rfl, R2.cong (fun _ _ => rfl) (fun v hv => ?_), l1, l2, l3, x1, x2, fr.new (by show h.size ≤ ib; omega)⟩, by omega⟩
      unfold upd
      rw [← Bool.decide_and]
      by_cases e : v = i
      · rw [if_pos e]; exact (decide_eq_true (by omega)).symm
      · rw [if_neg e]; apply decide_eq_decide.2; omega

/-- the foremost ones of the first v, as the document's loop gathers them -/
def frStep (a : Nat → Int) (s : Nat → Bool) (l : List Nat) (v : Nat) : List Nat :=
  if s v = true then
    (let l' := if 0 < l.length ∧ a (l.headD 0) < a v then [] else l
     if l'.length = 0 ∨ a v = a (l'.headD 0) then l' ++ [v] else l')
  else l
def frL (a : Nat → Int) (s : Nat → Bool) : Nat → List Nat
  | 0 => []
  | v + 1 => frStep a s (frL a s v) (v + 1)

theorem frStep_mem {a : Nat → Int} {s : Nat → Bool} {l : List Nat} {v w : Nat} (h : w ∈ frStep a s l v) : w ∈ l ∨ w = v := by
  unfold frStep at h
  split at h
  · dsimp only at h
    split at h <;> split at h <;> first | exact .inl h | exact absurd h List.not_mem_nil | (simp only [List.mem_append, List.mem_singleton, List.nil_append] at h; exact h) | (simp only [List.mem_append, List.mem_singleton, List.nil_append] at h; exact .inr h)
  · exact .inl h
theorem frL_mem {a : Nat → Int} {s : Nat → Bool} : ∀ {v w : Nat}, w ∈ frL a s v → 1 ≤ w ∧ w ≤ v
  | 0, w, h => by simp [frL] at h
  | v + 1, w, h => by
    rcases frStep_mem h with h | h
    · have := frL_mem h; omega
    · omega
theorem frL_le {a : Nat → Int} {s : Nat → Bool} : ∀ v, (frL a s v).length ≤ v
  | 0 => by simp [frL]
  | v + 1 => by
    have := frL_le (a := a) (s := s) v
    unfold frL frStep
    split
    · dsimp only
      split <;> split <;> simp <;> omega
    · omega

theorem foremost_h (R : RefAt h ab ib vars a s) : CallsH Try.prog 25 [refV ab ib vars] h fun r h' => ∃ A c, r = .slice A (frL a s vars).length c ∧ SlAt h' A c (nums (frL a s vars)) ∧ (∀ x, blk A x → h.size ≤ x) ∧ Fr (fun _ => False) h h' := by
  have hv := R.hv
  refine calls_of 59 [.tmp 2] Go.Proofs.Try.func25 rfl rfl rfl (by kernel_rfl) (Nat.le_of_ble_eq_true rfl) ?_
  simp -implicitDefEqProofs (disch := omega) [go_sem, refV]
  refine loopK (fun ρ h' => ρ 1 = .pointer (some ⟨h.size, 0, none⟩) ∧ ∃ (v : Nat) (A : Option Addr) (c : Nat), ρ 4 = .int .i64 ((v + 1 : Nat) : Int) ∧ v ≤ vars ∧ ρ 3 = .slice A (frL a s v).length c ∧ SlAt h' A c (nums (frL a s v)) ∧ (∀ x, blk A x → h.size < x) ∧
    hcell h' ⟨h.size, 0, none⟩ = some (.slice (some ⟨ab, 0, none⟩) (vars + 1) (vars + 1)) ∧ hcell h' ⟨h.size, 1, none⟩ = some (.slice (some ⟨ib, 0, none⟩) (vars + 1) (vars + 1)) ∧ Fr (fun _ => False) h h')
    (fun ρ _ => vars + 1 - (intOf (ρ 4)).toNat) (by kernel_rfl) ?_ ?_
  · exact ⟨rfl, 0, none, 0, rfl, by omega, rfl, SlAt.nil _, fun x ⟨a, h, _⟩ => (nomatch h), by simp [hcell], by simp [hcell], (Fr.refl _ _).push⟩
  · rintro ρ h1 ⟨r1, v, A, c, r4, hvv, r3, SA, bA, k0, k1, fr⟩
    have R1 := R.fr fr id id
    have hll := frL_le (a := a) (s := s) v
    by_cases hve : v = vars
    · subst hve
      simp -implicitDefEqProofs (disch := omega) [go_sem, r1, r3, r4, k0, k1]
      exact ⟨A, c, ⟨rfl, rfl⟩, SA, fun x hx => by have := bA x hx; omega, fr⟩
    · have cI := R1.ci (v + 1) (by omega)
      have cA := R1.ca (v + 1) (by omega)
      have ev : ((v + 1 : Nat) : Int).toNat = v + 1 := by omega
      by_cases hs : s (v + 1) = true
      · rw [hs] at cI
        cases hl : frL a s v with
        | nil =>
          rw [hl] at SA r3
          simp -implicitDefEqProofs (disch := omega) [go_sem, r1, r3, r4, k0, k1, ev, cI]
          refine drawK [(0, 0), (1, 0), (2, 0), (3, 0), (4, 0), (5, 1), (6, 0), (7, 0), (8, 1), (9, 0), (10, 1), (11, 0), (12, 0), (13, 1), (14, 0), (15, 1), (16, 0), (17, 0)] mixed (by kernel_rfl) ?_
          simp -implicitDefEqProofs (disch := omega) [go_sem, r1, r3, r4, k0, k1, ev, cI]
          refine drawK [(0, 0), (1, 0), (2, 0), (3, 0), (4, 0), (5, 1), (6, 0), (7, 0), (8, 1), (9, 0), (10, 1), (11, 0), (12, 0), (13, 1), (14, 0), (15, 1), (16, 0), (17, 0)] mixed (by kernel_rfl) ?_
          simp -implicitDefEqProofs (disch := omega) [go_sem, r1, r3, r4, k0, k1, ev, cI]
          have S1 := (SA).keep (h' := Array.push _ (.cells #[.int .i64 ((v + 1 : Nat) : Int)] 3 (0, 0))) (fun x hx => push_old ((SA).blk_lt hx)) (by rw [push_size]; omega)
          refine build1 rfl rfl ?_
          simp -implicitDefEqProofs (disch := omega) [go_sem, r1, r3, r4, ev]
          refine append1 (v := .int .i64 ((v + 1 : Nat) : Int)) S1 (by simp [nums]) (by rw [hcell_push_new]; rfl) rfl (by omega) (by omega) ?_
          intro A' c' h3 S3 f3 own3
          rw [nums_put] at S3
          simp -implicitDefEqProofs (disch := omega) [go_sem, r1, r3, r4, ev]
          have e : frL a s (v + 1) = [v + 1] := by
            show frStep _ _ _ _ = _
            unfold frStep
            rw [if_pos hs, hl]
            simp
          have f13 := (Fr.refl (blk A) h1).push.trans f3
          have tz : h.size < h1.size := hcell_lt k0
          have nb : ¬ blk A h.size := fun hb => by have := bA _ hb; omega
          have o3 : ∀ x, blk A' x → h.size < x := fun x hx => (own3 x hx).elim (fun hb => by have := bA _ hb; omega) (fun h => by rw [push_size] at h; omega)
          have g13 : Fr (fun _ => False) h h3 := fr.trans' f13 (fun x hx hb => by have := bA _ hb; omega)
          exact ⟨⟨v + 1, by omega, by omega, A', c', ⟨rfl, by rw [e]; rfl, rfl⟩, by rw [e]; exact S3, o3, (f13.cell tz nb).trans k0, (f13.cell tz nb).trans k1, g13⟩, by omega⟩
        | cons x t =>
          rw [hl] at SA r3
          have hx := frL_mem (a := a) (s := s) (v := v) (w := x) (by rw [hl]; exact List.mem_cons_self ..)
          have cx := R1.ca x (by omega)
          obtain ⟨bk, rfl, _, _, hcl⟩ := SA.base (by simp [nums])
          have c0 := hcl 0 _ rfl
          by_cases h3 : a x < a (v + 1)
          · simp -implicitDefEqProofs (disch := omega) [go_sem, r1, r3, r4, k0, k1, ev, cI]
            refine drawK [(0, 0), (1, 0), (2, 0), (3, 0), (4, 0), (5, 1), (6, 0), (7, 0), (8, 1), (9, 0), (10, 1), (11, 0), (12, 0), (13, 1), (14, 0), (15, 1), (16, 0), (17, 0)] mixed (by kernel_rfl) ?_
            simp -implicitDefEqProofs (disch := omega) [go_sem, r1, r3, r4, k0, k1, ev, cI, cA, cx, c0]
            refine drawK [(0, 0), (1, 0), (2, 0), (3, 0), (4, 0), (5, 1), (6, 0), (7, 0), (8, 1), (9, 0), (10, 1), (11, 0), (12, 0), (13, 1), (14, 0), (15, 1), (16, 0), (17, 0)] mixed (by kernel_rfl) ?_
            simp -implicitDefEqProofs (disch := omega) [go_sem, r1, r3, r4, k0, k1, ev, cI, cA, cx, c0]
            have e : frL a s (v + 1) = [v + 1] := by
              show frStep _ _ _ _ = _
              unfold frStep
              rw [if_pos hs, hl]
              simp [h3]
            have S1 := ((SlAt.nil h1)).keep (h' := Array.push _ (.cells #[.int .i64 ((v + 1 : Nat) : Int)] 3 (0, 0))) (fun x hx => push_old (((SlAt.nil h1)).blk_lt hx)) (by rw [push_size]; omega)
            refine build1 rfl rfl ?_
            simp -implicitDefEqProofs (disch := omega) [go_sem, r1, r3, r4, ev]
            refine append1 (v := .int .i64 ((v + 1 : Nat) : Int)) S1 (by simp [nums]) (by rw [hcell_push_new]; rfl) rfl (by omega) (by omega) ?_
            intro A' c' h3 S3 f3 own3
            have S3 : SlAt h3 A' c' (nums [v + 1]) := S3
            simp -implicitDefEqProofs (disch := omega) [go_sem, r1, r3, r4, ev]
            have f13 := (Fr.refl (blk none) h1).push.trans f3
            have tz : h.size < h1.size := hcell_lt k0
            have nb : ¬ blk none h.size := fun hb => (by obtain ⟨a, h, _⟩ := hb; cases h)
            have o3 : ∀ x, blk A' x → h.size < x := fun x hx => (own3 x hx).elim (fun hb => (by obtain ⟨a, h, _⟩ := hb; cases h)) (fun h => by rw [push_size] at h; omega)
            have g13 : Fr (fun _ => False) h h3 := fr.trans' f13 (fun x hx hb => (by obtain ⟨a, h, _⟩ := hb; cases h))
            exact ⟨⟨v + 1, by omega, by omega, A', c', ⟨rfl, by rw [e]; rfl, rfl⟩, by rw [e]; exact S3, o3, (f13.cell tz nb).trans k0, (f13.cell tz nb).trans k1, g13⟩, by omega⟩
          · by_cases h4 : a (v + 1) = a x
            · simp -implicitDefEqProofs (disch := omega) [go_sem, r1, r3, r4, k0, k1, ev, cI]
              refine drawK [(0, 0), (1, 0), (2, 0), (3, 0), (4, 0), (5, 1), (6, 0), (7, 0), (8, 1), (9, 0), (10, 1), (11, 0), (12, 0), (13, 1), (14, 0), (15, 1), (16, 0), (17, 0)] mixed (by kernel_rfl) ?_
              simp -implicitDefEqProofs (disch := omega) [go_sem, r1, r3, r4, k0, k1, ev, cI, cA, cx, c0]
              refine drawK [(0, 0), (1, 0), (2, 0), (3, 0), (4, 0), (5, 1), (6, 0), (7, 0), (8, 1), (9, 0), (10, 1), (11, 0), (12, 0), (13, 1), (14, 0), (15, 1), (16, 0), (17, 0)] mixed (by kernel_rfl) ?_
              simp -implicitDefEqProofs (disch := omega) [go_sem, r1, r3, r4, k0, k1, ev, cI, cA, cx, c0]
              have hlt : t.length + 1 ≤ v := by rw [hl] at hll; simpa using hll
              have e : frL a s (v + 1) = (x :: t) ++ [v + 1] := by
                show frStep _ _ _ _ = _
                unfold frStep
                rw [if_pos hs, hl]
                simp [h4]
              have S1 := (SA).keep (h' := Array.push _ (.cells #[.int .i64 ((v + 1 : Nat) : Int)] 3 (0, 0))) (fun x hx => push_old ((SA).blk_lt hx)) (by rw [push_size]; omega)
              refine build1 rfl rfl ?_
              simp -implicitDefEqProofs (disch := omega) [go_sem, r1, r3, r4, ev]
              refine append1 (v := .int .i64 ((v + 1 : Nat) : Int)) S1 (by simp [nums]) (by rw [hcell_push_new]; rfl) rfl (by omega) (by omega) ?_
              intro A' c' h3 S3 f3 own3
              rw [nums_put] at S3
              simp -implicitDefEqProofs (disch := omega) [go_sem, r1, r3, r4, ev]
              have f13 := (Fr.refl (blk (some ⟨bk, 0, none⟩)) h1).push.trans f3
              have tz : h.size < h1.size := hcell_lt k0
              have nb : ¬ blk (some ⟨bk, 0, none⟩) h.size := fun hb => by have := bA _ hb; omega
              have o3 : ∀ x, blk A' x → h.size < x := fun x hx => (own3 x hx).elim (fun hb => by have := bA _ hb; omega) (fun h => by rw [push_size] at h; omega)
              have g13 : Fr (fun _ => False) h h3 := fr.trans' f13 (fun x hx hb => by have := bA _ hb; omega)
              exact ⟨⟨v + 1, by omega, by omega, A', c', ⟨rfl, by rw [e]; simp, rfl⟩, by rw [e]; exact S3, o3, (f13.cell tz nb).trans k0, (f13.cell tz nb).trans k1, g13⟩, by omega⟩
            · simp -implicitDefEqProofs (disch := omega) [go_sem, r1, r3, r4, k0, k1, ev, cI]
              refine drawK [(0, 0), (1, 0), (2, 0), (3, 0), (4, 0), (5, 1), (6, 0), (7, 0), (8, 1), (9, 0), (10, 1), (11, 0), (12, 0), (13, 1), (14, 0), (15, 1), (16, 0), (17, 0)] mixed (by kernel_rfl) ?_
              simp -implicitDefEqProofs (disch := omega) [go_sem, r1, r3, r4, k0, k1, ev, cI, cA, cx, c0]
              refine drawK [(0, 0), (1, 0), (2, 0), (3, 0), (4, 0), (5, 1), (6, 0), (7, 0), (8, 1), (9, 0), (10, 1), (11, 0), (12, 0), (13, 1), (14, 0), (15, 1), (16, 0), (17, 0)] mixed (by kernel_rfl) ?_
              simp -implicitDefEqProofs (disch := omega) [go_sem, r1, r3, r4, k0, k1, ev, cI, cA, cx, c0]
              have e : frL a s (v + 1) = x :: t := by
                show frStep _ _ _ _ = _
                unfold frStep
                rw [if_pos hs, hl]
                simp [h3, h4]
              exact ⟨⟨v + 1, by omega, by omega, _, c, ⟨rfl, by rw [e]; rfl, rfl⟩, by rw [e]; exact SA, bA, fr⟩, by omega⟩
      · have hs0 : s (v + 1) = false := by simpa using hs
        rw [hs0] at cI
        simp -implicitDefEqProofs (disch := omega) [go_sem, r1, r3, r4, k0, k1, ev, cI]
        have e : frL a s (v + 1) = frL a s v := by
          show frStep _ _ _ _ = _
          unfold frStep
          rw [if_neg hs]
        exact ⟨⟨v + 1, by omega, by omega, A, c, ⟨rfl, by rw [e], rfl⟩, by rw [e]; exact SA, bA, fr⟩, by omega⟩
end
end Xe
