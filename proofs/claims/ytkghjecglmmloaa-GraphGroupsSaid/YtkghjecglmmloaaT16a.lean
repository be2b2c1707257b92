/- Go's library, walked: bits.Mul of 1, slices.Repeat of one, slices.Clone. -/
import Derived.Test.YtkghjecglmmloaaT16
namespace Xe
open Go Go.Proofs
set_option maxRecDepth 16000

section
variable {P : Program} {t : Nat} {a : Int}
theorem and_mask (h0 : 0 ≤ a) (h1 : a < 4294967296) : cmpV P .and t (.int .u64 a) (.int .u64 4294967295) = some (.int .u64 a) := by
  obtain ⟨n, rfl⟩ : ∃ n : Nat, a = n := ⟨a.toNat, by omega⟩
  have e : ((BitVec.ofInt 64 (n : Int)) &&& (BitVec.ofInt 64 4294967295)).toNat = n := by
    rw [BitVec.toNat_and]
    have e1 : (BitVec.ofInt 64 (n : Int)).toNat = n := by simp; omega
    have e2 : (BitVec.ofInt 64 4294967295).toNat = 2 ^ 32 - 1 := by decide
    rw [e1, e2, Nat.and_two_pow_sub_one_eq_mod]; omega
  have e3 : (IntKind.u64.wrap ((BitVec.ofInt IntKind.u64.bits (n : Int)) &&& (BitVec.ofInt IntKind.u64.bits 4294967295)).toNat) = (n : Int) := by
    show IntKind.u64.wrap (((BitVec.ofInt 64 (n : Int)) &&& (BitVec.ofInt 64 4294967295)).toNat) = _
    rw [e]; exact IntWalk.u64_in _ (by omega)
  simp only [cmpV, binV, if_true, e3]
theorem shr_32 (h0 : 0 ≤ a) (h1 : a < 4294967296) : cmpV P .shr t (.int .u64 a) (.int .u64 32) = some (.int .u64 0) := by
  have e : a.fdiv (2 ^ (min (32 : Int).toNat IntKind.u64.bits)) = 0 := by
    show a.fdiv 4294967296 = 0
    rw [Int.fdiv_eq_ediv_of_nonneg _ (by omega)]; omega
  simp only [cmpV, binV, if_true, e]
  simp
end

theorem mul64_ok {h : Heap} {n : Nat} (hn : n < 4294967296) : CallsH Try.prog 119 [.int .u64 1, .int .u64 n] h fun r h' => r = .tuple #[.int .u64 0, .int .u64 n] ∧ h' = h := by
  refine calls_of 51 [.tmp 4, .tmp 5] Go.Proofs.Try.func119 rfl rfl rfl (by kernel_rfl) (Nat.le_of_ble_eq_true rfl) ?_
  simp -implicitDefEqProofs (disch := omega) [go_sem, and_mask, shr_32]
theorem mul_ok {h : Heap} {n : Nat} (hn : n < 4294967296) : CallsH Try.prog 101 [.int .u64 1, .int .u64 n] h fun r h' => r = .tuple #[.int .u64 0, .int .u64 n] ∧ h' = h := by
  refine calls_of 30 [.tmp 4, .tmp 5] Go.Proofs.Try.func101 rfl rfl rfl (by kernel_rfl) (Nat.le_of_ble_eq_true rfl) ?_
  simp -implicitDefEqProofs (disch := omega) [go_sem]
  refine useC (mul64_ok hn) ?_
  rintro _ h' ⟨rfl, rfl⟩
  simp -implicitDefEqProofs (disch := omega) [go_sem]

theorem repeatI_ok {h : Heap} {A : Option Addr} {cap n : Nat} {x : Int} (R : RowAt h A [.int .i64 x]) (hn : 1 ≤ n) (hn2 : n ≤ 16777217) :
    CallsH Try.prog 78 [.slice A 1 cap, .int .i64 n] h fun r h' => r = .slice (some ⟨h.size, 0, none⟩) n n ∧ FnB h' h.size n (fun _ => .int .i64 x) ∧ Fr (fun _ => False) h h' := by
  refine calls_of 48 [.tmp 4] Go.Proofs.Try.func78 rfl rfl rfl (by kernel_rfl) (Nat.le_of_ble_eq_true rfl) ?_
  simp -implicitDefEqProofs (disch := omega) [go_sem]
  refine useC (mul_ok (n := n) (by omega)) ?_
  rintro _ h1 ⟨rfl, rfl⟩
  simp -implicitDefEqProofs (disch := omega) [go_sem]
  have Z : FnB (h1.push (.cells (zerosOf (Value.int .i64 0).cells n) 3)) h1.size n (fun _ => .int .i64 0) := FnB.zeros
  have f0 : Fr (fun _ => False) h1 (h1.push (.cells (zerosOf (Value.int .i64 0).cells n) 3)) := (Fr.refl _ _).push
  have e2 : (n : Int).toNat * 1 = n := by omega
  rw [e2]
  refine copyN (ws := [.int .i64 x]) (R.fr0 f0) (by simp; omega) (by simp [Value.oneCell']) (fun j hj => by rw [Z.at' _ (by simp at hj; omega)]; rfl) Z.fz ?_
  intro h3 g1 g2 g3 g4
  simp -implicitDefEqProofs (disch := omega) [go_sem]
  refine loopK (fun ρ h' => ρ 7 = .slice (some ⟨h1.size, 0, none⟩) n n ∧ ∃ j : Nat, ρ 8 = .int .i64 j ∧ 1 ≤ j ∧ j ≤ n ∧ FnB h' h1.size n (fun i => if i < j then .int .i64 x else .int .i64 0) ∧ Fr (fun _ => False) h1 h')
    (fun ρ _ => n - (intOf (ρ 8)).toNat) (by kernel_rfl) ?_ ?_
  · refine ⟨rfl, 1, by congr 1, by omega, hn, ⟨fun i hi => ?_, g3, Nat.lt_of_lt_of_le Z.lt g4.size⟩, f0.trans' g4 (fun x hx e => by omega)⟩
    by_cases e : i < 1
    · have e0 : i = 0 := by omega
      subst e0
      rw [if_pos e]
      have := g1 0 (.int .i64 x) rfl
      simpa using this
    · rw [if_neg e, g2 i (by simp; omega)]; exact Z.at' i hi
  · clear Z g1 g2 g3 g4 f0 e2
    rintro ρ h4 ⟨r7, j, r8, hj1, hj2, Z, fr⟩
    by_cases hj : j < n
    · simp -implicitDefEqProofs (disch := omega) [go_sem, r7, r8]
      refine drawK [(0, 0), (1, 0), (2, 0), (3, 0), (4, 0), (5, 0), (6, 0), (7, 3), (8, 0), (9, 0)] mixed (by kernel_rfl) ?_
      simp -implicitDefEqProofs (disch := omega) [go_sem, r7, r8]
      refine copyN (ws := List.replicate (min j (n - j)) (.int .i64 x)) (.inr ⟨_, _, rfl, fun i v hv => ?_⟩) ?_ (fun w hw => by rw [List.eq_of_mem_replicate hw]; rfl) (fun i hi => ?_) Z.fz ?_
      · rw [List.getElem?_replicate] at hv
        split at hv
        · rename_i hi
          cases hv
          rw [Nat.zero_add, Z.at' i (by omega), if_pos (by omega)]
        · cases hv
      · simp
      · rw [List.length_replicate] at hi
        rw [Z.at' _ (by omega)]; rfl
      · intro h5 g1 g2 g3 g4
        rw [List.length_replicate] at g2
        simp -implicitDefEqProofs (disch := omega) [go_sem, r7, r8]
        refine ⟨⟨j + min j (n - j), by omega, by omega, by omega, ⟨fun i hi => ?_, g3, Nat.lt_of_lt_of_le Z.lt g4.size⟩, fr.trans' g4 (fun x hx e => by omega)⟩, by omega⟩
        by_cases e1 : i < j
        · rw [g2 i (.inl (by omega)), Z.at' i hi, if_pos e1, if_pos (by omega)]
        · by_cases e2 : i < j + min j (n - j)
          · rw [if_pos e2]
            have := g1 (i - j) (.int .i64 x) (by rw [List.getElem?_replicate, if_pos (by omega)])
            rwa [show j + (i - j) = i by omega] at this
          · rw [if_neg e2, g2 i (.inr (by omega)), Z.at' i hi, if_neg e1]
    · have hjn : j = n := by omega
      subst hjn
      simp -implicitDefEqProofs (disch := omega) [go_sem, r7, r8]
      exact ⟨Z.cong fun i hi => by rw [if_pos hi], fr⟩

theorem repeatC_ok {h : Heap} {A : Option Addr} {cap n : Nat} {re im : Nat} (R : RowAt h A [.complex .f64 re im]) (hn : 1 ≤ n) (hn2 : n ≤ 16777217) :
    CallsH Try.prog 79 [.slice A 1 cap, .int .i64 n] h fun r h' => r = .slice (some ⟨h.size, 0, none⟩) n n ∧ FnB h' h.size n (fun _ => .complex .f64 re im) ∧ Fr (fun _ => False) h h' := by
  refine calls_of 48 [.tmp 4] Go.Proofs.Try.func79 rfl rfl rfl (by kernel_rfl) (Nat.le_of_ble_eq_true rfl) ?_
  simp -implicitDefEqProofs (disch := omega) [go_sem]
  refine useC (mul_ok (n := n) (by omega)) ?_
  rintro _ h1 ⟨rfl, rfl⟩
  simp -implicitDefEqProofs (disch := omega) [go_sem]
  have Z : FnB (h1.push (.cells (zerosOf (Value.complex .f64 (Fx.enc 0) (Fx.enc 0)).cells n) 100)) h1.size n (fun _ => .complex .f64 (Fx.enc 0) (Fx.enc 0)) := FnB.zeros
  have f0 : Fr (fun _ => False) h1 (h1.push (.cells (zerosOf (Value.complex .f64 (Fx.enc 0) (Fx.enc 0)).cells n) 100)) := (Fr.refl _ _).push
  have e2 : (n : Int).toNat * 1 = n := by omega
  rw [e2]
  refine copyN (ws := [.complex .f64 re im]) (R.fr0 f0) (by simp; omega) (by simp [Value.oneCell']) (fun j hj => by rw [Z.at' _ (by simp at hj; omega)]; rfl) Z.fz ?_
  intro h3 g1 g2 g3 g4
  simp -implicitDefEqProofs (disch := omega) [go_sem]
  refine loopK (fun ρ h' => ρ 7 = .slice (some ⟨h1.size, 0, none⟩) n n ∧ ∃ j : Nat, ρ 8 = .int .i64 j ∧ 1 ≤ j ∧ j ≤ n ∧ FnB h' h1.size n (fun i => if i < j then .complex .f64 re im else .complex .f64 (Fx.enc 0) (Fx.enc 0)) ∧ Fr (fun _ => False) h1 h')
    (fun ρ _ => n - (intOf (ρ 8)).toNat) (by kernel_rfl) ?_ ?_
  · refine ⟨rfl, 1, by congr 1, by omega, hn, ⟨fun i hi => ?_, g3, Nat.lt_of_lt_of_le Z.lt g4.size⟩, f0.trans' g4 (fun x hx e => by omega)⟩
    by_cases e : i < 1
    · have e0 : i = 0 := by omega
      subst e0
      rw [if_pos e]
      have := g1 0 (.complex .f64 re im) rfl
      simpa using this
    · rw [if_neg e, g2 i (by simp; omega)]; exact Z.at' i hi
  · clear Z g1 g2 g3 g4 f0 e2
    rintro ρ h4 ⟨r7, j, r8, hj1, hj2, Z, fr⟩
    by_cases hj : j < n
    · simp -implicitDefEqProofs (disch := omega) [go_sem, r7, r8]
      refine drawK [(0, 0), (1, 0), (2, 0), (3, 0), (4, 0), (5, 0), (6, 0), (7, 3), (8, 0), (9, 0)] mixed (by kernel_rfl) ?_
      simp -implicitDefEqProofs (disch := omega) [go_sem, r7, r8]
      refine copyN (ws := List.replicate (min j (n - j)) (.complex .f64 re im)) (.inr ⟨_, _, rfl, fun i v hv => ?_⟩) ?_ (fun w hw => by rw [List.eq_of_mem_replicate hw]; rfl) (fun i hi => ?_) Z.fz ?_
      · rw [List.getElem?_replicate] at hv
        split at hv
        · rename_i hi
          cases hv
          rw [Nat.zero_add, Z.at' i (by omega), if_pos (by omega)]
        · cases hv
      · simp
      · rw [List.length_replicate] at hi
        rw [Z.at' _ (by omega)]; rfl
      · intro h5 g1 g2 g3 g4
        rw [List.length_replicate] at g2
        simp -implicitDefEqProofs (disch := omega) [go_sem, r7, r8]
        refine ⟨⟨j + min j (n - j), by omega, by omega, by omega, ⟨fun i hi => ?_, g3, Nat.lt_of_lt_of_le Z.lt g4.size⟩, fr.trans' g4 (fun x hx e => by omega)⟩, by omega⟩
        by_cases e1 : i < j
        · rw [g2 i (.inl (by omega)), Z.at' i hi, if_pos e1, if_pos (by omega)]
        · by_cases e2 : i < j + min j (n - j)
          · rw [if_pos e2]
            have := g1 (i - j) (.complex .f64 re im) (by rw [List.getElem?_replicate, if_pos (by omega)])
            rwa [show j + (i - j) = i by omega] at this
          · rw [if_neg e2, g2 i (.inr (by omega)), Z.at' i hi, if_neg e1]
    · have hjn : j = n := by omega
      subst hjn
      simp -implicitDefEqProofs (disch := omega) [go_sem, r7, r8]
      exact ⟨Z.cong fun i hi => by rw [if_pos hi], fr⟩

theorem clone_ok {h : Heap} {A : Option Addr} {cap n : Nat} {vs : List Value} (R : RowAt h A vs) (hn : n = vs.length) (hone : ∀ w ∈ vs, w.oneCell' = true) (hl : n < 2 ^ 40) :
    CallsH Try.prog 81 [.slice A n cap] h fun r h' => ∃ A' c', r = .slice A' n c' ∧ SlAt h' A' c' vs ∧ (∀ x, blk A' x → h.size ≤ x) ∧ Fr (fun _ => False) h h' := by
  refine calls_of 8 [.tmp 2] Go.Proofs.Try.func81 rfl rfl rfl (by kernel_rfl) (Nat.le_of_ble_eq_true rfl) ?_
  subst hn
  cases A with
  | none =>
    have hv : vs = [] := by
      rcases R with h | ⟨_, _, h, _⟩
      · exact h
      · cases h
    subst hv
    simp -implicitDefEqProofs (disch := omega) [go_sem]
    exact ⟨none, 0, ⟨rfl, rfl⟩, SlAt.nil _, fun x ⟨_, h, _⟩ => (nomatch h), Fr.refl _ _⟩
  | some a =>
    simp -implicitDefEqProofs (disch := omega) [go_sem]
    refine build0 ?_
    simp -implicitDefEqProofs (disch := omega) [go_sem]
    have f0 : Fr (fun _ => False) h (h.push (.cells #[] 3)) := (Fr.refl _ _).push
    refine appendN (vs := []) (cap := 0) (SlAt.new (vs := []) (e := 3)) rfl (R.fr0 f0) (by omega) (by omega) hone (by omega) (by omega) ?_
    intro A' c' h2 S f hA
    simp -implicitDefEqProofs (disch := omega) [go_sem]
    refine ⟨A', c', ⟨rfl, rfl⟩, ?_, fun x hx => ?_, f0.trans' f fun x hx ⟨a, ha, e⟩ => ?_⟩
    · rw [Nat.mul_one] at S; exact S
    · rcases hA x hx with ⟨a, ha, rfl⟩ | h
      · cases ha; exact Nat.le_refl _
      · rw [push_size] at h; omega
    · cases ha; simp at e; omega
end Xe
