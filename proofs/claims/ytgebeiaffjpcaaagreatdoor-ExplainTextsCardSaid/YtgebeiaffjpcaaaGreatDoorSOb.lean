/- The document's words, walked: numerals, identifiers. -/
import Derived.Test.YtgebeiaffjpcaaaGreatDoorGG
import Derived.Test.YtgebeiaffjpcaaaGreatDoorEX0
namespace Xe
open Go Go.Proofs
set_option maxRecDepth 16000
set_option maxHeartbeats 1000000

section
variable {h : Heap}
theorem strIx_at {l : List UInt8} {i : Nat} {c : UInt8} {kd : IntKind} (hc : l[i]? = some c) : strIx (S l) (.int kd (i : Int)) = some (.int .u8 (c.toNat : Int)) := by
  obtain ⟨hi, rfl⟩ := List.getElem?_eq_some_iff.1 hc
  exact strIx_S hi
/-- one byte, fresh, as a string -/
def u8of (n : Int) : UInt8 := UInt8.ofNat n.toNat
def dgc (n : Nat) : UInt8 := UInt8.ofNat (48 + n)
theorem u8of_dg {n : Nat} : u8of (48 + (n : Int)) = dgc n := by unfold u8of dgc; congr 1
theorem b2s_new1 {n : Int} {e : TypeId} : b2s (.slice (some ⟨h.size, 0, none⟩) 1 1) (h.push (.cells #[.int .u8 n] e)) = some (S [u8of n]) := by
  show (loadN (h.push (.cells #[.int .u8 n] e)) ⟨h.size, 0, none⟩ 0 1).bind _ = _
  unfold loadN loadN
  rw [add_0, hcell_push_lit]; rfl
theorem decDigits_small {u : Nat} (hu : u < 10) : Lib.decDigits u = [dgc u] := by rw [Lib.decDigits, dif_pos hu]; rfl
theorem decDigits_big {u : Nat} (hu : ¬ u < 10) : Lib.decDigits u = Lib.decDigits (u / 10) ++ [dgc (u % 10)] := by rw [Lib.decDigits, dif_neg hu]; rfl
theorem decDigits_le {u : Nat} (hu : u < 18446744073709551616) : (Lib.decDigits u).length ≤ 20 := by
  rw [Lib.decDigits_length]
  by_cases h1 : 1 ≤ u
  · have := Lib.numDigits_eq u h1 hu; split at this <;> omega
  · rw [Lib.nDigits_small (by omega)]; omega

theorem rtext01_ok (u : Nat) (hu : u < 18446744073709551616) : CallsH Tryz.prog 93 [.int .u64 u] h fun r h' => r = S (Lib.decDigits u) ∧ Gr h h' := by
  refine calls_of 23 [.tmp 2] Go.Proofs.Tryz.func93 rfl rfl rfl ?_
  have e1 : ∀ u : Nat, ((u : Int)).tmod 10 = ((u % 10 : Nat) : Int) := fun u => rfl
  have e2 : ∀ u : Nat, ((u : Int)).tdiv 10 = ((u / 10 : Nat) : Int) := fun u => rfl
  have e3 : ∀ u : Nat, u8of (48 + (u : Int) % 10) = dgc (u % 10) := fun u => u8of_dg (n := u % 10)
  have e4 : ∀ u : Nat, u8of (48 + (u : Int) / 10 % 10) = dgc (u / 10 % 10) := fun u => u8of_dg (n := u / 10 % 10)
  have hb := decDigits_le hu
  simp -implicitDefEqProofs (disch := omega) [go_sem, e1]
  refine build1 rfl rfl ?_
  simp -implicitDefEqProofs (disch := omega) [go_sem, b2s_new1, e3]
  refine loopK (fun ρ h' => Gr h h' ∧ ∃ (v : Nat) (t : List UInt8), ρ 0 = .int .u64 v ∧ v ≤ u ∧ ρ 3 = S (dgc (v % 10) :: t) ∧ Lib.decDigits u = Lib.decDigits v ++ t) (fun ρ _ => (intOf (ρ 0)).toNat) (by kernel_rfl) ?_ ?_
  · exact ⟨(Fr.refl _ _).push, u, [], rfl, by omega, rfl, by simp⟩
  · rintro ρ h1 ⟨f, v, t, r0, hv, r3, hd⟩
    by_cases h9 : 9 < v
    · simp -implicitDefEqProofs (disch := omega) [go_sem, r0, r3, e1, e2]
      refine build1 rfl rfl ?_
      have hl : t.length ≤ 20 := by rw [hd, List.length_append] at hb; omega
      have e5 : cmpV Tryz.prog .add 9 (S [dgc (v / 10 % 10)]) (S (dgc (v % 10) :: t)) = some (S (dgc (v / 10 % 10) :: dgc (v % 10) :: t)) := cmpV_sadd (by simp; omega)
      simp -implicitDefEqProofs (disch := omega) [go_sem, b2s_new1, e4, e5, r0, r3]
      refine ⟨⟨f.push, v / 10, by omega, by omega, dgc (v % 10) :: t, rfl, ?_⟩, by omega⟩
      rw [hd, decDigits_big (by omega), List.append_assoc]; rfl
    · simp -implicitDefEqProofs (disch := omega) [go_sem, r0, r3, e1, e2]
      rw [hd, decDigits_small (by omega), show v % 10 = v by omega]
      exact ⟨rfl, f⟩

theorem dig_le {c : UInt8} : ((c.toNat : Int) < 48 ∨ 57 < (c.toNat : Int)) ↔ dig c = false := by
  unfold dig
  by_cases h1 : 48 ≤ c.toNat <;> by_cases h2 : c.toNat ≤ 57 <;> simp [h1, h2] <;> omega

theorem numeric02_ok (l : List UInt8) (hl : l.length < 2 ^ 40) : CallsH Tryz.prog 160 [S l] h fun r h' => r = .bool (numeric l) ∧ h' = h := by
  refine calls_of 22 [.tmp 2] Go.Proofs.Tryz.func160 rfl rfl rfl ?_
  simp -implicitDefEqProofs (disch := omega) [go_sem]
  refine loopK (fun ρ h' => ρ 0 = S l ∧ h' = h ∧ ∃ i : Nat, ρ 3 = .int .i64 i ∧ i ≤ l.length ∧ AllT dig (l.take i)) (fun ρ _ => l.length - (intOf (ρ 3)).toNat) (by kernel_rfl) ?_ ?_
  · exact ⟨rfl, rfl, 0, rfl, by omega, .zero⟩
  · rintro ρ h' ⟨r0, rfl, i, r3, hi, ha⟩
    by_cases hil : i < l.length
    · obtain ⟨c, hc⟩ : ∃ c, l[i]? = some c := ⟨_, List.getElem?_eq_getElem hil⟩
      have ec := strIx_at (kd := .i64) hc
      by_cases h1 : (c.toNat : Int) < 48
      · simp -implicitDefEqProofs (disch := omega) [go_sem, r0, r3, ec]
        unfold numeric
        rw [all_no hc (dig_le.1 (.inl h1))]; rfl
      · by_cases h2 : 57 < (c.toNat : Int)
        · simp -implicitDefEqProofs (disch := omega) [go_sem, r0, r3, ec]
          unfold numeric
          rw [all_no hc (dig_le.1 (.inr h2))]; rfl
        · have hd : dig c = true := by
            cases hd : dig c with
            | true => rfl
            | false => rcases dig_le.2 hd with h | h <;> contradiction
          simp -implicitDefEqProofs (disch := omega) [go_sem, r0, r3, ec]
          exact ⟨⟨i + 1, by omega, by omega, all_take ha hc hd⟩, by omega⟩
    · have e : i = l.length := by omega
      subst e
      simp -implicitDefEqProofs (disch := omega) [go_sem, r0, r3]
      unfold numeric
      rw [all_end ha]
      cases l <;> rfl

theorem u8_one {c : UInt8} {n : Nat} (hn : n < 256) : c = UInt8.ofNat n ↔ c.toNat = n := by
  constructor
  · rintro rfl; rw [UInt8.toNat_ofNat']; omega
  · intro h; rw [← h]; simp
theorem is01_ok (l : List UInt8) (hl : l.length < 2 ^ 40) : CallsH Tryz.prog 161 [S l] h fun r h' => r = .bool (numIs l) ∧ h' = h := by
  refine calls_of 31 [.tmp 2] Go.Proofs.Tryz.func161 rfl rfl rfl ?_
  simp -implicitDefEqProofs (disch := omega) [go_sem]
  refine loopK (fun ρ h' => ρ 0 = S l ∧ h' = h ∧ ∃ i : Nat, ρ 3 = .int .i64 i ∧ i ≤ l.length ∧ AllT dig (l.take i)) (fun ρ _ => l.length - (intOf (ρ 3)).toNat) (by kernel_rfl) ?_ ?_
  · exact ⟨rfl, rfl, 0, rfl, by omega, .zero⟩
  · rintro ρ h' ⟨r0, rfl, i, r3, hi, ha⟩
    by_cases hil : i < l.length
    · obtain ⟨c, hc⟩ : ∃ c, l[i]? = some c := ⟨_, List.getElem?_eq_getElem hil⟩
      have ec := strIx_at (kd := .i64) hc
      by_cases h1 : (c.toNat : Int) < 48
      · simp -implicitDefEqProofs (disch := omega) [go_sem, r0, r3, ec]
        unfold numIs
        rw [all_no hc (dig_le.1 (.inl h1))]; rfl
      · by_cases h2 : 57 < (c.toNat : Int)
        · simp -implicitDefEqProofs (disch := omega) [go_sem, r0, r3, ec]
          unfold numIs
          rw [all_no hc (dig_le.1 (.inr h2))]; rfl
        · have hd : dig c = true := by
            cases hd : dig c with
            | true => rfl
            | false => rcases dig_le.2 hd with h | h <;> contradiction
          simp -implicitDefEqProofs (disch := omega) [go_sem, r0, r3, ec]
          exact ⟨⟨i + 1, by omega, by omega, all_take ha hc hd⟩, by omega⟩
    · have e : i = l.length := by omega
      subst e
      have e1 : numIs l = (!l.isEmpty && (decide (l.length = 1) || !decide ((l.headD 0).toNat = 48))) := by unfold numIs; rw [all_end ha]; rfl
      rw [e1]
      match l with
      | [] => simp -implicitDefEqProofs (disch := omega) [go_sem, r0, r3]
      | [c] =>
        have ec : strIx (S [c]) (.int .i64 0) = some (.int .u8 (c.toNat : Int)) := strIx_at (l := [c]) (i := 0) (kd := .i64) rfl
        by_cases h48 : c = 48
        · subst h48
          simp -implicitDefEqProofs (disch := omega) [go_sem, r0, r3]
        · have hn : ¬ c.toNat = 48 := fun e => h48 ((u8_one (by decide)).2 e)
          have hne : ¬ ([c] = [48]) := fun e => h48 (by injection e)
          simp -implicitDefEqProofs (disch := omega) [go_sem, r0, r3, ec, hne]
      | c :: d :: t =>
        have ec : strIx (S (c :: d :: t)) (.int .i64 0) = some (.int .u8 (c.toNat : Int)) := strIx_at (l := c :: d :: t) (i := 0) (kd := .i64) rfl
        have hne : ¬ (c :: d :: t = [48]) := fun e => by simp at e
        simp -implicitDefEqProofs (disch := omega) [go_sem, r0, r3, ec, hne]
        omega
theorem byte02_ok (c : UInt8) : CallsH Tryz.prog 122 [.int .u8 c.toNat] h fun r h' => r = .bool (idB c) ∧ h' = h := by
  refine calls_of 29 [.tmp 2] Go.Proofs.Tryz.func122 rfl rfl rfl ?_
  have hc := c.toNat_lt
  have cs : c.toNat < 45 ∨ c.toNat = 45 ∨ (45 < c.toNat ∧ c.toNat < 48) ∨ (48 ≤ c.toNat ∧ c.toNat ≤ 57) ∨ (57 < c.toNat ∧ c.toNat < 65) ∨ (65 ≤ c.toNat ∧ c.toNat ≤ 90) ∨ (90 < c.toNat ∧ c.toNat < 97) ∨ (97 ≤ c.toNat ∧ c.toNat ≤ 122) ∨ 122 < c.toNat := by omega
  have ei : idB c = decide (c.toNat = 45 ∨ (48 ≤ c.toNat ∧ c.toNat ≤ 57) ∨ (65 ≤ c.toNat ∧ c.toNat ≤ 90) ∨ (97 ≤ c.toNat ∧ c.toNat ≤ 122)) := by
    rw [Bool.eq_iff_iff]
    simp only [idB, dig, Bool.or_eq_true, Bool.and_eq_true, decide_eq_true_eq]
    omega
  rcases cs with h1 | h1 | h1 | h1 | h1 | h1 | h1 | h1 | h1
  all_goals
    simp -implicitDefEqProofs (disch := omega) [go_sem]
    first
      | (rw [ei]; exact decide_eq_true (by omega))
      | (rw [ei]; exact decide_eq_false (by omega))
end
end Xe

/- Identifiers, names: the document's and the program's. -/
namespace Xe
open Go Go.Proofs
set_option maxRecDepth 16000
set_option maxHeartbeats 1000000

section
variable {h : Heap}

/-! ### Bytes -/
theorem or32_all : ∀ n : Fin 256, (BitVec.ofInt 8 (n.val : Int) ||| BitVec.ofInt 8 32).toNat = if n.val / 32 % 2 = 1 then n.val else n.val + 32 := by decide +kernel
theorem or_u8 {P : Program} {t : Nat} {c : UInt8} : cmpV P .or t (.int .u8 (c.toNat : Int)) (.int .u8 32) = some (.int .u8 (((if c.toNat / 32 % 2 = 1 then c.toNat else c.toNat + 32 : Nat)) : Int)) := by
  have hc := c.toNat_lt
  have h1 := or32_all ⟨c.toNat, hc⟩
  simp only at h1
  show some (Value.int .u8 (IntKind.u8.wrap ((BitVec.ofInt 8 (c.toNat : Int) ||| BitVec.ofInt 8 32).toNat))) = _
  rw [h1, IntKind.wrap_u8]
  congr 2
  split <;> omega
theorem digit_ok (c : UInt8) : CallsH Tryz.prog 201 [.int .u8 c.toNat] h fun r h' => r = .bool (dig c) ∧ h' = h := by
  refine calls_of 6 [.tmp 2] Go.Proofs.Tryz.func201 rfl rfl rfl ?_
  have hc := c.toNat_lt
  simp -implicitDefEqProofs (disch := omega) [go_sem, IntKind.wrap_u8]
  unfold dig
  rw [Bool.eq_iff_iff]
  simp only [Bool.and_eq_true, decide_eq_true_eq]
  omega
theorem isByte_ok (c : UInt8) : CallsH Tryz.prog 129 [.int .u8 c.toNat] h fun r h' => r = .bool (idB c) ∧ h' = h := by
  refine calls_of 16 [.tmp 2] Go.Proofs.Tryz.func129 rfl rfl rfl ?_
  have hc := c.toNat_lt
  have ei : idB c = decide (c.toNat = 45 ∨ (48 ≤ c.toNat ∧ c.toNat ≤ 57) ∨ (65 ≤ c.toNat ∧ c.toNat ≤ 90) ∨ (97 ≤ c.toNat ∧ c.toNat ≤ 122)) := by
    rw [Bool.eq_iff_iff]
    simp only [idB, dig, Bool.or_eq_true, Bool.and_eq_true, decide_eq_true_eq]
    omega
  have e2 : cmpV Tryz.prog .or 5 (.int .u8 (c.toNat : Int)) (.int .u8 32) = _ := or_u8
  obtain ⟨m, hm⟩ : ∃ m, m = (if c.toNat / 32 % 2 = 1 then c.toNat else c.toNat + 32 : Nat) := ⟨_, rfl⟩
  rw [← hm] at e2
  have hm3 : m < 288 := by rw [hm]; split <;> omega
  by_cases h1 : 48 ≤ c.toNat ∧ c.toNat ≤ 57
  · simp -implicitDefEqProofs (disch := omega) [go_sem, IntKind.wrap_u8]
    rw [ei]; exact decide_eq_true (by omega)
  · have hm2 : (97 ≤ m ∧ m ≤ 122) ↔ ((65 ≤ c.toNat ∧ c.toNat ≤ 90) ∨ (97 ≤ c.toNat ∧ c.toNat ≤ 122)) := by rw [hm]; split <;> omega
    by_cases h2 : 97 ≤ m ∧ m ≤ 122
    · simp -implicitDefEqProofs (disch := omega) [go_sem, IntKind.wrap_u8, e2]
      rw [ei]; exact decide_eq_true (by omega)
    · by_cases h3 : c.toNat = 45
      · simp -implicitDefEqProofs (disch := omega) [go_sem, IntKind.wrap_u8, e2]
        rw [ei]; exact decide_eq_true (by omega)
      · simp -implicitDefEqProofs (disch := omega) [go_sem, IntKind.wrap_u8, e2]
        rw [ei]; exact decide_eq_false (by omega)
theorem first_ok (c : UInt8) : CallsH Tryz.prog 126 [.int .u8 c.toNat] h fun r h' => r = .bool (firstB c) ∧ h' = h := by
  refine calls_of 11 [.tmp 2] Go.Proofs.Tryz.func126 rfl rfl rfl ?_
  have hc := c.toNat_lt
  have ei : firstB c = decide ((97 ≤ c.toNat ∧ c.toNat ≤ 122) ∨ (48 ≤ c.toNat ∧ c.toNat ≤ 57)) := by
    rw [Bool.eq_iff_iff]
    simp only [firstB, dig, Bool.or_eq_true, Bool.and_eq_true, decide_eq_true_eq]
  by_cases h1 : 97 ≤ c.toNat ∧ c.toNat ≤ 122
  · simp -implicitDefEqProofs (disch := omega) [go_sem, IntKind.wrap_u8]
    rw [ei]; exact decide_eq_true (by omega)
  · by_cases h2 : 48 ≤ c.toNat ∧ c.toNat ≤ 57
    · simp -implicitDefEqProofs (disch := omega) [go_sem, IntKind.wrap_u8]
      rw [ei]; exact decide_eq_true (by omega)
    · simp -implicitDefEqProofs (disch := omega) [go_sem, IntKind.wrap_u8]
      rw [ei]; exact decide_eq_false (by omega)
theorem nameB_ok (c : UInt8) : CallsH Tryz.prog 127 [.int .u8 c.toNat] h fun r h' => r = .bool (nameB c) ∧ h' = h := by
  refine calls_of 17 [.tmp 2] Go.Proofs.Tryz.func127 rfl rfl rfl ?_
  simp -implicitDefEqProofs (disch := omega) [go_sem]
  refine useC (first_ok c) ?_
  rintro _ h2 ⟨rfl, rfl⟩
  cases h1 : firstB c with
  | true =>
    simp -implicitDefEqProofs (disch := omega) [go_sem]
    unfold nameB; rw [h1]; rfl
  | false =>
    have ei : nameB c = decide (c.toNat = 45 ∨ c.toNat = 95 ∨ c.toNat = 46) := by
      rw [Bool.eq_iff_iff]
      simp only [nameB, h1, Bool.or_eq_true, decide_eq_true_eq, Bool.false_eq_true, false_or, or_assoc]
    by_cases h2 : c.toNat = 45
    · simp -implicitDefEqProofs (disch := omega) [go_sem]
      rw [ei]; exact decide_eq_true (by omega)
    · by_cases h3 : c.toNat = 95
      · simp -implicitDefEqProofs (disch := omega) [go_sem]
        rw [ei]; exact decide_eq_true (by omega)
      · by_cases h4 : c.toNat = 46
        · simp -implicitDefEqProofs (disch := omega) [go_sem]
          rw [ei]; exact decide_eq_true (by omega)
        · simp -implicitDefEqProofs (disch := omega) [go_sem]
          rw [ei]; exact decide_eq_false (by omega)
theorem first08_ok (c : UInt8) : CallsH Tryz.prog 120 [.int .u8 c.toNat] h fun r h' => r = .bool (firstB c) ∧ h' = h := by
  refine calls_of 17 [.tmp 2] Go.Proofs.Tryz.func120 rfl rfl rfl ?_
  have ei : firstB c = decide ((97 ≤ c.toNat ∧ c.toNat ≤ 122) ∨ (48 ≤ c.toNat ∧ c.toNat ≤ 57)) := by
    rw [Bool.eq_iff_iff]
    simp only [firstB, dig, Bool.or_eq_true, Bool.and_eq_true, decide_eq_true_eq]
  have cs : c.toNat < 48 ∨ (48 ≤ c.toNat ∧ c.toNat ≤ 57) ∨ (57 < c.toNat ∧ c.toNat < 97) ∨ (97 ≤ c.toNat ∧ c.toNat ≤ 122) ∨ 122 < c.toNat := by omega
  rcases cs with h1 | h1 | h1 | h1 | h1
  all_goals
    simp -implicitDefEqProofs (disch := omega) [go_sem]
    first
      | (rw [ei]; exact decide_eq_true (by omega))
      | (rw [ei]; exact decide_eq_false (by omega))

/-! ### Numerals -/
theorem numIs_ok (l : List UInt8) (hl : l.length < 2 ^ 40) : CallsH Tryz.prog 169 [S l] h fun r h' => r = .bool (numIs l) ∧ h' = h := by
  refine calls_of 33 [.tmp 2] Go.Proofs.Tryz.func169 rfl rfl rfl ?_
  simp -implicitDefEqProofs (disch := omega) [go_sem]
  refine scopeM 0 (fun ρ h' => ρ 0 = S l ∧ h' = h ∧ ∃ i : Nat, ρ 3 = .int .i64 i ∧ i ≤ l.length ∧ AllT dig (l.take i)) (fun ρ _ => l.length - (intOf (ρ 3)).toNat) rfl rfl (by kernel_rfl) ?_ ?_
  · simp -implicitDefEqProofs (disch := omega) [go_sem]
    exact ⟨0, rfl, by omega, .zero⟩
  · rintro ρ h' ⟨r0, rfl, i, r3, hi, ha⟩
    by_cases hil : i < l.length
    · obtain ⟨c, hc⟩ : ∃ c, l[i]? = some c := ⟨_, List.getElem?_eq_getElem hil⟩
      have ec := strIx_at (kd := .i64) hc
      simp -implicitDefEqProofs (disch := omega) [go_sem, r0, r3, ec]
      refine useC (digit_ok c) ?_
      rintro _ h2 ⟨rfl, rfl⟩
      cases hd : dig c with
      | true =>
        simp -implicitDefEqProofs (disch := omega) [go_sem, r0, r3, ec]
        exact ⟨⟨i + 1, by omega, by omega, all_take ha hc hd⟩, by omega⟩
      | false =>
        have e1 : numIs l = false := by unfold numIs; rw [all_no hc hd]; rfl
        by_cases hi0 : 0 < i
        · simp -implicitDefEqProofs (disch := omega) [go_sem, r0, r3, ec, e1]
        · simp -implicitDefEqProofs (disch := omega) [go_sem, r0, r3, ec, e1]
    · have e : i = l.length := by omega
      subst e
      have e1 : numIs l = (!l.isEmpty && (decide (l.length = 1) || !decide ((l.headD 0).toNat = 48))) := by unfold numIs; rw [all_end ha]; rfl
      rw [e1]
      match l with
      | [] => simp -implicitDefEqProofs (disch := omega) [go_sem, r0, r3]
      | [c] => simp -implicitDefEqProofs (disch := omega) [go_sem, r0, r3]
      | c :: d :: t =>
        have ec : strIx (S (c :: d :: t)) (.int .i64 0) = some (.int .u8 (c.toNat : Int)) := strIx_at (l := c :: d :: t) (i := 0) (kd := .i64) rfl
        simp -implicitDefEqProofs (disch := omega) [go_sem, r0, r3, ec]
        omega

theorem dropWhile_nil {p : UInt8 → Bool} : ∀ {l : List UInt8}, l.dropWhile p = [] ↔ l.all p = true
  | [] => by simp
  | c :: l => by
    rw [List.dropWhile_cons, List.all_cons]
    cases hp : p c with
    | true => simp only [if_true, Bool.true_and]; exact dropWhile_nil
    | false => simp
theorem trim_nil (l : List UInt8) : Lib.trimS l tenDigits = [] ↔ l.all dig = true := by
  have hp : (fun x => tenDigits.contains x) = dig := by
    funext x
    have h := x.toNat_lt
    have e1 : tenDigits.contains x = decide (x ∈ tenDigits) := by simp [List.contains_eq_mem]
    rw [e1]
    rw [Bool.eq_iff_iff]
    unfold dig
    simp only [decide_eq_true_eq, Bool.and_eq_true, tenDigits, List.mem_cons, List.not_mem_nil, or_false]
    constructor
    · rintro (rfl | rfl | rfl | rfl | rfl | rfl | rfl | rfl | rfl | rfl) <;> decide
    · rintro ⟨h1, h2⟩
      have g : ∀ n : Nat, n < 256 → x.toNat = n → x = UInt8.ofNat n := fun n hn e => (u8_one hn).2 e
      rcases (show x.toNat = 48 ∨ x.toNat = 49 ∨ x.toNat = 50 ∨ x.toNat = 51 ∨ x.toNat = 52 ∨ x.toNat = 53 ∨ x.toNat = 54 ∨ x.toNat = 55 ∨ x.toNat = 56 ∨ x.toNat = 57 by omega) with e | e | e | e | e | e | e | e | e | e <;> (have := g _ (by decide) e; rw [this]; decide)
  unfold Lib.trimS Lib.trimLeftS Lib.trimRightS
  rw [hp, dropWhile_nil]
  rw [List.all_reverse]
  constructor
  · intro h
    have h1 : (l.reverse.dropWhile dig).all dig = true := h
    have h2 : l.reverse = l.reverse.takeWhile dig ++ l.reverse.dropWhile dig := (List.takeWhile_append_dropWhile).symm
    have h3 : (l.reverse.takeWhile dig).all dig = true := List.all_takeWhile
    have h4 : l.reverse.all dig = true := by rw [h2, List.all_append, h3, h1]; rfl
    rwa [List.all_reverse] at h4
  · intro h
    rw [List.all_eq_true] at h ⊢
    exact fun x hx => h x (List.mem_reverse.1 ((List.dropWhile_sublist _).subset hx))
theorem numericP_ok (l : List UInt8) (hl : l.length < 2 ^ 40) : CallsH Tryz.prog 168 [S l] h fun r h' => r = .bool (numeric l) ∧ Gr h h' := by
  refine calls_of 10 [.tmp 2] Go.Proofs.Tryz.func168 rfl rfl rfl ?_
  by_cases h0 : l = []
  · subst h0
    simp -implicitDefEqProofs (disch := omega) [go_sem]
    exact ⟨rfl, Fr.refl _ _⟩
  · have hpos : 0 < l.length := List.length_pos_iff.2 h0
    simp -implicitDefEqProofs (disch := omega) [go_sem, h0]
    refine useC (trim_ok l hpos (by omega)) ?_
    rintro _ h2 ⟨rfl, f⟩
    by_cases ha : Lib.trimS l tenDigits = []
    · simp -implicitDefEqProofs (disch := omega) [go_sem, ha]
      exact ⟨by unfold numeric; rw [(trim_nil l).1 ha]; simpa using h0, f⟩
    · simp -implicitDefEqProofs (disch := omega) [go_sem, ha]
      refine ⟨?_, f⟩
      unfold numeric
      cases hd : l.all dig with
      | true => exact absurd ((trim_nil l).2 hd) ha
      | false => rfl
/-- an error's number of an identifier, as the program tells it and as the document does -/
theorem check_ok (l : List UInt8) (i : Nat) (pre : Bool) (hi : i < 2 ^ 40) : CallsH Tryz.prog 128 [S l, .int .i64 i, .bool pre] h fun r h' => r = .int .i64 (wrongI l i pre : Nat) ∧ Gr h h' := by
  refine calls_of 29 [.tmp 6] Go.Proofs.Tryz.func128 rfl rfl rfl ?_
  by_cases h0 : l = []
  · subst h0
    simp -implicitDefEqProofs (disch := omega) [go_sem]
    exact ⟨rfl, Fr.refl _ _⟩
  · by_cases hl : 255 < l.length ∨ 15 < i
    · have e : wrongI l i pre = 4 := by unfold wrongI; rw [if_neg h0, if_pos hl]
      rw [e]
      by_cases hl1 : 255 < l.length
      · simp -implicitDefEqProofs (disch := omega) [go_sem, h0]
        exact Fr.refl _ _
      · simp -implicitDefEqProofs (disch := omega) [go_sem, h0]
        exact Fr.refl _ _
    · have e : wrongI l i pre = if (pre && numeric l && !numIs l) = true then 3 else 0 := by unfold wrongI; rw [if_neg h0, if_neg hl]
      rw [e]
      cases pre with
      | false =>
        simp -implicitDefEqProofs (disch := omega) [go_sem, h0]
        exact Fr.refl _ _
      | true =>
        simp -implicitDefEqProofs (disch := omega) [go_sem, h0]
        refine useC (numericP_ok l (by omega)) ?_
        rintro _ h2 ⟨rfl, f⟩
        cases hn : numeric l with
        | false =>
          simp -implicitDefEqProofs (disch := omega) [go_sem, h0]
          exact f
        | true =>
          simp -implicitDefEqProofs (disch := omega) [go_sem, h0]
          refine useC (numIs_ok l (by omega)) ?_
          rintro _ h3 ⟨rfl, rfl⟩
          cases hs : numIs l with
          | false =>
            simp -implicitDefEqProofs (disch := omega) [go_sem, h0]
            exact f
          | true =>
            simp -implicitDefEqProofs (disch := omega) [go_sem, h0]
            exact f
theorem wrong02_ok (l : List UInt8) (i : Nat) (pre : Bool) (hi : i < 2 ^ 40) : CallsH Tryz.prog 121 [S l, .int .i64 i, .bool pre] h fun r h' => r = .int .i64 (wrongI l i pre : Nat) ∧ h' = h := by
  refine calls_of 26 [.tmp 6] Go.Proofs.Tryz.func121 rfl rfl rfl ?_
  by_cases h0 : l = []
  · subst h0
    simp -implicitDefEqProofs (disch := omega) [go_sem]
    rfl
  · by_cases hl : 255 < l.length ∨ 15 < i
    · have e : wrongI l i pre = 4 := by unfold wrongI; rw [if_neg h0, if_pos hl]
      rw [e]
      by_cases hl1 : 255 < l.length
      · simp -implicitDefEqProofs (disch := omega) [go_sem, h0]
      · simp -implicitDefEqProofs (disch := omega) [go_sem, h0]
    · have e : wrongI l i pre = if (pre && numeric l && !numIs l) = true then 3 else 0 := by unfold wrongI; rw [if_neg h0, if_neg hl]
      rw [e]
      cases pre with
      | false => simp -implicitDefEqProofs (disch := omega) [go_sem, h0]
      | true =>
        simp -implicitDefEqProofs (disch := omega) [go_sem, h0]
        refine useC (numeric02_ok l (by omega)) ?_
        rintro _ h2 ⟨rfl, rfl⟩
        cases hn : numeric l with
        | false => simp -implicitDefEqProofs (disch := omega) [go_sem, h0]
        | true =>
          simp -implicitDefEqProofs (disch := omega) [go_sem, h0]
          refine useC (is01_ok l (by omega)) ?_
          rintro _ h3 ⟨rfl, rfl⟩
          cases hs : numIs l <;> simp -implicitDefEqProofs (disch := omega) [go_sem, h0]
end
end Xe

/- The plain law of sorting in place: a range that is only swapped about. -/
namespace Xe
open Go

def gv (L : List Value) (p : Nat) : Value := L.getD p (.bool false)
theorem gv_at {L : List Value} {p : Nat} (h : p < L.length) : L[p]? = some (gv L p) := by unfold gv; rw [List.getD_eq_getElem?_getD, List.getElem?_eq_getElem h]; rfl
theorem gv_set {L : List Value} {i p : Nat} {v : Value} (hi : i < L.length) : gv (L.set i v) p = if p = i then v else gv L p := by
  unfold gv
  rw [List.getD_eq_getElem?_getD, List.getD_eq_getElem?_getD, List.getElem?_set]
  by_cases e : p = i
  · subst e; rw [if_pos rfl, if_pos hi, if_pos rfl]; rfl
  · rw [if_neg (Ne.symm e), if_neg e]
/-- two are swapped -/
def swp (L : List Value) (i j : Nat) : List Value := (L.set i (gv L j)).set j (gv L i)
theorem swp_len (L : List Value) (i j : Nat) : (swp L i j).length = L.length := by unfold swp; rw [List.length_set, List.length_set]
theorem gv_swp {L : List Value} {i j : Nat} (hi : i < L.length) (hj : j < L.length) (p : Nat) : gv (swp L i j) p = if p = j then gv L i else if p = i then gv L j else gv L p := by
  unfold swp
  rw [gv_set (by rw [List.length_set]; exact hj), gv_set hi]
theorem swp_perm {L : List Value} {i j : Nat} (hi : i < L.length) (hj : j < L.length) : (swp L i j).Perm L := by
  have := @List.set_set_perm _ L i j hi hj
  unfold swp gv
  rw [List.getD_eq_getElem?_getD, List.getD_eq_getElem?_getD, List.getElem?_eq_getElem hi, List.getElem?_eq_getElem hj]
  exact this

/-- of a range, swapped about -/
inductive Rng (a b : Nat) : List Value → List Value → Prop
  | refl (L : List Value) : Rng a b L L
  | swap {L L' : List Value} {i j : Nat} : Rng a b L L' → a ≤ i → i < b → a ≤ j → j < b → b ≤ L'.length → Rng a b L (swp L' i j)
section
variable {a b : Nat} {L L' L'' : List Value}
theorem Rng.len (R : Rng a b L L') : L'.length = L.length := by
  induction R with
  | refl => rfl
  | swap _ _ _ _ _ _ ih => rw [swp_len, ih]
theorem Rng.trans (R : Rng a b L L') (R' : Rng a b L' L'') : Rng a b L L'' := by
  induction R' with
  | refl => exact R
  | swap _ h1 h2 h3 h4 h5 ih => exact .swap ih h1 h2 h3 h4 h5
theorem Rng.mono {a' b' : Nat} (R : Rng a b L L') (ha : a' ≤ a) (hb : b ≤ b') (hl : b' ≤ L.length) : Rng a' b' L L' := by
  induction R with
  | refl => exact .refl _
  | swap R' h1 h2 h3 h4 h5 ih => exact .swap ih (by omega) (by omega) (by omega) (by omega) (by rw [R'.len]; exact hl)
theorem Rng.perm (R : Rng a b L L') : L'.Perm L := by
  induction R with
  | refl => exact .refl _
  | swap _ h1 h2 h3 h4 h5 ih => exact (swp_perm (by omega) (by omega)).trans ih
theorem Rng.out (R : Rng a b L L') {p : Nat} (hp : p < a ∨ b ≤ p) : gv L' p = gv L p := by
  induction R with
  | refl => rfl
  | swap _ h1 h2 h3 h4 h5 ih => rw [gv_swp (by omega) (by omega), if_neg (by omega), if_neg (by omega), ih]
theorem Rng.all (R : Rng a b L L') {P : Value → Prop} (h : ∀ p, a ≤ p → p < b → P (gv L p)) : ∀ p, a ≤ p → p < b → P (gv L' p) := by
  induction R with
  | refl => exact h
  | @swap L' i j _ h1 h2 h3 h4 h5 ih =>
    intro p hp1 hp2
    rw [gv_swp (by omega) (by omega)]
    split
    · exact ih i h1 h2
    · split
      · exact ih j h3 h4
      · exact ih p hp1 hp2
theorem Rng.one {i j : Nat} (h1 : a ≤ i) (h2 : i < b) (h3 : a ≤ j) (h4 : j < b) (h5 : b ≤ L.length) : Rng a b L (swp L i j) := .swap (.refl _) h1 h2 h3 h4 h5
end

/-- a comparer that is right -/
structure COk (cf : Value → Value → Int) (ok : Value → Prop) : Prop where
  asy : ∀ x y, ok x → ok y → cf x y < 0 → 0 ≤ cf y x
  tr : ∀ x y z, ok x → ok y → ok z → 0 ≤ cf y x → 0 ≤ cf z y → 0 ≤ cf z x
def Le (cf : Value → Value → Int) (x y : Value) : Prop := 0 ≤ cf y x
section
variable {cf : Value → Value → Int} {ok : Value → Prop} (C : COk cf ok)
include C

end
def Srt (cf : Value → Value → Int) (a b : Nat) (L : List Value) : Prop := ∀ p q, a ≤ p → p < q → q < b → Le cf (gv L p) (gv L q)
def OkR (ok : Value → Prop) (L : List Value) : Prop := ∀ p, p < L.length → ok (gv L p)
theorem OkR.rng {ok : Value → Prop} {a b : Nat} {L L' : List Value} (h : OkR ok L) (R : Rng a b L L') (hb : b ≤ L.length) : OkR ok L' := fun p hp => by
  rw [R.len] at hp
  by_cases hpa : a ≤ p ∧ p < b
  · exact R.all (P := ok) (fun q h1 h2 => h q (by omega)) p hpa.1 hpa.2
  · rw [R.out (by omega)]; exact h p hp
end Xe

/- Sorting in place, walked: swaps. -/
namespace Xe
open Go Go.Proofs
set_option maxRecDepth 16000

section
variable {h : Heap} {A : Option Addr} {cap n : Nat} {fn : FuncId} {cs : List Value}
theorem cells_of_one {v : Value} (h : v.oneCell' = true) : v.cells = #[v] := by
  cases v <;> first | rfl | (simp [Value.oneCell'] at h)
theorem store_one {v : Value} (hv : v.oneCell' = true) (h : Heap) (b o : Nat) (j : Heap → Prop) : @storeK (some 1) (.pointer (some ⟨b, o, none⟩)) v ⟨h⟩ ⟨j⟩ =
    @guardK ((hcell h ⟨b, o, none⟩).isSome && !hfrz h ⟨b, o, none⟩) ⟨j (hset h ⟨b, o, none⟩ v)⟩ := by
  rw [store_1 (cells_of_one hv), hv, Bool.true_and]
theorem swp_slat {bk i j : Nat} {L : List Value} (S : SlAt h (some ⟨bk, 0, none⟩) cap L) (hi : i < L.length) (hj : j < L.length) : SlAt (hset (hset h ⟨bk, i, none⟩ (gv L j)) ⟨bk, j, none⟩ (gv L i)) (some ⟨bk, 0, none⟩) cap (swp L i j) :=
  (S.set hi (gv L j)).set (by rw [List.length_set]; exact hj) (gv L i)
theorem swp_fr {bk i j : Nat} {v w : Value} {h0 : Heap} (f : Fr (blk (some ⟨bk, 0, none⟩)) h0 h) : Fr (blk (some ⟨bk, 0, none⟩)) h0 (hset (hset h ⟨bk, i, none⟩ v) ⟨bk, j, none⟩ w) :=
  (f.set (ad := ⟨bk, i, none⟩) ⟨⟨bk, 0, none⟩, rfl, rfl⟩).set (ad := ⟨bk, j, none⟩) ⟨⟨bk, 0, none⟩, rfl, rfl⟩
theorem reverse_ok {L : List Value} {a b : Nat} (S : SlAt h A cap L) (hn : n = L.length) (hs : n < 2 ^ 40) (hone : ∀ w ∈ L, w.oneCell' = true) (hab : a ≤ b) (hb : b ≤ n) (f : Value) :
    CallsH Tryz.prog 206 [.slice A n cap, .int .i64 a, .int .i64 b, f] h fun _ h' => ∃ L', Rng a b L L' ∧ SlAt h' A cap L' ∧ Fr (blk A) h h' := by
  subst hn
  refine calls_of 34 [] Go.Proofs.Tryz.func206 rfl rfl rfl ?_
  simp -implicitDefEqProofs (disch := omega) [go_sem]
  refine loopK (fun ρ h' => ρ 0 = .slice A L.length cap ∧ ∃ (i : Nat) (j : Int) (L' : List Value), ρ 8 = .int .i64 i ∧ ρ 9 = .int .i64 j ∧ a ≤ i ∧ j < b ∧ (a : Int) - 1 ≤ j ∧ (i : Int) ≤ j + 2 ∧ Rng a b L L' ∧ SlAt h' A cap L' ∧ Fr (blk A) h h')
    (fun ρ _ => (intOf (ρ 9) + 1 - intOf (ρ 8)).toNat) (by kernel_rfl) ?_ ?_
  · exact ⟨rfl, a, (b : Int) - 1, L, rfl, rfl, by omega, by omega, by omega, by omega, .refl _, S, Fr.refl _ _⟩
  · rintro ρ h1 ⟨r0, i, j, L', r8, r9, hi, hj, hj2, hij, RG, S1, fr⟩
    by_cases hlt : (i : Int) < j
    · obtain ⟨q, rfl⟩ : ∃ q : Nat, j = q := ⟨j.toNat, by omega⟩
      have hlen := RG.len
      obtain ⟨bk, rfl, hbk, hfz, hc⟩ := S1.base (by omega)
      have c0 := hc i _ (gv_at (by omega))
      have c1 := hc q _ (gv_at (by omega))
      have ne1 : ¬ q = i := by omega
      have ne2 : ¬ i = q := by omega
      have o0 : (gv L' i).oneCell' = true := hone _ (RG.perm.mem_iff.1 (List.mem_of_getElem? (gv_at (by omega))))
      have o1 : (gv L' q).oneCell' = true := hone _ (RG.perm.mem_iff.1 (List.mem_of_getElem? (gv_at (by omega))))
      simp -implicitDefEqProofs (disch := omega) [go_sem, r0, r8, r9, hlt]
      refine drawK [(0, 0), (1, 0), (2, 0), (3, 0), (4, 0), (5, 0), (6, 0), (7, 1), (8, 0), (9, 0), (10, 0), (11, 1), (12, 0), (13, 3), (14, 0), (15, 3)] ?_
      have w0 := store_one o0
      have w1 := store_one o1
      simp -implicitDefEqProofs (disch := omega) [go_sem, r0, r8, r9, c0, c1, hfz, ne1, ne2, w0, w1]
      exact ⟨⟨i + 1, by omega, by omega, by omega, by omega, by omega, _, RG.trans (Rng.one (i := i) (j := q) (by omega) (by omega) (by omega) (by omega) (by omega)), swp_slat S1 (by omega) (by omega), swp_fr fr⟩, by omega⟩
    · simp -implicitDefEqProofs (disch := omega) [go_sem, r0, r8, r9, hlt]
      exact ⟨L', RG, S1, fr⟩
end
end Xe

/- Sorting in place, walked: how many bits; breaking patterns. -/
namespace Xe
open Go Go.Proofs
set_option maxRecDepth 16000
set_option maxHeartbeats 1000000
section
variable {P : Program} {kd kd' : IntKind} {a b : Int} {t : Nat}
theorem cmpV_shl (hb : 0 ≤ b) : cmpV P .shl t (.int kd a) (.int kd' b) = some (.int kd (kd.wrap (a * 2 ^ (min b.toNat kd.bits)))) := by
  have : ¬ b < 0 := by omega
  simp [cmpV, binV, this]
theorem cmpV_shr (hb : 0 ≤ b) : cmpV P .shr t (.int kd a) (.int kd' b) = some (.int kd (a.fdiv (2 ^ (min b.toNat kd.bits)))) := by
  have : ¬ b < 0 := by omega
  simp [cmpV, binV, this]
theorem cmpV_xor : cmpV P .xor t (.int kd a) (.int kd b) = some (.int kd (kd.wrap ((BitVec.ofInt kd.bits a ^^^ BitVec.ofInt kd.bits b).toNat))) := by simp [cmpV, binV]
theorem cmpV_and : cmpV P .and t (.int kd a) (.int kd b) = some (.int kd (kd.wrap ((BitVec.ofInt kd.bits a &&& BitVec.ofInt kd.bits b).toNat))) := by simp [cmpV, binV]

end
section
variable {h : Heap} {n : Nat}
theorem next_ok {sb : Nat} {x : Int} (hc : hcell h ⟨sb, 0, none⟩ = some (.int .u64 x)) (hf : ∀ o, hfrz h ⟨sb, o, none⟩ = false) :
    CallsH Tryz.prog 243 [.pointer (some ⟨sb, 0, none⟩)] h fun r h' => ∃ y : Int, r = .int .u64 y ∧ 0 ≤ y ∧ hcell h' ⟨sb, 0, none⟩ = some (.int .u64 y) ∧ (∀ o, hfrz h' ⟨sb, o, none⟩ = false) ∧ Fr (fun x => x = sb) h h' := by
  refine calls_of 33 [.tmp 2] Go.Proofs.Tryz.func243 rfl rfl rfl ?_
  simp -implicitDefEqProofs (disch := omega) [go_sem]
  refine drawK [(0, 0), (1, 0), (2, 1), (3, 0), (4, 0), (5, 1), (6, 0), (7, 0), (8, 0), (9, 3)] ?_
  simp -implicitDefEqProofs (disch := omega) [go_sem, hc, hf, cmpV_shl, cmpV_xor]
  refine drawK [(0, 0), (1, 0), (2, 1), (3, 0), (4, 0), (5, 1), (6, 0), (7, 0), (8, 0), (9, 3)] ?_
  simp -implicitDefEqProofs (disch := omega) [go_sem, hc, hf, cmpV_shr, cmpV_xor]
  refine drawK [(0, 0), (1, 0), (2, 1), (3, 0), (4, 0), (5, 1), (6, 0), (7, 0), (8, 0), (9, 3)] ?_
  simp -implicitDefEqProofs (disch := omega) [go_sem, hc, hf, cmpV_shl, cmpV_xor]
  exact (((Fr.refl (fun x => x = sb) h).set (ad := ⟨sb, 0, none⟩) rfl).set (ad := ⟨sb, 0, none⟩) rfl).set (ad := ⟨sb, 0, none⟩) rfl
theorem runStrT {kd : IntKind} {s : ByteArray} {c : Value → Prop} {x : Nat} (h1 : x < 256) (ht : (s.data.toList.length == 256 && (List.range 256).all (fun i => i == 0 || decide (2 ^ (s.data.toList.getD i 0).toNat ≤ 2 * i))) = true)
    (hk : ∀ b : Nat, b < 256 → (0 < x → 2 ^ b ≤ 2 * x) → c (.int .u8 (b : Int))) : @runK (strIx (.string s) (.int kd (x : Int))) ⟨c⟩ := by
  rw [Bool.and_eq_true, beq_iff_eq, List.all_eq_true] at ht
  have hsz : x < s.size := by
    have : s.size = s.data.toList.length := by rw [Array.length_toList]; rfl
    omega
  have e : s[x]? = some s[x] := by simp [hsz]
  show runO (if 0 ≤ (x : Int) then (s[(x : Int).toNat]?).map fun b => .int .u8 b.toNat else none) c
  rw [if_pos (by omega), Int.toNat_natCast, e]
  refine hk s[x].toNat s[x].toNat_lt fun h0 => ?_
  have := ht.2 x (List.mem_range.2 h1)
  rw [Bool.or_eq_true, beq_iff_eq, decide_eq_true_eq] at this
  have h2 := this.resolve_left (by omega)
  have e2 : s.data.toList.getD x 0 = s[x] := by
    rw [List.getD_eq_getElem?_getD, List.getElem?_eq_getElem (by omega)]
    rfl
  rwa [e2] at h2
theorem lb {s b n : Nat} (h : 0 < n / 2 ^ s → 2 ^ b ≤ 2 * (n / 2 ^ s)) (hn : 2 ^ s ≤ n) : 2 ^ (s + b) ≤ 2 * n := by
  have h0 : 0 < n / 2 ^ s := Nat.div_pos hn (Nat.two_pow_pos s)
  have h1 := h h0
  have h2 := Nat.div_mul_le_self n (2 ^ s)
  rw [Nat.pow_add]
  calc 2 ^ s * 2 ^ b ≤ 2 ^ s * (2 * (n / 2 ^ s)) := Nat.mul_le_mul_left _ h1
    _ = 2 * (n / 2 ^ s * 2 ^ s) := by rw [← Nat.mul_assoc, Nat.mul_comm (2 ^ s) 2, Nat.mul_assoc, Nat.mul_comm (2 ^ s)]
    _ ≤ 2 * n := Nat.mul_le_mul_left _ h2
theorem len64g_ok (hn : n < 2 ^ 40) : CallsH Tryz.prog 196 [.int .u64 n] h fun r h' => (∃ k : Nat, r = .int .i64 k ∧ k < 400 ∧ (0 < n → 2 ^ k ≤ 2 * n)) ∧ h' = h := by
  have hix : ixOf Tryz.prog 9 = none := by kernel_rfl
  have hst : strT Tryz.prog 9 = true := by kernel_rfl
  refine calls_of 25 [.tmp 2] Go.Proofs.Tryz.func196 rfl rfl rfl ?_
  by_cases h32 : (4294967296 : Int) ≤ n
  · have ed : (n : Int).fdiv 4294967296 = ((n / 4294967296 : Nat) : Int) := by rw [Int.fdiv_eq_ediv_of_nonneg _ (by decide)]; omega
    obtain ⟨x, hx⟩ : ∃ x, x = n / 4294967296 := ⟨_, rfl⟩
    have hx2 : x < 256 := by omega
    rw [← hx] at ed
    simp -implicitDefEqProofs (disch := omega) [go_sem, h32, hix, hst, cmpV_shr, ed]
    refine runStrT hx2 (by kernel_rfl) fun b hb1 hb2 => ?_
    simp -implicitDefEqProofs (disch := omega) [go_sem]
    exact ⟨32 + b, by omega, by omega, fun _ => lb (s := 32) (by subst hx; exact hb2) (by omega)⟩
  · by_cases h16 : (65536 : Int) ≤ n
    · have ed : (n : Int).fdiv 65536 = ((n / 65536 : Nat) : Int) := by rw [Int.fdiv_eq_ediv_of_nonneg _ (by decide)]; omega
      obtain ⟨x, hx⟩ : ∃ x, x = n / 65536 := ⟨_, rfl⟩
      rw [← hx] at ed
      by_cases h8 : (256 : Int) ≤ x
      · have ed2 : (x : Int).fdiv 256 = ((x / 256 : Nat) : Int) := by rw [Int.fdiv_eq_ediv_of_nonneg _ (by decide)]; omega
        obtain ⟨y, hy⟩ : ∃ y, y = x / 256 := ⟨_, rfl⟩
        have hy2 : y < 256 := by omega
        rw [← hy] at ed2
        have hyn : y = n / 2 ^ 24 := by omega
        simp -implicitDefEqProofs (disch := omega) [go_sem, h16, h8, h32, hix, hst, cmpV_shr, ed, ed2]
        refine runStrT hy2 (by kernel_rfl) fun b hb1 hb2 => ?_
        simp -implicitDefEqProofs (disch := omega) [go_sem]
        exact ⟨24 + b, by omega, by omega, fun _ => lb (s := 24) (by rw [← hyn]; exact hb2) (by omega)⟩
      · have hx2 : x < 256 := by omega
        simp -implicitDefEqProofs (disch := omega) [go_sem, h16, h8, h32, hix, hst, cmpV_shr, ed]
        refine runStrT hx2 (by kernel_rfl) fun b hb1 hb2 => ?_
        simp -implicitDefEqProofs (disch := omega) [go_sem]
        exact ⟨16 + b, by omega, by omega, fun _ => lb (s := 16) (by subst hx; exact hb2) (by omega)⟩
    · by_cases h8 : (256 : Int) ≤ n
      · have ed : (n : Int).fdiv 256 = ((n / 256 : Nat) : Int) := by rw [Int.fdiv_eq_ediv_of_nonneg _ (by decide)]; omega
        obtain ⟨x, hx⟩ : ∃ x, x = n / 256 := ⟨_, rfl⟩
        have hx2 : x < 256 := by omega
        rw [← hx] at ed
        simp -implicitDefEqProofs (disch := omega) [go_sem, h16, h8, h32, hix, hst, cmpV_shr, ed]
        refine runStrT hx2 (by kernel_rfl) fun b hb1 hb2 => ?_
        simp -implicitDefEqProofs (disch := omega) [go_sem]
        exact ⟨8 + b, by omega, by omega, fun _ => lb (s := 8) (by subst hx; exact hb2) (by omega)⟩
      · simp -implicitDefEqProofs (disch := omega) [go_sem, h16, h8, h32, hix, hst]
        refine runStrT (by omega) (by kernel_rfl) fun b hb1 hb2 => ?_
        simp -implicitDefEqProofs (disch := omega) [go_sem]
        exact ⟨b, rfl, by omega, hb2⟩
theorem leng_ok (hn : n < 2 ^ 40) : CallsH Tryz.prog 171 [.int .u64 n] h fun r h' => (∃ k : Nat, r = .int .i64 k ∧ k < 400 ∧ (0 < n → 2 ^ k ≤ 2 * n)) ∧ h' = h := by
  refine calls_of 8 [.tmp 2] Go.Proofs.Tryz.func171 rfl rfl rfl ?_
  simp -implicitDefEqProofs (disch := omega) [go_sem]
  refine useC (len64g_ok hn) ?_
  rintro _ h' ⟨⟨k, rfl, hk4, hk⟩, rfl⟩
  simp -implicitDefEqProofs (disch := omega) [go_sem]
  exact ⟨k, rfl, hk4, hk⟩
theorem nextPow_ok (hn : n < 2 ^ 40) (h0 : 0 < n) : CallsH Tryz.prog 242 [.int .i64 n] h fun r h' => (∃ m : Nat, r = .int .u64 m ∧ 1 ≤ m ∧ m ≤ 2 * n) ∧ h' = h := by
  refine calls_of 7 [.tmp 2] Go.Proofs.Tryz.func242 rfl rfl rfl ?_
  simp -implicitDefEqProofs (disch := omega) [go_sem]
  refine useC (leng_ok hn) ?_
  rintro _ h' ⟨⟨k, rfl, hk4, hk⟩, rfl⟩
  have hk2 := hk h0
  have hk3 : k < 64 := by
    rcases Nat.lt_or_ge k 64 with h | h
    · exact h
    · have := Nat.pow_le_pow_right (show 0 < 2 by omega) h
      omega
  have hmin : min ((k : Int)).toNat 64 = k := by omega
  have hb : IntKind.bits .u64 = 64 := rfl
  have hw : IntKind.u64.wrap (2 ^ k) = ((2 ^ k : Nat) : Int) := by
    unfold IntKind.wrap
    simp only [IntKind.signed, IntKind.bits, Bool.false_and, if_false, Bool.false_eq_true]
    have e : (2 : Int) ^ k = ((2 ^ k : Nat) : Int) := by rw [Int.natCast_pow]; rfl
    rw [e]
    have hlt : 2 ^ k < 2 ^ 64 := Nat.pow_lt_pow_right (by omega) hk3
    exact Int.emod_eq_of_lt (Int.natCast_nonneg _) (by exact_mod_cast hlt)
  simp -implicitDefEqProofs (disch := omega) [go_sem, cmpV_shl, hb, hmin, hw]
  exact ⟨2 ^ k, by rw [Int.natCast_pow]; rfl, Nat.one_le_two_pow, hk2⟩
end
end Xe

/- Sorting in place, walked: what is ordered. -/
namespace Xe.So
open Go Go.Proofs
set_option maxRecDepth 16000
set_option maxHeartbeats 1000000

section
variable {h : Heap} {A : Option Addr} {cap n : Nat} {fn : FuncId} {cs : List Value}
end

section
variable {h0 h h' : Heap} {A : Option Addr} {cap a b : Nat} {L0 L : List Value}

end

section
variable {cf : Value → Value → Int} {L : List Value} {a b i j : Nat}

end

section
variable {h : Heap} {A : Option Addr} {cap : Nat} {fn : FuncId} {cs : List Value} {cf : Value → Value → Int} {ok : Value → Prop}
end

section
variable {cf : Value → Value → Int} {L : List Value} {a b i j : Nat}

end

section
variable {cf : Value → Value → Int} {L : List Value} {a b i j : Nat} {x : Value}

end
section
variable {h : Heap} {A : Option Addr} {cap : Nat} {fn : FuncId} {cs : List Value} {cf : Value → Value → Int} {ok : Value → Prop}
end

section
variable {hc h : Heap} {A : Option Addr} {cap : Nat} {fn : FuncId} {cs : List Value} {cf : Value → Value → Int} {ok : Value → Prop} {L : List Value} {sb s n a b : Nat}

end

section
variable {h : Heap} {A : Option Addr} {cap : Nat} {fn : FuncId} {cs : List Value} {cf : Value → Value → Int} {ok : Value → Prop} {L : List Value} {n a b : Nat}
end

section
variable {h : Heap} {A : Option Addr} {cap : Nat} {fn : FuncId} {cs : List Value} {cf : Value → Value → Int} {ok : Value → Prop} {L : List Value} {n a b : Nat}
end
end Xe.So

/- Sorting in place, walked: what is ordered. -/
namespace Xe.So
open Go Go.Proofs
set_option maxRecDepth 16000
set_option maxHeartbeats 1000000

section
variable {cf : Value → Value → Int} {ok : Value → Prop} {L : List Value} {f lo hi r ch : Nat}

end
section
variable {h : Heap} {A : Option Addr} {cap : Nat} {fn : FuncId} {cs : List Value} {cf : Value → Value → Int} {ok : Value → Prop} {L : List Value} {n f lo hi : Nat}
end

section
variable {h : Heap} {A : Option Addr} {cap : Nat} {fn : FuncId} {cs : List Value} {cf : Value → Value → Int} {ok : Value → Prop} {L : List Value} {n a b : Nat}

end

section
variable {h : Heap} {A : Option Addr} {cap n a b : Nat} {L : List Value}
end

section
variable {cf : Value → Value → Int} {L L' : List Value} {a0 b0 a b a' b' : Nat}

end
section
variable {A : Option Addr} {cap n : Nat} {fn : FuncId} {cs : List Value} {cf : Value → Value → Int} {ok : Value → Prop}
end

section
variable {A : Option Addr} {cap n : Nat} {fn : FuncId} {cs : List Value} {cf : Value → Value → Int} {ok : Value → Prop} {h : Heap} {L : List Value}
end
end Xe.So
