/- Sorting in place, walked: how many bits; breaking patterns. -/
import Derived.Test.YtkghjecglmmloaaSP1
namespace Xe
open Go Go.Proofs
set_option maxRecDepth 16000
set_option maxHeartbeats 1000000
section
variable {P : Program} {kd kd' : IntKind} {a b : Int} {t : Nat}
theorem cmpV_shl (hb : 0 ≤ b) : cmpV P .shl t (.int kd a) (.int kd' b) = some (.int kd (kd.wrap (a * 2 ^ (min b.toNat kd.bits)))) := by
  have : ¬ b < 0 := by omega
  simp [cmpV, binV, this]
theorem cmpV_shr (hb : 0 ≤ b) : cmpV P .shr t (.int kd a) (.int kd' b) = some (.int kd (a.fdiv (2 ^ (min b.toNat kd.bits)))) := by
  have : ¬ b < 0 := by omega
  simp [cmpV, binV, this]
theorem cmpV_xor : cmpV P .xor t (.int kd a) (.int kd b) = some (.int kd (kd.wrap ((BitVec.ofInt kd.bits a ^^^ BitVec.ofInt kd.bits b).toNat))) := by simp [cmpV, binV]
theorem cmpV_and : cmpV P .and t (.int kd a) (.int kd b) = some (.int kd (kd.wrap ((BitVec.ofInt kd.bits a &&& BitVec.ofInt kd.bits b).toNat))) := by simp [cmpV, binV]
theorem u64_nn (a : Int) : 0 ≤ IntKind.u64.wrap a ∧ IntKind.u64.wrap a < 2 ^ 64 := by
  unfold IntKind.wrap
  simp only [IntKind.signed, IntKind.bits, Bool.false_and, if_false, Bool.false_eq_true]
  exact ⟨Int.emod_nonneg _ (by decide), Int.emod_lt_of_pos _ (by decide)⟩
end
section
variable {h : Heap} {n : Nat}
theorem next_ok {sb : Nat} {x : Int} (hc : hcell h ⟨sb, 0, none⟩ = some (.int .u64 x)) (hf : ∀ o, hfrz h ⟨sb, o, none⟩ = false) :
    CallsH Try.prog 147 [.pointer (some ⟨sb, 0, none⟩)] h fun r h' => ∃ y : Int, r = .int .u64 y ∧ 0 ≤ y ∧ hcell h' ⟨sb, 0, none⟩ = some (.int .u64 y) ∧ (∀ o, hfrz h' ⟨sb, o, none⟩ = false) ∧ Fr (fun x => x = sb) h h' := by
  refine calls_of 33 [.tmp 2] Go.Proofs.Try.func147 rfl rfl rfl (by kernel_rfl) (Nat.le_of_ble_eq_true rfl) ?_
  simp -implicitDefEqProofs (disch := omega) [go_sem]
  refine drawK [(0, 0), (1, 0), (2, 1), (3, 0), (4, 0), (5, 1), (6, 0), (7, 0), (8, 0), (9, 3)] mixed (by kernel_rfl) ?_
  simp -implicitDefEqProofs (disch := omega) [go_sem, hc, hf, cmpV_shl, cmpV_xor]
  refine drawK [(0, 0), (1, 0), (2, 1), (3, 0), (4, 0), (5, 1), (6, 0), (7, 0), (8, 0), (9, 3)] mixed (by kernel_rfl) ?_
  simp -implicitDefEqProofs (disch := omega) [go_sem, hc, hf, cmpV_shr, cmpV_xor]
  refine drawK [(0, 0), (1, 0), (2, 1), (3, 0), (4, 0), (5, 1), (6, 0), (7, 0), (8, 0), (9, 3)] mixed (by kernel_rfl) ?_
  simp -implicitDefEqProofs (disch := omega) [go_sem, hc, hf, cmpV_shl, cmpV_xor]
  exact (((Fr.refl (fun x => x = sb) h).set (ad := ⟨sb, 0, none⟩) rfl).set (ad := ⟨sb, 0, none⟩) rfl).set (ad := ⟨sb, 0, none⟩) rfl
theorem runStrT {kd : IntKind} {s : ByteArray} {c : Value → Prop} {x : Nat} (h1 : x < 256) (ht : (s.data.toList.length == 256 && (List.range 256).all (fun i => i == 0 || decide (2 ^ (s.data.toList.getD i 0).toNat ≤ 2 * i))) = true)
    (hk : ∀ b : Nat, b < 256 → (0 < x → 2 ^ b ≤ 2 * x) → c (.int .u8 (b : Int))) : @runK (strIx (.string s) (.int kd (x : Int))) ⟨c⟩ := by
  rw [Bool.and_eq_true, beq_iff_eq, List.all_eq_true] at ht
  have hsz : x < s.size := by
    have : s.size = s.data.toList.length := by rw [Array.length_toList]; rfl
    omega
  have e : s[x]? = some s[x] := by simp [hsz]
  show runO (if 0 ≤ (x : Int) then (s[(x : Int).toNat]?).map fun b => .int .u8 b.toNat else none) c
  rw [if_pos (by omega), Int.toNat_natCast, e]
  refine hk s[x].toNat s[x].toNat_lt fun h0 => ?_
  have := ht.2 x (List.mem_range.2 h1)
  rw [Bool.or_eq_true, beq_iff_eq, decide_eq_true_eq] at this
  have h2 := this.resolve_left (by omega)
  have e2 : s.data.toList.getD x 0 = s[x] := by
    rw [List.getD_eq_getElem?_getD, List.getElem?_eq_getElem (by omega)]
    rfl
  rwa [e2] at h2
theorem lb {s b n : Nat} (h : 0 < n / 2 ^ s → 2 ^ b ≤ 2 * (n / 2 ^ s)) (hn : 2 ^ s ≤ n) : 2 ^ (s + b) ≤ 2 * n := by
  have h0 : 0 < n / 2 ^ s := Nat.div_pos hn (Nat.two_pow_pos s)
  have h1 := h h0
  have h2 := Nat.div_mul_le_self n (2 ^ s)
  rw [Nat.pow_add]
  calc 2 ^ s * 2 ^ b ≤ 2 ^ s * (2 * (n / 2 ^ s)) := Nat.mul_le_mul_left _ h1
    _ = 2 * (n / 2 ^ s * 2 ^ s) := by rw [← Nat.mul_assoc, Nat.mul_comm (2 ^ s) 2, Nat.mul_assoc, Nat.mul_comm (2 ^ s)]
    _ ≤ 2 * n := Nat.mul_le_mul_left _ h2
theorem len64g_ok (hn : n < 2 ^ 40) : CallsH Try.prog 135 [.int .u64 n] h fun r h' => (∃ k : Nat, r = .int .i64 k ∧ k < 400 ∧ (0 < n → 2 ^ k ≤ 2 * n)) ∧ h' = h := by
  have hix : ixOf Try.prog 9 = none := by kernel_rfl
  have hst : strT Try.prog 9 = true := by kernel_rfl
  refine calls_of 25 [.tmp 2] Go.Proofs.Try.func135 rfl rfl rfl (by kernel_rfl) (Nat.le_of_ble_eq_true rfl) ?_
  by_cases h32 : (4294967296 : Int) ≤ n
  · have ed : (n : Int).fdiv 4294967296 = ((n / 4294967296 : Nat) : Int) := by rw [Int.fdiv_eq_ediv_of_nonneg _ (by decide)]; omega
    obtain ⟨x, hx⟩ : ∃ x, x = n / 4294967296 := ⟨_, rfl⟩
    have hx2 : x < 256 := by omega
    rw [← hx] at ed
    simp -implicitDefEqProofs (disch := omega) [go_sem, h32, hix, hst, cmpV_shr, ed]
    refine runStrT hx2 (by kernel_rfl) fun b hb1 hb2 => ?_
    simp -implicitDefEqProofs (disch := omega) [go_sem]
    exact ⟨32 + b, by omega, by omega, fun _ => lb (s := 32) (by subst hx; exact hb2) (by omega)⟩
  · by_cases h16 : (65536 : Int) ≤ n
    · have ed : (n : Int).fdiv 65536 = ((n / 65536 : Nat) : Int) := by rw [Int.fdiv_eq_ediv_of_nonneg _ (by decide)]; omega
      obtain ⟨x, hx⟩ : ∃ x, x = n / 65536 := ⟨_, rfl⟩
      rw [← hx] at ed
      by_cases h8 : (256 : Int) ≤ x
      · have ed2 : (x : Int).fdiv 256 = ((x / 256 : Nat) : Int) := by rw [Int.fdiv_eq_ediv_of_nonneg _ (by decide)]; omega
        obtain ⟨y, hy⟩ : ∃ y, y = x / 256 := ⟨_, rfl⟩
        have hy2 : y < 256 := by omega
        rw [← hy] at ed2
        have hyn : y = n / 2 ^ 24 := by omega
        simp -implicitDefEqProofs (disch := omega) [go_sem, h16, h8, h32, hix, hst, cmpV_shr, ed, ed2]
        refine runStrT hy2 (by kernel_rfl) fun b hb1 hb2 => ?_
        simp -implicitDefEqProofs (disch := omega) [go_sem]
        exact ⟨24 + b, by omega, by omega, fun _ => lb (s := 24) (by rw [← hyn]; exact hb2) (by omega)⟩
      · have hx2 : x < 256 := by omega
        simp -implicitDefEqProofs (disch := omega) [go_sem, h16, h8, h32, hix, hst, cmpV_shr, ed]
        refine runStrT hx2 (by kernel_rfl) fun b hb1 hb2 => ?_
        simp -implicitDefEqProofs (disch := omega) [go_sem]
        exact ⟨16 + b, by omega, by omega, fun _ => lb (s := 16) (by subst hx; exact hb2) (by omega)⟩
    · by_cases h8 : (256 : Int) ≤ n
      · have ed : (n : Int).fdiv 256 = ((n / 256 : Nat) : Int) := by rw [Int.fdiv_eq_ediv_of_nonneg _ (by decide)]; omega
        obtain ⟨x, hx⟩ : ∃ x, x = n / 256 := ⟨_, rfl⟩
        have hx2 : x < 256 := by omega
        rw [← hx] at ed
        simp -implicitDefEqProofs (disch := omega) [go_sem, h16, h8, h32, hix, hst, cmpV_shr, ed]
        refine runStrT hx2 (by kernel_rfl) fun b hb1 hb2 => ?_
        simp -implicitDefEqProofs (disch := omega) [go_sem]
        exact ⟨8 + b, by omega, by omega, fun _ => lb (s := 8) (by subst hx; exact hb2) (by omega)⟩
      · simp -implicitDefEqProofs (disch := omega) [go_sem, h16, h8, h32, hix, hst]
        refine runStrT (by omega) (by kernel_rfl) fun b hb1 hb2 => ?_
        simp -implicitDefEqProofs (disch := omega) [go_sem]
        exact ⟨b, rfl, by omega, hb2⟩
theorem leng_ok (hn : n < 2 ^ 40) : CallsH Try.prog 115 [.int .u64 n] h fun r h' => (∃ k : Nat, r = .int .i64 k ∧ k < 400 ∧ (0 < n → 2 ^ k ≤ 2 * n)) ∧ h' = h := by
  refine calls_of 8 [.tmp 2] Go.Proofs.Try.func115 rfl rfl rfl (by kernel_rfl) (Nat.le_of_ble_eq_true rfl) ?_
  simp -implicitDefEqProofs (disch := omega) [go_sem]
  refine useC (len64g_ok hn) ?_
  rintro _ h' ⟨⟨k, rfl, hk4, hk⟩, rfl⟩
  simp -implicitDefEqProofs (disch := omega) [go_sem]
  exact ⟨k, rfl, hk4, hk⟩
theorem nextPow_ok (hn : n < 2 ^ 40) (h0 : 0 < n) : CallsH Try.prog 146 [.int .i64 n] h fun r h' => (∃ m : Nat, r = .int .u64 m ∧ 1 ≤ m ∧ m ≤ 2 * n) ∧ h' = h := by
  refine calls_of 7 [.tmp 2] Go.Proofs.Try.func146 rfl rfl rfl (by kernel_rfl) (Nat.le_of_ble_eq_true rfl) ?_
  simp -implicitDefEqProofs (disch := omega) [go_sem]
  refine useC (leng_ok hn) ?_
  rintro _ h' ⟨⟨k, rfl, hk4, hk⟩, rfl⟩
  have hk2 := hk h0
  have hk3 : k < 64 := by
    rcases Nat.lt_or_ge k 64 with h | h
    · exact h
    · have := Nat.pow_le_pow_right (show 0 < 2 by omega) h
      omega
  have hmin : min ((k : Int)).toNat 64 = k := by omega
  have hb : IntKind.bits .u64 = 64 := rfl
  have hw : IntKind.u64.wrap (2 ^ k) = ((2 ^ k : Nat) : Int) := by
    unfold IntKind.wrap
    simp only [IntKind.signed, IntKind.bits, Bool.false_and, if_false, Bool.false_eq_true]
    have e : (2 : Int) ^ k = ((2 ^ k : Nat) : Int) := by rw [Int.natCast_pow]; rfl
    rw [e]
    have hlt : 2 ^ k < 2 ^ 64 := Nat.pow_lt_pow_right (by omega) hk3
    exact Int.emod_eq_of_lt (Int.natCast_nonneg _) (by exact_mod_cast hlt)
  simp -implicitDefEqProofs (disch := omega) [go_sem, cmpV_shl, hb, hmin, hw]
  exact ⟨2 ^ k, by rw [Int.natCast_pow]; rfl, Nat.one_le_two_pow, hk2⟩
end
end Xe
