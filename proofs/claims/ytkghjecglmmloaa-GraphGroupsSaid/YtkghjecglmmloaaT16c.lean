/- The document's answer for layer 16, walked; a few of layer 12. -/
import Derived.Test.YtkghjecglmmloaaT16b
namespace Xe
open Go Tp Go.Proofs
set_option maxRecDepth 16000

/-- the document's variable of a literal -/
def var12 (x : Int) : Nat := if x.natAbs ≤ 16777216 then x.natAbs else 0

section
variable {h : Heap} {A : Option Addr} {l : List St} {n c : Nat}

theorem var12_ok {x : Int} (h0 : -9223372036854775808 ≤ x) (h1 : x ≤ 9223372036854775807) : CallsH Try.prog 37 [.int .i64 x] h fun r h' => r = .int .i64 (var12 x : Nat) ∧ h' = h := by
  refine calls_of 14 [.tmp 2] Go.Proofs.Try.func37 rfl rfl rfl (by kernel_rfl) (Nat.le_of_ble_eq_true rfl) ?_
  by_cases e1 : x < -16777216
  · have ev : var12 x = 0 := if_neg (by omega)
    simp -implicitDefEqProofs (disch := omega) [go_sem, ev]
  · by_cases e2 : 16777216 < x
    · have ev : var12 x = 0 := if_neg (by omega)
      simp -implicitDefEqProofs (disch := omega) [go_sem, ev]
    · have ev : var12 x = x.natAbs := if_pos (by omega)
      by_cases e3 : x < 0
      · simp -implicitDefEqProofs (disch := omega) [go_sem, ev]
        omega
      · simp -implicitDefEqProofs (disch := omega) [go_sem, ev]
        omega

theorem find_first {i v : Nat} {s : St} (hs : l[i]? = some s) (hv : s.lit.natAbs = v) (hj : ∀ j t, j < i → l[j]? = some t → t.lit.natAbs ≠ v) : find l v = some i := by
  unfold find
  obtain ⟨hk, rfl⟩ := List.getElem?_eq_some_iff.1 hs
  rw [List.findIdx?_eq_some_iff_getElem]
  refine ⟨hk, by simpa using hv, fun j hj' => ?_⟩
  have := hj j l[j] hj' (List.getElem?_eq_getElem (by omega))
  simpa using this

theorem find16_ok (R : RowAt h A (stVs l)) (hn : n = l.length) (hsm : n < 2 ^ 40) (hl : ∀ s ∈ l, s.lit.natAbs ≤ 16777216) (v : Nat) (hv : v ≤ 16777216) :
    CallsH Try.prog 45 [.slice A n c, .int .i64 v] h fun r h' => r = .int .i64 (PL l v) ∧ h' = h := by
  subst hn
  refine calls_of 21 [.tmp 4] Go.Proofs.Try.func45 rfl rfl rfl (by kernel_rfl) (Nat.le_of_ble_eq_true rfl) ?_
  simp -implicitDefEqProofs (disch := omega) [go_sem]
  refine loopK (fun ρ h' => ρ 0 = .slice A l.length c ∧ ρ 1 = .int .i64 v ∧ h' = h ∧ ∃ i : Nat, ρ 5 = .int .i64 i ∧ i ≤ l.length ∧ ∀ j t, j < i → l[j]? = some t → t.lit.natAbs ≠ v)
    (fun ρ _ => l.length - (intOf (ρ 5)).toNat) (by kernel_rfl) ?_ ?_
  · exact ⟨rfl, rfl, rfl, 0, rfl, by omega, fun j t hj => by omega⟩
  · rintro ρ h' ⟨r0, r1, rfl, i, r5, hi, hj⟩
    by_cases hin : i < l.length
    · obtain ⟨bk, off, rfl, hc⟩ := R.get (by rw [stVs_len]; omega)
      obtain ⟨s, hs⟩ : ∃ s, l[i]? = some s := ⟨_, List.getElem?_eq_getElem hin⟩
      have c0 := hc _ _ (stVs_at hs).1
      have hb := hl s (List.mem_of_getElem? hs)
      simp -implicitDefEqProofs (disch := omega) [go_sem, r0, r1, r5, c0]
      refine useC (var12_ok (by omega) (by omega)) ?_
      rintro _ h2 ⟨rfl, rfl⟩
      have ev : var12 s.lit = s.lit.natAbs := if_pos hb
      by_cases e : s.lit.natAbs = v
      · have hf := find_first hs e hj
        have ep : PL l v = i := by unfold PL; rw [hf]
        simp -implicitDefEqProofs (disch := omega) [go_sem, r0, r1, r5, ev, ep]
      · simp -implicitDefEqProofs (disch := omega) [go_sem, r0, r1, r5, ev]
        refine ⟨⟨i + 1, by omega, by omega, fun j t hj2 ht => ?_⟩, by omega⟩
        by_cases ej : j = i
        · subst ej; rw [hs] at ht; cases ht; exact e
        · exact hj j t (by omega) ht
    · have hf : find l v = none := find_none' fun s hs => by
        obtain ⟨j, hj2, rfl⟩ := List.getElem_of_mem hs
        exact hj j _ (by omega) (List.getElem?_eq_getElem hj2)
      have ep : PL l v = -1 := (none_of hf).2.1
      simp -implicitDefEqProofs (disch := omega) [go_sem, r0, r1, r5, ep]

theorem same12_ok {B : Option Addr} {a b : List Int} {m c d : Nat} (R : RowAt h A (ints a)) (S : RowAt h B (ints b)) (hn : n = a.length) (hm : m = b.length) (hs1 : n < 2 ^ 40) (hs2 : m < 2 ^ 40) :
    CallsH Try.prog 34 [.slice A n c, .slice B m d] h fun r h' => r = .bool (decide (a = b)) ∧ h' = h := by
  subst hn hm
  refine calls_of 26 [.tmp 4] Go.Proofs.Try.func34 rfl rfl rfl (by kernel_rfl) (Nat.le_of_ble_eq_true rfl) ?_
  by_cases hne : a.length = b.length
  · simp -implicitDefEqProofs (disch := omega) [go_sem]
    refine loopK (fun ρ h' => ρ 0 = .slice A a.length c ∧ ρ 1 = .slice B b.length d ∧ h' = h ∧ ∃ i : Nat, ρ 5 = .int .i64 i ∧ i ≤ a.length ∧ ∀ j, j < i → a[j]? = b[j]?)
      (fun ρ _ => a.length - (intOf (ρ 5)).toNat) (by kernel_rfl) ?_ ?_
    · exact ⟨rfl, rfl, rfl, 0, rfl, by omega, fun j hj => by omega⟩
    · rintro ρ h' ⟨r0, r1, rfl, i, r5, hi, hj⟩
      by_cases hin : i < a.length
      · obtain ⟨bk, off, rfl, hc⟩ := R.get (by rw [ints_len]; omega)
        obtain ⟨bk2, off2, rfl, hc2⟩ := S.get (by rw [ints_len]; omega)
        obtain ⟨x, hx⟩ : ∃ x, a[i]? = some x := ⟨_, List.getElem?_eq_getElem hin⟩
        obtain ⟨y, hy⟩ : ∃ y, b[i]? = some y := ⟨_, List.getElem?_eq_getElem (by omega)⟩
        have c0 := hc _ _ (ints_at hx)
        have c1 := hc2 _ _ (ints_at hy)
        simp -implicitDefEqProofs (disch := omega) [go_sem, r0, r1, r5]
        refine drawK [(0, 0), (1, 0), (2, 0), (3, 1), (4, 0), (5, 0), (6, 0), (7, 1), (8, 0)] mixed (by kernel_rfl) ?_
        by_cases e : x = y
        · simp -implicitDefEqProofs (disch := omega) [go_sem, r0, r1, r5, c0, c1, e]
          refine ⟨⟨i + 1, by omega, by omega, fun j hj2 => ?_⟩, by omega⟩
          by_cases ej : j = i
          · subst ej; rw [hx, hy, e]
          · exact hj j (by omega)
        · have hab : ¬ a = b := fun h => by subst h; rw [hx] at hy; cases hy; exact e rfl
          simp -implicitDefEqProofs (disch := omega) [go_sem, r0, r1, r5, c0, c1, e, hab]
      · have hab : a = b := by
          apply List.ext_getElem?
          intro j
          by_cases hj2 : j < i
          · exact hj j hj2
          · rw [List.getElem?_eq_none (by omega), List.getElem?_eq_none (by omega)]
        simp -implicitDefEqProofs (disch := omega) [go_sem, r0, r1, r5, hab]
  · have hab : ¬ a = b := fun h => hne (by rw [h])
    have hne' : ¬ (a.length : Int) = b.length := by omega
    simp -implicitDefEqProofs (disch := omega) [go_sem, hab]
end
end Xe
