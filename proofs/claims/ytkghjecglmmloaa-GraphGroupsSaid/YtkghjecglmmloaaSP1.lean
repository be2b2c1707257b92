/- Sorting in place, walked: swaps. -/
import Derived.Test.YtkghjecglmmloaaSP
import Derived.Test.YtkghjecglmmloaaTypes
import Derived.Test.YtkghjecglmmloaaMono
namespace Xe
open Go Go.Proofs
set_option maxRecDepth 16000

section
variable {h : Heap} {A : Option Addr} {cap n : Nat} {fn : FuncId} {cs : List Value}
theorem cells_of_one {v : Value} (h : v.oneCell' = true) : v.cells = #[v] := by
  cases v <;> first | rfl | (simp [Value.oneCell'] at h)
theorem store_one {v : Value} (hv : v.oneCell' = true) (h : Heap) (b o : Nat) (j : Heap → Prop) : @storeK (some 1) (.pointer (some ⟨b, o, none⟩)) v ⟨h⟩ ⟨j⟩ =
    @guardK ((hcell h ⟨b, o, none⟩).isSome && !hfrz h ⟨b, o, none⟩) ⟨j (hset h ⟨b, o, none⟩ v)⟩ := by
  rw [store_1 (cells_of_one hv), hv, Bool.true_and]
theorem swp_slat {bk i j : Nat} {L : List Value} (S : SlAt h (some ⟨bk, 0, none⟩) cap L) (hi : i < L.length) (hj : j < L.length) : SlAt (hset (hset h ⟨bk, i, none⟩ (gv L j)) ⟨bk, j, none⟩ (gv L i)) (some ⟨bk, 0, none⟩) cap (swp L i j) :=
  (S.set hi (gv L j)).set (by rw [List.length_set]; exact hj) (gv L i)
theorem swp_fr {bk i j : Nat} {v w : Value} {h0 : Heap} (f : Fr (blk (some ⟨bk, 0, none⟩)) h0 h) : Fr (blk (some ⟨bk, 0, none⟩)) h0 (hset (hset h ⟨bk, i, none⟩ v) ⟨bk, j, none⟩ w) :=
  (f.set (ad := ⟨bk, i, none⟩) ⟨⟨bk, 0, none⟩, rfl, rfl⟩).set (ad := ⟨bk, j, none⟩) ⟨⟨bk, 0, none⟩, rfl, rfl⟩
theorem reverse_ok {L : List Value} {a b : Nat} (S : SlAt h A cap L) (hn : n = L.length) (hs : n < 2 ^ 40) (hone : ∀ w ∈ L, w.oneCell' = true) (hab : a ≤ b) (hb : b ≤ n) (f : Value) :
    CallsH Try.prog 140 [.slice A n cap, .int .i64 a, .int .i64 b, f] h fun _ h' => ∃ L', Rng a b L L' ∧ SlAt h' A cap L' ∧ Fr (blk A) h h' := by
  subst hn
  refine calls_of 34 [] Go.Proofs.Try.func140 rfl rfl rfl (by kernel_rfl) (Nat.le_of_ble_eq_true rfl) ?_
  simp -implicitDefEqProofs (disch := omega) [go_sem]
  refine loopK (fun ρ h' => ρ 0 = .slice A L.length cap ∧ ∃ (i : Nat) (j : Int) (L' : List Value), ρ 8 = .int .i64 i ∧ ρ 9 = .int .i64 j ∧ a ≤ i ∧ j < b ∧ (a : Int) - 1 ≤ j ∧ (i : Int) ≤ j + 2 ∧ Rng a b L L' ∧ SlAt h' A cap L' ∧ Fr (blk A) h h')
    (fun ρ _ => (intOf (ρ 9) + 1 - intOf (ρ 8)).toNat) (by kernel_rfl) ?_ ?_
  · exact ⟨rfl, a, (b : Int) - 1, L, rfl, rfl, by omega, by omega, by omega, by omega, .refl _, S, Fr.refl _ _⟩
  · rintro ρ h1 ⟨r0, i, j, L', r8, r9, hi, hj, hj2, hij, RG, S1, fr⟩
    by_cases hlt : (i : Int) < j
    · obtain ⟨q, rfl⟩ : ∃ q : Nat, j = q := ⟨j.toNat, by omega⟩
      have hlen := RG.len
      obtain ⟨bk, rfl, hbk, hfz, hc⟩ := S1.base (by omega)
      have c0 := hc i _ (gv_at (by omega))
      have c1 := hc q _ (gv_at (by omega))
      have ne1 : ¬ q = i := by omega
      have ne2 : ¬ i = q := by omega
      have o0 : (gv L' i).oneCell' = true := hone _ (RG.perm.mem_iff.1 (List.mem_of_getElem? (gv_at (by omega))))
      have o1 : (gv L' q).oneCell' = true := hone _ (RG.perm.mem_iff.1 (List.mem_of_getElem? (gv_at (by omega))))
      simp -implicitDefEqProofs (disch := omega) [go_sem, r0, r8, r9, hlt]
      refine drawK [(0, 0), (1, 0), (2, 0), (3, 0), (4, 0), (5, 0), (6, 0), (7, 1), (8, 0), (9, 0), (10, 0), (11, 1), (12, 0), (13, 3), (14, 0), (15, 3)] mixed (by kernel_rfl) ?_
      have w0 := store_one o0
      have w1 := store_one o1
      simp -implicitDefEqProofs (disch := omega) [go_sem, r0, r8, r9, c0, c1, hfz, ne1, ne2, w0, w1]
      exact ⟨⟨i + 1, by omega, by omega, by omega, by omega, by omega, _, RG.trans (Rng.one (i := i) (j := q) (by omega) (by omega) (by omega) (by omega) (by omega)), swp_slat S1 (by omega) (by omega), swp_fr fr⟩, by omega⟩
    · simp -implicitDefEqProofs (disch := omega) [go_sem, r0, r8, r9, hlt]
      exact ⟨L', RG, S1, fr⟩
end
end Xe
