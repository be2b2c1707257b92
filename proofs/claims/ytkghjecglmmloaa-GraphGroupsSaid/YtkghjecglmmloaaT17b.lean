/- Go's library, walked: bits.Len, slices.SortFunc of a few, slices.Compact. -/
import Derived.Test.YtkghjecglmmloaaCP
namespace Xe
open Go Tp Go.Proofs
set_option maxRecDepth 16000

section
variable {h : Heap} {A : Option Addr} {l : List Int} {n c fn : Nat} {cs : List Value}

theorem len64_ok (hn : n ≤ 12) : CallsH Try.prog 135 [.int .u64 n] h fun r h' => (∃ k : Int, r = .int .i64 k) ∧ h' = h := by
  have hix : ixOf Try.prog 9 = none := by kernel_rfl
  have hst : strT Try.prog 9 = true := by kernel_rfl
  refine calls_of 25 [.tmp 2] Go.Proofs.Try.func135 rfl rfl rfl (by kernel_rfl) (Nat.le_of_ble_eq_true rfl) ?_
  simp -implicitDefEqProofs (disch := omega) [go_sem, hix, hst]
  refine runStr (by omega) ?_ ?_
  · have e : ((n : Int)).toNat = n := by omega
    rw [e]
    refine Nat.lt_of_lt_of_le (Nat.lt_of_le_of_lt hn (by decide : 12 < 256)) ?_
    exact Nat.le_of_ble_eq_true (by kernel_rfl)
  · intro b b0 b1
    simp -implicitDefEqProofs (disch := omega) [go_sem]
theorem len_ok (hn : n ≤ 12) : CallsH Try.prog 115 [.int .u64 n] h fun r h' => (∃ k : Int, r = .int .i64 k) ∧ h' = h := by
  refine calls_of 8 [.tmp 2] Go.Proofs.Try.func115 rfl rfl rfl (by kernel_rfl) (Nat.le_of_ble_eq_true rfl) ?_
  simp -implicitDefEqProofs (disch := omega) [go_sem]
  refine useC (len64_ok hn) ?_
  rintro _ h' ⟨⟨k, rfl⟩, rfl⟩
  simp -implicitDefEqProofs (disch := omega) [go_sem]

theorem pdq_ok {cap : Nat} {cf : Int → Int → Int} {ok : Int → Prop} (C : CmpOk cf ok) (S : SlAt h A cap (ints l)) (hl : ∀ x ∈ l, ok x) (hn : n = l.length) (hs : n ≤ 12) (k : Int)
    (hf : ∀ h x y, ok x → ok y → CallsH Try.prog fn ([.int .i64 x, .int .i64 y] ++ cs) h fun r h' => r = .int .i64 (cf x y) ∧ Fr (fun _ => False) h h') :
    CallsH Try.prog 120 [.slice A n cap, .int .i64 0, .int .i64 n, .int .i64 k, .func (.func fn) #[] cs.toArray] h fun _ h' =>
      ∃ L, L.Perm l ∧ (∀ p q, p < q → q < n → 0 ≤ cf (gt L q) (gt L p)) ∧ SlAt h' A cap (ints L) ∧ Fr (blk A) h h' := by
  refine calls_of 148 [] Go.Proofs.Try.func120 rfl rfl rfl (by kernel_rfl) (Nat.le_of_ble_eq_true rfl) ?_
  simp -implicitDefEqProofs (disch := omega) [go_sem]
  refine loopK (fun ρ h' => ρ 0 = .slice A n cap ∧ ρ 1 = .int .i64 0 ∧ ρ 2 = .int .i64 n ∧ ρ 4 = .func (.func fn) #[] cs.toArray ∧ h' = h) (fun _ _ => 0) (by kernel_rfl) ?_ ?_
  · exact ⟨rfl, rfl, rfl, rfl, rfl⟩
  · rintro ρ h' ⟨r0, r1, r2, r4, rfl⟩
    simp -implicitDefEqProofs (disch := omega) [go_sem, r0, r1, r2, r4]
    refine useC (insertion_ok C S hl hn (by omega) hf) ?_
    rintro _ h2 ⟨L, hP, hO, S2, f2⟩
    simp -implicitDefEqProofs (disch := omega) [go_sem]
    exact ⟨L, hP, hO, S2, f2⟩

theorem sortFunc_ok {cap : Nat} {cf : Int → Int → Int} {ok : Int → Prop} (C : CmpOk cf ok) (S : SlAt h A cap (ints l)) (hl : ∀ x ∈ l, ok x) (hn : n = l.length) (hs : n ≤ 12)
    (hf : ∀ h x y, ok x → ok y → CallsH Try.prog fn ([.int .i64 x, .int .i64 y] ++ cs) h fun r h' => r = .int .i64 (cf x y) ∧ Fr (fun _ => False) h h') :
    CallsH Try.prog 104 [.slice A n cap, .func (.func fn) #[] cs.toArray] h fun _ h' =>
      ∃ L, L.Perm l ∧ (∀ p q, p < q → q < n → 0 ≤ cf (gt L q) (gt L p)) ∧ SlAt h' A cap (ints L) ∧ Fr (blk A) h h' := by
  refine calls_of 14 [] Go.Proofs.Try.func104 rfl rfl rfl (by kernel_rfl) (Nat.le_of_ble_eq_true rfl) ?_
  simp -implicitDefEqProofs (disch := omega) [go_sem]
  refine useC (len_ok hs) ?_
  rintro _ h1 ⟨⟨k, rfl⟩, rfl⟩
  simp -implicitDefEqProofs (disch := omega) [go_sem]
  refine useC (pdq_ok C S hl hn hs k hf) ?_
  rintro _ h2 ⟨L, hP, hO, S2, f2⟩
  simp -implicitDefEqProofs (disch := omega) [go_sem]
  exact ⟨L, hP, hO, S2, f2⟩

theorem zerosOf_all {z w : Value} {m : Nat} (hw : w ∈ (zerosOf #[z] m).toList) : w = z := by
  unfold zerosOf at hw
  rw [Array.toList_map, List.mem_map] at hw
  obtain ⟨i, _, rfl⟩ := hw
  simp [Nat.mod_one]

/-- clearing a row of numbers -/
theorem clear_ints {bk off cap : Nat} {k : Heap → Prop} (hc : ∀ j, j < n → (hcell h ⟨bk, off + j, none⟩).isSome = true) (hf : ∀ j, hfrz h ⟨bk, j, none⟩ = false)
    (hk : ∀ h', (∀ x, x < off → hcell h' ⟨bk, x, none⟩ = hcell h ⟨bk, x, none⟩) → (∀ x, (hcell h ⟨bk, x, none⟩).isSome = true → (hcell h' ⟨bk, x, none⟩).isSome = true) → (∀ x, hfrz h' ⟨bk, x, none⟩ = false) → Fr (fun x => x = bk) h h' → k h') :
    @clearK Try.prog 32 (.slice (some ⟨bk, off, none⟩) n cap) ⟨h⟩ ⟨k⟩ := by
  refine .inr ⟨3, 1, 8, .int .i64 0, _, n, cap, by kernel_rfl, rfl, ?_⟩
  have hlen : (zerosOf (Value.int .i64 0).cells (n * 1)).toList.length = n := by simp [zerosOf]
  refine storeN_some (b := bk) (fun w hw => by rw [zerosOf_all hw]; rfl) (fun j hj => by rw [hlen] at hj; rw [Nat.add_zero]; exact hc j hj) hf fun h' g1 g2 g3 g4 => ?_
  rw [Nat.add_zero, hlen] at g2
  rw [Nat.add_zero] at g1
  refine hk h' (fun x hx => g2 x (.inl hx)) (fun x hx => ?_) g3 g4
  by_cases hin : x < off ∨ off + n ≤ x
  · rw [g2 x hin]; exact hx
  · have hj : x - off < (zerosOf (Value.int .i64 0).cells (n * 1)).toList.length := by omega
    have := g1 (x - off) _ (List.getElem?_eq_getElem hj)
    rw [show off + (x - off) = x by omega] at this
    rw [this]; rfl

theorem compact_ok {cap : Nat} (S : SlAt h A cap (ints l)) (hn : n = l.length) (hs : n < 2 ^ 40) :
    CallsH Try.prog 108 [.slice A n cap] h fun r h' => r = .slice A (cN l n).length cap ∧ SlAt h' A cap (ints (cN l n)) ∧ Fr (blk A) h h' := by
  subst hn
  refine calls_of 61 [.tmp 2] Go.Proofs.Try.func108 rfl rfl rfl (by kernel_rfl) (Nat.le_of_ble_eq_true rfl) ?_
  by_cases h2 : l.length < 2
  · have e : cN l l.length = l := by rw [cN_take _ (Nat.le_refl _) (fun j h1 h2 => by omega), List.take_length]
    simp -implicitDefEqProofs (disch := omega) [go_sem, e]
    exact ⟨S, Fr.refl _ _⟩
  simp -implicitDefEqProofs (disch := omega) [go_sem]
  obtain ⟨bk, rfl, hbk, hfz, hc⟩ := S.base (by rw [ints_len]; omega)
  have hcap := S.len
  rw [ints_len] at hcap
  refine loopK (fun ρ h' => ρ 0 = .slice (some ⟨bk, 0, none⟩) l.length cap ∧ h' = h ∧ ∃ k : Nat, ρ 3 = .int .i64 k ∧ 1 ≤ k ∧ k ≤ l.length ∧ ∀ j, 1 ≤ j → j < k → gt l j ≠ gt l (j - 1))
    (fun ρ _ => l.length - (intOf (ρ 3)).toNat) (by kernel_rfl) ?_ ?_
  · exact ⟨rfl, rfl, 1, rfl, by omega, by omega, fun j h1 h2 => by omega⟩
  · rintro ρ h' ⟨r0, rfl, k, r3, hk1, hk2, hj⟩
    by_cases hkn : k = l.length
    · have e : cN l l.length = l := by rw [cN_take _ (Nat.le_refl _) (fun j h1 h2 => hj j h1 (by omega)), List.take_length]
      simp -implicitDefEqProofs (disch := omega) [go_sem, r0, r3, e]
      exact ⟨S, Fr.refl _ _⟩
    · have c0 := hc k _ (ints_at (gt_at (by omega)))
      have c1 := hc (k - 1) _ (ints_at (gt_at (by omega)))
      have ek : ((k : Int) - 1).toNat = k - 1 := by omega
      simp -implicitDefEqProofs (disch := omega) [go_sem, r0, r3]
      refine drawK [(0, 0), (1, 0), (2, 0), (3, 1), (4, 0), (5, 0), (6, 0), (7, 0), (8, 1), (9, 0)] mixed (by kernel_rfl) ?_
      by_cases hd : gt l k = gt l (k - 1)
      · simp -implicitDefEqProofs (disch := omega) [go_sem, r0, r3, c0, c1, ek, hd]
        refine loopK (fun ρ h2 => ρ 0 = .slice (some ⟨bk, 0, none⟩) l.length cap ∧ ρ 4 = .slice (some ⟨bk, k, none⟩) (l.length - k) (cap - k) ∧ ∃ (k2 i : Nat) (M : List Int), ρ 5 = .int .i64 k2 ∧ ρ 3 = .int .i64 i ∧ 1 ≤ k2 ∧ k + k2 ≤ l.length ∧
            i = (cN l (k + k2)).length ∧ M.length = l.length ∧ (∀ j, j < i → gt M j = gt (cN l (k + k2)) j) ∧ (∀ j, k + k2 - 1 ≤ j → gt M j = gt l j) ∧ SlAt h2 (some ⟨bk, 0, none⟩) cap (ints M) ∧ Fr (blk (some ⟨bk, 0, none⟩)) h' h2)
          (fun ρ _ => l.length - (intOf (ρ 5)).toNat) (by kernel_rfl) ?_ ?_
        · have e1 : cN l k = l.take k := cN_take _ hk2 hj
          have e2 : cN l (k + 1) = l.take k := by rw [cN_dup (by omega) hd, e1]
          refine ⟨r0, rfl, 1, k, l, rfl, r3, by omega, by omega, ?_, rfl, fun j hj2 => ?_, fun j _ => rfl, S, Fr.refl _ _⟩
          · rw [e2, List.length_take]; omega
          · rw [e2]
            unfold gt
            rw [List.getD_eq_getElem?_getD, List.getD_eq_getElem?_getD, List.getElem?_take, if_pos hj2]
        · clear r0 r3 c0 c1
          rintro ρ h3 ⟨r0, r4, k2, i, M, r5, r3, hk21, hk22, hi, hM, hA, hB, S3, f3⟩
          have hilt := cN_lt (by omega) hd (k + k2) (by omega)
          obtain ⟨bk', hbk', _, hfz3, hc3⟩ := S3.base (by rw [ints_len]; omega)
          cases hbk'
          by_cases hend : k + k2 = l.length
          · rw [hend] at hi hA hilt
            have hil : i < l.length := by omega
            simp -implicitDefEqProofs (disch := omega) [go_sem, r0, r3, r4, r5]
            refine clear_ints (n := l.length - i) (fun j hj => ?_) hfz3 fun h4 g1 g2 g3 g4 => ?_
            · rw [hc3 (i + j) _ (ints_at (gt_at (by omega)))]; rfl
            · simp -implicitDefEqProofs (disch := omega) [go_sem, r0, r3, r4, r5]
              refine ⟨hi, ⟨by rw [ints_len]; omega, .inr ⟨bk, rfl, Nat.lt_of_lt_of_le (S3.blk_lt ⟨_, rfl, rfl⟩) g4.size, g3, fun j hj => ?_, fun j v hv => ?_⟩⟩, f3.trans (g4.mono fun x _ hx => ⟨_, rfl, hx.symm⟩)⟩
              · refine g2 j ?_
                rcases S3.at' with ⟨h, _⟩ | ⟨bk2, h, _, _, hs3, _⟩
                · cases h
                · cases h; exact hs3 j hj
              · have hjl := (List.getElem?_eq_some_iff.1 hv).1
                rw [ints_len, ← hi] at hjl
                rw [g1 j hjl, hc3 j _ (ints_at (gt_at (by omega))), hA j hjl, ← hv, ints_at (gt_at (by omega))]
          · have c0 := hc3 (k + k2) _ (ints_at (gt_at (by omega)))
            have c1 := hc3 (k + (k2 - 1)) _ (ints_at (gt_at (by omega)))
            rw [hB _ (by omega)] at c0
            rw [hB _ (by omega)] at c1
            have ek2 : ((k2 : Int) - 1).toNat = k2 - 1 := by omega
            have epp : k + k2 - 1 = k + (k2 - 1) := by omega
            simp -implicitDefEqProofs (disch := omega) [go_sem, r0, r3, r4, r5]
            refine drawK [(0, 0), (1, 0), (2, 0), (3, 1), (4, 0), (5, 0), (6, 0), (7, 0), (8, 1), (9, 0)] mixed (by kernel_rfl) ?_
            by_cases hne : gt l (k + k2) = gt l (k + (k2 - 1))
            · simp -implicitDefEqProofs (disch := omega) [go_sem, r0, r3, r4, r5, c0, c1, ek2, hne]
              have ed : cN l (k + (k2 + 1)) = cN l (k + k2) := cN_dup (n := k + k2) (by omega) (by rw [epp]; exact hne)
              refine ⟨⟨k2 + 1, by omega, i, rfl, by omega, by omega, by rw [ed]; exact hi, M, hM, fun j hj2 => by rw [ed]; exact hA j hj2, fun j hj2 => hB j (by omega), S3, f3⟩, by omega⟩
            · have ci := hc3 i _ (ints_at (gt_at (by omega)))
              simp -implicitDefEqProofs (disch := omega) [go_sem, r0, r3, r4, r5, c0, c1, ek2, hne, hfz3, ci]
              have ed : cN l (k + (k2 + 1)) = cN l (k + k2) ++ [gt l (k + k2)] := cN_new (n := k + k2) (.inr (by rw [epp]; exact hne))
              have S4 := S3.set (i := i) (by rw [ints_len]; omega) (.int .i64 (gt l (k + k2)))
              have e4 : (ints M).set i (.int .i64 (gt l (k + k2))) = ints (M.set i (gt l (k + k2))) := by unfold ints; rw [List.map_set]
              rw [e4] at S4
              refine ⟨⟨k2 + 1, by omega, i + 1, by omega, by omega, by omega, by rw [ed, List.length_append, ← hi]; rfl, M.set i (gt l (k + k2)), by rw [List.length_set]; exact hM, fun j hj2 => ?_, fun j hj2 => ?_, S4, ?_⟩, by omega⟩
              · rw [gt_set (by omega), ed]
                by_cases ej : j = i
                · subst ej
                  rw [if_pos rfl]
                  unfold gt
                  rw [List.getD_eq_getElem?_getD (l := _ ++ _), List.getElem?_append_right (by omega), hi]
                  simp
                · rw [if_neg ej, hA j (by omega)]
                  unfold gt
                  rw [List.getD_eq_getElem?_getD, List.getD_eq_getElem?_getD, List.getElem?_append_left (by omega)]
              · rw [gt_set (by omega), if_neg (by omega)]
                exact hB j (by omega)
              · exact f3.set (ad := ⟨bk, i, none⟩) ⟨⟨bk, 0, none⟩, rfl, rfl⟩
      · simp -implicitDefEqProofs (disch := omega) [go_sem, r0, r3, c0, c1, ek, hd]
        refine ⟨⟨k + 1, by omega, by omega, by omega, fun j h1 h2 => ?_⟩, by omega⟩
        by_cases e : j = k
        · subst e; exact hd
        · exact hj j h1 (by omega)
end
end Xe
