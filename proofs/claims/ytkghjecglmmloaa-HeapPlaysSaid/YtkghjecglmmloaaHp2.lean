/- The walks through package heap, second part. -/
import Derived.Test.YtkghjecglmmloaaHp1
namespace Xe
open Go Hp Go.Proofs
section
variable {h : Heap} {b kb lb pb vars n kc lc pc : Nat} {A : Option Addr} {act : Nat → Int} {l : Nat → Nat} {pl : Nat → Int}

/-- behind so many of a place's two children: the foremost so far -/
structure Best (act : Nat → Int) (n : Nat) (l : Nat → Nat) (i j best : Nat) : Prop where
  lt : best < n
  who : best = i ∨ (best = 2 * i + 1 ∧ 1 ≤ j) ∨ (best = 2 * i + 2 ∧ 2 ≤ j)
  none : ∀ k, k < j → 2 * i + 1 + k < n → ¬ bef act (l (2 * i + 1 + k)) (l best)
  self : best ≠ i → bef act (l best) (l i)

theorem Best.start {i : Nat} (hi : i < n) : Best act n l i 0 i := ⟨hi, .inl rfl, fun k hk => by omega, fun h => absurd rfl h⟩
theorem Best.skip {i j best : Nat} (B : Best act n l i j best) (hs : ¬ (2 * i + 1 + j < n ∧ bef act (l (2 * i + 1 + j)) (l best))) : Best act n l i (j + 1) best :=
  ⟨B.lt, by rcases B.who with h | h | h <;> omega, fun k hk hn => by
    by_cases e : k = j
    · subst e; exact fun hb => hs ⟨hn, hb⟩
    · exact B.none k (by omega) hn, B.self⟩
theorem Best.take {i j best : Nat} (B : Best act n l i j best) (hj : j < 2) (h1 : 2 * i + 1 + j < n) (hb : bef act (l (2 * i + 1 + j)) (l best)) : Best act n l i (j + 1) (2 * i + 1 + j) :=
  ⟨h1, by omega, fun k hk hn => by
    by_cases e : k = j
    · subst e; exact bef_irr _ _
    · exact bef_nbef hb (B.none k (by omega) hn), fun _ => by
    by_cases e : best = i
    · rw [e] at hb; exact hb
    · exact bef_trans hb (B.self e)⟩

theorem sink_h (H : HeapAt h b kb lb pb vars n kc lc pc A act l pl) (W : Wf vars n l pl) (hact : Acts vars act) {x : Int} (s i : Nat) (hx : x = i) (hs : s ≤ i) (hi : i < n) (D : Down act n l s i) :
   CallsH Try.prog 77 [.pointer (some ⟨b, 0, none⟩), .int .i64 x] h fun r h' => r = .tuple #[] ∧
     ∃ l' pl', HeapAt h' b kb lb pb vars n kc lc pc A act l' pl' ∧ Wf vars n l' pl' ∧ OrdFrom act n l' s ∧ (∀ v, In n l' v ↔ In n l v) ∧ Fr (fun x => x = lb ∨ x = pb) h h' := by
  subst hx
  refine calls_of 53 [] Go.Proofs.Try.func77 rfl rfl rfl (by kernel_rfl) (Nat.le_of_ble_eq_true rfl) ?_
  simp -implicitDefEqProofs (disch := omega) [go_sem]
  refine scopeL 0 (fun ρ h' => ρ 0 = .pointer (some ⟨b, 0, none⟩) ∧ ∃ i l' pl', ρ 1 = .int .i64 ((i : Nat) : Int) ∧ s ≤ i ∧ i < n ∧ HeapAt h' b kb lb pb vars n kc lc pc A act l' pl' ∧ Wf vars n l' pl' ∧ Down act n l' s i ∧ (∀ v, In n l' v ↔ In n l v) ∧
    Fr (fun x => x = lb ∨ x = pb) h h') (fun ρ _ => n - (intOf (ρ 1)).toNat) (by kernel_rfl) ?_ ?_
  · exact ⟨rfl, i, l, pl, rfl, hs, hi, H, W, D, fun _ => Iff.rfl, Fr.refl _ _⟩
  · rintro ρ h' ⟨r0, i, l', pl', r1, hs, hi, H, W, D, hin, hfr⟩
    have hb1 := H.hv
    have hb2 := H.hn
    have h1 := H.s1
    rw [H.hA (by omega)] at h1
    simp -implicitDefEqProofs (disch := omega) [go_sem, r0, r1]
    refine loopK (fun ρ' h2 => h2 = h' ∧ ρ' 0 = .pointer (some ⟨b, 0, none⟩) ∧ ρ' 1 = .int .i64 (i : Int) ∧ ρ' 14 = .agg #[.int .i64 (2 * (i : Int) + 1), .int .i64 (2 * (i : Int) + 2)] ∧
      ∃ j best : Nat, ρ' 15 = .int .i64 j ∧ ρ' 4 = .int .i64 best ∧ j ≤ 2 ∧ Best act n l' i j best) (fun ρ' _ => 2 - (intOf (ρ' 15)).toNat) (by kernel_rfl) ?_ ?_
    · exact ⟨rfl, r0, r1, rfl, 0, i, rfl, rfl, by omega, Best.start hi⟩
    · rintro ρ' _ ⟨rfl, q0, q1, q14, j, best, q15, q4, hj, B⟩
      have hbn := B.lt
      by_cases hj2 : j = 2
      · subst hj2
        have hbest : ∀ k, 0 < k → k < n → (k - 1) / 2 = i → ¬ bef act (l' k) (l' best) := by
          intro k k0 kn ke
          have := B.none (k - (2 * i + 1)) (by omega) (by omega)
          rwa [show 2 * i + 1 + (k - (2 * i + 1)) = k by omega] at this
        by_cases hbi : best = i
        · subst hbi
          simp -implicitDefEqProofs (disch := omega) [go_sem, q0, q1, q14, q15, q4]
          exact ⟨l', pl', H, W, D.done hbest, hin, hfr⟩
        · have hq : ¬ ((best : Int) = i) := by omega
          simp -implicitDefEqProofs (disch := omega) [go_sem, q0, q1, q14, q15, q4, hq]
          refine useC (swap_h H W i best rfl rfl hi B.lt) ?_
          rintro _ h2 ⟨rfl, H2, hfr2⟩
          simp -implicitDefEqProofs (disch := omega) [go_sem, r0, r1, q0, q1, q4]
          have hw := B.who
          exact ⟨⟨best, rfl, by omega, B.lt, _, _, H2, W.swap hi B.lt, D.step hs (by omega) B.lt (by omega) (B.self hbi) hbest, fun v => (In.swap hi B.lt).trans (hin v), hfr.trans hfr2⟩, by omega⟩
      · obtain ⟨k, hk⟩ : ∃ k, k = 2 * i + 1 + j := ⟨_, rfl⟩
        have hat : ∀ p, ([Value.int .i64 (2 * (i : Int) + 1), Value.int .i64 (2 * (i : Int) + 2)] : List Value)[j]'p = Value.int .i64 (k : Int) := by
          intro p
          rcases (by omega : j = 0 ∨ j = 1) with rfl | rfl
          · simp [hk]
          · simp [hk]; omega
        have hj3 : (j : Int) < 2 := by omega
        have hj4 : j < 2 := by omega
        by_cases hkn : k < n
        · have hkn' : (k : Int) < n := by omega
          have c1 := H.cl k hkn
          have c2 := H.cl best hbn
          by_cases hbf : bef act (l' k) (l' best)
          · simp -implicitDefEqProofs (disch := omega) [go_sem, q0, q1, q14, q15, q4, hj3, hat]
            refine drawK [(0, 0), (1, 0), (2, 0), (3, 0), (4, 1), (5, 0), (6, 0), (7, 0), (8, 0), (9, 0), (10, 0), (11, 0), (12, 1), (13, 0), (14, 0), (15, 1), (16, 0), (17, 0), (18, 0), (19, 1), (20, 0), (21, 0), (22, 1), (23, 3), (24, 0)] mixed (by kernel_rfl) ?_
            simp -implicitDefEqProofs (disch := omega) [go_sem, q0, q1, q14, q15, q4, hkn, hkn', h1, c1, c2]
            refine useC (ahead_h H hact (l' k) (l' best) rfl rfl (W.high _ hkn) (W.high _ hbn)) ?_
            rintro _ _ ⟨rfl, rfl⟩
            simp -implicitDefEqProofs (disch := omega) [go_sem, q0, q1, q14, q15, q4, hbf]
            exact ⟨⟨j + 1, by omega, k, rfl, by omega, hk ▸ B.take hj4 (hk ▸ hkn) (hk ▸ hbf)⟩, by omega⟩
          · simp -implicitDefEqProofs (disch := omega) [go_sem, q0, q1, q14, q15, q4, hj3, hat]
            refine drawK [(0, 0), (1, 0), (2, 0), (3, 0), (4, 1), (5, 0), (6, 0), (7, 0), (8, 0), (9, 0), (10, 0), (11, 0), (12, 1), (13, 0), (14, 0), (15, 1), (16, 0), (17, 0), (18, 0), (19, 1), (20, 0), (21, 0), (22, 1), (23, 3), (24, 0)] mixed (by kernel_rfl) ?_
            simp -implicitDefEqProofs (disch := omega) [go_sem, q0, q1, q14, q15, q4, hkn, hkn', h1, c1, c2]
            refine useC (ahead_h H hact (l' k) (l' best) rfl rfl (W.high _ hkn) (W.high _ hbn)) ?_
            rintro _ _ ⟨rfl, rfl⟩
            simp -implicitDefEqProofs (disch := omega) [go_sem, q0, q1, q14, q15, q4, hbf]
            exact ⟨⟨j + 1, by omega, best, rfl, by omega, B.skip (fun e => hbf (hk ▸ e.2))⟩, by omega⟩
        · have hkn' : ¬ (k : Int) < n := by omega
          simp -implicitDefEqProofs (disch := omega) [go_sem, q0, q1, q14, q15, q4, hj3, hat]
          refine drawK [(0, 0), (1, 0), (2, 0), (3, 0), (4, 1), (5, 0), (6, 0), (7, 0), (8, 0), (9, 0), (10, 0), (11, 0), (12, 1), (13, 0), (14, 0), (15, 1), (16, 0), (17, 0), (18, 0), (19, 1), (20, 0), (21, 0), (22, 1), (23, 3), (24, 0)] mixed (by kernel_rfl) ?_
          simp -implicitDefEqProofs (disch := omega) [go_sem, q0, q1, q14, q15, q4, hkn, hkn', h1]
          exact ⟨⟨j + 1, by omega, best, rfl, by omega, B.skip (fun e => hkn (hk ▸ e.1))⟩, by omega⟩
end
end Xe
