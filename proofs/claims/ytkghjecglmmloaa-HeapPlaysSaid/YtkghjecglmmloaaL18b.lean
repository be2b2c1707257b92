/- The laws of layer 18, second part: HeapOrders. -/
import Derived.Test.YtkghjecglmmloaaL18a
namespace Xe
open Go Hp Go.Proofs
set_option maxRecDepth 16000
section
variable {h : Heap} {b vars n : Nat} {O : Nat → Prop} {act : Nat → Int} {S : Nat → Prop}

theorem HeapOk.front_none (H : HeapOk h b O vars 0 act S) : (front act S vars).length = 0 := by
  obtain ⟨kb, lb, pb, kc, lc, pc, A, l, pl, H1, W, Od, hin, hO⟩ := H.ex
  rw [← tieN_front (kb := 0) (lb := 0) (pb := 0) (kc := 0) (lc := 0) (pc := 0) (A := none) W Od hin]
  rfl
theorem HeapOk.act_range (H : HeapOk h b O vars n act S) {v : Nat} (hv : v ≤ vars) : 0 ≤ act v ∧ act v ≤ 1099511627776 := H.acts v hv

theorem orders_walk (a0 : Int) (w0 : 0 ≤ a0 ∧ a0 ≤ 255) (A : Option Addr) (m c : Nat) (R : ArgRow h A m fun _ v => ∃ x : Int, v = .int .u16 x ∧ 0 ≤ x ∧ x ≤ 65535) :
    CallsH Try.prog 5 [.int .u8 a0, .slice A m c] h fun r h' => r = .bool true ∧ Fr (fun _ => False) h h' := by
  have hms := R.small
  refine calls_of 118 [.tmp 4] Go.Proofs.Try.func5 rfl rfl rfl (by kernel_rfl) (Nat.le_of_ble_eq_true rfl) ?_
  simp -implicitDefEqProofs (disch := omega) [go_sem]
  refine useC awake18 ?_
  rintro _ h1 ⟨rfl, fr1⟩
  simp -implicitDefEqProofs (disch := omega) [go_sem]
  refine useC (new_ok _) ?_
  rintro _ h2 (⟨hb, _, _⟩ | ⟨k, hk, _, rfl, O, H, nx⟩)
  · omega
  by_cases hm : 60 < m
  · simp -implicitDefEqProofs (disch := omega) [go_sem, hm]
    exact fr1.trans nx.fr
  · simp -implicitDefEqProofs (disch := omega) [go_sem, hm]
    have fr2 := fr1.trans nx.fr
    have hO : ∀ x, O x → h.size ≤ x := fun x hx => by
      have := (nx.own x hx).resolve_left id
      have := fr1.size; omega
    refine loopK (fun ρ h' => ρ 1 = .slice A m c ∧ ρ 5 = .int .i64 k ∧ ρ 6 = .pointer (some ⟨h1.size, 0, none⟩) ∧ ∃ (i : Nat) (act : Nat → Int), ρ 7 = .int .i64 i ∧ i ≤ m ∧
      HeapOk h' h1.size O k k act (fun v => 1 ≤ v ∧ v ≤ k) ∧ Fr (fun _ => False) h h') (fun ρ _ => m - (intOf (ρ 7)).toNat) (by kernel_rfl) ?_ ?_
    · exact ⟨rfl, congrArg (Value.int .i64) hk, rfl, 0, _, rfl, by omega, H, fr2⟩
    · rintro ρ h3 ⟨r1, r5, r6, i, act, r7, hi, H3, fr3⟩
      by_cases him : i = m
      · subst him
        simp -implicitDefEqProofs (disch := omega) [go_sem, r1, r5, r6, r7]
        refine loopK (fun ρ h' => ρ 5 = .int .i64 k ∧ ρ 6 = .pointer (some ⟨h1.size, 0, none⟩) ∧ ∃ (j : Nat) (last : Int) (number : Nat) (S : Nat → Prop) (O' : Nat → Prop), ρ 10 = .int .i64 j ∧ ρ 8 = .int .i64 last ∧ ρ 9 = .int .i64 number ∧ j ≤ k ∧
          HeapOk h' h1.size O' k (k - j) act S ∧ (∀ v, S v → act v < last ∨ (act v = last ∧ number < v)) ∧ Fr (fun _ => False) h h' ∧ (∀ x, O' x → h.size ≤ x)) (fun ρ _ => k - (intOf (ρ 10)).toNat) (by kernel_rfl) ?_ ?_
        · exact ⟨r5, r6, 0, _, 0, _, O, rfl, rfl, rfl, by omega, H3, fun v hv => by have := H3.act_range hv.2; omega, fr3, hO⟩
        · rintro ρ h4 ⟨q5, q6, j, last, number, S, O', q10, q8, q9, hj, H4, hlast, fr4, hO'⟩
          by_cases hjk : j = k
          · subst hjk
            simp -implicitDefEqProofs (disch := omega) [go_sem, q5, q6, q10, q8, q9]
            refine useC (pop0_ok H4) ?_
            rintro r h5 hb
            obtain ⟨_, rfl, rfl⟩ := hb.resolve_right (fun ⟨v, _, hb, _⟩ => by omega)
            have hjj : j - j = 0 := by omega
            rw [hjj] at H4
            simp -implicitDefEqProofs (disch := omega) [go_sem, q5, q6, q10, q8, q9]
            refine useC (len_ok H4) ?_
            rintro _ h5 ⟨rfl, rfl⟩
            simp -implicitDefEqProofs (disch := omega) [go_sem, q5, q6, q10, q8, q9]
            refine useC (ties_ok H4) ?_
            rintro _ h5 ⟨rfl, rfl⟩
            rw [H4.front_none]
            simp -implicitDefEqProofs (disch := omega) [go_sem, q5, q6, q10, q8, q9]
            exact fr4
          · obtain ⟨d, hd⟩ : ∃ d, k - j = d + 1 := ⟨k - j - 1, by omega⟩
            rw [hd] at H4
            simp -implicitDefEqProofs (disch := omega) [go_sem, q5, q6, q10, q8, q9]
            refine useC (pop0_ok H4) ?_
            rintro r h5 (⟨hb, _, _⟩ | ⟨v, rfl, _, hF, O5, H5, nx5⟩)
            · omega
            have hvr := H4.range hF.1
            simp -implicitDefEqProofs (disch := omega) [go_sem, q5, q6, q10, q8, q9]
            refine useC (activity_ok H5 _) ?_
            rintro _ h5 ⟨rfl, rfl⟩
            rw [if_pos (by omega), Int.toNat_natCast]
            simp -implicitDefEqProofs (disch := omega) [go_sem, q5, q6, q10, q8, q9]
            refine useC (in_ok H5 _) ?_
            rintro _ h5 ⟨u, rfl, hu, rfl⟩
            have hu : u = false := by
              cases u
              · rfl
              · exact absurd rfl (hu.1 rfl).2.2
            subst hu
            have hl := hlast v hF.1
            have hle := H5.acts v hvr.2
            have hnx := fun w hw => hF.2 w hw
            have fr5 := fr4.trans' nx5.fr (fun x hx ho => by have := hO' x ho; omega)
            have own5 : ∀ x, O5 x → h.size ≤ x := fun x hx => (nx5.own x hx).elim (hO' x) (fun h => by have := fr4.size; omega)
            have hS5 : ∀ w, S w ∧ w ≠ v → act w < act v ∨ (act w = act v ∧ v < w) := fun w hw => by
              have := hF.2 w hw.1
              unfold bef at this; omega
            have hd2 : k - (j + 1) = d := by omega
            rw [Nat.add_sub_cancel, ← hd2] at H5
            by_cases he : act v = last
            · simp -implicitDefEqProofs (disch := omega) [go_sem, q5, q6, q10, q8, q9]
              exact ⟨⟨j + 1, by omega, v, rfl, by omega, _, O5, H5, hS5, fr5, own5⟩, by omega⟩
            · simp -implicitDefEqProofs (disch := omega) [go_sem, q5, q6, q10, q8, q9]
              exact ⟨⟨j + 1, by omega, v, rfl, by omega, _, O5, H5, hS5, fr5, own5⟩, by omega⟩
      · have hil : (i : Int) < m := by omega
        obtain ⟨bk, off, _, rfl, hc, x, rfl, hx0, hx1⟩ := (R.fr fr3).at' i (by omega)
        by_cases hk0 : 0 < k
        · simp -implicitDefEqProofs (disch := omega) [go_sem, r1, r5, r6, r7, hil, hk0]
          refine drawK [(0, 0), (1, 0), (2, 0), (3, 0), (4, 1), (5, 0), (6, 0), (7, 0), (8, 0), (9, 0), (10, 0), (11, 0), (12, 1), (13, 0), (14, 0), (15, 0), (16, 0), (17, 0), (18, 3)] mixed (by kernel_rfl) ?_
          simp -implicitDefEqProofs (disch := omega) [go_sem, r1, r5, r6, r7, hil, hk0, hc]
          refine useC (bump_ok H3 _ _) ?_
          rintro r h4 hb
          have hb2 : (∃ b, r = .bool b) ∧ ∃ act4, HeapOk h4 h1.size O k k act4 (fun v => 1 ≤ v ∧ v ≤ k) ∧ Fr (fun _ => False) h h4 := by
            rcases hb with ⟨v, _, rfl, _, _, _, _, H4, fr4⟩ | ⟨_, rfl, rfl⟩
            · exact ⟨⟨_, rfl⟩, _, H4, fr3.trans' fr4 (fun x hx ho => by have := hO x ho; omega)⟩
            · exact ⟨⟨_, rfl⟩, _, H3, fr3⟩
          obtain ⟨⟨bv, rfl⟩, act4, H4, fr4⟩ := hb2
          by_cases h7 : (i : Int) % 7 = 6
          · simp -implicitDefEqProofs (disch := omega) [go_sem, r1, r5, r6, r7]
            refine useC (decay_ok H4) ?_
            rintro _ h5 ⟨rfl, H5, fr5⟩
            simp -implicitDefEqProofs (disch := omega) [go_sem, r1, r5, r6, r7]
            exact ⟨⟨i + 1, by omega, by omega, ⟨_, H5⟩, fr4.trans' fr5 (fun x hx ho => by have := hO x ho; omega)⟩, by omega⟩
          · simp -implicitDefEqProofs (disch := omega) [go_sem, r1, r5, r6, r7]
            exact ⟨⟨i + 1, by omega, by omega, ⟨_, H4⟩, fr4⟩, by omega⟩
        · have H4 := H3
          have fr4 := fr3
          by_cases h7 : (i : Int) % 7 = 6
          · simp -implicitDefEqProofs (disch := omega) [go_sem, r1, r5, r6, r7]
            refine useC (decay_ok H4) ?_
            rintro _ h5 ⟨rfl, H5, fr5⟩
            simp -implicitDefEqProofs (disch := omega) [go_sem, r1, r5, r6, r7]
            exact ⟨⟨i + 1, by omega, by omega, ⟨_, H5⟩, fr4.trans' fr5 (fun x hx ho => by have := hO x ho; omega)⟩, by omega⟩
          · simp -implicitDefEqProofs (disch := omega) [go_sem, r1, r5, r6, r7]
            exact ⟨⟨i + 1, by omega, by omega, ⟨_, H4⟩, fr4⟩, by omega⟩
end
end Xe
