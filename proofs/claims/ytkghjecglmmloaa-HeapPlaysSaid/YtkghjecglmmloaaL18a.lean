/- The laws of layer 18, first part: awake, HeapPicks. -/
import Derived.Test.YtkghjecglmmloaaHp6
namespace Xe
open Go Hp Go.Proofs
set_option maxRecDepth 16000
section
variable {h : Heap} {b vars n : Nat} {O : Nat → Prop} {act : Nat → Int} {S : Nat → Prop}

theorem HeapOk.front_pos (H : HeapOk h b O vars n act S) (hn : 0 < n) : 0 < (front act S vars).length := by
  obtain ⟨kb, lb, pb, kc, lc, pc, A, l, pl, H1, W, Od, hin, hO⟩ := H.ex
  rw [← tieN_front (kb := 0) (lb := 0) (pb := 0) (kc := 0) (lc := 0) (pc := 0) (A := none) W Od hin]
  exact tieN_pos hn

/-- picked without a number: a foremost one -/
theorem pop0_ok (H : HeapOk h b O vars n act S) : CallsH Try.prog 16 [.pointer (some ⟨b, 0, none⟩), .int .i64 0] h fun r h' =>
    (n = 0 ∧ r = .tuple #[.int .i64 0, .bool false] ∧ h' = h) ∨
    (∃ v : Nat, r = .tuple #[.int .i64 v, .bool true] ∧ 0 < n ∧ Fst act S v ∧ ∃ O', HeapOk h' b O' vars (n - 1) act (fun u => S u ∧ u ≠ v) ∧ Nx O O' h h') := by
  refine (pop_ok H 0).mono ?_
  rintro r h' (h1 | ⟨v, h1, h2, h3, h4⟩)
  · exact .inl h1
  · refine .inr ⟨v, h1, h2, ?_, h4⟩
    have hp := H.front_pos h2
    have e : (max (0 : Int) 0).toNat % (front act S vars).length = 0 := by simp
    rw [e] at h3
    have h5 := front_fst (act := act) (fun v hv => H.range hv) hp
    rw [List.getElem?_eq_getElem hp] at h3
    cases h3
    exact ⟨h5.1.1, fun w hw => h5.2 w ⟨hw, by simp⟩⟩

/-- where all are as active, all are foremost -/
theorem HeapOk.front_all (H : HeapOk h b O vars n act S) (hc : ∀ v w, S v → S w → act v = act w) : (front act S vars).length = n := by
  obtain ⟨kb, lb, pb, kc, lc, pc, A, l, pl, H1, W, Od, hin, hO⟩ := H.ex
  rw [← tieN_front (kb := 0) (lb := 0) (pb := 0) (kc := 0) (lc := 0) (pc := 0) (A := none) W Od hin]
  unfold tieN
  rw [List.filter_eq_self.2 (fun i hi => ?_), List.length_range]
  have hi := List.mem_range.1 hi
  rw [decide_eq_true_eq]
  exact hc _ _ ((hin _).1 ⟨i, hi, rfl⟩) ((hin _).1 ⟨0, by omega, rfl⟩)

theorem awake18 : CallsH Try.prog 14 [] h fun r h' => r = .bool true ∧ Fr (fun _ => False) h h' := by
  refine calls_of 41 [.tmp 0] Go.Proofs.Try.func14 rfl rfl rfl (by kernel_rfl) (Nat.le_of_ble_eq_true rfl) ?_
  simp -implicitDefEqProofs (disch := omega) [go_sem]
  refine useC (new_ok 3) ?_
  rintro _ h1 (⟨hb, _, _⟩ | ⟨vars, hv, _, rfl, O, H, nx⟩)
  · omega
  obtain rfl : vars = 3 := by omega
  simp -implicitDefEqProofs (disch := omega) [go_sem]
  refine useC (bump_ok H 3 1) ?_
  rintro _ h2 hh
  obtain ⟨v, hv, rfl, _, _, _, _, H2, fr2⟩ := hh.resolve_right (fun ⟨hb, _, _⟩ => by omega)
  obtain rfl : v = 3 := by omega
  simp -implicitDefEqProofs (disch := omega) [go_sem]
  refine useC (pop0_ok H2) ?_
  rintro _ h3 (⟨hb, _, _⟩ | ⟨v, rfl, _, hF, O3, H3, nx3⟩)
  · omega
  have hv3 : v = 3 := by
    refine Fst.uniq hF ⟨⟨by omega, by omega⟩, fun w hw hb => ?_⟩
    unfold bef bumped upd at hb
    dsimp only at hb
    split at hb <;> omega
  subst hv3
  simp -implicitDefEqProofs (disch := omega) [go_sem]
  refine useC (pop0_ok H3) ?_
  rintro _ h4 (⟨hb, _, _⟩ | ⟨v, rfl, _, hF, O4, H4, nx4⟩)
  · omega
  have hv1 : v = 1 := by
    refine Fst.uniq hF ⟨⟨⟨by omega, by omega⟩, by omega⟩, fun w hw hb => ?_⟩
    unfold bef bumped upd at hb
    rw [if_neg (by omega), if_neg (by omega)] at hb
    dsimp only at hb
    omega
  subst hv1
  simp -implicitDefEqProofs (disch := omega) [go_sem]
  refine useC (len_ok H4) ?_
  rintro _ h4 ⟨rfl, rfl⟩
  simp -implicitDefEqProofs (disch := omega) [go_sem]
  exact (nx.trans (Nx.trans (O' := O) ⟨fr2, fun x hx => .inl hx⟩ (nx3.trans nx4))).fr

theorem picks_walk (a0 a1 : Int) (w0 : 0 ≤ a0 ∧ a0 ≤ 255) (w1 : 0 ≤ a1 ∧ a1 ≤ 65535) : CallsH Try.prog 3 [.int .u8 a0, .int .u16 a1] h fun r h' => r = .bool true ∧ Fr (fun _ => False) h h' := by
  refine calls_of 54 [.tmp 4] Go.Proofs.Try.func3 rfl rfl rfl (by kernel_rfl) (Nat.le_of_ble_eq_true rfl) ?_
  simp -implicitDefEqProofs (disch := omega) [go_sem]
  refine useC awake18 ?_
  rintro _ h1 ⟨rfl, fr1⟩
  simp -implicitDefEqProofs (disch := omega) [go_sem]
  refine useC (new_ok _) ?_
  rintro _ h2 (⟨hb, _, _⟩ | ⟨k, hk, _, rfl, O, H, nx⟩)
  · omega
  have hk0 : 0 < k := by omega
  simp -implicitDefEqProofs (disch := omega) [go_sem, hk]
  refine useC (pop_ok H _) ?_
  rintro _ h3 (⟨hb, _, _⟩ | ⟨v, rfl, _, hF, O3, H3, nx3⟩)
  · omega
  have hfl := H.front_all (fun _ _ _ _ => rfl)
  have hfr : front (fun _ => 0) (fun v => 1 ≤ v ∧ v ≤ k) k = List.range' 1 k := by
    unfold front
    refine List.filter_eq_self.2 fun v hv => ?_
    have := List.mem_range'_1.1 hv
    simp; omega
  rw [hfl, hfr] at hF
  obtain ⟨p, hp⟩ : ∃ p : Nat, a1 = p := ⟨a1.toNat, by omega⟩
  have e1 : (max a1 0).toNat = p := by omega
  rw [e1] at hF
  have hv := List.getElem?_eq_some_iff.1 hF
  obtain ⟨hv1, hv2⟩ := hv
  rw [List.getElem_range'] at hv2
  have hvI : (v : Int) = 1 + a1 % k := by rw [hp]; omega
  have hv1 : 1 ≤ v := by omega
  have hvk : v ≤ k := by have := Nat.mod_lt p hk0; omega
  simp -implicitDefEqProofs (disch := omega) [go_sem, hk, hvI]
  refine useC (ties_ok H3) ?_
  rintro _ h3 ⟨rfl, rfl⟩
  rw [H3.front_all (fun _ _ _ _ => rfl)]
  have e2 : ((k - 1 : Nat) : Int) = k - 1 := by omega
  simp -implicitDefEqProofs (disch := omega) [go_sem, hk, e2]
  refine useC (put_ok H3 _) ?_
  rintro _ h4 hh
  obtain ⟨v', hv', rfl, _, _, _, O4, H4, nx4⟩ := hh.resolve_right (fun ⟨hb, _, _⟩ => by
    rcases hb with hb | hb
    · omega
    · rw [← hvI] at hb; exact hb.2 (by omega))
  simp -implicitDefEqProofs (disch := omega) [go_sem, hk]
  refine useC (ties_ok H4) ?_
  rintro _ h4 ⟨rfl, rfl⟩
  rw [H4.front_all (fun _ _ _ _ => rfl)]
  have e3 : ((k - 1 + 1 : Nat) : Int) = k := by omega
  simp -implicitDefEqProofs (disch := omega) [go_sem, hk, e3]
  exact fr1.trans (nx.trans (nx3.trans nx4)).fr
end
end Xe
