/- The walks through package heap, fourth part. -/
import Derived.Test.YtkghjecglmmloaaHp3
namespace Xe
open Go Hp Go.Proofs
set_option maxRecDepth 16000
section
variable {h : Heap} {b kb lb pb vars n kc lc pc : Nat} {A : Option Addr} {act : Nat → Int} {l : Nat → Nat} {pl : Nat → Int}

/-- as active as a bump makes it -/
def bumped (act : Nat → Int) (v : Nat) (by_ : Int) : Nat → Int := upd act v (min (act v + by_) 1099511627776)

theorem bump_h (H : HeapAt h b kb lb pb vars n kc lc pc A act l pl) (W : Wf vars n l pl) (hact : Acts vars act) (O : Ord act n l) (x y : Int) :
   CallsH Try.prog 21 [.pointer (some ⟨b, 0, none⟩), .int .i64 x, .int .i64 y] h fun r h' => 
     (∃ v : Nat, x = v ∧ r = .bool true ∧ 1 ≤ v ∧ v ≤ vars ∧ 1 ≤ y ∧ y ≤ 1048576 ∧ ∃ l' pl', HeapAt h' b kb lb pb vars n kc lc pc A (bumped act v y) l' pl' ∧ Wf vars n l' pl' ∧ Ord (bumped act v y) n l' ∧ Acts vars (bumped act v y) ∧ (∀ u, In n l' u ↔ In n l u) ∧
        Fr (HB b kb lb pb) h h') ∨
     (¬ (1 ≤ x ∧ x ≤ vars ∧ 1 ≤ y ∧ y ≤ 1048576) ∧ r = .bool false ∧ h' = h) := by
  have hc0 := H.s0
  have hc2 := H.s2
  refine calls_of 63 [.tmp 6] Go.Proofs.Try.func21 rfl rfl rfl (by kernel_rfl) (Nat.le_of_ble_eq_true rfl) ?_
  simp -implicitDefEqProofs (disch := omega) [go_sem]
  refine useC (there_h H x) ?_
  rintro _ h ⟨rfl, rfl⟩
  by_cases hv : 1 ≤ x ∧ x ≤ vars
  · obtain ⟨v, rfl⟩ : ∃ v : Nat, x = v := ⟨x.toNat, by omega⟩
    have c := H.cp v (by omega)
    have hv1 : (1 : Int) ≤ v := by omega
    have hv2 : v ≤ vars := by omega
    by_cases hy1 : y < 1
    · simp -implicitDefEqProofs (disch := omega) [go_sem, hv1, hv2, hy1]
      omega
    · by_cases hy2 : 1048576 < y
      · simp -implicitDefEqProofs (disch := omega) [go_sem, hv1, hv2, hy1, hy2]
      · have f := hact v hv2
        have k := H.ck v hv2
        have hvv := H.hv
        have H3 := H.setK hv2 (min (act v + y) 1099511627776)
        have A3 : Acts vars (bumped act v y) := fun u hu => by
          unfold bumped upd
          split
          · omega
          · exact hact u hu
        have hfr3 : Fr (HB b kb lb pb) h (hset h ⟨kb, v, none⟩ (.complex .f64 (Fx.enc (min (act v + y) 1099511627776)) (Fx.enc (-(v : Int))))) := (Fr.refl _ _).set (.inr (.inl rfl))
        by_cases hp : 0 ≤ pl v
        · obtain ⟨i, hi, hpi, hli⟩ : ∃ i, i < n ∧ pl v = i ∧ l i = v := by
            rcases W.fore v (by omega) hv2 with h | h
            · omega
            · exact h
          have U : Up (bumped act v y) n l i := by
            have := O.bump hi (fun a ha b hb e => W.inj ha hb e) (x := min (act v + y) 1099511627776) (by rw [hli]; omega)
            rw [hli] at this; exact this
          simp -implicitDefEqProofs (disch := omega) [go_sem, hv1, hv2, hy1, hy2]
          refine drawK [(0, 0), (1, 0), (2, 0), (3, 1), (4, 0), (5, 0), (6, 0), (7, 0), (8, 1), (9, 0), (10, 0), (11, 1), (12, 0), (13, 0), (14, 0), (15, 0), (16, 0), (17, 0), (18, 0), (19, 0), (20, 1), (21, 0), (22, 0), (23, 1), (24, 0), (25, 0), (26, 0), (27, 3)] mixed (by kernel_rfl) ?_
          simp -implicitDefEqProofs (disch := omega) [go_sem, hv1, hv2, hc0, hc2, c, k, H.fk, H.bk, Ne.symm H.kp, hp]
          refine useC (rise_h H3 W A3 i hpi hi U) ?_
          rintro _ h5 ⟨rfl, l5, pl5, H5, W5, O5, hin5, hfr5⟩
          simp -implicitDefEqProofs (disch := omega) [go_sem]
          exact ⟨v, rfl, by omega, hv2, by omega, by omega, l5, pl5, H5, W5, O5, A3, hin5, hfr3.trans (hfr5.mono fun x _ hx => by unfold HB; omega)⟩
        · simp -implicitDefEqProofs (disch := omega) [go_sem, hv1, hv2, hy1, hy2]
          refine drawK [(0, 0), (1, 0), (2, 0), (3, 1), (4, 0), (5, 0), (6, 0), (7, 0), (8, 1), (9, 0), (10, 0), (11, 1), (12, 0), (13, 0), (14, 0), (15, 0), (16, 0), (17, 0), (18, 0), (19, 0), (20, 1), (21, 0), (22, 0), (23, 1), (24, 0), (25, 0), (26, 0), (27, 3)] mixed (by kernel_rfl) ?_
          simp -implicitDefEqProofs (disch := omega) [go_sem, hv1, hv2, hc0, hc2, c, k, H.fk, H.bk, Ne.symm H.kp, hp]
          refine ⟨v, rfl, by omega, hv2, by omega, by omega, l, pl, H3, W, O.same fun i hi => ?_, A3, fun _ => Iff.rfl, hfr3⟩
          exact upd_other _ _ (fun e => hp (by rw [← e, W.back i hi]; omega))
  · simp -implicitDefEqProofs (disch := omega) [go_sem, hv]
    intro h1 h2 h3
    omega

/-- the first so many halved -/
def halved (act : Nat → Int) (j : Nat) : Nat → Int := fun v => if v < j then act v / 2 else act v
theorem halved_0 (act : Nat → Int) : halved act 0 = act := by funext v; unfold halved; rw [if_neg (by omega)]
theorem halved_at (act : Nat → Int) (j : Nat) : halved act j j = act j := by unfold halved; rw [if_neg (by omega)]
theorem halved_succ (act : Nat → Int) (j : Nat) : halved act (j + 1) = upd (halved act j) j (act j / 2) := by
  funext v
  unfold halved upd
  by_cases h : v = j
  · subst h; rw [if_pos (by omega), if_pos rfl]
  · rw [if_neg h]
    by_cases h2 : v < j
    · simp only [h2, if_true, if_pos (by omega : v < j + 1)]
    · simp only [h2, if_false, if_neg (by omega : ¬ v < j + 1)]
theorem halved_acts (hact : Acts vars act) (j : Nat) : Acts vars (halved act j) := fun v hv => by
  have := hact v hv
  unfold halved
  split <;> omega

theorem decay_h (H : HeapAt h b kb lb pb vars n kc lc pc A act l pl) (W : Wf vars n l pl) (hact : Acts vars act) :
   CallsH Try.prog 22 [.pointer (some ⟨b, 0, none⟩)] h fun r h' => r = .tuple #[] ∧
     ∃ l' pl', HeapAt h' b kb lb pb vars n kc lc pc A (halved act (vars + 1)) l' pl' ∧ Wf vars n l' pl' ∧ Ord (halved act (vars + 1)) n l' ∧ (∀ u, In n l' u ↔ In n l u) ∧ Fr (HB b kb lb pb) h h' := by
  have hc0 := H.s0
  refine calls_of 45 [] Go.Proofs.Try.func22 rfl rfl rfl (by kernel_rfl) (Nat.le_of_ble_eq_true rfl) ?_
  simp -implicitDefEqProofs (disch := omega) [go_sem, hc0]
  refine loopK (fun ρ h' => ρ 0 = .pointer (some ⟨b, 0, none⟩) ∧ ρ 8 = .int .i64 ((vars : Int) + 1) ∧ ∃ j : Nat, ρ 9 = .int .i64 j ∧ j ≤ vars + 1 ∧ HeapAt h' b kb lb pb vars n kc lc pc A (halved act j) l pl ∧ Fr (HB b kb lb pb) h h')
    (fun ρ _ => vars + 1 - (intOf (ρ 9)).toNat) (by kernel_rfl) ?_ ?_
  · exact ⟨rfl, rfl, 0, rfl, by omega, by rw [halved_0]; exact H, Fr.refl _ _⟩
  · rintro ρ h1 ⟨r0, r8, j, r9, hj, H1, hfr1⟩
    have hvv := H1.hv
    by_cases hjn : j = vars + 1
    · subst hjn
      have hc1 := H1.s1
      have hnn := H1.hn
      simp -implicitDefEqProofs (disch := omega) [go_sem, r0, r8, r9, hc1]
      refine loopK (fun ρ h' => ρ 0 = .pointer (some ⟨b, 0, none⟩) ∧ ∃ (i : Nat) (l' : Nat → Nat) (pl' : Nat → Int), ρ 3 = .int .i64 ((i : Int) - 1) ∧ i ≤ n ∧ HeapAt h' b kb lb pb vars n kc lc pc A (halved act (vars + 1)) l' pl' ∧ Wf vars n l' pl' ∧
        OrdFrom (halved act (vars + 1)) n l' i ∧ (∀ u, In n l' u ↔ In n l u) ∧ Fr (HB b kb lb pb) h h')
        (fun ρ _ => (intOf (ρ 3) + 1).toNat) (by kernel_rfl) ?_ ?_
      · exact ⟨r0, n, l, pl, rfl, Nat.le_refl _, H1, W, OrdFrom.start _ _ _ _ (by omega), fun _ => Iff.rfl, hfr1⟩
      · rintro ρ h2 ⟨q0, i, l2, pl2, q3, hi, H2, W2, O2, hin2, hfr2⟩
        have hnn := H2.hn
        by_cases hi0 : i = 0
        · subst hi0
          simp -implicitDefEqProofs (disch := omega) [go_sem, q0, q3]
          exact ⟨l2, pl2, H2, W2, OrdFrom.zero.1 O2, hin2, hfr2⟩
        · obtain ⟨s, rfl⟩ : ∃ s, i = s + 1 := ⟨i - 1, by omega⟩
          have es : ((s + 1 : Nat) : Int) - 1 = s := by omega
          rw [es] at q3
          simp -implicitDefEqProofs (disch := omega) [go_sem, q0, q3]
          refine useC (sink_h H2 W2 (halved_acts hact _) s s rfl (Nat.le_refl _) (by omega) (Down.start O2)) ?_
          rintro _ h3 ⟨rfl, l3, pl3, H3, W3, O3, hin3, hfr3⟩
          simp -implicitDefEqProofs (disch := omega) [go_sem, q0, q3]
          exact ⟨s, rfl, by omega, l3, pl3, H3, W3, O3, fun u => (hin3 u).trans (hin2 u), hfr2.trans (hfr3.mono fun x _ hx => by unfold HB; omega)⟩
    · have hjl : (j : Int) < vars + 1 := by omega
      have k := H1.ck j (by omega)
      have hc1 := H1.s0
      rw [halved_at] at k
      have f := hact j (by omega)
      have H2 := H1.setK (v := j) (by omega) (act j / 2)
      rw [← halved_succ] at H2
      simp -implicitDefEqProofs (disch := omega) [go_sem, r0, r8, r9, hjl]
      refine drawC [(0, 0), (1, 0), (2, 0), (3, 2), (4, 0), (5, 0), (6, 0), (9, 0), (10, 0), (11, 0), (12, 2), (13, 0), (14, 0), (15, 2), (16, 0), (7, 3), (8, 0), (17, 0), (18, 0), (19, 4)] (Eq h1) mixed (by kernel_rfl) rfl ?_
      simp -implicitDefEqProofs (disch := omega) [go_sem, r0, r8, r9, hjl, hc1, k]
      refine useC (half_h H1 (halved_acts hact _) j rfl (by omega)) ?_
      rintro _ h1 ⟨rfl, rfl⟩
      rw [halved_at]
      simp -implicitDefEqProofs (disch := omega) [go_sem, r0, r8, r9, hc1, k, H1.fk]
      exact ⟨⟨j + 1, by omega, by omega, H2, hfr1.set (.inr (.inl rfl))⟩, by omega⟩
end
end Xe
