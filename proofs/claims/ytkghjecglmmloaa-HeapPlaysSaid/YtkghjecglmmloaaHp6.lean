/- The walks through package heap, sixth part: Pop, New. -/
import Derived.Test.YtkghjecglmmloaaHp5
namespace Xe
open Go Hp Go.Proofs
set_option maxRecDepth 16000

/-- numbers as a row of values -/
def nums (l : List Nat) : List Value := l.map fun (v : Nat) => .int .i64 (v : Int)
theorem nums_len (l : List Nat) : (nums l).length = l.length := List.length_map ..
theorem nums_at {l : List Nat} {i : Nat} (hi : i < l.length) : (nums l)[i]? = some (.int .i64 (l[i] : Int)) := by simp [nums, hi]
theorem nums_put (l : List Nat) (v : Nat) : nums l ++ [.int .i64 (v : Int)] = nums (l ++ [v]) := by simp [nums]

section
variable {h : Heap} {b vars n : Nat} {O : Nat → Prop} {act : Nat → Int} {S : Nat → Prop}

theorem tieN_pos {l : Nat → Nat} (hn : 0 < n) : 0 < tieN act l n := by
  unfold tieN
  exact List.length_pos_of_mem (a := 0) (List.mem_filter.2 ⟨List.mem_range.2 hn, by simp⟩)

theorem pop_ok (H : HeapOk h b O vars n act S) (x : Int) : CallsH Try.prog 16 [.pointer (some ⟨b, 0, none⟩), .int .i64 x] h fun r h' =>
    (n = 0 ∧ r = .tuple #[.int .i64 0, .bool false] ∧ h' = h) ∨
    (∃ v : Nat, r = .tuple #[.int .i64 v, .bool true] ∧ 0 < n ∧ (front act S vars)[(max x 0).toNat % (front act S vars).length]? = some v ∧
      ∃ O', HeapOk h' b O' vars (n - 1) act (fun u => S u ∧ u ≠ v) ∧ Nx O O' h h') := by
  obtain ⟨kb, lb, pb, kc, lc, pc, A, l, pl, H1, W, Od, hin, hO⟩ := H.ex
  have hc1 := H1.s1
  refine calls_of 43 [.tmp 4, .tmp 5] Go.Proofs.Try.func16 rfl rfl rfl (by kernel_rfl) (Nat.le_of_ble_eq_true rfl) ?_
  by_cases hn0 : n = 0
  · subst hn0
    simp -implicitDefEqProofs (disch := omega) [go_sem, hc1]
  · simp -implicitDefEqProofs (disch := omega) [go_sem, hc1, hn0]
    refine useC (ties_ok H) ?_
    rintro _ h ⟨rfl, rfl⟩
    have hF0 : 0 < (front act S vars).length := by
      rw [← tieN_front (kb := 0) (lb := 0) (pb := 0) (kc := 0) (lc := 0) (pc := 0) (A := none) W Od hin]
      exact tieN_pos (by omega)
    have hFn : (front act S vars).length ≤ n := by
      rw [← tieN_front (kb := 0) (lb := 0) (pb := 0) (kc := 0) (lc := 0) (pc := 0) (A := none) W Od hin]
      exact tieN_le _ _ _
    have hS : ∀ v, S v → 1 ≤ v ∧ v ≤ vars := fun v hv => H.range hv
    obtain ⟨F, hF⟩ : ∃ F, F = front act S vars := ⟨_, rfl⟩
    rw [← hF] at hF0 hFn ⊢
    obtain ⟨p, hp⟩ : ∃ p : Nat, p = (max x 0).toNat % F.length := ⟨_, rfl⟩
    have hpl : p < F.length := by rw [hp]; exact Nat.mod_lt _ hF0
    rw [← hp]
    have hvv := H.vars_le
    have hnn := H.n_le
    simp -implicitDefEqProofs (disch := omega) [go_sem]
    have hrem : (max x 0) % (F.length : Int) = (p : Int) := by
      rw [hp]
      obtain ⟨u, hu⟩ : ∃ u : Nat, max x 0 = (u : Int) := ⟨(max x 0).toNat, by omega⟩
      rw [hu, Int.toNat_natCast]; omega
    refine loopK (fun ρ h' => ρ 0 = .pointer (some ⟨b, 0, none⟩) ∧ ∃ (t : Nat) (Aa : Option Addr) (ca : Nat), t ≤ p ∧ ρ 6 = .slice Aa t ca ∧ ρ 7 = .int .i64 ((p : Int) - t) ∧ SlAt h' Aa ca (nums (F.take t)) ∧ (∀ x, blk Aa x → h.size ≤ x) ∧
      HeapOk h' b O vars (n - t) act (fun v => S v ∧ v ∉ F.take t) ∧ Fr O h h') (fun ρ _ => (intOf (ρ 7)).toNat) (by kernel_rfl) ?_ ?_
    · exact ⟨rfl, 0, none, 0, by omega, rfl, congrArg (Value.int .i64) (by rw [hrem]; omega), SlAt.nil _, fun x ⟨a, h, _⟩ => (nomatch h), H.cong fun v => by simp, Fr.refl _ _⟩
    · rintro ρ h1 ⟨r0, t, Aa, ca, htp, r6, r7, SA, hbA, HO, hfr⟩
      have hfst := front_fst (act := act) hS (t := t) (by rw [← hF]; omega)
      simp only [← hF] at hfst
      have htl : (F.take t).length = t := by rw [List.length_take]; omega
      obtain ⟨m, hm⟩ : ∃ m, n - t = m + 1 := ⟨n - t - 1, by omega⟩
      rw [hm] at HO
      by_cases hlt : t < p
      · have hlt' : (0 : Int) < p - t := by omega
        simp -implicitDefEqProofs (disch := omega) [go_sem, r0, r6, r7, hlt, hlt']
        refine useC (take_ok HO) ?_
        rintro _ h2 ⟨v, rfl, hv, HO2, hfr2⟩
        have hve := Fst.uniq hv hfst
        simp -implicitDefEqProofs (disch := omega) [go_sem, r0, r6, r7]
        have SA2 := SA.fr hfr2 (fun x hx ho => by have := hbA x hx; have := H.low x ho; omega)
        have SA3 := SA2.keep (h' := Array.push _ (.cells #[.int .i64 (v : Int)] 3 (0, 0))) (fun x hx => push_old (SA2.blk_lt hx)) (by rw [push_size]; omega)
        refine build1 rfl rfl ?_
        simp -implicitDefEqProofs (disch := omega) [go_sem]
        refine append1 (v := .int .i64 (v : Int)) SA3 (by rw [nums_len]; exact htl.symm) (by rw [hcell_push_new]; rfl) rfl (by omega) (by omega) ?_
        intro A' c' h3 S3 hfr3 hA3
        rw [nums_put] at S3
        have hz := hfr.size
        have hz2 := hfr2.size
        have htk : F.take t ++ [v] = F.take (t + 1) := by rw [hve]; exact (List.take_succ_eq_append_getElem (by omega)).symm
        rw [htk] at S3
        have HO3 := HO2.fr ((Fr.refl (blk Aa) h2).push.trans hfr3) (fun x hx hb => by have := hbA x hb; have := H.low x hx; omega)
        simp -implicitDefEqProofs (disch := omega) [go_sem, r0, r6, r7]
        refine ⟨⟨t + 1, by omega, A', c', ⟨rfl, rfl, rfl⟩, by omega, S3, fun x hx => (hA3 x hx).elim (hbA x) (fun h => by rw [push_size] at h; omega), ?_, ?_⟩, by omega⟩
        · have e : n - (t + 1) = m := by omega
          rw [e]
          refine HO3.cong fun u => ?_
          rw [← htk, List.mem_append, List.mem_singleton]
          constructor
          · exact fun ⟨⟨h1, h2⟩, h3⟩ => ⟨h1, fun h => h.elim h2 h3⟩
          · exact fun ⟨h1, h2⟩ => ⟨⟨h1, fun h => h2 (.inl h)⟩, fun h => h2 (.inr h)⟩
        · exact (hfr.trans hfr2).trans' ((Fr.refl (blk Aa) h2).push.trans hfr3) (fun x hx hb => by have := hbA x hb; omega)
      · have hte : t = p := by omega
        subst hte
        simp -implicitDefEqProofs (disch := omega) [go_sem, r0, r6, r7, hlt]
        refine useC (take_ok HO) ?_
        rintro _ h2 ⟨v, rfl, hv, HO2, hfr2⟩
        have hve := Fst.uniq hv hfst
        simp -implicitDefEqProofs (disch := omega) [go_sem, r0, r6, r7]
        have hz := hfr.size
        have hz2 := hfr2.size
        have SA2 := SA.fr hfr2 (fun x hx ho => by have := hbA x hx; have := H.low x ho; omega)
        refine loopK (fun ρ h' => ρ 0 = .pointer (some ⟨b, 0, none⟩) ∧ ρ 4 = .int .i64 v ∧ ρ 32 = .slice Aa t ca ∧ ρ 33 = .int .i64 t ∧ ∃ (i : Nat) (O' : Nat → Prop), ρ 34 = .int .i64 i ∧ i ≤ t ∧
          HeapOk h' b O' vars (m + i) act (fun u => S u ∧ u ≠ v ∧ u ∉ (F.take t).drop i) ∧ Nx O O' h2 h') (fun ρ _ => t - (intOf (ρ 34)).toNat) (by kernel_rfl) ?_ ?_
        · refine ⟨r0, rfl, rfl, rfl, 0, O, rfl, by omega, HO2.cong fun u => ?_, ⟨Fr.refl _ _, fun x hx => .inl hx⟩⟩
          simp only [List.drop_zero]
          exact ⟨fun h => ⟨h.1.1, h.2, h.1.2⟩, fun h => ⟨⟨h.1, h.2.2⟩, h.2.1⟩⟩
        · rintro ρ h3 ⟨q0, q4, q32, q33, i, O', q34, hit, HO3, nx⟩
          by_cases hi : i = t
          · subst hi
            simp -implicitDefEqProofs (disch := omega) [go_sem, q0, q4, q32, q33, q34]
            refine ⟨v, rfl, by omega, ?_, O', ?_, ?_⟩
            · rw [hve]
            · have e : n - 1 = m + i := by omega
              rw [e]
              refine HO3.cong fun u => ?_
              rw [List.drop_of_length_le (by omega)]
              exact ⟨fun h => ⟨h.1, h.2.1⟩, fun h => ⟨h.1, h.2, List.not_mem_nil⟩⟩
            · exact Nx.trans (O' := O) ⟨hfr.trans hfr2, fun x hx => .inl hx⟩ nx
          · have hil : (i : Int) < t := by omega
            have hiF : i < F.length := by omega
            have SA3 := SA2.fr nx.fr (fun x hx ho => by have := hbA x hx; have := H.low x ho; omega)
            obtain ⟨bk, rfl, _, _, hcl⟩ := SA3.base (by rw [nums_len, htl]; omega)
            have ci := hcl i _ (nums_at (by omega))
            rw [List.getElem_take] at ci
            obtain ⟨y, hy⟩ : ∃ y, y = F[i] := ⟨_, rfl⟩
            rw [← hy] at ci
            simp -implicitDefEqProofs (disch := omega) [go_sem, q0, q4, q32, q33, q34, hil, ci]
            have hyS := (mem_front hS).1 (show y ∈ front act S vars by rw [hy, ← hF]; exact List.getElem_mem hiF)
            have hdr : (F.take t).drop i = y :: (F.take t).drop (i + 1) := by
              rw [List.drop_eq_getElem_cons (by omega), List.getElem_take, ← hy]
            refine useC (put_ok HO3 y) ?_
            rintro _ h4 (⟨v', hv', rfl, _, _, _, O'', HO4, nx4⟩ | ⟨hbad, _, _⟩)
            · have hv'' : v' = y := by omega
              subst hv''
              simp -implicitDefEqProofs (disch := omega) [go_sem, q0, q4, q32, q33, q34]
              refine ⟨⟨i + 1, by omega, by omega, O'', ?_, nx.trans nx4⟩, by omega⟩
              refine HO4.cong fun u => ?_
              rw [hdr, List.mem_cons]
              have hyd : v' ∉ (F.take t).drop (i + 1) := by
                have hnd := (front_nodup (act := act) (S := S) (vars := vars))
                rw [← hF] at hnd
                have := ((hnd.sublist (List.take_sublist t F)).sublist (List.drop_sublist i _))
                rw [hdr, List.nodup_cons] at this
                exact this.1
              have hyv : v' ≠ v := by
                rw [hy, hve]
                intro e
                have hlt := front_lt (act := act) (S := S) (vars := vars)
                rw [← hF] at hlt
                have := List.pairwise_iff_getElem.1 hlt i t hiF (by omega) (by omega)
                omega
              constructor
              · rintro (⟨h1, h2, h3⟩ | rfl)
                · exact ⟨h1, h2, fun h => h3 (.inr h)⟩
                · exact ⟨hyS.1, hyv, hyd⟩
              · rintro ⟨h1, h2, h3⟩
                by_cases e : u = v'
                · exact .inr e
                · exact .inl ⟨h1, h2, fun h => h.elim e h3⟩
            · exfalso
              have := hS y hyS.1
              rcases hbad with h | h
              · omega
              · rw [Int.toNat_natCast, hdr] at h
                exact h.2.2 (List.mem_cons_self ..)


theorem new_ok (x : Int) : CallsH Try.prog 15 [.int .i64 x] h fun r h' =>
    (¬ (0 ≤ x ∧ x ≤ 16777216) ∧ r = .pointer none ∧ h' = h) ∨
    (∃ vars : Nat, x = vars ∧ vars ≤ 16777216 ∧ r = .pointer (some ⟨h.size, 0, none⟩) ∧ ∃ O, HeapOk h' h.size O vars vars (fun _ => 0) (fun v => 1 ≤ v ∧ v ≤ vars) ∧ Nx (fun _ => False) O h h') := by
  refine calls_of 51 [.tmp 2] Go.Proofs.Try.func15 rfl rfl rfl (by kernel_rfl) (Nat.le_of_ble_eq_true rfl) ?_
  by_cases hx0 : x < 0
  · simp -implicitDefEqProofs (disch := omega) [go_sem, hx0]
    omega
  by_cases hx1 : 16777216 < x
  · simp -implicitDefEqProofs (disch := omega) [go_sem, hx0, hx1]
  obtain ⟨vars, rfl⟩ : ∃ v : Nat, x = v := ⟨x.toNat, by omega⟩
  simp -implicitDefEqProofs (disch := omega) [go_sem, hx0, hx1]
  refine loopK (fun ρ h' => ρ 0 = .int .i64 vars ∧ ρ 3 = .pointer (some ⟨h.size, 0, none⟩) ∧ ρ 15 = .int .i64 ((vars : Int) + 1) ∧ ∃ (j : Nat) (A0 A2 : Option Addr) (c0 c2 : Nat), ρ 16 = .int .i64 j ∧ j ≤ vars + 1 ∧
    hcell h' ⟨h.size, 0, none⟩ = some (.slice A0 j c0) ∧ hcell h' ⟨h.size, 1, none⟩ = some (.slice none 0 0) ∧ hcell h' ⟨h.size, 2, none⟩ = some (.slice A2 j c2) ∧ (∀ o, hfrz h' ⟨h.size, o, none⟩ = false) ∧
    SlAt h' A0 c0 ((List.range j).map fun (v : Nat) => .complex .f64 (Fx.enc 0) (Fx.enc (-(v : Int)))) ∧ SlAt h' A2 c2 ((List.range j).map fun (v : Nat) => .int .i64 (-1)) ∧
    (∀ x, blk A0 x → h.size < x) ∧ (∀ x, blk A2 x → h.size < x) ∧ (∀ x, blk A0 x → ¬ blk A2 x) ∧ Fr (fun _ => False) h h') (fun ρ _ => vars + 1 - (intOf (ρ 16)).toNat) (by kernel_rfl) ?_ ?_
  · refine ⟨rfl, rfl, rfl, 0, none, none, 0, 0, rfl, by omega, by simp [hcell], by simp [hcell], by simp [hcell], fun o => hfrz_push_new, SlAt.nil _, SlAt.nil _, fun x ⟨a, h, _⟩ => (nomatch h), fun x ⟨a, h, _⟩ => (nomatch h), fun x ⟨a, h, _⟩ => (nomatch h), (Fr.refl _ _).push⟩
  · rintro ρ h1 ⟨r0, r3, r15, j, A0, A2, c0, c2, r16, hj, k0, k1, k2, kf, S0, S2, b0, b2, b02, hfr⟩
    by_cases hjn : j = vars + 1
    · subst hjn
      simp -implicitDefEqProofs (disch := omega) [go_sem, r0, r3, r15, r16]
      have zz := hcell_lt k0
      obtain ⟨kb, rfl, tk, fk, ck⟩ := S0.base (by simp)
      obtain ⟨pb, rfl, tp, fp, cp⟩ := S2.base (by simp)
      have ek := b0 kb ⟨_, rfl, rfl⟩
      have ep := b2 pb ⟨_, rfl, rfl⟩
      have ekp : kb ≠ pb := fun e => b02 kb ⟨_, rfl, rfl⟩ ⟨_, rfl, e.symm⟩
      have H1 : HeapAt h1 h.size kb h1.size pb vars 0 c0 0 c2 none (fun _ => 0) (fun _ => 0) (fun _ => -1) := {
        s0 := k0
        s1 := k1
        s2 := k2
        ck := fun v hv => ck v _ (by rw [List.getElem?_map, List.getElem?_range (by omega)]; rfl)
        cl := fun i hi => by omega
        cp := fun v hv => cp v _ (by rw [List.getElem?_map, List.getElem?_range (by omega)]; rfl)
        lr := fun i hi => by omega
        ll := fun e => (nomatch e)
        fb := kf
        fk := fk
        fl := fun o => hfrz_ge (Nat.le_refl _)
        fp := fp
        bk := by omega
        bl := by omega
        bp := by omega
        kl := by omega
        kp := ekp
        lp := by omega
        hA0 := .inl ⟨rfl, rfl⟩
        hnc := Nat.le_refl _
        hv := by omega
        hn := by omega }
      have HO : HeapOk h1 h.size (fun x => x = h.size ∨ x = kb ∨ x = pb) vars 0 (fun _ => 0) (fun _ => False) :=
        ⟨⟨kb, h1.size, pb, c0, 0, c2, none, _, _, H1, ⟨fun i hi => by omega, fun i hi => by omega, fun i hi => by omega, fun v _ _ => .inl rfl⟩, fun j _ hj => by omega, fun v => ⟨fun ⟨i, hi, _⟩ => by omega, False.elim⟩, .inl rfl, .inr (.inl rfl), .inr (.inr rfl), fun x ⟨a, h, _⟩ => (nomatch h)⟩,
          fun v hv => ⟨by omega, by omega⟩, fun x hx => by omega⟩
      have nx0 : Nx (fun _ => False) (fun x => x = h.size ∨ x = kb ∨ x = pb) h h1 := ⟨hfr, fun x hx => .inr (by omega)⟩
      refine loopK (fun ρ h' => ρ 0 = .int .i64 vars ∧ ρ 3 = .pointer (some ⟨h.size, 0, none⟩) ∧ ∃ (v : Nat) (O : Nat → Prop), ρ 5 = .int .i64 ((v : Int) + 1) ∧ v ≤ vars ∧ HeapOk h' h.size O vars v (fun _ => 0) (fun u => 1 ≤ u ∧ u ≤ v) ∧ Nx (fun _ => False) O h h')
        (fun ρ _ => vars + 1 - (intOf (ρ 5)).toNat) (by kernel_rfl) ?_ ?_
      · exact ⟨r0, r3, 0, _, rfl, by omega, HO.cong fun v => ⟨False.elim, fun h => by omega⟩, nx0⟩
      · rintro ρ h2 ⟨q0, q3, v, O, q5, hv, HO, nx⟩
        by_cases hvn : v = vars
        · subst hvn
          have hq : ¬ ((v : Int) + 1 ≤ v) := by omega
          simp -implicitDefEqProofs (disch := omega) [go_sem, q0, q3, q5, hq]
          exact ⟨v, rfl, by omega, O, HO, nx⟩
        · have hvl : (v : Int) + 1 ≤ vars := by omega
          simp -implicitDefEqProofs (disch := omega) [go_sem, q0, q3, q5, hvl]
          refine useC (put_ok HO _) ?_
          rintro _ h3 (⟨v', hv', rfl, _, _, _, O', HO', nx'⟩ | ⟨hbad, _, _⟩)
          · simp -implicitDefEqProofs (disch := omega) [go_sem, q0, q3, q5]
            obtain rfl : v' = v + 1 := by omega
            exact ⟨⟨v + 1, by omega, by omega, O', HO'.cong fun u => by omega, nx.trans nx'⟩, by omega⟩
          · exfalso
            rcases hbad with h | h
            · omega
            · omega
    · have hjl : (j : Int) < vars + 1 := by omega
      simp -implicitDefEqProofs (disch := omega) [go_sem, r0, r3, r15, r16, hjl, k0, k1, k2, kf]
      refine build1 rfl rfl ?_
      simp -implicitDefEqProofs (disch := omega) [go_sem]
      have t1 : h.size < h1.size := hcell_lt k0
      have nb0 : ¬ blk A0 h.size := fun hb => by have := b0 _ hb; omega
      have nb2 : ¬ blk A2 h.size := fun hb => by have := b2 _ hb; omega
      have S0' := S0.keep (h' := Array.push _ (.cells #[.complex .f64 (Fx.enc 0) (Fx.enc (-(j : Int)))] 100 (0, 0))) (fun x hx => push_old (S0.blk_lt hx)) (by rw [push_size]; omega)
      refine append1 (v := .complex .f64 (Fx.enc 0) (Fx.enc (-(j : Int)))) S0' (by simp) (by rw [hcell_push_new]; rfl) rfl (by omega) (by omega) ?_
      intro A0' c0' h2 T0 f2 own0
      rw [← List.map_singleton (f := fun (v : Nat) => Value.complex .f64 (Fx.enc 0) (Fx.enc (-(v : Int)))), ← List.map_append, ← List.range_succ] at T0
      have f12 := (Fr.refl (blk A0) h1).push.trans f2
      have g1 : ∀ o, hcell h2 ⟨h.size, o, none⟩ = hcell h1 ⟨h.size, o, none⟩ := fun o => f12.cell t1 nb0
      have g2 : ∀ o, hfrz h2 ⟨h.size, o, none⟩ = hfrz h1 ⟨h.size, o, none⟩ := fun o => f12.frz t1 nb0
      have own0' : ∀ x, blk A0' x → blk A0 x ∨ h1.size ≤ x := fun x hx => (own0 x hx).imp id (fun h => by rw [push_size] at h; omega)
      have nb0' : ¬ blk A0' h.size := fun hb => (own0' _ hb).elim nb0 (by omega)
      have z2 := f12.size
      simp -implicitDefEqProofs (disch := omega) [go_sem, g1, g2, k0, k1, k2, kf, r0, r3, r15, r16]
      refine build1 rfl rfl ?_
      simp -implicitDefEqProofs (disch := omega) [go_sem]
      obtain ⟨hA, ehA⟩ : ∃ hA, hA = hset h2 ⟨h.size, 0, none⟩ (.slice A0' (j + 1) c0') := ⟨_, rfl⟩
      have fA : Fr (fun x => blk A0 x ∨ x = h.size) h1 hA := by rw [ehA]; exact (f12.mono fun x _ h => .inl h).set (.inr rfl)
      have T2 : SlAt hA A2 c2 _ := S2.fr fA (fun x hx hb => hb.elim (fun h => b02 x h hx) (fun h => by subst h; exact nb2 hx))
      have T0A : SlAt hA A0' c0' _ := T0.fr (S := fun x => x = h.size) (by rw [ehA]; exact (Fr.refl _ _).set rfl) (fun x hx e => by subst e; exact nb0' hx)
      rw [← ehA]
      have T2' := T2.keep (h' := Array.push _ (.cells #[.int .i64 (-1)] 3 (0, 0))) (fun x hx => push_old (T2.blk_lt hx)) (by rw [push_size]; omega)
      refine append1 (v := .int .i64 (-1)) T2' (by simp) (by rw [show h2.size = hA.size by rw [ehA, hset_size], hcell_push_new]; rfl) rfl (by omega) (by omega) ?_
      intro A2' c2' h3 U2 f3 own2
      rw [← List.map_singleton (f := fun (v : Nat) => Value.int .i64 (-1)) (a := j), ← List.map_append, ← List.range_succ] at U2
      have fA3 := (Fr.refl (blk A2) hA).push.trans f3
      have zA : hA.size = h2.size := by rw [ehA, hset_size]
      have g3 : ∀ o, hcell h3 ⟨h.size, o, none⟩ = hcell hA ⟨h.size, o, none⟩ := fun o => fA3.cell (by omega) nb2
      have g4 : ∀ o, hfrz h3 ⟨h.size, o, none⟩ = hfrz hA ⟨h.size, o, none⟩ := fun o => fA3.frz (by omega) nb2
      have g5 : hcell hA ⟨h.size, 0, none⟩ = some (.slice A0' (j + 1) c0') := by rw [ehA, hcell_hset, if_pos ⟨rfl, rfl⟩, g1, k0]; rfl
      have g6 : hcell hA ⟨h.size, 1, none⟩ = some (.slice none 0 0) := by rw [ehA, hcell_hset, if_neg (fun e => absurd e.2 (by decide)), g1, k1]
      have g7 : hcell hA ⟨h.size, 2, none⟩ = some (.slice A2 j c2) := by rw [ehA, hcell_hset, if_neg (fun e => absurd e.2 (by decide)), g1, k2]
      have g8 : ∀ o, hfrz hA ⟨h.size, o, none⟩ = false := fun o => by rw [ehA, hfrz_hset, g2, kf]
      simp -implicitDefEqProofs (disch := omega) [go_sem, g3, g4, g5, g6, g7, g8, r0, r3, r15, r16]
      have own2' : ∀ x, blk A2' x → blk A2 x ∨ h2.size ≤ x := fun x hx => (own2 x hx).imp id (fun h => by rw [push_size] at h; omega)
      have d02 : ∀ x, blk A0' x → ¬ blk A2 x := fun x hx h2 => (own0' x hx).elim (fun h => b02 x h h2) (fun h => by have := S2.blk_lt h2; omega)
      have T0B := (T0A.fr fA3 d02).fr (S := fun x => x = h.size) ((Fr.refl _ _).set (ad := ⟨h.size, 2, none⟩) (v := .slice A2' (j + 1) c2') rfl) (fun x hx e => by subst e; exact nb0' hx)
      have nb2' : ¬ blk A2' h.size := fun hb => (own2' _ hb).elim nb2 (by omega)
      have U2B := U2.fr (S := fun x => x = h.size) ((Fr.refl _ _).set (ad := ⟨h.size, 2, none⟩) (v := .slice A2' (j + 1) c2') rfl) (fun x hx e => by subst e; exact nb2' hx)
      refine ⟨⟨j + 1, by omega, by omega, A0', A2', c0', ⟨rfl, rfl, rfl⟩, c2', ⟨rfl, rfl, rfl⟩, T0B, U2B, fun x hx => (own0' x hx).elim (b0 x) (by omega), fun x hx => (own2' x hx).elim (b2 x) (by omega), fun x hx h2 => ?_, ?_⟩, by omega⟩
      · exact (own2' x h2).elim (d02 x hx) (fun h => by have := T0.blk_lt hx; omega)
      · have e1 := hfr.trans' fA (fun x hx h => by rcases h with h | h; have := b0 x h; omega; omega)
        have e2 := e1.trans' fA3 (fun x hx h => by have := b2 x h; omega)
        exact e2.new (by simp)
end
end Xe
