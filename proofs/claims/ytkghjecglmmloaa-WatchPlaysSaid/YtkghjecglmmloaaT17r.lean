/- WatchPlays, walked. -/
import Derived.Test.YtkghjecglmmloaaT17q
namespace Xe
open Go Tp Go.Proofs
set_option maxRecDepth 16000
set_option maxHeartbeats 1000000

/-- an argument: acts, each a kind, a number, a row of numbers -/
structure ArgsA (h : Heap) (A : Option Addr) (m : Nat) (gs : Nat → List Int) : Prop where
  small : m < 2 ^ 63
  at' : ∀ i, i < m → ∃ bk off B c, ∃ k x : Int, A = some ⟨bk, off, none⟩ ∧ hcell h ⟨bk, off + i * 3, none⟩ = some (.int .i64 k) ∧ hcell h ⟨bk, off + i * 3 + 1, none⟩ = some (.int .i64 x) ∧ hcell h ⟨bk, off + i * 3 + 2, none⟩ = some (.slice B (gs i).length c) ∧
    RowAt h B (ints (gs i)) ∧ (gs i).length ≤ c ∧ (gs i).length < 2 ^ 63 ∧ (-9223372036854775808 ≤ x ∧ x ≤ 9223372036854775807) ∧ ∀ y ∈ gs i, -9223372036854775808 ≤ y ∧ y ≤ 9223372036854775807
theorem ArgsA.fr {h : Heap} {A : Option Addr} {m : Nat} {gs : Nat → List Int} (R : ArgsA h A m gs) {h' : Heap} (f : Fr (fun _ => False) h h') : ArgsA h' A m gs :=
  ⟨R.small, fun i hi => by
    obtain ⟨bk, off, B, c, k, x, h1, h2, h3, h4, h5, h6⟩ := R.at' i hi
    exact ⟨bk, off, B, c, k, x, h1, (f.cell (hcell_lt h2) id).trans h2, (f.cell (hcell_lt h3) id).trans h3, (f.cell (hcell_lt h4) id).trans h4, h5.fr0 f, h6⟩⟩

section
variable {h : Heap}
theorem few17_ok {A : Option Addr} {m c : Nat} {gs : Nat → List Int} (R : ArgsA h A m gs) : CallsH Try.prog 52 [.slice A m c] h fun r h' => h' = h ∧ ∃ b, r = .bool b ∧ (b = true → m ≤ 40 ∧ ∀ i, i < m → (gs i).length ≤ 12) := by
  have hms := R.small
  refine calls_of 20 [.tmp 2] Go.Proofs.Try.func52 rfl rfl rfl (by kernel_rfl) (Nat.le_of_ble_eq_true rfl) ?_
  by_cases h40 : 40 < m
  · simp -implicitDefEqProofs (disch := omega) [go_sem]
  · simp -implicitDefEqProofs (disch := omega) [go_sem]
    refine loopK (fun ρ h' => ρ 0 = .slice A m c ∧ h' = h ∧ ∃ i : Nat, ρ 3 = .int .i64 i ∧ i ≤ m ∧ ∀ j, j < i → (gs j).length ≤ 12) (fun ρ _ => m - (intOf (ρ 3)).toNat) (by kernel_rfl) ?_ ?_
    · exact ⟨rfl, rfl, 0, rfl, by omega, fun j hj => by omega⟩
    · rintro ρ h' ⟨r0, rfl, i, r3, hi, hall⟩
      by_cases him : i < m
      · obtain ⟨bk, off, B, cB, kd, x, rfl, e0, e1, e2, RB, hBc, hBl, _⟩ := R.at' i him
        by_cases hlen : 12 < (gs i).length
        · simp -implicitDefEqProofs (disch := omega) [go_sem, r0, r3, e2]
        · simp -implicitDefEqProofs (disch := omega) [go_sem, r0, r3, e2]
          refine ⟨⟨i + 1, by omega, by omega, fun j hj => ?_⟩, by omega⟩
          by_cases e : j = i
          · subst e; omega
          · exact hall j (by omega)
      · have e : i = m := by omega
        subst e
        simp -implicitDefEqProofs (disch := omega) [go_sem, r0, r3]
        exact ⟨by omega, hall⟩

theorem WInv.todo_le {s : WS} (I : WInv s) : s.todo.length ≤ s.cs.length := by
  have := nodup_le I.todoN (b := List.range s.cs.length) fun x hx => List.mem_range.2 (I.todoL x hx)
  rwa [List.length_range] at this

theorem clause_any {bb : Nat} {p : BP} {s : WS} (M : BaseM h bb p s) {id : Int} (h0 : -9223372036854775808 ≤ id) (h1 : id ≤ 9223372036854775807) :
    CallsH Try.prog 56 [.pointer (some ⟨bb, 0, none⟩), .int .i64 id] h fun r h' => ∃ A' n' c' thb, r = .tuple #[.slice A' n' c', .bool thb] ∧ (thb = true ↔ ∃ (k : Nat) (e : Ent), id = k ∧ s.cs[k]? = some e ∧ e.gone = false) ∧ Fr (fun _ => False) h h' := by
  by_cases hg : ∃ (k : Nat) (e : Ent), id = k ∧ s.cs[k]? = some e ∧ e.gone = false
  · obtain ⟨k, e, rfl, he, hge⟩ := hg
    refine (clause_some M he hge).mono ?_
    rintro r h' ⟨A', c', rfl, _, _, f⟩
    exact ⟨A', _, c', true, rfl, ⟨fun _ => ⟨k, e, rfl, he, hge⟩, fun _ => rfl⟩, f⟩
  · refine (clause_none M h0 h1 fun h2 e he => ?_).mono ?_
    · cases hge : e.gone with
      | true => rfl
      | false => exact absurd ⟨id.toNat, e, by omega, he, hge⟩ hg
    · rintro r h' ⟨rfl, rfl⟩
      exact ⟨none, 0, 0, false, rfl, ⟨fun h => (nomatch h), fun h => absurd h hg⟩, Fr.refl _ _⟩
def usedB (l : List St) (x : Int) : Bool := l.any fun t => decide (0 ≤ x) && decide (t.rs = x)
theorem usedB_push (l : List St) (t : St) (x : Int) : usedB (l ++ [t]) x = (usedB l x || (decide (0 ≤ x) && decide (t.rs = x))) := by unfold usedB; simp [List.any_append]
theorem usedB_iff {l : List St} {x : Int} : usedB l x = true ↔ 0 ≤ x ∧ ∃ t ∈ l, t.rs = x := by
  unfold usedB
  rw [List.any_eq_true]
  constructor
  · rintro ⟨t, ht, h⟩
    rw [Bool.and_eq_true, decide_eq_true_eq, decide_eq_true_eq] at h
    exact ⟨h.1, t, ht, h.2⟩
  · rintro ⟨h0, t, ht, h⟩
    exact ⟨t, ht, by rw [Bool.and_eq_true, decide_eq_true_eq, decide_eq_true_eq]; exact ⟨h0, h⟩⟩

theorem plays_walk (a0 : Int) (w0 : -9223372036854775808 ≤ a0 ∧ a0 ≤ 9223372036854775807) (A : Option Addr) (m c : Nat) (gs : Nat → List Int) (R : ArgsA h A m gs) :
    CallsH Try.prog 10 [.int .i64 a0, .slice A m c] h fun r h' => r = .bool true ∧ Fr (fun _ => False) h h' := by
  have hms := R.small
  refine calls_of 202 [.tmp 4] Go.Proofs.Try.func10 rfl rfl rfl (by kernel_rfl) (Nat.le_of_ble_eq_true rfl) ?_
  simp -implicitDefEqProofs (disch := omega) [go_sem]
  refine useC awake17 ?_
  rintro _ h1 ⟨rfl, fr1⟩
  have R1 := R.fr fr1
  by_cases hv1 : 20 < a0
  · simp -implicitDefEqProofs (disch := omega) [go_sem]
    exact fr1
  by_cases hv2 : a0 < 0
  · simp -implicitDefEqProofs (disch := omega) [go_sem]
    refine useC (bnew_m w0.1 w0.2) ?_
    rintro _ h2 (⟨_, rfl, rfl⟩ | ⟨vars, bb, rfl, hv, _⟩)
    · simp -implicitDefEqProofs (disch := omega) [go_sem]
      exact fr1
    · omega
  simp -implicitDefEqProofs (disch := omega) [go_sem]
  refine useC (few17_ok R1) ?_
  rintro _ h2 ⟨rfl, b, rfl, hb⟩
  cases b with
  | false =>
    simp -implicitDefEqProofs (disch := omega) [go_sem]
    exact fr1
  | true =>
    obtain ⟨hm40, h12⟩ := hb rfl
    simp -implicitDefEqProofs (disch := omega) [go_sem]
    refine useC (bnew_m w0.1 w0.2) ?_
    rintro _ h2 (⟨hneg, rfl, rfl⟩ | ⟨vars, bb, rfl, hv, rfl, p2, M2, low2, fr2⟩)
    · omega
    have W2 : Wst h h2 bb vars p2 (newW vars) := ⟨M2, newW_inv hv, rfl, fun y t hy => Nat.le_trans fr1.size (low2 y t hy), fr1.trans fr2⟩
    simp -implicitDefEqProofs (disch := omega) [go_sem]
    refine loopK (fun ρ h' => ρ 0 = .int .i64 vars ∧ ρ 1 = .slice A m c ∧ ρ 5 = .pointer (some ⟨bb, 0, none⟩) ∧ ∃ (i : Nat) (p : BP) (s : WS), ρ 6 = .int .i64 i ∧ i ≤ m ∧ Wst h h' bb vars p s ∧ s.cs.length ≤ i) (fun ρ _ => m - (intOf (ρ 6)).toNat) (by kernel_rfl) ?_ ?_
    · exact ⟨rfl, rfl, rfl, 0, p2, newW vars, rfl, by omega, W2, Nat.le_refl _⟩
    · clear W2 M2
      rintro ρ h3 ⟨r0, r1, r5, i, p, s, r6, hi, W3, hcs⟩
      by_cases him : i < m
      · obtain ⟨bk, off, B, cB, kd, x, rfl, e0', e1', e2', RB, hBc, hBl, hx, hBr⟩ := R.at' i him
        have e0 := (W3.fr.cell (hcell_lt e0') (fun h => h)).trans e0'
        have e1 := (W3.fr.cell (hcell_lt e1') (fun h => h)).trans e1'
        have e2 := (W3.fr.cell (hcell_lt e2') (fun h => h)).trans e2'
        have hlen := h12 i him
        simp -implicitDefEqProofs (disch := omega) [go_sem, r0, r1, r5, r6, e0, e1, e2, ↓ stop_block (id := 2)]
        have hr6 : (intOf (ρ 6)).toNat = i := by rw [r6]; rfl
        refine cutK (fun ρ h' => ρ 0 = .int .i64 vars ∧ ρ 1 = .slice (some ⟨bk, off, none⟩) m c ∧ ρ 5 = .pointer (some ⟨bb, 0, none⟩) ∧ ρ 6 = .int .i64 i ∧ ∃ (p : BP) (s : WS), Wst h h' bb vars p s ∧ s.cs.length ≤ i + 1) ?_ ?_
        · obtain ⟨tb, htb⟩ : ∃ tb, tb = h3.size := ⟨_, rfl⟩
          rw [← htb]
          obtain ⟨h5, hh5⟩ : ∃ h5, h5 = hset (hset (hset (Array.push h3 (.cells #[.int .i64 0, .int .i64 0, .slice none 0 0] 80)) ⟨tb, 0, none⟩ (.int .i64 kd)) ⟨tb, 1, none⟩ (.int .i64 x)) ⟨tb, 2, none⟩ (.slice B (gs i).length cB) := ⟨_, rfl⟩
          have f35 : Fr (fun _ => False) h3 h5 := by rw [hh5]; exact ((((Fr.refl _ _).push).new (by rw [htb]; exact Nat.le_refl _)).new (by rw [htb]; exact Nat.le_refl _)).new (by rw [htb]; exact Nat.le_refl _)
          have t0 : hcell h5 ⟨tb, 0, none⟩ = some (.int .i64 kd) := by rw [hh5, htb]; simp -implicitDefEqProofs (disch := omega) [go_sem]
          have t1 : hcell h5 ⟨tb, 1, none⟩ = some (.int .i64 x) := by rw [hh5, htb]; simp -implicitDefEqProofs (disch := omega) [go_sem]
          have t2 : hcell h5 ⟨tb, 2, none⟩ = some (.slice B (gs i).length cB) := by rw [hh5, htb]; simp -implicitDefEqProofs (disch := omega) [go_sem]
          rw [← hh5]
          have tno : p.c tb = none := by
            cases hc : p.c tb with
            | none => rfl
            | some t => have := W3.M.low tb t hc; omega
          have W5 := W3.fr0 f35
          have hvs := W5.vars
          have htd := W5.I.todo_le
          have hll := lits_len s.l
          have hsl := W5.I.good.len
          have tO : ¬ p.c tb ≠ none := fun h => h tno
          clear hh5 W3
          by_cases k0 : kd = 0 ∨ kd = 1
          · rcases k0 with rfl | rfl
            all_goals
              simp -implicitDefEqProofs (disch := omega) [go_sem, r0, r1, r5, r6, t0, t1, t2]
              refine useC (blen_m W5.M) ?_
              rintro _ h6 ⟨rfl, rfl⟩
              simp -implicitDefEqProofs (disch := omega) [go_sem, r0, r1, r5, r6, t0, t1, t2]
              refine useC (badd_m W5.M (by rw [hvs]; exact hv) (RB.fr0 W5.fr) rfl hlen hBr ⟨by omega, by omega⟩) ?_
              rintro _ h7 (⟨hg, rfl, f7⟩ | ⟨hg, hc, rfl, f7⟩ | ⟨hg, L, hc, rfl, p7, M7, st7⟩)
              · rw [hvs] at hg
                have t27 := (f7.cell (hcell_lt t2) (fun h => h)).trans t2
                have W7 := W5.fr0 f7
                simp -implicitDefEqProofs (disch := omega) [go_sem, r0, r1, r5, r6, t27]
                refine useC (clean12_ok (RB.fr0 W7.fr) rfl (by omega) hBr hBc) ?_
                rintro r8 h8 ⟨⟨o, ho, hm⟩, f8⟩
                have t28 := (f8.cell (hcell_lt t27) (fun h => h)).trans t27
                have W8 := W7.fr0 f8
                have hr8 : ∃ A' n' c' al, r8 = .tuple #[.slice A' n' c', .bool al] := by
                  cases o with
                  | none => exact ⟨_, _, _, _, hm⟩
                  | some L => obtain ⟨A', c', h1, _⟩ := hm; exact ⟨_, _, _, _, h1⟩
                obtain ⟨A8, n8, c8, al8, rfl⟩ := hr8
                simp -implicitDefEqProofs (disch := omega) [go_sem, r0, r1, r5, r6, t28]
                refine useC (rgood12_ok (RB.fr0 W8.fr) rfl (by omega) hv hBr) ?_
                rintro _ h9 ⟨rfl, rfl⟩
                simp -implicitDefEqProofs (disch := omega) [go_sem, r0, r1, r5, r6, t28, hg]
                refine useC (blen_m W8.M) ?_
                rintro _ h9 ⟨rfl, rfl⟩
                simp -implicitDefEqProofs (disch := omega) [go_sem, r0, r1, r5, r6]
                exact ⟨p, s, W8, by omega⟩
              · rw [hvs] at hg
                have t27 := (f7.cell (hcell_lt t2) (fun h => h)).trans t2
                have W7 := W5.fr0 f7
                simp -implicitDefEqProofs (disch := omega) [go_sem, r0, r1, r5, r6, t27]
                refine useC (clean12_ok (RB.fr0 W7.fr) rfl (by omega) hBr hBc) ?_
                rintro r8 h8 ⟨⟨o, ho, hm⟩, f8⟩
                have t28 := (f8.cell (hcell_lt t27) (fun h => h)).trans t27
                have W8 := W7.fr0 f8
                obtain rfl := CleanR.uniq hc ho
                simp only at hm
                subst hm
                simp -implicitDefEqProofs (disch := omega) [go_sem, r0, r1, r5, r6, t28]
                refine useC (rgood12_ok (RB.fr0 W8.fr) rfl (by omega) hv hBr) ?_
                rintro _ h9 ⟨rfl, rfl⟩
                simp -implicitDefEqProofs (disch := omega) [go_sem, r0, r1, r5, r6, t28, hg]
                refine useC (blen_m W8.M) ?_
                rintro _ h9 ⟨rfl, rfl⟩
                simp -implicitDefEqProofs (disch := omega) [go_sem, r0, r1, r5, r6]
                exact ⟨p, s, W8, by omega⟩
              · have hgs := hg
                rw [hvs] at hg
                have t27 := (st7.fr.cell (hcell_lt t2) tO).trans t2
                have W7 := W5.step M7 (addS_inv W5.I hgs hc) rfl st7
                have hl1 : (addS s L).cs.length = s.cs.length + 1 := by unfold addS; simp
                have he7 : (addS s L).cs[s.cs.length]? = some ⟨L, 0, 0, false⟩ := by unfold addS; simp
                simp -implicitDefEqProofs (disch := omega) [go_sem, r0, r1, r5, r6, t27]
                refine useC (clean12_ok (RB.fr0 W7.fr) rfl (by omega) hBr hBc) ?_
                rintro r8 h8 ⟨⟨o, ho, hm⟩, f8⟩
                have t28 := (f8.cell (hcell_lt t27) (fun h => h)).trans t27
                have W8 := W7.fr0 f8
                obtain rfl := CleanR.uniq hc ho
                obtain ⟨A8, c8, rfl, S8, own8⟩ := hm
                simp -implicitDefEqProofs (disch := omega) [go_sem, r0, r1, r5, r6, t28]
                refine useC (rgood12_ok (RB.fr0 W8.fr) rfl (by omega) hv hBr) ?_
                rintro _ h9 ⟨rfl, rfl⟩
                have hLl : L.length ≤ 16777216 := (W8.M.E _ _ he7).len
                simp -implicitDefEqProofs (disch := omega) [go_sem, r0, r1, r5, r6, t28, hg]
                refine useC (clause_some W8.M he7 rfl) ?_
                rintro _ h10 ⟨B10, c10, rfl, S10, own10, f10⟩
                simp -implicitDefEqProofs (disch := omega) [go_sem, r0, r1, r5, r6]
                refine useC (same12_ok (S8.row.fr0 f10) S10.row rfl rfl (by omega) (by omega)) ?_
                rintro _ h11 ⟨rfl, rfl⟩
                simp -implicitDefEqProofs (disch := omega) [go_sem, r0, r1, r5, r6]
                exact ⟨p7, _, W8.fr0 f10, by rw [hl1]; omega⟩
          · by_cases k2 : kd = 2 ∨ kd = 3
            · rcases k2 with rfl | rfl
              all_goals
                simp -implicitDefEqProofs (disch := omega) [go_sem, r0, r1, r5, r6, t0, t1, t2]
                refine useC (bdecide_m W5.M hx.1 hx.2) ?_
                rintro _ h6 ⟨rfl, p6, M6, st6⟩
                simp -implicitDefEqProofs (disch := omega) [go_sem, r0, r1, r5, r6]
                exact ⟨p6, _, W5.step M6 (W5.I.dec x) rfl st6, by show s.cs.length ≤ i + 1; omega⟩
            · by_cases k4 : kd = 4
              · subst k4
                simp -implicitDefEqProofs (disch := omega) [go_sem, r0, r1, r5, r6, t0, t1, t2]
                refine useC (bback_m W5.M hx.1 hx.2) ?_
                rintro r h6 ⟨p6, M6, st6⟩
                simp -implicitDefEqProofs (disch := omega) [go_sem, r0, r1, r5, r6]
                by_cases hb : max x 0 < s.level
                · rw [if_pos hb] at M6
                  exact ⟨p6, _, W5.step M6 (W5.I.back (by omega)) rfl st6, by show s.cs.length ≤ i + 1; omega⟩
                · rw [if_neg hb] at M6
                  exact ⟨p6, s, W5.step M6 W5.I rfl st6, by omega⟩
              · by_cases k5 : kd = 5
                · subst k5
                  simp -implicitDefEqProofs (disch := omega) [go_sem, r0, r1, r5, r6, t0, t1, t2]
                  refine useC (clause_any W5.M hx.1 hx.2) ?_
                  rintro _ h6 ⟨A6, n6, c6, thb, rfl, hth, f6⟩
                  have W6 := W5.fr0 f6
                  simp -implicitDefEqProofs (disch := omega) [go_sem, r0, r1, r5, r6]
                  refine useC (btrail_m W6.M) ?_
                  rintro _ h7 ⟨rfl, rfl⟩
                  simp -implicitDefEqProofs (disch := omega) [go_sem, r0, r1, r5, r6]
                  refine useC (tlits_ok W6.M.T) ?_
                  rintro _ h7' ⟨B7, c7, rfl, S7, own7, f7⟩
                  have W7 := W6.fr0 f7
                  have t17 := (f7.cell (hcell_lt ((f6.cell (hcell_lt t1) (fun h => h)).trans t1)) (fun h => h)).trans ((f6.cell (hcell_lt t1) (fun h => h)).trans t1)
                  simp -implicitDefEqProofs (disch := omega) [go_sem, r0, r1, r5, r6]
                  refine loopK (fun ρ h' => ρ 0 = .int .i64 vars ∧ ρ 1 = .slice (some ⟨bk, off, none⟩) m c ∧ ρ 5 = .pointer (some ⟨bb, 0, none⟩) ∧ ρ 6 = .int .i64 i ∧ ρ 7 = .pointer (some ⟨tb, 0, none⟩) ∧ ρ 16 = .bool thb ∧ ρ 18 = .slice B7 s.l.length c7 ∧ h' = h7' ∧
                    ∃ k : Nat, ρ 19 = .int .i64 k ∧ k ≤ s.l.length ∧ ρ 17 = .bool (usedB (s.l.take k) x)) (fun ρ _ => s.l.length - (intOf (ρ 19)).toNat) (by kernel_rfl) ?_ ?_
                  · exact ⟨r0, r1, r5, r6, rfl, rfl, rfl, rfl, 0, rfl, by omega, rfl⟩
                  · clear r0 r1 r5 r6
                    rintro ρ h8 ⟨r0, r1, r5, r6, r7, r16, r18, rfl, k, r19, hk, r17⟩
                    by_cases hkl : k < s.l.length
                    · obtain ⟨t, ht⟩ : ∃ t, s.l[k]? = some t := ⟨_, List.getElem?_eq_getElem hkl⟩
                      have hrg := W5.I.good.rng t (List.mem_of_getElem? ht)
                      have hvI := W5.I.hv
                      obtain ⟨bk7, off7, rfl, hc7⟩ := S7.row.get (by rw [ints_len]; omega)
                      have c0 := hc7 _ _ (ints_at (lits_at ht))
                      have hrs := W5.I.good.rs ht
                      have hrsi : RSi s.l (t.lit.natAbs : Nat) = t.rs := by unfold RSi; rw [if_neg (by omega), Int.toNat_natCast]; exact hrs
                      have hv12 : var12 t.lit = t.lit.natAbs := if_pos (by omega)
                      have etk := take_at ht
                      have eus := usedB_push (s.l.take k) t x
                      rw [← etk] at eus
                      simp -implicitDefEqProofs (disch := omega) [go_sem, r0, r1, r5, r6, r7, r16, r17, r18, r19]
                      refine drawC [(0, 0), (1, 0), (2, 0), (3, 1), (4, 0), (5, 0), (6, 0), (8, 0), (9, 0), (10, 0), (11, 2), (14, 0), (15, 2), (7, 3), (12, 3), (13, 3), (16, 0), (17, 0), (18, 0), (19, 0)] (Eq h8) mixed (by kernel_rfl) rfl ?_
                      by_cases hu : usedB (s.l.take k) x = true
                      · rw [hu] at r17 eus
                        simp -implicitDefEqProofs (disch := omega) [go_sem, r0, r1, r5, r6, r7, r16, r17, r18, r19, t17, c0]
                        exact ⟨⟨k + 1, by omega, by omega, eus.trans (Bool.true_or _)⟩, by omega⟩
                      · rw [Bool.not_eq_true] at hu
                        rw [hu] at r17 eus
                        by_cases hx0 : x < 0
                        · simp -implicitDefEqProofs (disch := omega) [go_sem, r0, r1, r5, r6, r7, r16, r17, r18, r19, t17, c0, hx0]
                          exact ⟨⟨k + 1, by omega, by omega, by rw [eus, decide_eq_false (show ¬ 0 ≤ x by omega)]; rfl⟩, by omega⟩
                        · simp -implicitDefEqProofs (disch := omega) [go_sem, r0, r1, r5, r6, r7, r16, r17, r18, r19, t17, c0, hx0]
                          refine useC (btrail_m W7.M) ?_
                          rintro _ h9 ⟨rfl, rfl⟩
                          simp -implicitDefEqProofs (disch := omega) [go_sem, r0, r1, r5, r6, r7, r16, r17, r18, r19, t17, c0, hx0]
                          refine useC (var12_ok (by omega) (by omega)) ?_
                          rintro _ h9 ⟨rfl, rfl⟩
                          rw [hv12]
                          simp -implicitDefEqProofs (disch := omega) [go_sem, r0, r1, r5, r6, r7, r16, r17, r18, r19, t17, c0, hx0]
                          refine useC (treason_ok W7.M.T (by omega) (by omega)) ?_
                          rintro _ h9 ⟨rfl, rfl⟩
                          rw [hrsi]
                          simp -implicitDefEqProofs (disch := omega) [go_sem, r0, r1, r5, r6, r7, r16, r17, r18, r19, t17, c0, hx0]
                          exact ⟨⟨k + 1, by omega, by omega, by rw [eus, decide_eq_true (show 0 ≤ x by omega), Bool.false_or, Bool.true_and]⟩, by omega⟩
                    · have e : k = s.l.length := by omega
                      subst e
                      rw [List.take_length] at r17
                      simp -implicitDefEqProofs (disch := omega) [go_sem, r0, r1, r5, r6, r7, r16, r17, r18, r19, t17]
                      refine useC (bdrop_m W7.M W7.I hx.1 hx.2) ?_
                      rintro _ h9 (⟨k9, e9, rfl, he9, hg9, hn9, rfl, M9, st9⟩ | ⟨rfl, f9, hor9⟩)
                      · have h1 : thb = true := hth.2 ⟨k9, e9, rfl, he9, hg9⟩
                        have h2 : usedB s.l k9 = false := by
                          rw [Bool.eq_false_iff]
                          intro h
                          obtain ⟨_, t, ht, hr⟩ := usedB_iff.1 h
                          exact hn9 t ht hr
                        rw [h1] at r16
                        rw [h2] at r17
                        simp -implicitDefEqProofs (disch := omega) [go_sem, r0, r1, r5, r6, r7, r16, r17]
                        exact ⟨p, _, W7.step M9 (W7.I.drop he9 hn9) rfl st9, by show (setG s.cs k9).length ≤ i + 1; rw [setG_len]; omega⟩
                      · have h1 : thb = false ∨ (thb = true ∧ usedB s.l x = true) := by
                          rcases hor9 with hg | ⟨h0, t, ht, hr⟩
                          · left
                            rw [Bool.eq_false_iff]
                            intro h
                            obtain ⟨k, e, rfl, he, hge⟩ := hth.1 h
                            have := hg (by omega) e (by rw [Int.toNat_natCast]; exact he)
                            rw [hge] at this; cases this
                          · cases thb with
                            | false => exact .inl rfl
                            | true => exact .inr ⟨rfl, usedB_iff.2 ⟨h0, t, ht, hr⟩⟩
                        rcases h1 with h1 | ⟨h1, h2⟩
                        · rw [h1] at r16
                          simp -implicitDefEqProofs (disch := omega) [go_sem, r0, r1, r5, r6, r7, r16, r17]
                          exact ⟨p, s, W7.fr0 f9, by omega⟩
                        · rw [h1] at r16
                          rw [h2] at r17
                          simp -implicitDefEqProofs (disch := omega) [go_sem, r0, r1, r5, r6, r7, r16, r17]
                          exact ⟨p, s, W7.fr0 f9, by omega⟩
                · by_cases k6 : kd = 6 ∨ kd = 7
                  · rcases k6 with rfl | rfl
                    all_goals
                      simp -implicitDefEqProofs (disch := omega) [go_sem, r0, r1, r5, r6, t0, t1, t2]
                      refine useC (btrail_m W5.M) ?_
                      rintro _ h6 ⟨rfl, rfl⟩
                      simp -implicitDefEqProofs (disch := omega) [go_sem, r0, r1, r5, r6]
                      refine useC (tlits_ok W5.M.T) ?_
                      rintro _ h7 ⟨B7, c7, rfl, S7, own7, f7⟩
                      have W7 := W5.fr0 f7
                      have O7 : Out h7 p B7 (ints (lits s.l)) := ⟨S7.row, fun y hy => ⟨by
                        cases hc : p.c y with
                        | none => rfl
                        | some t => have := W5.M.low y t hc; have := own7 y hy; omega, S7.blk_lt hy⟩⟩
                      simp -implicitDefEqProofs (disch := omega) [go_sem, r0, r1, r5, r6]
                      refine useC (prop_m W7.M W7.I) ?_
                      rintro r8 h8 ⟨p8, s8, M8, st8, I8, ad8, hor8⟩
                      have W8 := W7.step M8 I8 ad8.vars st8
                      have O8 := O7.step st8
                      obtain ⟨ext, hext⟩ := ad8.us.pre
                      have hL := ad8.us.least W5.I.good (fun c hc => (W5.I.keptK c hc).2)
                      rw [← ad8.vars, ← ad8.cs] at hL
                      have hG0 := W5.I.good
                      rw [← ad8.vars] at hG0
                      have hcl8 : s8.cs.length = s.cs.length := by have := congrArg List.length ad8.cs; unfold absC at this; rwa [List.length_map, List.length_map] at this
                      have hr8 : ∃ (id8 : Int) (ok8 : Bool), r8 = .tuple #[.int .i64 id8, .bool ok8] ∧ ((ok8 = false ∧ ∃ (k : Nat) (e : Ent), id8 = k ∧ s8.cs[k]? = some e ∧ e.gone = false ∧ FailAt s8.l e.lits) ∨ (ok8 = true ∧ id8 = -1 ∧ QuietK (keptC (absC s8.cs)) s8.l)) := by
                        rcases hor8 with ⟨id, e, rfl, h1, h2, h3⟩ | ⟨rfl, h1, h2⟩
                        · exact ⟨_, _, rfl, .inl ⟨rfl, id, e, rfl, h1, h2, h3⟩⟩
                        · exact ⟨_, _, rfl, .inr ⟨rfl, rfl, (I8.quiet h1 h2).kept⟩⟩
                      obtain ⟨id8, ok8, rfl, hor⟩ := hr8
                      simp -implicitDefEqProofs (disch := omega) [go_sem, r0, r1, r5, r6]
                      refine useC (right_ok M8 I8 hext hG0 O8.R rfl hL hor) ?_
                      rintro _ h9 ⟨rfl, f9⟩
                      simp -implicitDefEqProofs (disch := omega) [go_sem, r0, r1, r5, r6]
                      exact ⟨p8, s8, W8.fr0 f9, by omega⟩
                  · simp -implicitDefEqProofs (disch := omega) [go_sem, r0, r1, r5, r6, t0, t1, t2]
                    exact ⟨p, s, W5, by omega⟩
        · clear r0 r1 r5 r6
          rintro ρ h4 ⟨r0, r1, r5, r6, p4, s4, W4, hcs4⟩
          simp -implicitDefEqProofs (disch := omega) [go_sem, r0, r1, r5, r6]
          refine useC (reasons_ok W4.M W4.I) ?_
          rintro _ h5 ⟨rfl, f5⟩
          simp -implicitDefEqProofs (disch := omega) [go_sem, r0, r1, r5, r6]
          exact ⟨⟨i + 1, by omega, by omega, p4, s4, W4.fr0 f5, hcs4⟩, by omega⟩
      · have e : i = m := by omega
        subst e
        simp -implicitDefEqProofs (disch := omega) [go_sem, r0, r1, r5, r6]
        exact W3.fr
end
end Xe
