/- TrailPlays. -/
import Derived.Test.YtkghjecglmmloaaT16g
namespace Xe
open Go Tp Go.Proofs
set_option maxRecDepth 16000

/-- an argument: acts of three numbers -/
structure Act3 (h : Heap) (A : Option Addr) (m : Nat) : Prop where
  small : m < 2 ^ 63
  at' : ∀ i, i < m → ∃ bk off, ∃ k x y : Int, A = some ⟨bk, off, none⟩ ∧ hcell h ⟨bk, off + i * 3, none⟩ = some (.int .i64 k) ∧ hcell h ⟨bk, off + i * 3 + 1, none⟩ = some (.int .i64 x) ∧ hcell h ⟨bk, off + i * 3 + 2, none⟩ = some (.int .i64 y) ∧
    -9223372036854775808 ≤ x ∧ x ≤ 9223372036854775807 ∧ -9223372036854775808 ≤ y ∧ y ≤ 9223372036854775807
theorem Act3.fr {h : Heap} {A : Option Addr} {m : Nat} (R : Act3 h A m) {h' : Heap} (f : Fr (fun _ => False) h h') : Act3 h' A m :=
  ⟨R.small, fun i hi => by
    obtain ⟨bk, off, k, x, y, h1, h2, h3, h4, h5⟩ := R.at' i hi
    exact ⟨bk, off, k, x, y, h1, (f.cell (hcell_lt h2) id).trans h2, (f.cell (hcell_lt h3) id).trans h3, (f.cell (hcell_lt h4) id).trans h4, h5⟩⟩

section
variable {h : Heap}

/-- the state of the play -/
structure Play16 (h0 h : Heap) (b vars : Nat) (r8 r9 : Value) : Prop where
  ex : ∃ O l level B d, TrailOk h b O vars l level ∧ RowAt h B (stVs l) ∧ r8 = .slice B l.length d ∧ r9 = .int .i64 (level : Nat) ∧ (∀ y, blk B y → y < h.size ∧ ¬ O y) ∧ (∀ y, O y → h0.size ≤ y)
  fr : Fr (fun _ => False) h0 h

/-- its state goes on where the trail changed and then the list -/
theorem play_mk {h0 h1 h2 h3 : Heap} {b vars level level' : Nat} {O O' : Nat → Prop} {l l' : List St} {A B : Option Addr} {d : Nat} (fr : Fr (fun _ => False) h0 h1) (hO : ∀ y, O y → h0.size ≤ y)
    (R : RowAt h2 B (stVs l')) (hb2 : ∀ y, blk B y → y < h2.size) (hA : ∀ y, blk A y → y < h1.size ∧ ¬ O y) (hB : ∀ y, blk B y → blk A y ∨ h1.size ≤ y) (T1 : TrailOk h1 b O vars l level) (f2 : Fr (fun _ => False) h1 h2)
    (T : TrailOk h3 b O' vars l' level') (nx : Nx O O' h2 h3) : Play16 h0 h3 b vars (.slice B l'.length d) (.int .i64 (level' : Nat)) := by
  have z2 := f2.size
  have z3 := nx.fr.size
  have z1 := fr.size
  have hBO : ∀ y, blk B y → ¬ O y := fun y hy ho => by
    rcases hB y hy with h | h
    · exact (hA y h).2 ho
    · have := T1.low y ho; omega
  refine ⟨⟨O', l', level', B, d, T, R.fr nx.fr (fun y hy => hBO y hy), rfl, rfl, fun y hy => ⟨by have := hb2 y hy; omega, fun ho => ?_⟩, fun y hy => ?_⟩, (fr.trans f2).trans' nx.fr fun y hy ho => by have := hO y ho; omega⟩
  · rcases nx.own y ho with h | h
    · exact hBO y hy h
    · have := hb2 y hy; omega
  · rcases nx.own y hy with h | h
    · exact hO y h
    · omega

theorem tplays_walk (a0 : Int) (w0 : -9223372036854775808 ≤ a0 ∧ a0 ≤ 9223372036854775807) (A : Option Addr) (m c : Nat) (R : Act3 h A m) (a2 : Int) (w2 : -9223372036854775808 ≤ a2 ∧ a2 ≤ 9223372036854775807) :
    CallsH Try.prog 8 [.int .i64 a0, .slice A m c, .int .i64 a2] h fun r h' => r = .bool true ∧ Fr (fun _ => False) h h' := by
  have hms := R.small
  refine calls_of 162 [.tmp 6] Go.Proofs.Try.func8 rfl rfl rfl (by kernel_rfl) (Nat.le_of_ble_eq_true rfl) ?_
  simp -implicitDefEqProofs (disch := omega) [go_sem]
  refine useC awake16 ?_
  rintro _ h1 ⟨rfl, fr1⟩
  by_cases hm : 40 < m
  · simp -implicitDefEqProofs (disch := omega) [go_sem]
    exact fr1
  by_cases hv1 : 60 < a0 ∧ a0 ≤ 16777216
  · obtain ⟨g1, g2⟩ := hv1
    simp -implicitDefEqProofs (disch := omega) [go_sem]
    exact fr1
  by_cases hv2 : 16777216 < a0
  · simp -implicitDefEqProofs (disch := omega) [go_sem]
    refine useC (tnew_ok w0.1 w0.2) ?_
    rintro _ h2 (⟨_, rfl, rfl⟩ | ⟨vars, b, rfl, hv, _⟩)
    · simp -implicitDefEqProofs (disch := omega) [go_sem]
      exact fr1
    · omega
  have hv3 : a0 ≤ 60 := by omega
  simp -implicitDefEqProofs (disch := omega) [go_sem]
  refine useC (tnew_ok w0.1 w0.2) ?_
  rintro _ h2 (⟨hneg, rfl, rfl⟩ | ⟨vars, b, rfl, hv, rfl, O, T, nx⟩)
  · simp -implicitDefEqProofs (disch := omega) [go_sem]
    exact fr1
  simp -implicitDefEqProofs (disch := omega) [go_sem]
  have P0 : Play16 h h2 b vars (.slice none 0 0) (.int .i64 0) := by
    have z := fr1.size
    exact ⟨⟨O, [], 0, none, 0, T, .inl rfl, rfl, rfl, fun y ⟨_, h, _⟩ => (nomatch h), fun y hy => (nx.own y hy).elim (fun h => h.elim) fun h => by omega⟩, fr1.trans' nx.fr fun _ _ h => h.elim⟩
  refine loopK (fun ρ h' => ρ 0 = .int .i64 vars ∧ ρ 1 = .slice A m c ∧ ρ 2 = .int .i64 a2 ∧ ρ 7 = .pointer (some ⟨b, 0, none⟩) ∧ (∃ i : Nat, ρ 10 = .int .i64 i ∧ i ≤ m) ∧ Play16 h h' b vars (ρ 8) (ρ 9))
    (fun ρ _ => m - (intOf (ρ 10)).toNat) (by kernel_rfl) ?_ ?_
  · exact ⟨rfl, rfl, rfl, rfl, ⟨0, rfl, by omega⟩, P0⟩
  · clear P0 T nx
    rintro ρ h3 ⟨r0, r1, r2, r7, ⟨i, r10, hi⟩, PL0⟩
    by_cases him : i = m
    · subst him
      obtain ⟨⟨O, l, level, B, d, T, RB, r8, r9, hB, hO⟩, fr⟩ := PL0
      have hvv := T.hv
      have hln := T.len
      simp -implicitDefEqProofs (disch := omega) [go_sem, r0, r1, r2, r7, r8, r9, r10]
      refine useC (ttruths_ok T) ?_
      rintro _ h4 ⟨A4, c4, rfl, R4, own4, f4⟩
      have RB4 := RB.fr0 f4
      simp -implicitDefEqProofs (disch := omega) [go_sem, r0, r1, r2, r7, r8, r9, r10]
      refine loopK (fun ρ h' => ρ 0 = .int .i64 vars ∧ ρ 8 = .slice B l.length d ∧ ρ 16 = .slice A4 vars c4 ∧ h' = h4 ∧ ∃ v : Nat, ρ 17 = .int .i64 ((v + 1 : Nat) : Int) ∧ v ≤ vars)
        (fun ρ _ => vars + 1 - (intOf (ρ 17)).toNat) (by kernel_rfl) ?_ ?_
      · exact ⟨r0, r8, rfl, rfl, 0, rfl, by omega⟩
      · clear r0 r1 r2 r7 r8 r9 r10
        rintro ρ h5 ⟨r0, r8, r16, rfl, v, r17, hv'⟩
        by_cases hvm : v < vars
        · simp -implicitDefEqProofs (disch := omega) [go_sem, r0, r8, r16, r17]
          have cf := find16_ok (c := d) RB4 rfl (by omega) (fun s hs => by have := T.good.rng s hs; omega) (v + 1) (by omega)
          refine useC cf ?_
          rintro _ h6 ⟨rfl, rfl⟩
          have b2 := PL_lt l (v + 1)
          obtain ⟨bk4, off4, rfl, hc4⟩ := R4.get (by rw [truthsV_len]; omega)
          have c4' := hc4 v (.bool (decide (0 < trI l ((v + 1 : Nat) : Int)))) (by unfold truthsV; rw [List.getElem?_map, List.getElem?_range (by omega)]; rfl)
          have hvi : ((v : Int) + 1 - 1).toNat = v := by omega
          cases hf : find l (v + 1) with
          | none =>
            have hp := (none_of hf).2.1
            have ht : trI l ((v + 1 : Nat) : Int) = 0 := tr_none (vars := vars) (by rw [Int.natAbs_natCast]; exact hf)
            rw [ht] at c4'
            simp -implicitDefEqProofs (disch := omega) [go_sem, r0, r8, r16, r17, hp]
            refine drawK [(0, 0), (1, 0), (2, 0), (3, 0), (4, 0), (5, 0), (6, 0), (7, 0), (8, 0), (9, 1), (10, 0), (11, 0), (12, 0), (13, 0), (14, 0), (15, 0), (16, 0), (17, 1), (18, 0), (19, 0), (20, 0), (21, 0), (22, 0)] mixed (by kernel_rfl) ?_
            simp -implicitDefEqProofs (disch := omega) [go_sem, r0, r8, r16, r17, c4']
            exact ⟨⟨v + 1, by omega, by omega⟩, by omega⟩
          | some k =>
            obtain ⟨s, hs, hs2, hk⟩ := find_some hf
            have hp : PL l (v + 1) = k := by unfold PL; rw [hf]
            have ht := tr_at T.good hs (x := ((v + 1 : Nat) : Int)) (by omega)
            rw [ht] at c4'
            obtain ⟨bk, off, rfl, hc⟩ := RB4.get (by rw [stVs_len]; omega)
            have c0 := hc _ _ (stVs_at hs).1
            by_cases e : s.lit = ((v + 1 : Nat) : Int)
            · rw [if_pos e] at c4'
              have e' : s.lit = (v : Int) + 1 := by omega
              simp -implicitDefEqProofs (disch := omega) [go_sem, r0, r8, r16, r17, hp]
              refine drawK [(0, 0), (1, 0), (2, 0), (3, 0), (4, 0), (5, 0), (6, 0), (7, 0), (8, 0), (9, 1), (10, 0), (11, 0), (12, 0), (13, 0), (14, 0), (15, 0), (16, 0), (17, 1), (18, 0), (19, 0), (20, 0), (21, 0), (22, 0)] mixed (by kernel_rfl) ?_
              simp -implicitDefEqProofs (disch := omega) [go_sem, r0, r8, r16, r17, c4', c0, e']
              exact ⟨⟨v + 1, by omega, by omega⟩, by omega⟩
            · rw [if_neg e] at c4'
              have e' : ¬ s.lit = (v : Int) + 1 := by omega
              simp -implicitDefEqProofs (disch := omega) [go_sem, r0, r8, r16, r17, hp]
              refine drawK [(0, 0), (1, 0), (2, 0), (3, 0), (4, 0), (5, 0), (6, 0), (7, 0), (8, 0), (9, 1), (10, 0), (11, 0), (12, 0), (13, 0), (14, 0), (15, 0), (16, 0), (17, 1), (18, 0), (19, 0), (20, 0), (21, 0), (22, 0)] mixed (by kernel_rfl) ?_
              simp -implicitDefEqProofs (disch := omega) [go_sem, r0, r8, r16, r17, c4', c0, e']
              exact ⟨⟨v + 1, by omega, by omega⟩, by omega⟩
        · have e : v = vars := by omega
          subst e
          simp -implicitDefEqProofs (disch := omega) [go_sem, r0, r8, r16, r17]
          exact fr.trans f4
    · obtain ⟨bk, off, kd, x, y, rfl, e0, e1, e2, x0, x1, y0, y1⟩ := (R.fr PL0.fr).at' i (by omega)
      simp -implicitDefEqProofs (disch := omega) [go_sem, r0, r1, r2, r7, r10, e0, e1, e2, ↓ stop_block (id := 2)]
      have hr10 : (intOf (ρ 10)).toNat = i := by rw [r10]; rfl
      refine cutK (fun ρ h' => ρ 0 = .int .i64 vars ∧ ρ 1 = .slice (some ⟨bk, off, none⟩) m c ∧ ρ 2 = .int .i64 a2 ∧ ρ 7 = .pointer (some ⟨b, 0, none⟩) ∧ ρ 10 = .int .i64 i ∧ Play16 h h' b vars (ρ 8) (ρ 9)) ?_ ?_
      · obtain ⟨tb, htb⟩ : ∃ tb, tb = h3.size := ⟨_, rfl⟩
        rw [← htb]
        obtain ⟨h5, hh5⟩ : ∃ h5, h5 = hset (hset (hset (Array.push h3 (.cells #[.int .i64 0, .int .i64 0, .int .i64 0] 51 (0, 0))) ⟨tb, 0, none⟩ (.int .i64 kd)) ⟨tb, 1, none⟩ (.int .i64 x)) ⟨tb, 2, none⟩ (.int .i64 y) := ⟨_, rfl⟩
        have f45 : Fr (fun _ => False) h3 h5 := by rw [hh5]; exact ((((Fr.refl _ _).push).new (by rw [htb]; exact Nat.le_refl _)).new (by rw [htb]; exact Nat.le_refl _)).new (by rw [htb]; exact Nat.le_refl _)
        have t0 : hcell h5 ⟨tb, 0, none⟩ = some (.int .i64 kd) := by rw [hh5, htb]; simp -implicitDefEqProofs (disch := omega) [go_sem]
        have t1 : hcell h5 ⟨tb, 1, none⟩ = some (.int .i64 x) := by rw [hh5, htb]; simp -implicitDefEqProofs (disch := omega) [go_sem]
        have t2 : hcell h5 ⟨tb, 2, none⟩ = some (.int .i64 y) := by rw [hh5, htb]; simp -implicitDefEqProofs (disch := omega) [go_sem]
        rw [← hh5]
        obtain ⟨⟨O, l, level, B, d, T, RB, r8, r9, hB, hO⟩, fr⟩ := PL0
        have T5 := T.fr0 f45
        have R5 := RB.fr0 f45
        have z5 := f45.size
        have fr5 := fr.trans f45
        have hB5 : ∀ y, blk B y → y < h5.size ∧ ¬ O y := fun y hy => ⟨by have := (hB y hy).1; omega, (hB y hy).2⟩
        have htO : ¬ O tb := fun ho => by have := T.low tb ho; omega
        have hvv := T.hv
        have hln := T.len
        have hlvl := T.lvle
        by_cases c0 : kd = 0 ∨ kd = 1
        · rcases c0 with rfl | rfl
          · simp -implicitDefEqProofs (disch := omega) [go_sem, r0, r1, r2, r7, r8, r9, r10, t0, t1, t2]
            refine useC (rpush16_ok R5 (fun y hy => (hB5 y hy).1) rfl (by omega) T5.good hvv x0 x1 (lv := level)) ?_
            rintro _ h6 ⟨B6, d6, rfl, R6, hb6, hB6, f6⟩
            have t16 := (f6.cell (o := 1) (hcell_lt t1) id).trans t1
            have t26 := (f6.cell (o := 2) (hcell_lt t2) id).trans t2
            simp -implicitDefEqProofs (disch := omega) [go_sem, r0, r1, r2, r7, r8, r9, r10, t16, t26]
            refine useC (tpush_ok (T5.fr0 f6) x0 x1) ?_
            rintro _ h7 ⟨rfl, O7, T7, nx7⟩
            simp -implicitDefEqProofs (disch := omega) [go_sem, r0, r1, r2, r7, r8, r9, r10]
            exact play_mk fr5 hO R6 hb6 hB5 hB6 T5 f6 T7 nx7
          · simp -implicitDefEqProofs (disch := omega) [go_sem, r0, r1, r2, r7, r8, r9, r10, t0, t1, t2]
            refine useC (rpush16_ok R5 (fun y hy => (hB5 y hy).1) rfl (by omega) T5.good hvv x0 x1 (lv := level)) ?_
            rintro _ h6 ⟨B6, d6, rfl, R6, hb6, hB6, f6⟩
            have t16 := (f6.cell (o := 1) (hcell_lt t1) id).trans t1
            have t26 := (f6.cell (o := 2) (hcell_lt t2) id).trans t2
            simp -implicitDefEqProofs (disch := omega) [go_sem, r0, r1, r2, r7, r8, r9, r10, t16, t26]
            refine useC (tpush_ok (T5.fr0 f6) x0 x1) ?_
            rintro _ h7 ⟨rfl, O7, T7, nx7⟩
            simp -implicitDefEqProofs (disch := omega) [go_sem, r0, r1, r2, r7, r8, r9, r10]
            exact play_mk fr5 hO R6 hb6 hB5 hB6 T5 f6 T7 nx7
        by_cases c2 : kd = 2
        · subst c2
          simp -implicitDefEqProofs (disch := omega) [go_sem, r0, r1, r2, r7, r8, r9, r10, t0, t1, t2]
          have cp := rpush16_ok (c := d) (r := -1) R5 (fun y hy => (hB5 y hy).1) rfl (by omega) T5.good hvv x0 x1 (lv := level + 1)
          refine useC cp ?_
          rintro _ h6 ⟨B6, d6, rfl, R6, hb6, hB6, f6⟩
          have t16 := (f6.cell (o := 1) (hcell_lt t1) id).trans t1
          have cd := tdecide_ok (T5.fr0 f6) x0 x1
          by_cases e : pushE vars l x (-1) = 0
          · simp -implicitDefEqProofs (disch := omega) [go_sem, r0, r1, r2, r7, r8, r9, r10, t16, e]
            refine useC cd ?_
            rintro _ h7 ⟨rfl, O7, T7, nx7⟩
            rw [if_pos e] at T7
            simp -implicitDefEqProofs (disch := omega) [go_sem, r0, r1, r2, r7, r8, r9, r10, e]
            exact play_mk fr5 hO R6 hb6 hB5 hB6 T5 f6 T7 nx7
          · have e' : ¬ ((pushE vars l x (-1) : Nat) : Int) = 0 := by omega
            simp -implicitDefEqProofs (disch := omega) [go_sem, r0, r1, r2, r7, r8, r9, r10, t16, e, e']
            refine useC cd ?_
            rintro _ h7 ⟨rfl, O7, T7, nx7⟩
            rw [if_neg e] at T7
            simp -implicitDefEqProofs (disch := omega) [go_sem, r0, r1, r2, r7, r8, r9, r10]
            exact play_mk fr5 hO R6 hb6 hB5 hB6 T5 f6 T7 nx7
        by_cases c3 : kd = 3
        · subst c3
          by_cases hlt : max x 0 < level
          · have ek : backK level x = (max x 0).toNat := if_pos hlt
            obtain ⟨k, hk⟩ : ∃ k : Nat, max x 0 = (k : Int) := ⟨(max x 0).toNat, by omega⟩
            have ek2 : backK level x = k := by rw [ek, hk, Int.toNat_natCast]
            simp -implicitDefEqProofs (disch := omega) [go_sem, r0, r1, r2, r7, r8, r9, r10, t0, t1, t2, hk]
            have cb := rback16_ok (c := d) R5 rfl (by omega) (k := k) (by omega) (fun s hs => by have := T.lv s hs; omega)
            refine useC cb ?_
            rintro _ h6 ⟨B6, d6, rfl, R6, hb6, hB6, f6⟩
            have t16 := (f6.cell (o := 1) (hcell_lt t1) id).trans t1
            simp -implicitDefEqProofs (disch := omega) [go_sem, r0, r1, r2, r7, r8, r9, r10, t16]
            refine useC (tback_ok (T5.fr0 f6) x0 x1) ?_
            rintro _ h7 ⟨rfl, T7, nx7⟩
            rw [ek2] at T7 ⊢
            simp -implicitDefEqProofs (disch := omega) [go_sem, r0, r1, r2, r7, r8, r9, r10]
            exact play_mk fr5 hO R6 hb6 hB5 (fun y hy => .inr (hB6 y hy)) T5 f6 T7 nx7
          · have ek : backK level x = level := if_neg hlt
            have ec : cutTo l level = l := cut_all T.lvs (Nat.le_refl _)
            simp -implicitDefEqProofs (disch := omega) [go_sem, r0, r1, r2, r7, r8, r9, r10, t0, t1, t2]
            refine useC (tback_ok T5 x0 x1) ?_
            rintro _ h7 ⟨rfl, T7, nx7⟩
            rw [ek, ec] at T7 ⊢
            simp -implicitDefEqProofs (disch := omega) [go_sem, r0, r1, r2, r7, r8, r9, r10]
            exact play_mk (A := B) fr5 hO R5 (fun y hy => (hB5 y hy).1) hB5 (fun y hy => .inl hy) T5 (Fr.refl _ _) T7 nx7
        · simp -implicitDefEqProofs (disch := omega) [go_sem, r0, r1, r2, r7, r8, r9, r10, t0, t1, t2]
          exact play_mk (A := B) fr5 hO R5 (fun y hy => (hB5 y hy).1) hB5 (fun y hy => .inl hy) T5 (Fr.refl _ _) T5 (Nx.refl _ _)
      · clear r0 r1 r2 r7 r10 PL0
        rintro ρ h5 ⟨r0, r1, r2, r7, r10, ⟨⟨O, l, level, B, d, T, RB, r8, r9, hB, hO⟩, fr⟩⟩
        simp -implicitDefEqProofs (disch := omega) [go_sem, r0, r1, r2, r7, r8, r9, r10]
        refine useC (same16_ok T RB rfl w2.1 w2.2) ?_
        rintro _ h6 ⟨rfl, f6⟩
        simp -implicitDefEqProofs (disch := omega) [go_sem, r0, r1, r2, r7, r8, r9, r10]
        have z6 := f6.size
        refine ⟨⟨⟨i + 1, by omega, by omega⟩, ⟨O, l, level, B, d, T.fr0 f6, RB.fr0 f6, rfl, rfl, fun y hy => ⟨by have := (hB y hy).1; omega, (hB y hy).2⟩, hO⟩, fr.trans f6⟩, by omega⟩
end
end Xe
