/- Sorting in place, walked: the pattern-defeating sort. -/
import Derived.Test.YtgebeiaffjpcaaaGreatDoorSP10
import Derived.Test.YtgebeiaffjpcaaaGreatDoorGG
namespace Xe
open Go Go.Proofs
set_option maxRecDepth 16000
set_option maxHeartbeats 1000000

/-- what is left of a, and what is right of b, is in place -/
structure Pl (cf : Value → Value → Int) (L : List Value) (a0 b0 a b : Nat) : Prop where
  l : ∀ p q, a0 ≤ p → p < q → q < b0 → p < a → 0 ≤ cf (gv L q) (gv L p)
  r : ∀ p q, a0 ≤ p → p < q → q < b0 → b ≤ q → 0 ≤ cf (gv L q) (gv L p)
section
variable {cf : Value → Value → Int} {L L' : List Value} {a0 b0 a b a' b' : Nat}
theorem Pl.start : Pl cf L a0 b0 a0 b0 := ⟨fun p q h1 h2 h3 h4 => by omega, fun p q h1 h2 h3 h4 => by omega⟩
/-- swaps between a and b keep it -/
theorem Pl.rng (P : Pl cf L a0 b0 a b) (ha : a0 ≤ a) (hb : b ≤ b0) (hab : a ≤ b) (R : Rng a b L L') : Pl cf L' a0 b0 a b := by
  refine ⟨fun p q h1 h2 h3 h4 => ?_, fun p q h1 h2 h3 h4 => ?_⟩
  · rw [R.out (p := p) (by omega)]
    by_cases hq : a ≤ q ∧ q < b
    · exact R.all (P := fun x => 0 ≤ cf x (gv L p)) (fun q g1 g2 => P.l p q h1 (by omega) (by omega) h4) q hq.1 hq.2
    · rw [R.out (p := q) (by omega)]; exact P.l p q h1 h2 h3 h4
  · rw [R.out (p := q) (by omega)]
    by_cases hp : a ≤ p ∧ p < b
    · exact R.all (P := fun x => 0 ≤ cf (gv L q) x) (fun p g1 g2 => P.r p q (by omega) (by omega) h3 h4) p hp.1 hp.2
    · rw [R.out (p := p) (by omega)]; exact P.r p q h1 h2 h3 h4
theorem Pl.fin (P : Pl cf L a0 b0 a b) (S : Srt cf a b L) : Srt cf a0 b0 L := fun p q h1 h2 h3 => by
  by_cases hp : p < a
  · exact P.l p q h1 h2 h3 hp
  · by_cases hq : b ≤ q
    · exact P.r p q h1 h2 h3 hq
    · exact S p q (by omega) h2 (by omega)
/-- what is in place up to there, and sorted in between, and not greater than what comes -/
theorem Pl.up (P : Pl cf L a0 b0 a b) (h : ∀ p q, a ≤ p → p < a' → p < q → q < b → 0 ≤ cf (gv L q) (gv L p)) : Pl cf L a0 b0 a' b :=
  ⟨fun p q h1 h2 h3 h4 => by
    by_cases hp : p < a
    · exact P.l p q h1 h2 h3 hp
    · by_cases hq : b ≤ q
      · exact P.r p q h1 h2 h3 hq
      · exact h p q (by omega) h4 h2 (by omega), P.r⟩
theorem Pl.dn (P : Pl cf L a0 b0 a b) (h : ∀ p q, a ≤ p → p < q → b' ≤ q → q < b → 0 ≤ cf (gv L q) (gv L p)) : Pl cf L a0 b0 a b' :=
  ⟨P.l, fun p q h1 h2 h3 h4 => by
    by_cases hp : p < a
    · exact P.l p q h1 h2 h3 hp
    · by_cases hq : b ≤ q
      · exact P.r p q h1 h2 h3 hq
      · exact h p q (by omega) h2 h4 (by omega)⟩
/-- behind a partition, with its lesser part sorted -/
theorem Pl.left {ok : Value → Prop} {mid : Nat} {L3 L4 : List Value} (C : COk cf ok) (hok : OkR ok L3) (P : Pl cf L3 a0 b0 a b) (ha : a0 ≤ a) (hb : b ≤ b0) (hm : a ≤ mid) (hm2 : mid < b) (hl : b ≤ L3.length)
    (h1 : ∀ p, a ≤ p → p < mid → cf (gv L3 p) (gv L3 mid) < 0) (h2 : ∀ p, mid < p → p < b → 0 ≤ cf (gv L3 p) (gv L3 mid)) (R : Rng a mid L3 L4) (S : Srt cf a mid L4) : Pl cf L4 a0 b0 (mid + 1) b := by
  have P4 := P.rng ha hb (by omega) (R.mono (Nat.le_refl _) (Nat.le_of_lt hm2) hl)
  have ok4 := hok.rng R (by omega)
  have hl4 := R.len
  refine P4.up fun p q g1 g2 g3 g4 => ?_
  by_cases hq : q < mid
  · exact S p q g1 g3 hq
  · have eq3 := R.out (p := q) (by omega)
    by_cases hp : p = mid
    · subst hp
      rw [eq3, R.out (p := p) (by omega)]; exact h2 q g3 g4
    · have hlt := R.all (P := fun x => cf x (gv L3 mid) < 0) h1 p g1 (by omega)
      have hle := C.asy _ _ (ok4 p (by omega)) (hok mid (by omega)) hlt
      rw [eq3]
      by_cases e : q = mid
      · subst e; exact hle
      · exact C.tr _ _ _ (ok4 p (by omega)) (hok mid (by omega)) (hok q (by omega)) hle (h2 q (by omega) g4)
/-- behind a partition, with its greater part sorted -/
theorem Pl.right {ok : Value → Prop} {mid : Nat} {L3 L4 : List Value} (C : COk cf ok) (hok : OkR ok L3) (P : Pl cf L3 a0 b0 a b) (ha : a0 ≤ a) (hb : b ≤ b0) (hm : a ≤ mid) (hm2 : mid < b) (hl : b ≤ L3.length)
    (h1 : ∀ p, a ≤ p → p < mid → cf (gv L3 p) (gv L3 mid) < 0) (h2 : ∀ p, mid < p → p < b → 0 ≤ cf (gv L3 p) (gv L3 mid)) (R : Rng (mid + 1) b L3 L4) (S : Srt cf (mid + 1) b L4) : Pl cf L4 a0 b0 a mid := by
  have P4 := P.rng ha hb (by omega) (R.mono (by omega) (Nat.le_refl _) hl)
  have ok4 := hok.rng R (by omega)
  have hl4 := R.len
  refine P4.dn fun p q g1 g2 g3 g4 => ?_
  by_cases hp : mid < p
  · exact S p q (by omega) g2 g4
  · have ep := R.out (p := p) (by omega)
    by_cases hq : q = mid
    · subst hq
      rw [ep, R.out (p := q) (by omega)]; exact C.asy _ _ (hok p (by omega)) (hok q (by omega)) (h1 p g1 g2)
    · have hge := R.all (P := fun x => 0 ≤ cf x (gv L3 mid)) (fun p g1 g2 => h2 p (by omega) g2) q (by omega) g4
      rw [ep]
      by_cases e : p = mid
      · subst e; exact hge
      · have hle := C.asy _ _ (hok p (by omega)) (hok mid (by omega)) (h1 p g1 (by omega))
        exact C.tr _ _ _ (hok p (by omega)) (hok mid (by omega)) (ok4 q (by omega)) hle hge
/-- behind a partition into equal ones and greater ones -/
theorem Pl.equal {ok : Value → Prop} {mid : Nat} {L3 : List Value} (C : COk cf ok) (hok : OkR ok L3) (P : Pl cf L3 a0 b0 a b) (hm : a < mid) (hm2 : mid ≤ b) (hl : b ≤ L3.length) (h0 : ∀ p, a ≤ p → p < b → 0 ≤ cf (gv L3 p) (gv L3 a))
    (h1 : ∀ p, a < p → p < mid → 0 ≤ cf (gv L3 a) (gv L3 p)) : Pl cf L3 a0 b0 mid b := by
  refine P.up fun p q g1 g2 g3 g4 => ?_
  by_cases e : p = a
  · subst e; exact h0 q (by omega) g4
  · exact C.tr _ _ _ (hok p (by omega)) (hok a (by omega)) (hok q (by omega)) (h1 p (by omega) g2) (h0 q (by omega) g4)
/-- what stands ahead of the narrower range isn't greater than what is in it -/
theorem Pl.hyp (P : Pl cf L a0 b0 a b) (H : Hyp cf L a0 b0) (ha : a0 ≤ a) (hb : b ≤ b0) : Hyp cf L a b := by
  by_cases e : a = a0
  · subst e
    rcases H with h | h
    · exact .inl h
    · exact .inr fun p h1 h2 => h p h1 (by omega)
  · exact .inr fun p h1 h2 => P.l (a - 1) p (by omega) (by omega) (by omega) (by omega)
end
section
variable {A : Option Addr} {cap n : Nat} {fn : FuncId} {cs : List Value} {cf : Value → Value → Int} {ok : Value → Prop}
theorem pdqG_ok (hs : n < 2 ^ 40) : ∀ (N : Nat) {h : Heap} {L : List Value} {a b : Nat} {limit : Int}, b - a ≤ N → Cmp Tryz.prog h A fn cs cf ok → SlAt h A cap L → n = L.length → (∀ w ∈ L, w.oneCell' = true) → OkR ok L → Hyp cf L a b → a ≤ b → b ≤ n → 0 ≤ limit → limit < 2 ^ 62 →
    CallsH Tryz.prog 170 [.slice A n cap, .int .i64 a, .int .i64 b, .int .i64 limit, .func (.func fn) #[] cs.toArray] h fun _ h' => ∃ L', Dat h A cap L a b h' L' ∧ Srt cf a b L' := by
  intro N
  induction N using Nat.strongRecOn with
  | _ N IH =>
  intro h L a b limit hN C S hn hone hok H hab hb' hl0 hl1
  subst hn
  have hb : b ≤ L.length := hb'
  refine calls_of 148 [] Go.Proofs.Tryz.func170 rfl rfl rfl ?_
  simp -implicitDefEqProofs (disch := omega) [go_sem]
  refine loopK (fun ρ h' => ρ 0 = .slice A L.length cap ∧ ρ 4 = .func (.func fn) #[] cs.toArray ∧ ∃ (a' b' : Nat) (lim : Int) (wb wp : Bool) (L' : List Value), ρ 1 = .int .i64 a' ∧ ρ 2 = .int .i64 b' ∧ ρ 3 = .int .i64 lim ∧ ρ 10 = .bool wb ∧ ρ 11 = .bool wp ∧
      a ≤ a' ∧ a' ≤ b' ∧ b' ≤ b ∧ 0 ≤ lim ∧ lim < 2 ^ 62 ∧ Dat h A cap L a b h' L' ∧ Pl cf L' a b a' b') (fun ρ _ => (intOf (ρ 2) - intOf (ρ 1)).toNat) (by kernel_rfl) ?_ ?_
  · exact ⟨rfl, rfl, a, b, limit, true, true, L, rfl, rfl, rfl, rfl, rfl, by omega, hab, by omega, hl0, hl1, Dat.refl S, Pl.start⟩
  · rintro ρ h1 ⟨r0, r4, a1, b1, lim, wb, wp, L1, r1, r2, r3, r10, r11, ha1, hab1, hb1, hm0, hm1, D, P⟩
    have hlen := D.R.len
    have C1 := C.fr D.f
    have hok1 := hok.rng D.R hb
    have hone1 := D.oneR hone
    have H1 := P.hyp (H.rng D.R) ha1 hb1
    by_cases h12 : (b1 : Int) - a1 ≤ 12
    · simp -implicitDefEqProofs (disch := omega) [go_sem, r0, r1, r2, r3, r4, r10, r11, h12]
      refine useC (insertionR_ok C1 D.S hlen.symm (by omega) hone1 hok1 hab1 (by omega)) ?_
      rintro r2' h2 ⟨L2, D2, S2⟩
      simp -implicitDefEqProofs (disch := omega) [go_sem, r0, r1, r2, r3, r4, r10, r11]
      exact ⟨L2, D.then D2 ha1 hb1 hb, (P.rng ha1 hb1 hab1 D2.R).fin S2⟩
    · by_cases hlz : lim = 0
      · simp -implicitDefEqProofs (disch := omega) [go_sem, r0, r1, r2, r3, r4, r10, r11, h12, hlz]
        refine useC (heapSort_ok C1 D.S hlen.symm (by omega) hone1 hok1 (by omega) (by omega)) ?_
        rintro r2' h2 ⟨L2, D2, S2⟩
        simp -implicitDefEqProofs (disch := omega) [go_sem, r0, r1, r2, r3, r4, r10, r11]
        exact ⟨L2, D.then D2 ha1 hb1 hb, (P.rng ha1 hb1 hab1 D2.R).fin S2⟩
      · obtain ⟨m, hm⟩ : ∃ m : Nat, (b1 : Int) - a1 = m := ⟨b1 - a1, by omega⟩
        have hmu : (intOf (ρ 2) - intOf (ρ 1)).toNat = m := by rw [r1, r2]; simp only [intOf_int]; omega
        simp -implicitDefEqProofs (disch := omega) [go_sem, r0, r1, r2, r3, r4, r10, r11, h12, hlz, hm]
        refine condCut (fun ρ h' => ρ 0 = .slice A L.length cap ∧ ρ 4 = .func (.func fn) #[] cs.toArray ∧ ρ 1 = .int .i64 a1 ∧ ρ 2 = .int .i64 b1 ∧ ρ 10 = .bool wb ∧ ρ 11 = .bool wp ∧ ρ 12 = .int .i64 m ∧ ∃ (lim : Int) (L' : List Value), ρ 3 = .int .i64 lim ∧ 0 ≤ lim ∧ lim < 2 ^ 62 ∧ Dat h A cap L a b h' L' ∧ Pl cf L' a b a1 b1) ?_ ?_
        · cases wb with
          | true =>
            simp -implicitDefEqProofs (disch := omega) [go_sem, r0, r1, r2, r3, r4, r10, r11]
            exact ⟨hm0, hm1, L1, D, P⟩
          | false =>
            simp -implicitDefEqProofs (disch := omega) [go_sem, r0, r1, r2, r3, r4, r10, r11]
            refine useC (break_ok D.S hlen.symm (by omega) hone1 (by omega) (by omega) _) ?_
            rintro r2' h2 ⟨L2, D2⟩
            simp -implicitDefEqProofs (disch := omega) [go_sem, r0, r1, r2, r3, r4, r10, r11]
            exact ⟨by omega, by omega, L2, D.then D2 ha1 hb1 hb, P.rng ha1 hb1 hab1 D2.R⟩
        · clear r0 r1 r2 r3 r4 r10 r11 D P hlen C1 hok1 hone1 H1 hlz hm0 hm1
          clear L1 lim
          rintro ρ h2 ⟨r0, r4, r1, r2, r10, r11, r12, lim, L1, r3, hm0, hm1, D, P⟩
          have hlen := D.R.len
          have C1 := C.fr D.f
          have hok1 := hok.rng D.R hb
          simp -implicitDefEqProofs (disch := omega) [go_sem, r0, r1, r2, r3, r4, r10, r11, r12]
          refine useC (choose_ok C1 D.S hlen.symm (by omega) hok1 (by omega) (by omega)) ?_
          rintro _ h3 ⟨pv, t, rfl, hpv1, hpv2, ht, f3⟩
          have D3 := D.fr0 f3
          simp -implicitDefEqProofs (disch := omega) [go_sem, r0, r1, r2, r3, r4, r10, r11, r12]
          refine condCut (fun ρ h' => ρ 0 = .slice A L.length cap ∧ ρ 4 = .func (.func fn) #[] cs.toArray ∧ ρ 1 = .int .i64 a1 ∧ ρ 2 = .int .i64 b1 ∧ ρ 3 = .int .i64 lim ∧ ρ 10 = .bool wb ∧ ρ 11 = .bool wp ∧ ρ 12 = .int .i64 m ∧ ∃ (pv t : Nat) (L' : List Value), ρ 13 = .int .i64 pv ∧ ρ 14 = .int .i64 t ∧ a1 ≤ pv ∧ pv < b1 ∧ Dat h A cap L a b h' L' ∧ Pl cf L' a b a1 b1) ?_ ?_
          · by_cases ht2 : t = 2
            · have epv : (b1 : Int) - 1 - ((pv : Int) - a1) = ((b1 - 1 - (pv - a1) : Nat) : Int) := by omega
              subst ht2
              simp -implicitDefEqProofs (disch := omega) [go_sem, r0, r1, r2, r3, r4, r10, r11, r12]
              refine useC (reverse_ok D3.S hlen.symm (by omega) (D.oneR hone) hab1 (by omega) _) ?_
              rintro r2' h4 ⟨L2, R2, S2, f4⟩
              have D2 : Dat h3 A cap L1 a1 b1 h4 L2 := ⟨R2, S2, f4⟩
              simp -implicitDefEqProofs (disch := omega) [go_sem, r0, r1, r2, r3, r4, r10, r11, r12]
              exact ⟨b1 - 1 - (pv - a1), epv, ⟨1, rfl⟩, by omega, by omega, L2, D3.then D2 ha1 hb1 hb, P.rng ha1 hb1 hab1 R2⟩
            · simp -implicitDefEqProofs (disch := omega) [go_sem, r0, r1, r2, r3, r4, r10, r11, r12, ht2]
              exact ⟨pv, rfl, ⟨t, rfl⟩, hpv1, hpv2, L1, D3, P⟩
          · clear r0 r1 r2 r3 r4 r10 r11 r12 D3 D P hlen C1 hok1 f3 hpv1 hpv2 ht
            clear L1 pv t
            rintro ρ h4 ⟨r0, r4, r1, r2, r3, r10, r11, r12, pv, t, L1, r13, r14, hpv1, hpv2, D, P⟩
            have hlen := D.R.len
            have C1 := C.fr D.f
            have hok1 := hok.rng D.R hb
            have H1 := P.hyp (H.rng D.R) ha1 hb1
            have hcs : wb = false ∨ (wb = true ∧ wp = false) ∨ (wb = true ∧ wp = true ∧ t ≠ 1) ∨ (wb = true ∧ wp = true ∧ t = 1) := by
              cases wb <;> cases wp <;> simp <;> exact (Nat.decEq t 1).em.symm
            rcases hcs with rfl | ⟨rfl, rfl⟩ | ⟨rfl, rfl, ht1⟩ | ⟨rfl, rfl, rfl⟩
            all_goals
              simp -implicitDefEqProofs (disch := omega) [go_sem, r0, r1, r2, r3, r4, r10, r11, r12, r13, r14]
            case' inr.inr.inr =>
              refine useC (partial_ok C1 D.S hlen.symm (by omega) (D.oneR hone) hok1 H1 (by omega) (by omega)) ?_
              rintro _ h5 ⟨al, L2, rfl, D2, hS⟩
              have D9 := D.then D2 ha1 hb1 hb
              have P9 := P.rng ha1 hb1 hab1 D2.R
              cases al
              case' true =>
                simp -implicitDefEqProofs (disch := omega) [go_sem, r0, r1, r2, r3, r4, r10, r11, r12, r13, r14]
                exact ⟨L2, D9, P9.fin (hS rfl)⟩
              case' false =>
                simp -implicitDefEqProofs (disch := omega) [go_sem, r0, r1, r2, r3, r4, r10, r11, r12, r13, r14]
                clear D2 hS D P
            case' inl | inr.inl | inr.inr.inl =>
              obtain ⟨L2, rfl⟩ : ∃ L2, L2 = L1 := ⟨_, rfl⟩
              obtain ⟨h5, rfl⟩ : ∃ h5, h5 = h4 := ⟨_, rfl⟩
              have D9 := D
              have P9 := P
            all_goals
              have hlen9 := D9.R.len
              have C9 := C.fr D9.f
              have hok9 := hok.rng D9.R hb
              have H9 := P9.hyp (H.rng D9.R) ha1 hb1
              refine drawK [(0, 0), (1, 0), (2, 0), (3, 0), (4, 0), (5, 0), (6, 0), (7, 0), (8, 1), (9, 0), (10, 0), (11, 0), (12, 1), (13, 3), (14, 0), (15, 0), (16, 0)] ?_
            all_goals
              obtain ⟨bk, hA, hbk, hfz, hc⟩ := D9.S.base (by omega)
              have cp := hc pv _ (gv_at (by omega))
              have op := hok9 pv (by omega)
              subst hA
              rcases Nat.eq_zero_or_pos a1 with ha0 | ha0
              case' inl =>
                have hz : ¬ (0 : Int) < a1 := by omega
                simp -implicitDefEqProofs (disch := omega) [go_sem, r0, r1, r2, r3, r4, r10, r11, r12, r13, r14, hz]
              case' inr =>
                have hz : (0 : Int) < a1 := by omega
                have cm := hc (a1 - 1) _ (gv_at (by omega))
                have om := hok9 (a1 - 1) (by omega)
                have ix : ((a1 : Int) - 1).toNat = a1 - 1 := by omega
                simp -implicitDefEqProofs (disch := omega) [go_sem, r0, r1, r2, r3, r4, r10, r11, r12, r13, r14, cp, cm, ix]
                refine useC (C9.call _ (Fr.refl _ _) _ _ om op) ?_
                rintro _ h6 ⟨rfl, f6⟩
                have D9 := D9.fr0 f6
                have C9 := C.fr D9.f
                by_cases hlt : cf (gv L2 (a1 - 1)) (gv L2 pv) < 0
                case neg =>
                  simp -implicitDefEqProofs (disch := omega) [go_sem, r0, r1, r2, r3, r4, r10, r11, r12, r13, r14, hlt]
                  refine useC (partitionEq_ok (pv := pv) C9 D9.S hlen9.symm (by omega) (D9.oneR hone) hok9 ⟨hpv1, hpv2⟩ (by omega)) ?_
                  rintro _ h7 ⟨L3, mid, rfl, D7, g1, g2, g3, g4, g5⟩
                  have D8 := D9.then D7 ha1 hb1 hb
                  have P8 := P9.rng ha1 hb1 hab1 D7.R
                  have hok8 := hok.rng D8.R hb
                  have hlen8 := D8.R.len
                  have hH : ∀ p, a1 ≤ p → p < b1 → 0 ≤ cf (gv L2 p) (gv L2 (a1 - 1)) := fun p q1 q2 => H9.elim (fun h => absurd h (by omega)) fun h => h p q1 q2
                  have hmn := D7.R.all (P := fun x => 0 ≤ cf x (gv L2 (a1 - 1))) hH
                  have h0 : ∀ p, a1 ≤ p → p < b1 → 0 ≤ cf (gv L3 p) (gv L3 a1) := fun p q1 q2 => by
                    rw [g5]
                    exact C.c.tr _ _ _ op om (hok8 p (by omega)) (by omega) (hmn p q1 q2)
                  have P10 := Pl.equal C.c hok8 P8 g1 g2 (by omega) h0 g3
                  simp -implicitDefEqProofs (disch := omega) [go_sem, r0, r1, r2, r3, r4, r10, r11, r12, r13, r14]
                  exact ⟨⟨mid, rfl, b1, rfl, by omega, g2, hb1, hm0, hm1, L3, D8, P10⟩, by omega⟩
                case' pos =>
                  simp -implicitDefEqProofs (disch := omega) [go_sem, r0, r1, r2, r3, r4, r10, r11, r12, r13, r14, hlt]
              all_goals
                refine useC (partition_ok (pv := pv) C9 D9.S hlen9.symm (by omega) (D9.oneR hone) hok9 ⟨hpv1, hpv2⟩ (by omega)) ?_
                rintro _ h7 ⟨L3, mid, al, rfl, D7, g1, g2, g3, g4⟩
                have D8 := D9.then D7 ha1 hb1 hb
                have P8 := P9.rng ha1 hb1 hab1 D7.R
                have hok8 := hok.rng D8.R hb
                have hlen8 := D8.R.len
                have e18 : (mid : Int) - a1 = ((mid - a1 : Nat) : Int) := by omega
                have e19 : (b1 : Int) - mid = ((b1 - mid : Nat) : Int) := by omega
                simp -implicitDefEqProofs (disch := omega) [go_sem, r0, r1, r2, r3, r4, r10, r11, r12, r13, r14, e18, e19]
                by_cases hlr : mid - a1 < b1 - mid
                · simp -implicitDefEqProofs (disch := omega) [go_sem, r0, r1, r2, r3, r4, r10, r11, r12, r13, r14, e18, e19, hlr]
                  refine useC (IH (mid - a1) (by omega) (Nat.le_refl _) (C.fr D8.f) D8.S hlen8.symm (D8.oneR hone) hok8 ((P8.hyp (H.rng D8.R) ha1 hb1).elim .inl fun h => .inr fun p q1 q2 => h p q1 (by omega)) g1 (by omega) hm0 hm1) ?_
                  rintro _ h8 ⟨L4, D10, S10⟩
                  simp -implicitDefEqProofs (disch := omega) [go_sem, r0, r1, r2, r3, r4, r10, r11, r12, r13, r14, e18, e19]
                  have P10 := Pl.left C.c hok8 P8 ha1 hb1 g1 g2 (by omega) g3 g4 D10.R S10
                  exact ⟨⟨mid + 1, by omega, b1, rfl, by omega, by omega, hb1, hm0, hm1, L4, D8.then D10 ha1 (by omega) hb, P10⟩, by omega⟩
                · obtain ⟨m1, hm1'⟩ : ∃ m1 : Nat, (mid : Int) + 1 = m1 := ⟨mid + 1, by omega⟩
                  obtain rfl : m1 = mid + 1 := by omega
                  simp -implicitDefEqProofs (disch := omega) [go_sem, r0, r1, r2, r3, r4, r10, r11, r12, r13, r14, e18, e19, hlr]
                  refine useC (IH (b1 - (mid + 1)) (by omega) (a := mid + 1) (b := b1) (Nat.le_refl _) (C.fr D8.f) D8.S hlen8.symm (D8.oneR hone) hok8 (.inr fun p q1 q2 => g4 p (by omega) q2) (by omega) (by omega) hm0 hm1) ?_
                  rintro _ h8 ⟨L4, D10, S10⟩
                  simp -implicitDefEqProofs (disch := omega) [go_sem, r0, r1, r2, r3, r4, r10, r11, r12, r13, r14, e18, e19]
                  have P10 := Pl.right C.c hok8 P8 ha1 hb1 g1 g2 (by omega) g3 g4 D10.R S10
                  exact ⟨⟨a1, rfl, mid, rfl, ha1, g1, by omega, hm0, hm1, L4, D8.then D10 (by omega) hb1 hb, P10⟩, by omega⟩
end
end Xe

/- Sorting in place, walked: SortFunc, of any row. -/
namespace Xe
open Go Go.Proofs
set_option maxRecDepth 16000
set_option maxHeartbeats 1000000

section
variable {A : Option Addr} {cap n : Nat} {fn : FuncId} {cs : List Value} {cf : Value → Value → Int} {ok : Value → Prop} {h : Heap} {L : List Value}
theorem sort_ok (hs : n < 2 ^ 40) (C : Cmp Tryz.prog h A fn cs cf ok) (S : SlAt h A cap L) (hn : n = L.length) (hone : ∀ w ∈ L, w.oneCell' = true) (hok : OkR ok L) :
    CallsH Tryz.prog 131 [.slice A n cap, .func (.func fn) #[] cs.toArray] h fun _ h' => ∃ L', Dat h A cap L 0 n h' L' ∧ Srt cf 0 n L' := by
  refine calls_of 14 [] Go.Proofs.Tryz.func131 rfl rfl rfl ?_
  simp -implicitDefEqProofs (disch := omega) [go_sem]
  refine useC (leng_ok hs) ?_
  rintro _ h1 ⟨⟨k, rfl, hk4, hk⟩, rfl⟩
  simp -implicitDefEqProofs (disch := omega) [go_sem]
  have e0 : ((0 : Nat) : Int) = 0 := rfl
  have c := pdqG_ok (a := 0) (b := n) (limit := k) hs n (by omega) C S hn hone hok (.inl rfl) (by omega) (by omega) (by omega) (by omega)
  rw [e0] at c
  refine useC c ?_
  rintro _ h2 ⟨L', D, hS⟩
  simp -implicitDefEqProofs (disch := omega) [go_sem]
  exact ⟨L', D, hS⟩
end
end Xe

/- The plain law of the trail: a list of steps, each a literal, its reason and its level. -/
namespace Tp

theorem nodup_le : ∀ {a b : List Nat}, a.Nodup → (∀ x, x ∈ a → x ∈ b) → a.length ≤ b.length
  | [], _, _, _ => Nat.zero_le _
  | y :: a, b, hn, hs => by
    have hy := hs y (List.mem_cons_self ..)
    rw [List.nodup_cons] at hn
    have := nodup_le (a := a) (b := b.erase y) hn.2 (fun x hx => (List.mem_erase_of_ne (fun e => hn.1 (by rw [← e]; exact hx))).2 (hs x (List.mem_cons_of_mem _ hx)))
    rw [List.length_erase_of_mem hy] at this
    have := List.length_pos_of_mem hy
    simp only [List.length_cons]; omega

structure St where
  lit : Int
  rs : Int
  lv : Nat

/-- the place of a variable -/
def find (l : List St) (v : Nat) : Option Nat := l.findIdx? (fun s => s.lit.natAbs == v)
/-- its level, its place, its reason; none: -1 -/
def LV (l : List St) (v : Nat) : Int := match find l v with
  | some k => (match l[k]? with | some s => s.lv | none => -1)
  | none => -1
def PL (l : List St) (v : Nat) : Int := match find l v with
  | some k => k
  | none => -1
def RS (l : List St) (v : Nat) : Int := match find l v with
  | some k => (match l[k]? with | some s => s.rs | none => -1)
  | none => -1

theorem find_none {l : List St} {v : Nat} (h : find l v = none) {k : Nat} {s : St} (hs : l[k]? = some s) : s.lit.natAbs ≠ v := by
  unfold find at h
  rw [List.findIdx?_eq_none_iff] at h
  have := h s (List.mem_of_getElem? hs)
  simpa using this

/-- no variable twice, each of the first so many -/
structure Good (vars : Nat) (l : List St) : Prop where
  nd : l.Pairwise fun a b => a.lit.natAbs ≠ b.lit.natAbs
  rng : ∀ s ∈ l, 1 ≤ s.lit.natAbs ∧ s.lit.natAbs ≤ vars

theorem Good.nil (vars : Nat) : Good vars [] := ⟨List.Pairwise.nil, fun _ h => (nomatch h)⟩
theorem Good.push {vars : Nat} {l : List St} (G : Good vars l) {s : St} (h : find l s.lit.natAbs = none) (h1 : 1 ≤ s.lit.natAbs) (h2 : s.lit.natAbs ≤ vars) : Good vars (l ++ [s]) := by
  refine ⟨?_, fun x hx => ?_⟩
  · rw [List.pairwise_append]
    refine ⟨G.nd, List.pairwise_singleton _ _, fun a ha b hb => ?_⟩
    rw [List.mem_singleton] at hb
    subst hb
    obtain ⟨k, hk, rfl⟩ := List.getElem_of_mem ha
    exact find_none h (List.getElem?_eq_getElem hk)
  · rw [List.mem_append, List.mem_singleton] at hx
    rcases hx with hx | rfl
    · exact G.rng x hx
    · exact ⟨h1, h2⟩
theorem Good.sub {vars : Nat} {l m : List St} (G : Good vars l) (h : m.Sublist l) : Good vars m := ⟨G.nd.sublist h, fun s hs => G.rng s (h.mem hs)⟩
theorem Good.find {vars : Nat} {l : List St} (G : Good vars l) {k : Nat} {s : St} (hs : l[k]? = some s) : find l s.lit.natAbs = some k := by
  unfold Tp.find
  obtain ⟨hk, rfl⟩ := List.getElem?_eq_some_iff.1 hs
  rw [List.findIdx?_eq_some_iff_getElem]
  refine ⟨hk, by simp, fun j hj => ?_⟩
  have := List.pairwise_iff_getElem.1 G.nd j k (by omega) hk hj
  simpa using this
theorem Good.lv {vars : Nat} {l : List St} (G : Good vars l) {k : Nat} {s : St} (hs : l[k]? = some s) : LV l s.lit.natAbs = s.lv := by
  unfold LV; rw [G.find hs]; simp only [hs]
theorem Good.pl {vars : Nat} {l : List St} (G : Good vars l) {k : Nat} {s : St} (hs : l[k]? = some s) : PL l s.lit.natAbs = k := by
  unfold PL; rw [G.find hs]
theorem Good.rs {vars : Nat} {l : List St} (G : Good vars l) {k : Nat} {s : St} (hs : l[k]? = some s) : RS l s.lit.natAbs = s.rs := by
  unfold RS; rw [G.find hs]; simp only [hs]

/-- how many variables: as many steps at most -/
theorem Good.len {vars : Nat} {l : List St} (G : Good vars l) : l.length ≤ vars := by
  have h1 : (l.map fun s => s.lit.natAbs).Nodup := by rw [List.Nodup, List.pairwise_map]; exact G.nd
  have h2 : ∀ x ∈ l.map (fun s => s.lit.natAbs), x ∈ List.range' 1 vars := by
    intro x hx
    obtain ⟨s, hs, rfl⟩ := List.mem_map.1 hx
    have := G.rng s hs
    rw [List.mem_range'_1]; omega
  have := nodup_le h1 h2
  simpa using this

/-- levels: each further one begins with a decision -/
inductive Lvs : List St → Nat → Prop
  | nil : Lvs [] 0
  | push {l : List St} {n : Nat} (x r : Int) : Lvs l n → Lvs (l ++ [⟨x, r, n⟩]) n
  | dec {l : List St} {n : Nat} (x : Int) : Lvs l n → Lvs (l ++ [⟨x, -1, n + 1⟩]) (n + 1)

theorem Lvs.le {l : List St} {n : Nat} (h : Lvs l n) : ∀ s ∈ l, s.lv ≤ n := by
  induction h with
  | nil => exact fun _ h => (nomatch h)
  | push x r _ ih =>
    intro s hs
    rw [List.mem_append, List.mem_singleton] at hs
    rcases hs with hs | rfl
    · exact ih s hs
    · exact Nat.le_refl _
  | dec x _ ih =>
    intro s hs
    rw [List.mem_append, List.mem_singleton] at hs
    rcases hs with hs | rfl
    · have := ih s hs; omega
    · exact Nat.le_refl _
theorem Lvs.len {l : List St} {n : Nat} (h : Lvs l n) : n ≤ l.length := by
  induction h with
  | nil => exact Nat.le_refl _
  | push x r _ ih => rw [List.length_append]; simp; omega
  | dec x _ ih => rw [List.length_append]; simp; omega
/-- what is left behind going back to a level -/
def cutTo (l : List St) (k : Nat) : List St := l.filter fun s => decide (s.lv ≤ k)
theorem Lvs.cut {l : List St} {n : Nat} (h : Lvs l n) : ∀ k, k ≤ n → Lvs (cutTo l k) k := by
  induction h with
  | nil => intro k hk; obtain rfl : k = 0 := by omega
           exact .nil
  | @push l n x r h ih =>
    intro k hk
    unfold cutTo
    rw [List.filter_append]
    by_cases e : n ≤ k
    · obtain rfl : k = n := by omega
      have := ih k (Nat.le_refl _)
      simp only [List.filter_cons, Nat.le_refl, decide_true, if_true, List.filter_nil]
      exact .push x r this
    · simp only [List.filter_cons, decide_eq_true_eq, if_neg e, List.filter_nil, List.append_nil]
      exact ih k (by omega)
  | @dec l n x h ih =>
    intro k hk
    unfold cutTo
    rw [List.filter_append]
    by_cases e : n + 1 ≤ k
    · obtain rfl : k = n + 1 := by omega
      have hall : l.filter (fun s => decide (s.lv ≤ n + 1)) = l.filter (fun s => decide (s.lv ≤ n)) := by
        refine List.filter_congr fun s hs => ?_
        have := h.le s hs
        rw [decide_eq_true (by omega), decide_eq_true (by omega)]
      have := ih n (Nat.le_refl _)
      rw [hall]
      simp only [List.filter_cons, Nat.le_refl, decide_true, if_true, List.filter_nil]
      exact .dec x this
    · simp only [List.filter_cons, decide_eq_true_eq, if_neg e, List.filter_nil, List.append_nil]
      exact ih k (by omega)
/-- what stands behind one that is above a level is above it, too -/
theorem Lvs.mono {l : List St} {n : Nat} (h : Lvs l n) : l.Pairwise fun a b => a.lv ≤ b.lv := by
  induction h with
  | nil => exact .nil
  | push x r h ih =>
    rw [List.pairwise_append]
    exact ⟨ih, List.pairwise_singleton _ _, fun a ha b hb => by rw [List.mem_singleton] at hb; subst hb; exact h.le a ha⟩
  | dec x h ih =>
    rw [List.pairwise_append]
    exact ⟨ih, List.pairwise_singleton _ _, fun a ha b hb => by rw [List.mem_singleton] at hb; subst hb; have := h.le a ha; simp only; omega⟩

/-- the level of the last one -/
def lastLv (l : List St) : Nat := match l.getLast? with | some s => s.lv | none => 0
theorem Lvs.last {l : List St} {n : Nat} (h : Lvs l n) : lastLv l = n := by
  cases h <;> simp [lastLv]
/-- from one to the next: the same level, or one further and a decision -/
theorem Lvs.at {l : List St} {n : Nat} (h : Lvs l n) : ∀ i s, l[i]? = some s → lastLv (l.take i) ≤ s.lv ∧ s.lv ≤ lastLv (l.take i) + 1 ∧ (lastLv (l.take i) < s.lv → s.rs = -1) := by
  induction h with
  | nil => exact fun _ _ h => (nomatch h)
  | @push l n x r h ih =>
    intro i s hs
    by_cases hi : i < l.length
    · rw [List.getElem?_append_left hi] at hs
      rw [List.take_append_of_le_length (by omega)]
      exact ih i s hs
    · rw [List.getElem?_append_right (by omega)] at hs
      have : i - l.length = 0 := by
        cases hj : i - l.length with
        | zero => rfl
        | succ j => rw [hj] at hs; cases hs
      rw [this] at hs
      simp only [List.getElem?_cons_zero, Option.some.injEq] at hs
      subst hs
      have e : i = l.length := by omega
      subst e
      rw [List.take_left' rfl, h.last]
      simp only
      omega
  | @dec l n x h ih =>
    intro i s hs
    by_cases hi : i < l.length
    · rw [List.getElem?_append_left hi] at hs
      rw [List.take_append_of_le_length (by omega)]
      exact ih i s hs
    · rw [List.getElem?_append_right (by omega)] at hs
      have : i - l.length = 0 := by
        cases hj : i - l.length with
        | zero => rfl
        | succ j => rw [hj] at hs; cases hs
      rw [this] at hs
      simp only [List.getElem?_cons_zero, Option.some.injEq] at hs
      subst hs
      have e : i = l.length := by omega
      subst e
      rw [List.take_left' rfl, h.last]
      refine ⟨?_, ?_, fun _ => rfl⟩ <;> simp only <;> omega
end Tp

/- Steps as rows of cells. -/
namespace Xe
open Go Tp

/-- integers as a row of cells -/
def ints (l : List Int) : List Value := l.map (Value.int .i64)
theorem ints_len (l : List Int) : (ints l).length = l.length := List.length_map ..
theorem ints_at {l : List Int} {i : Nat} {x : Int} (h : l[i]? = some x) : (ints l)[i]? = some (.int .i64 x) := by simp [ints, h]
theorem ints_append (l m : List Int) : ints (l ++ m) = ints l ++ ints m := by simp [ints]
theorem ints_one {l : List Int} : ∀ w ∈ ints l, w.oneCell' = true := by
  intro w hw
  obtain ⟨x, _, rfl⟩ := List.mem_map.1 hw
  rfl
def lits (l : List St) : List Int := l.map (·.lit)
end Xe

/- Go's library, walked: bits.Mul of 1, slices.Repeat of one, slices.Clone. -/
namespace Xe
open Go Go.Proofs
set_option maxRecDepth 16000

section
variable {P : Program} {t : Nat} {a : Int}

end

theorem clone_ok {h : Heap} {A : Option Addr} {cap n : Nat} {vs : List Value} (R : RowAt h A vs) (hn : n = vs.length) (hone : ∀ w ∈ vs, w.oneCell' = true) (hl : n < 2 ^ 40) :
    CallsH Tryz.prog 102 [.slice A n cap] h fun r h' => ∃ A' c', r = .slice A' n c' ∧ SlAt h' A' c' vs ∧ (∀ x, blk A' x → h.size ≤ x) ∧ Fr (fun _ => False) h h' := by
  refine calls_of 8 [.tmp 2] Go.Proofs.Tryz.func102 rfl rfl rfl ?_
  subst hn
  cases A with
  | none =>
    have hv : vs = [] := by
      rcases R with h | ⟨_, _, h, _⟩
      · exact h
      · cases h
    subst hv
    simp -implicitDefEqProofs (disch := omega) [go_sem]
    exact ⟨none, 0, ⟨rfl, rfl⟩, SlAt.nil _, fun x ⟨_, h, _⟩ => (nomatch h), Fr.refl _ _⟩
  | some a =>
    simp -implicitDefEqProofs (disch := omega) [go_sem]
    refine build0 ?_
    simp -implicitDefEqProofs (disch := omega) [go_sem]
    have f0 : Fr (fun _ => False) h (h.push (.cells #[] 3)) := (Fr.refl _ _).push
    refine appendN (vs := []) (cap := 0) (SlAt.new (vs := []) (e := 3)) rfl (R.fr0 f0) (by omega) (by omega) hone (by omega) (by omega) ?_
    intro A' c' h2 S f hA
    simp -implicitDefEqProofs (disch := omega) [go_sem]
    refine ⟨A', c', ⟨rfl, rfl⟩, ?_, fun x hx => ?_, f0.trans' f fun x hx ⟨a, ha, e⟩ => ?_⟩
    · rw [Nat.mul_one] at S; exact S
    · rcases hA x hx with ⟨a, ha, rfl⟩ | h
      · cases ha; exact Nat.le_refl _
      · rw [push_size] at h; omega
    · cases ha; simp at e; omega
end Xe

/- The walks through package trail. -/
namespace Xe
open Go Tp Go.Proofs
set_option maxRecDepth 16000

section
variable {h : Heap} {b rb sb vars cl cr cs : Nat} {A : Option Addr} {l : List St} {level : Int}

end
end Xe

/- The document's answer for layer 16, walked; a few of layer 12. -/
namespace Xe
open Go Tp Go.Proofs
set_option maxRecDepth 16000

/-- the document's variable of a literal -/
def var12 (x : Int) : Nat := if x.natAbs ≤ 16777216 then x.natAbs else 0

section
variable {h : Heap} {A : Option Addr} {l : List St} {n c : Nat}

theorem var12_ok {x : Int} (h0 : -9223372036854775808 ≤ x) (h1 : x ≤ 9223372036854775807) : CallsH Tryz.prog 81 [.int .i64 x] h fun r h' => r = .int .i64 (var12 x : Nat) ∧ h' = h := by
  refine calls_of 14 [.tmp 2] Go.Proofs.Tryz.func81 rfl rfl rfl ?_
  by_cases e1 : x < -16777216
  · have ev : var12 x = 0 := if_neg (by omega)
    simp -implicitDefEqProofs (disch := omega) [go_sem, ev]
  · by_cases e2 : 16777216 < x
    · have ev : var12 x = 0 := if_neg (by omega)
      simp -implicitDefEqProofs (disch := omega) [go_sem, ev]
    · have ev : var12 x = x.natAbs := if_pos (by omega)
      by_cases e3 : x < 0
      · simp -implicitDefEqProofs (disch := omega) [go_sem, ev]
        omega
      · simp -implicitDefEqProofs (disch := omega) [go_sem, ev]
        omega

theorem same12_ok {B : Option Addr} {a b : List Int} {m c d : Nat} (R : RowAt h A (ints a)) (S : RowAt h B (ints b)) (hn : n = a.length) (hm : m = b.length) (hs1 : n < 2 ^ 40) (hs2 : m < 2 ^ 40) :
    CallsH Tryz.prog 46 [.slice A n c, .slice B m d] h fun r h' => r = .bool (decide (a = b)) ∧ h' = h := by
  subst hn hm
  refine calls_of 26 [.tmp 4] Go.Proofs.Tryz.func46 rfl rfl rfl ?_
  by_cases hne : a.length = b.length
  · simp -implicitDefEqProofs (disch := omega) [go_sem]
    refine loopK (fun ρ h' => ρ 0 = .slice A a.length c ∧ ρ 1 = .slice B b.length d ∧ h' = h ∧ ∃ i : Nat, ρ 5 = .int .i64 i ∧ i ≤ a.length ∧ ∀ j, j < i → a[j]? = b[j]?)
      (fun ρ _ => a.length - (intOf (ρ 5)).toNat) (by kernel_rfl) ?_ ?_
    · exact ⟨rfl, rfl, rfl, 0, rfl, by omega, fun j hj => by omega⟩
    · rintro ρ h' ⟨r0, r1, rfl, i, r5, hi, hj⟩
      by_cases hin : i < a.length
      · obtain ⟨bk, off, rfl, hc⟩ := R.get (by rw [ints_len]; omega)
        obtain ⟨bk2, off2, rfl, hc2⟩ := S.get (by rw [ints_len]; omega)
        obtain ⟨x, hx⟩ : ∃ x, a[i]? = some x := ⟨_, List.getElem?_eq_getElem hin⟩
        obtain ⟨y, hy⟩ : ∃ y, b[i]? = some y := ⟨_, List.getElem?_eq_getElem (by omega)⟩
        have c0 := hc _ _ (ints_at hx)
        have c1 := hc2 _ _ (ints_at hy)
        simp -implicitDefEqProofs (disch := omega) [go_sem, r0, r1, r5]
        refine drawK [(0, 0), (1, 0), (2, 0), (3, 1), (4, 0), (5, 0), (6, 0), (7, 1), (8, 0)] ?_
        by_cases e : x = y
        · simp -implicitDefEqProofs (disch := omega) [go_sem, r0, r1, r5, c0, c1, e]
          refine ⟨⟨i + 1, by omega, by omega, fun j hj2 => ?_⟩, by omega⟩
          by_cases ej : j = i
          · subst ej; rw [hx, hy, e]
          · exact hj j (by omega)
        · have hab : ¬ a = b := fun h => by subst h; rw [hx] at hy; cases hy; exact e rfl
          simp -implicitDefEqProofs (disch := omega) [go_sem, r0, r1, r5, c0, c1, e, hab]
      · have hab : a = b := by
          apply List.ext_getElem?
          intro j
          by_cases hj2 : j < i
          · exact hj j hj2
          · rw [List.getElem?_eq_none (by omega), List.getElem?_eq_none (by omega)]
        simp -implicitDefEqProofs (disch := omega) [go_sem, r0, r1, r5, hab]
  · have hab : ¬ a = b := fun h => hne (by rw [h])
    have hne' : ¬ (a.length : Int) = b.length := by omega
    simp -implicitDefEqProofs (disch := omega) [go_sem, hab]
end
end Xe

/- Package trail, as its users see it. -/
namespace Xe
open Go Tp Go.Proofs
set_option maxRecDepth 16000

section
variable {h : Heap} {b vars level : Nat} {O : Nat → Prop} {l : List St}

end
end Xe

/- Go's library, walked: IndexFunc, ContainsFunc, Index, Compare, Or, the insertion sort, Compact. -/
namespace Xe
open Go Tp Go.Proofs
set_option maxRecDepth 16000

section
variable {h : Heap} {A : Option Addr} {l : List Int} {n c fn : Nat} {cs : List Value}

/-- of two numbers which is the lesser -/
def cmpI (x y : Int) : Int := if x < y then -1 else if y < x then 1 else 0
theorem nan_ok (x : Int) : CallsH Tryz.prog 172 [.int .i64 x] h fun r h' => r = .bool false ∧ h' = h := by
  refine calls_of 6 [.tmp 2] Go.Proofs.Tryz.func172 rfl rfl rfl ?_
  simp -implicitDefEqProofs (disch := omega) [go_sem]
theorem compare_ok (x y : Int) : CallsH Tryz.prog 134 [.int .i64 x, .int .i64 y] h fun r h' => r = .int .i64 (cmpI x y) ∧ h' = h := by
  refine calls_of 20 [.tmp 4] Go.Proofs.Tryz.func134 rfl rfl rfl ?_
  simp -implicitDefEqProofs (disch := omega) [go_sem]
  refine useC (nan_ok x) ?_
  rintro _ h' ⟨rfl, rfl⟩
  simp -implicitDefEqProofs (disch := omega) [go_sem]
  refine useC (nan_ok y) ?_
  rintro _ h2 ⟨rfl, rfl⟩
  unfold cmpI
  by_cases h1 : x < y
  · simp -implicitDefEqProofs (disch := omega) [go_sem, h1]
  · by_cases h3 : y < x
    · simp -implicitDefEqProofs (disch := omega) [go_sem, h1, h3]
    · simp -implicitDefEqProofs (disch := omega) [go_sem, h1, h3]

/-- the first that isn't 0 -/
theorem or_ok {x y : Int} (R : RowAt h A (ints [x, y])) : CallsH Tryz.prog 133 [.slice A 2 c] h fun r h' => r = .int .i64 (if x ≠ 0 then x else y) ∧ h' = h := by
  refine calls_of 18 [.tmp 2] Go.Proofs.Tryz.func133 rfl rfl rfl ?_
  obtain ⟨bk, off, rfl, hc⟩ := R.get (by rw [ints_len]; exact Nat.succ_pos 1)
  have c0 := hc 0 _ rfl
  have c1 := hc 1 _ rfl
  rw [Nat.add_zero] at c0
  simp -implicitDefEqProofs (disch := omega) [go_sem]
  refine loopK (fun ρ h' => ρ 3 = .int .i64 0 ∧ ρ 6 = .slice (some ⟨bk, off, none⟩) 2 c ∧ ρ 7 = .int .i64 2 ∧ h' = h ∧ ∃ i : Nat, ρ 8 = .int .i64 i ∧ i ≤ 2 ∧ (1 ≤ i → x = 0) ∧ (2 ≤ i → y = 0))
    (fun ρ _ => 2 - (intOf (ρ 8)).toNat) (by kernel_rfl) ?_ ?_
  · exact ⟨rfl, rfl, rfl, rfl, 0, rfl, by omega, by omega, by omega⟩
  · rintro ρ h' ⟨r3, r6, r7, rfl, i, r8, hi, hx, hy⟩
    have : i = 0 ∨ i = 1 ∨ i = 2 := by omega
    rcases this with rfl | rfl | rfl
    · by_cases e : x = 0
      · simp -implicitDefEqProofs (disch := omega) [go_sem, r3, r6, r7, r8, c0, e]
        exact ⟨1, rfl, by omega, by omega⟩
      · simp -implicitDefEqProofs (disch := omega) [go_sem, r3, r6, r7, r8, c0, e]
    · have hx0 := hx (by omega)
      by_cases e : y = 0
      · simp -implicitDefEqProofs (disch := omega) [go_sem, r3, r6, r7, r8, c1, e, hx0]
        exact ⟨2, rfl, by omega⟩
      · simp -implicitDefEqProofs (disch := omega) [go_sem, r3, r6, r7, r8, c1, e, hx0]
    · have hx0 := hx (by omega)
      have hy0 := hy (by omega)
      simp -implicitDefEqProofs (disch := omega) [go_sem, r3, r6, r7, r8, hx0, hy0]

/-! ### The insertion sort -/
def gt (L : List Int) (p : Nat) : Int := L.getD p 0
theorem gt_at {L : List Int} {p : Nat} (h : p < L.length) : L[p]? = some (gt L p) := by unfold gt; rw [List.getD_eq_getElem?_getD, List.getElem?_eq_getElem h]; rfl
theorem gt_set {L : List Int} {i p : Nat} {v : Int} (hi : i < L.length) : gt (L.set i v) p = if p = i then v else gt L p := by
  unfold gt
  rw [List.getD_eq_getElem?_getD, List.getD_eq_getElem?_getD, List.getElem?_set]
  by_cases e : p = i
  · subst e; rw [if_pos rfl, if_pos hi, if_pos rfl]; rfl
  · rw [if_neg (Ne.symm e), if_neg e]

structure CmpOk (cf : Int → Int → Int) (ok : Int → Prop) : Prop where
  le : ∀ x y, ok x → ok y → cf x y < 0 → 0 ≤ cf y x
  tr : ∀ x y z, ok x → ok y → ok z → 0 ≤ cf y x → 0 ≤ cf z y → 0 ≤ cf z x

end
end Xe

/- The plain law of cleaning a clause: sorted, each once. -/
namespace Xe

/-- the first so many, of each row of like ones the first -/
def cN (l : List Int) : Nat → List Int
  | 0 => []
  | n + 1 => if 0 < n ∧ gt l n = gt l (n - 1) then cN l n else cN l n ++ [gt l n]
theorem cN_dup {l : List Int} {n : Nat} (h0 : 0 < n) (h : gt l n = gt l (n - 1)) : cN l (n + 1) = cN l n := if_pos ⟨h0, h⟩
theorem cN_new {l : List Int} {n : Nat} (h : n = 0 ∨ gt l n ≠ gt l (n - 1)) : cN l (n + 1) = cN l n ++ [gt l n] := if_neg (fun ⟨h1, h2⟩ => h.elim (fun h => by omega) (fun h => h h2))
theorem cN_le (l : List Int) : ∀ n, (cN l n).length ≤ n
  | 0 => Nat.le_refl _
  | n + 1 => by
    have := cN_le l n
    unfold cN; split
    · omega
    · rw [List.length_append]; simp; omega
theorem cN_lt {l : List Int} {k : Nat} (h0 : 0 < k) (h : gt l k = gt l (k - 1)) : ∀ n, k < n → (cN l n).length < n
  | 0, hn => by omega
  | n + 1, hn => by
    by_cases e : n = k
    · subst e; rw [cN_dup h0 h]; have := cN_le l n; omega
    · have := cN_lt h0 h n (by omega)
      unfold cN; split
      · omega
      · rw [List.length_append]; simp; omega
theorem cN_take {l : List Int} : ∀ n, n ≤ l.length → (∀ j, 1 ≤ j → j < n → gt l j ≠ gt l (j - 1)) → cN l n = l.take n
  | 0, _, _ => by simp [cN]
  | n + 1, hn, h => by
    rw [cN_new ((Nat.eq_zero_or_pos n).imp id fun e => h n e (by omega)), cN_take n (by omega) (fun j h1 h2 => h j h1 (by omega)), List.take_add_one, gt_at (by omega)]
    rfl

/-- by variable, then by sign -/
def lexLt (x y : Int) : Prop := x.natAbs < y.natAbs ∨ (x.natAbs = y.natAbs ∧ x < y)
theorem cN_spec {l : List Int} (hs : ∀ p q, p < q → q < l.length → ¬ lexLt (gt l q) (gt l p)) : ∀ n, n ≤ l.length →
    (∀ x, x ∈ cN l n ↔ ∃ j, j < n ∧ gt l j = x) ∧ (cN l n).Pairwise lexLt
  | 0, _ => ⟨fun x => by simp [cN], List.Pairwise.nil⟩
  | n + 1, hn => by
    obtain ⟨h1, h2⟩ := cN_spec hs n (by omega)
    by_cases e : 0 < n ∧ gt l n = gt l (n - 1)
    · rw [cN_dup e.1 e.2]
      refine ⟨fun x => ?_, h2⟩
      rw [h1 x]
      constructor
      · exact fun ⟨j, hj, hx⟩ => ⟨j, by omega, hx⟩
      · rintro ⟨j, hj, rfl⟩
        by_cases ej : j = n
        · exact ⟨n - 1, by omega, by rw [ej, e.2]⟩
        · exact ⟨j, by omega, rfl⟩
    · have hnew : n = 0 ∨ gt l n ≠ gt l (n - 1) := by
        rcases Nat.eq_zero_or_pos n with h | h
        · exact .inl h
        · exact .inr fun h3 => e ⟨h, h3⟩
      rw [cN_new hnew]
      refine ⟨fun x => ?_, ?_⟩
      · rw [List.mem_append, List.mem_singleton, h1 x]
        constructor
        · rintro (⟨j, hj, hx⟩ | rfl)
          · exact ⟨j, by omega, hx⟩
          · exact ⟨n, by omega, rfl⟩
        · rintro ⟨j, hj, rfl⟩
          by_cases ej : j = n
          · exact .inr (by rw [ej])
          · exact .inl ⟨j, by omega, rfl⟩
      · rw [List.pairwise_append]
        refine ⟨h2, List.pairwise_singleton _ _, fun a ha b hb => ?_⟩
        rw [List.mem_singleton] at hb
        subst hb
        obtain ⟨j, hj, rfl⟩ := (h1 a).1 ha
        have hn0 : n ≠ 0 := by omega
        have hne := hnew.resolve_left hn0
        have g1 := hs (n - 1) n (by omega) (by omega)
        have g2 : j = n - 1 ∨ ¬ lexLt (gt l (n - 1)) (gt l j) := by
          by_cases ej : j = n - 1
          · exact .inl ej
          · exact .inr (hs j (n - 1) (by omega) (by omega))
        unfold lexLt at *
        rcases g2 with rfl | g2 <;> omega

def okL (x : Int) : Prop := 1 ≤ x.natAbs ∧ x.natAbs ≤ 16777216
instance : DecidablePred okL := fun x => by unfold okL; exact inferInstance

/-- a clean clause: of each variable one literal at most, rising -/
def Rise (l : List Int) : Prop := l.Pairwise fun a b => a.natAbs < b.natAbs
/-- from one to the next, so from each to all -/
theorem pairwise_adj {R : Int → Int → Prop} (tr : ∀ a b c, R a b → R b c → R a c) {l : List Int} (h : ∀ j, j + 1 < l.length → R (gt l j) (gt l (j + 1))) : l.Pairwise R := by
  rw [List.pairwise_iff_getElem]
  have key : ∀ d i, i + (d + 1) < l.length → R (gt l i) (gt l (i + (d + 1))) := by
    intro d
    induction d with
    | zero => exact fun i hi => h i hi
    | succ d ih => exact fun i hi => tr _ _ _ (ih i (by omega)) (h (i + (d + 1)) (by omega))
  intro i j hi hj hij
  have := key (j - i - 1) i (by omega)
  rw [show i + (j - i - 1 + 1) = j by omega] at this
  have e1 := gt_at hi
  have e2 := gt_at hj
  rw [List.getElem?_eq_getElem hi, Option.some.injEq] at e1
  rw [List.getElem?_eq_getElem hj, Option.some.injEq] at e2
  rw [e1, e2]; exact this
theorem rise_uniq : ∀ {a b : List Int}, Rise a → Rise b → (∀ x, x ∈ a ↔ x ∈ b) → a = b
  | [], [], _, _, _ => rfl
  | [], y :: b, _, _, h => absurd ((h y).2 (List.mem_cons_self ..)) List.not_mem_nil
  | x :: a, [], _, _, h => absurd ((h x).1 (List.mem_cons_self ..)) List.not_mem_nil
  | x :: a, y :: b, h1, h2, h => by
    unfold Rise at h1 h2
    rw [List.pairwise_cons] at h1 h2
    have e : x = y := by
      have hx := (h x).1 (List.mem_cons_self ..)
      have hy := (h y).2 (List.mem_cons_self ..)
      rw [List.mem_cons] at hx hy
      rcases hx with hx | hx
      · exact hx
      · rcases hy with hy | hy
        · exact hy.symm
        · have := h1.1 y hy; have := h2.1 x hx; omega
    subst e
    rw [rise_uniq h1.2 h2.2 fun z => ?_]
    have hz := h z
    rw [List.mem_cons, List.mem_cons] at hz
    constructor
    · intro hm
      rcases hz.1 (.inr hm) with rfl | h
      · have := h1.1 z hm; omega
      · exact h
    · intro hm
      rcases hz.2 (.inr hm) with rfl | h
      · have := h2.1 z hm; omega
      · exact h
end Xe

/- Go's library, walked: bits.Len, slices.SortFunc of a few, slices.Compact. -/
namespace Xe
open Go Tp Go.Proofs
set_option maxRecDepth 16000

section
variable {h : Heap} {A : Option Addr} {l : List Int} {n c fn : Nat} {cs : List Value}

theorem zerosOf_all {z w : Value} {m : Nat} (hw : w ∈ (zerosOf #[z] m).toList) : w = z := by
  unfold zerosOf at hw
  rw [Array.toList_map, List.mem_map] at hw
  obtain ⟨i, _, rfl⟩ := hw
  simp [Nat.mod_one]

/-- clearing a row of numbers -/
theorem clear_ints {bk off cap : Nat} {k : Heap → Prop} (hc : ∀ j, j < n → (hcell h ⟨bk, off + j, none⟩).isSome = true) (hf : ∀ j, hfrz h ⟨bk, j, none⟩ = false)
    (hk : ∀ h', (∀ x, x < off → hcell h' ⟨bk, x, none⟩ = hcell h ⟨bk, x, none⟩) → (∀ x, (hcell h ⟨bk, x, none⟩).isSome = true → (hcell h' ⟨bk, x, none⟩).isSome = true) → (∀ x, hfrz h' ⟨bk, x, none⟩ = false) → Fr (fun x => x = bk) h h' → k h') :
    @clearK Tryz.prog 23 (.slice (some ⟨bk, off, none⟩) n cap) ⟨h⟩ ⟨k⟩ := by
  refine .inr ⟨3, 1, 8, .int .i64 0, _, n, cap, by kernel_rfl, rfl, ?_⟩
  have hlen : (zerosOf (Value.int .i64 0).cells (n * 1)).toList.length = n := by simp [zerosOf]
  refine storeN_some (b := bk) (fun w hw => by rw [zerosOf_all hw]; rfl) (fun j hj => by rw [hlen] at hj; rw [Nat.add_zero]; exact hc j hj) hf fun h' g1 g2 g3 g4 => ?_
  rw [Nat.add_zero, hlen] at g2
  rw [Nat.add_zero] at g1
  refine hk h' (fun x hx => g2 x (.inl hx)) (fun x hx => ?_) g3 g4
  by_cases hin : x < off ∨ off + n ≤ x
  · rw [g2 x hin]; exact hx
  · have hj : x - off < (zerosOf (Value.int .i64 0).cells (n * 1)).toList.length := by omega
    have := g1 (x - off) _ (List.getElem?_eq_getElem hj)
    rw [show off + (x - off) = x by omega] at this
    rw [this]; rfl

theorem compact_ok {cap : Nat} (S : SlAt h A cap (ints l)) (hn : n = l.length) (hs : n < 2 ^ 40) :
    CallsH Tryz.prog 135 [.slice A n cap] h fun r h' => r = .slice A (cN l n).length cap ∧ SlAt h' A cap (ints (cN l n)) ∧ Fr (blk A) h h' := by
  subst hn
  refine calls_of 61 [.tmp 2] Go.Proofs.Tryz.func135 rfl rfl rfl ?_
  by_cases h2 : l.length < 2
  · have e : cN l l.length = l := by rw [cN_take _ (Nat.le_refl _) (fun j h1 h2 => by omega), List.take_length]
    simp -implicitDefEqProofs (disch := omega) [go_sem, e]
    exact ⟨S, Fr.refl _ _⟩
  simp -implicitDefEqProofs (disch := omega) [go_sem]
  obtain ⟨bk, rfl, hbk, hfz, hc⟩ := S.base (by rw [ints_len]; omega)
  have hcap := S.len
  rw [ints_len] at hcap
  refine loopK (fun ρ h' => ρ 0 = .slice (some ⟨bk, 0, none⟩) l.length cap ∧ h' = h ∧ ∃ k : Nat, ρ 3 = .int .i64 k ∧ 1 ≤ k ∧ k ≤ l.length ∧ ∀ j, 1 ≤ j → j < k → gt l j ≠ gt l (j - 1))
    (fun ρ _ => l.length - (intOf (ρ 3)).toNat) (by kernel_rfl) ?_ ?_
  · exact ⟨rfl, rfl, 1, rfl, by omega, by omega, fun j h1 h2 => by omega⟩
  · rintro ρ h' ⟨r0, rfl, k, r3, hk1, hk2, hj⟩
    by_cases hkn : k = l.length
    · have e : cN l l.length = l := by rw [cN_take _ (Nat.le_refl _) (fun j h1 h2 => hj j h1 (by omega)), List.take_length]
      simp -implicitDefEqProofs (disch := omega) [go_sem, r0, r3, e]
      exact ⟨S, Fr.refl _ _⟩
    · have c0 := hc k _ (ints_at (gt_at (by omega)))
      have c1 := hc (k - 1) _ (ints_at (gt_at (by omega)))
      have ek : ((k : Int) - 1).toNat = k - 1 := by omega
      simp -implicitDefEqProofs (disch := omega) [go_sem, r0, r3]
      refine drawK [(0, 0), (1, 0), (2, 0), (3, 1), (4, 0), (5, 0), (6, 0), (7, 0), (8, 1), (9, 0)] ?_
      by_cases hd : gt l k = gt l (k - 1)
      · simp -implicitDefEqProofs (disch := omega) [go_sem, r0, r3, c0, c1, ek, hd]
        refine loopK (fun ρ h2 => ρ 0 = .slice (some ⟨bk, 0, none⟩) l.length cap ∧ ρ 4 = .slice (some ⟨bk, k, none⟩) (l.length - k) (cap - k) ∧ ∃ (k2 i : Nat) (M : List Int), ρ 5 = .int .i64 k2 ∧ ρ 3 = .int .i64 i ∧ 1 ≤ k2 ∧ k + k2 ≤ l.length ∧
            i = (cN l (k + k2)).length ∧ M.length = l.length ∧ (∀ j, j < i → gt M j = gt (cN l (k + k2)) j) ∧ (∀ j, k + k2 - 1 ≤ j → gt M j = gt l j) ∧ SlAt h2 (some ⟨bk, 0, none⟩) cap (ints M) ∧ Fr (blk (some ⟨bk, 0, none⟩)) h' h2)
          (fun ρ _ => l.length - (intOf (ρ 5)).toNat) (by kernel_rfl) ?_ ?_
        · have e1 : cN l k = l.take k := cN_take _ hk2 hj
          have e2 : cN l (k + 1) = l.take k := by rw [cN_dup (by omega) hd, e1]
          refine ⟨r0, rfl, 1, k, l, rfl, r3, by omega, by omega, ?_, rfl, fun j hj2 => ?_, fun j _ => rfl, S, Fr.refl _ _⟩
          · rw [e2, List.length_take]; omega
          · rw [e2]
            unfold gt
            rw [List.getD_eq_getElem?_getD, List.getD_eq_getElem?_getD, List.getElem?_take, if_pos hj2]
        · clear r0 r3 c0 c1
          rintro ρ h3 ⟨r0, r4, k2, i, M, r5, r3, hk21, hk22, hi, hM, hA, hB, S3, f3⟩
          have hilt := cN_lt (by omega) hd (k + k2) (by omega)
          obtain ⟨bk', hbk', _, hfz3, hc3⟩ := S3.base (by rw [ints_len]; omega)
          cases hbk'
          by_cases hend : k + k2 = l.length
          · rw [hend] at hi hA hilt
            have hil : i < l.length := by omega
            simp -implicitDefEqProofs (disch := omega) [go_sem, r0, r3, r4, r5]
            refine clear_ints (n := l.length - i) (fun j hj => ?_) hfz3 fun h4 g1 g2 g3 g4 => ?_
            · rw [hc3 (i + j) _ (ints_at (gt_at (by omega)))]; rfl
            · simp -implicitDefEqProofs (disch := omega) [go_sem, r0, r3, r4, r5]
              refine ⟨hi, ⟨by rw [ints_len]; omega, .inr ⟨bk, rfl, Nat.lt_of_lt_of_le (S3.blk_lt ⟨_, rfl, rfl⟩) g4.size, g3, fun j hj => ?_, fun j v hv => ?_⟩⟩, f3.trans (g4.mono fun x _ hx => ⟨_, rfl, hx.symm⟩)⟩
              · refine g2 j ?_
                rcases S3.at' with ⟨h, _⟩ | ⟨bk2, h, _, _, hs3, _⟩
                · cases h
                · cases h; exact hs3 j hj
              · have hjl := (List.getElem?_eq_some_iff.1 hv).1
                rw [ints_len, ← hi] at hjl
                rw [g1 j hjl, hc3 j _ (ints_at (gt_at (by omega))), hA j hjl, ← hv, ints_at (gt_at (by omega))]
          · have c0 := hc3 (k + k2) _ (ints_at (gt_at (by omega)))
            have c1 := hc3 (k + (k2 - 1)) _ (ints_at (gt_at (by omega)))
            rw [hB _ (by omega)] at c0
            rw [hB _ (by omega)] at c1
            have ek2 : ((k2 : Int) - 1).toNat = k2 - 1 := by omega
            have epp : k + k2 - 1 = k + (k2 - 1) := by omega
            simp -implicitDefEqProofs (disch := omega) [go_sem, r0, r3, r4, r5]
            refine drawK [(0, 0), (1, 0), (2, 0), (3, 1), (4, 0), (5, 0), (6, 0), (7, 0), (8, 1), (9, 0)] ?_
            by_cases hne : gt l (k + k2) = gt l (k + (k2 - 1))
            · simp -implicitDefEqProofs (disch := omega) [go_sem, r0, r3, r4, r5, c0, c1, ek2, hne]
              have ed : cN l (k + (k2 + 1)) = cN l (k + k2) := cN_dup (n := k + k2) (by omega) (by rw [epp]; exact hne)
              refine ⟨⟨k2 + 1, by omega, i, rfl, by omega, by omega, by rw [ed]; exact hi, M, hM, fun j hj2 => by rw [ed]; exact hA j hj2, fun j hj2 => hB j (by omega), S3, f3⟩, by omega⟩
            · have ci := hc3 i _ (ints_at (gt_at (by omega)))
              simp -implicitDefEqProofs (disch := omega) [go_sem, r0, r3, r4, r5, c0, c1, ek2, hne, hfz3, ci]
              have ed : cN l (k + (k2 + 1)) = cN l (k + k2) ++ [gt l (k + k2)] := cN_new (n := k + k2) (.inr (by rw [epp]; exact hne))
              have S4 := S3.set (i := i) (by rw [ints_len]; omega) (.int .i64 (gt l (k + k2)))
              have e4 : (ints M).set i (.int .i64 (gt l (k + k2))) = ints (M.set i (gt l (k + k2))) := by unfold ints; rw [List.map_set]
              rw [e4] at S4
              refine ⟨⟨k2 + 1, by omega, i + 1, by omega, by omega, by omega, by rw [ed, List.length_append, ← hi]; rfl, M.set i (gt l (k + k2)), by rw [List.length_set]; exact hM, fun j hj2 => ?_, fun j hj2 => ?_, S4, ?_⟩, by omega⟩
              · rw [gt_set (by omega), ed]
                by_cases ej : j = i
                · subst ej
                  rw [if_pos rfl]
                  unfold gt
                  rw [List.getD_eq_getElem?_getD (l := _ ++ _), List.getElem?_append_right (by omega), hi]
                  simp
                · rw [if_neg ej, hA j (by omega)]
                  unfold gt
                  rw [List.getD_eq_getElem?_getD, List.getD_eq_getElem?_getD, List.getElem?_append_left (by omega)]
              · rw [gt_set (by omega), if_neg (by omega)]
                exact hB j (by omega)
              · exact f3.set (ad := ⟨bk, i, none⟩) ⟨⟨bk, 0, none⟩, rfl, rfl⟩
      · simp -implicitDefEqProofs (disch := omega) [go_sem, r0, r3, c0, c1, ek, hd]
        refine ⟨⟨k + 1, by omega, by omega, by omega, fun j h1 h2 => ?_⟩, by omega⟩
        by_cases e : j = k
        · subst e; exact hd
        · exact hj j h1 (by omega)
end
end Xe

/- Package trail, as its users see it: what changes it. -/
namespace Xe
open Go Tp Go.Proofs
set_option maxRecDepth 16000

section
variable {h : Heap} {b vars level : Nat} {O : Nat → Prop} {l : List St}

end
end Xe

/- Trail's truths; the document's Push and Back. -/
namespace Xe
open Go Tp Go.Proofs
set_option maxRecDepth 16000

/-- append of a fresh slice's cells to one's own -/
theorem appendO {h0 h : Heap} {e : TypeId} {sz bt : Nat} {z : Value} {A : Option Addr} {cap n : Nat} {vs ws : List Value} {k : Value → Heap → Prop} (S : SlAt h A (cap * sz) vs) (own : ∀ x, blk A x → h0.size ≤ x) (fr : Fr (fun _ => False) h0 h)
    (hn : n * sz = vs.length) (hw : ws.length = sz) (hs : 0 < sz) (hone : ∀ w ∈ ws, w.oneCell' = true) (hlen : (n + 1) * bt ≤ 2 ^ 47) (hlm : n + 1 < 2 ^ 50)
    (hk : ∀ A' cap' h', SlAt h' A' (cap' * sz) (vs ++ ws) → (∀ x, blk A' x → h0.size ≤ x) → Fr (fun _ => False) h0 h' → Fr (blk A) h h' → k (.slice A' (n + 1) cap') h') :
    @appendK (some (e, sz, bt, z)) (.slice A n cap) (.slice (some ⟨h.size, 0, none⟩) 1 1) ⟨h.push (.cells ws.toArray e)⟩ ⟨k⟩ := by
  have f1 : Fr (fun _ => False) h (h.push (.cells ws.toArray e)) := (Fr.refl _ _).push
  refine appendN (S.fr f1 fun _ _ => id) hn (SlAt.new (vs := ws) (e := e)).row (by omega) hs hone hlen hlm ?_
  intro A' c' h' S' f hA
  have z := fr.size
  refine hk A' c' h' S' (fun x hx => ?_) ?_ ((f1.mono fun _ _ h => h.elim).trans f)
  · rcases hA x hx with h | h
    · exact own x h
    · rw [push_size] at h; omega
  · exact (fr.trans f1).trans' f fun x hx hb => by have := own x hb; omega

section
variable {h : Heap} {b vars level : Nat} {O : Nat → Prop} {l : List St}

end
end Xe
