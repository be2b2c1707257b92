/- Sorting in place, walked: partial insertion. -/
import Derived.Test.YtgebeiaffjpcaaaGreatDoorSP5
import Derived.Test.YtgebeiaffjpcaaaGreatDoorSOb
namespace Xe
open Go Go.Proofs
set_option maxRecDepth 16000
set_option maxHeartbeats 1000000

/-- two arms that meet at the end of a block -/
theorem condCutQ {P : Program} {n : Nat} {v : Value} {a b : Code} {Q : Exit → Env → Heap → Prop} {ρ : Env} {h : Heap} (M : Env → Heap → Prop)
    (h1 : @condK v ⟨wpX P n a (thenX M Q) ρ h⟩ ⟨wpX P n b (thenX M Q) ρ h⟩) (h2 : ∀ ρ h, M ρ h → Q .normal ρ h) : @condK v ⟨wpX P n a Q ρ h⟩ ⟨wpX P n b Q ρ h⟩ := by
  have key : ∀ e ρ h, thenX M Q e ρ h → Q e ρ h := fun e ρ h he => by cases e <;> first | exact h2 _ _ he | exact he
  unfold condK condX at *
  split at h1
  · exact wpX_mono _ key h1
  · exact wpX_mono _ key h1
  · exact h1

/-- what stands ahead of a range is not greater than what is in it -/
def Hyp (cf : Value → Value → Int) (L : List Value) (a b : Nat) : Prop := a = 0 ∨ ∀ p, a ≤ p → p < b → 0 ≤ cf (gv L p) (gv L (a - 1))
theorem Hyp.rng {cf : Value → Value → Int} {L L' : List Value} {a b : Nat} (H : Hyp cf L a b) (R : Rng a b L L') : Hyp cf L' a b := by
  rcases H with h | h
  · exact .inl h
  · by_cases h0 : a = 0
    · exact .inl h0
    · refine .inr fun p h1 h2 => ?_
      rw [R.out (p := a - 1) (by omega)]
      exact R.all (P := fun x => 0 ≤ cf x (gv L (a - 1))) h p h1 h2
section
variable {h : Heap} {A : Option Addr} {cap : Nat} {fn : FuncId} {cs : List Value} {cf : Value → Value → Int} {ok : Value → Prop} {L : List Value} {n a b : Nat}
theorem partial_ok (C : Cmp Tryz.prog h A fn cs cf ok) (S : SlAt h A cap L) (hn : n = L.length) (hs : n < 2 ^ 40) (hone : ∀ w ∈ L, w.oneCell' = true) (hok : OkR ok L) (H : Hyp cf L a b) (hab : a < b) (hb' : b ≤ n) :
    CallsH Tryz.prog 207 [.slice A n cap, .int .i64 a, .int .i64 b, .func (.func fn) #[] cs.toArray] h fun r h' => ∃ al L', r = .bool al ∧ Dat h A cap L a b h' L' ∧ (al = true → Srt cf a b L') := by
  subst hn
  have hb : b ≤ L.length := hb'
  refine calls_of 141 [.tmp 8] Go.Proofs.Tryz.func207 rfl rfl rfl ?_
  obtain ⟨bk, hA0, hbk, _, _⟩ := S.base (by omega)
  subst hA0
  simp -implicitDefEqProofs (disch := omega) [go_sem]
  refine loopK (fun ρ h' => ρ 0 = .slice (some ⟨bk, 0, none⟩) L.length cap ∧ ρ 1 = .int .i64 a ∧ ρ 2 = .int .i64 b ∧ ρ 3 = .func (.func fn) #[] cs.toArray ∧
      ∃ (i k : Nat) (L' : List Value), ρ 9 = .int .i64 i ∧ ρ 10 = .int .i64 k ∧ k ≤ 5 ∧ a + 1 ≤ i ∧ i ≤ b ∧ Dat h (some ⟨bk, 0, none⟩) cap L a b h' L' ∧ Srt cf a i L')
    (fun ρ _ => 5 - (intOf (ρ 10)).toNat) (by kernel_rfl) ?_ ?_
  · exact ⟨rfl, rfl, rfl, rfl, a + 1, 0, L, rfl, rfl, by omega, by omega, by omega, Dat.refl S, fun p q h0 h1 h2 => by omega⟩
  · rintro ρ h1 ⟨r0, r1, r2, r3, i, k, L1, r9, r10, hk, hi, hib, D, hO⟩
    by_cases hk5 : k < 5
    · simp -implicitDefEqProofs (disch := omega) [↓ stop_block (id := 2), go_sem, r0, r1, r2, r3, r9, r10]
      have hr10 : (intOf (ρ 10)).toNat = k := by rw [r10]; rfl
      refine cutK (fun ρ h' => ρ 0 = .slice (some ⟨bk, 0, none⟩) L.length cap ∧ ρ 1 = .int .i64 a ∧ ρ 2 = .int .i64 b ∧ ρ 3 = .func (.func fn) #[] cs.toArray ∧ ρ 10 = .int .i64 k ∧
        ∃ (i : Nat) (L' : List Value), ρ 9 = .int .i64 i ∧ a + 1 ≤ i ∧ i ≤ b ∧ Dat h (some ⟨bk, 0, none⟩) cap L a b h' L' ∧ Srt cf a i L' ∧ (i < b → cf (gv L' i) (gv L' (i - 1)) < 0)) ?_ ?_
      · simp -implicitDefEqProofs (disch := omega) [go_sem]
        refine loopK (fun ρ h' => ρ 0 = .slice (some ⟨bk, 0, none⟩) L.length cap ∧ ρ 1 = .int .i64 a ∧ ρ 2 = .int .i64 b ∧ ρ 3 = .func (.func fn) #[] cs.toArray ∧ ρ 10 = .int .i64 k ∧
          ∃ (i : Nat) (L' : List Value), ρ 9 = .int .i64 i ∧ a + 1 ≤ i ∧ i ≤ b ∧ Dat h (some ⟨bk, 0, none⟩) cap L a b h' L' ∧ Srt cf a i L') (fun ρ _ => b - (intOf (ρ 9)).toNat) (by kernel_rfl) ?_ ?_
        · exact ⟨r0, r1, r2, r3, r10, i, L1, r9, hi, hib, D, hO⟩
        · clear r0 r1 r2 r3 r9 r10 hi hib D hO
          clear i L1
          rintro ρ h2 ⟨r0, r1, r2, r3, r10, i, L1, r9, hi, hib, D, hO⟩
          have hlen := D.R.len
          simp -implicitDefEqProofs (disch := omega) [go_sem, r0, r1, r2, r3, r9, r10]
          refine drawK [(0, 0), (1, 0), (2, 0), (3, 0), (4, 0), (5, 0), (6, 0), (7, 0), (8, 1), (9, 0), (10, 0), (11, 0), (12, 0), (13, 1), (14, 3), (15, 0), (16, 0), (17, 0)] ?_
          by_cases hin : i < b
          · obtain ⟨bk', hA, _, hfz, hc⟩ := D.S.base (by omega)
            cases hA
            have c0 := hc i _ (gv_at (by omega))
            have c1 := hc (i - 1) _ (gv_at (by omega))
            have ej : ((i : Int) - 1).toNat = i - 1 := by omega
            have o0 := hok.rng D.R hb i (by omega)
            have o1 := hok.rng D.R hb (i - 1) (by omega)
            simp -implicitDefEqProofs (disch := omega) [go_sem, r0, r1, r2, r3, r9, r10, c0, c1, ej]
            refine useC (C.call h2 D.f _ _ o0 o1) ?_
            rintro _ h3 ⟨rfl, f3⟩
            have D3 := D.fr0 f3
            by_cases hlt : cf (gv L1 i) (gv L1 (i - 1)) < 0
            · simp -implicitDefEqProofs (disch := omega) [go_sem, r0, r1, r2, r3, r9, r10, hlt]
              exact ⟨i, rfl, by omega, by omega, L1, D3, hO, fun _ => hlt⟩
            · simp -implicitDefEqProofs (disch := omega) [go_sem, r0, r1, r2, r3, r9, r10, hlt]
              refine ⟨⟨i + 1, by omega, by omega, by omega, L1, D3, fun p q h0 h1 h2 => ?_⟩, by omega⟩
              by_cases eq : q = i
              · subst eq
                by_cases ep : p = q - 1
                · subst ep; unfold Le; omega
                · exact C.c.tr _ _ _ (hok.rng D.R hb p (by omega)) o1 o0 (hO p (q - 1) h0 (by omega) (by omega)) (by omega)
              · exact hO p q h0 h1 (by omega)
          · simp -implicitDefEqProofs (disch := omega) [go_sem, r0, r1, r2, r3, r9, r10, hin]
            exact ⟨i, rfl, by omega, by omega, L1, D, hO, fun h => absurd h hin⟩
      · clear r0 r1 r2 r3 r9 r10 hi hib D hO
        clear i L1
        rintro ρ h2 ⟨r0, r1, r2, r3, r10, i, L1, r9, hi, hib, D, hO, hlt⟩
        have hlen := D.R.len
        by_cases hin : i = b
        · subst hin
          simp -implicitDefEqProofs (disch := omega) [go_sem, r0, r1, r2, r3, r9, r10]
          exact ⟨L1, D, hO⟩
        · by_cases h50 : (b : Int) - a < 50
          · simp -implicitDefEqProofs (disch := omega) [go_sem, r0, r1, r2, r3, r9, r10, h50]
            exact ⟨L1, D⟩
          · obtain ⟨bk', hA, _, hfz, hc⟩ := D.S.base (by omega)
            cases hA
            have c0 := hc i _ (gv_at (by omega))
            have c1 := hc (i - 1) _ (gv_at (by omega))
            have ej : ((i : Int) - 1).toNat = i - 1 := by omega
            have w0 := store_one (D.one hone (p := i) (by omega))
            have w1 := store_one (D.one hone (p := i - 1) (by omega))
            have ne1 : ¬ i - 1 = i := by omega
            simp -implicitDefEqProofs (disch := omega) [go_sem, r0, r1, r2, r3, r9, r10, h50]
            refine drawK [(0, 0), (1, 0), (2, 0), (3, 0), (4, 0), (5, 0), (6, 0), (7, 0), (8, 0), (9, 1), (10, 0), (11, 0), (12, 0), (13, 1), (14, 0), (15, 3), (16, 0), (17, 3)] ?_
            simp -implicitDefEqProofs (disch := omega) [go_sem, r0, r1, r2, r3, r9, r10, c0, c1, ej, hfz, ne1, w0, w1]
            have D4 := D.swp (i := i) (j := i - 1) ⟨by omega, by omega⟩ ⟨by omega, by omega⟩ hb
            refine condCut (fun ρ h' => ρ 0 = .slice (some ⟨bk, 0, none⟩) L.length cap ∧ ρ 1 = .int .i64 a ∧ ρ 2 = .int .i64 b ∧ ρ 3 = .func (.func fn) #[] cs.toArray ∧ ρ 10 = .int .i64 k ∧ ρ 9 = .int .i64 i ∧ ∃ L' : List Value, Dat h (some ⟨bk, 0, none⟩) cap L a b h' L' ∧ Srt cf a i L') ?_ ?_
            · by_cases h2i : (2 : Int) ≤ i - a
              · simp -implicitDefEqProofs (disch := omega) [go_sem, r9, h2i]
                refine loopK (fun ρ h' => ρ 0 = .slice (some ⟨bk, 0, none⟩) L.length cap ∧ ρ 1 = .int .i64 a ∧ ρ 2 = .int .i64 b ∧ ρ 3 = .func (.func fn) #[] cs.toArray ∧ ρ 10 = .int .i64 k ∧ ρ 9 = .int .i64 i ∧
                  ∃ (j : Nat) (L' : List Value), ρ 11 = .int .i64 j ∧ a ≤ j ∧ j < i ∧ Dat h (some ⟨bk, 0, none⟩) cap L a b h' L' ∧ ∀ p q, a ≤ p → p < q → q < i → q ≠ j → 0 ≤ cf (gv L' q) (gv L' p)) (fun ρ _ => (intOf (ρ 11)).toNat) (by kernel_rfl) ?_ ?_
                · have e1 : (i : Int) - 1 = ((i - 1 : Nat) : Int) := by omega
                  refine ⟨by simp -implicitDefEqProofs [go_sem, r0], by simp -implicitDefEqProofs [go_sem, r1], by simp -implicitDefEqProofs [go_sem, r2], by simp -implicitDefEqProofs [go_sem, r3], by simp -implicitDefEqProofs [go_sem, r10], by simp -implicitDefEqProofs [go_sem, r9], i - 1, _, by simp -implicitDefEqProofs [go_sem, e1], by omega, by omega, D4, fun p q h0 h1 h2 h3 => ?_⟩
                  have hg := gv_swp (L := L1) (i := i) (j := i - 1) (by omega) (by omega)
                  rw [hg, hg, if_neg h3, if_neg (by omega), if_neg (by omega), if_neg (by omega)]
                  exact hO p q h0 h1 h2
                · clear r0 r1 r2 r3 r9 r10 D4 c0 c1 w0 w1 hc hfz D hlen hlt hO ne1 ej
                  clear L1
                  rintro ρ h4 ⟨r0, r1, r2, r3, r10, r9, j, L1, r11, hj1, hj2, D, hO⟩
                  have hlen := D.R.len
                  by_cases hj0 : j = 0
                  · subst hj0
                    simp -implicitDefEqProofs (disch := omega) [go_sem, r0, r1, r2, r3, r9, r10, r11]
                    exact ⟨L1, D, fun p q h0 h1 h2 => hO p q h0 h1 h2 (by omega)⟩
                  · obtain ⟨bk', hA, _, hfz, hc⟩ := D.S.base (by omega)
                    cases hA
                    have c0 := hc j _ (gv_at (by omega))
                    have c1 := hc (j - 1) _ (gv_at (by omega))
                    have ej : ((j : Int) - 1).toNat = j - 1 := by omega
                    have o0 := hok.rng D.R hb j (by omega)
                    have o1 := hok.rng D.R hb (j - 1) (by omega)
                    simp -implicitDefEqProofs (disch := omega) [go_sem, r0, r1, r2, r3, r9, r10, r11]
                    refine drawK [(0, 0), (1, 0), (2, 0), (3, 0), (4, 1), (5, 0), (6, 0), (7, 0), (8, 0), (9, 1), (10, 3), (11, 0), (12, 0)] ?_
                    simp -implicitDefEqProofs (disch := omega) [go_sem, r0, r1, r2, r3, r9, r10, r11, c0, c1, ej]
                    refine useC (C.call h4 D.f _ _ o0 o1) ?_
                    rintro _ h5 ⟨rfl, f5⟩
                    have D5 := D.fr0 f5
                    by_cases hlt : cf (gv L1 j) (gv L1 (j - 1)) < 0
                    · have hja : a < j := by
                        rcases Nat.lt_or_ge a j with h | h
                        · exact h
                        · exfalso
                          have e : j = a := by omega
                          subst e
                          rcases H.rng D.R with h | h
                          · omega
                          · have := h j (by omega) (by omega); omega
                      have w0 := store_one (D.one hone (p := j) (by omega))
                      have w1 := store_one (D.one hone (p := j - 1) (by omega))
                      have c03 := (f5.cell (o := j) (hcell_lt c0) id).trans c0
                      have c13 := (f5.cell (o := j - 1) (hcell_lt c0) id).trans c1
                      have hfz3 : ∀ o, hfrz h5 ⟨bk, o, none⟩ = false := fun o => (f5.frz (hcell_lt c0) id).trans (hfz o)
                      have ne1 : ¬ j - 1 = j := by omega
                      simp -implicitDefEqProofs (disch := omega) [go_sem, r0, r1, r2, r3, r9, r10, r11]
                      refine drawK [(0, 0), (1, 0), (2, 0), (3, 0), (4, 0), (5, 0), (6, 0), (7, 0), (8, 0), (9, 1), (10, 0), (11, 0), (12, 0), (13, 1), (14, 0), (15, 3), (16, 0), (17, 3)] ?_
                      simp -implicitDefEqProofs (disch := omega) [go_sem, r0, r1, r2, r3, r9, r10, r11, c03, c13, ej, hfz3, ne1, w0, w1]
                      have D6 := D5.swp (i := j) (j := j - 1) ⟨by omega, by omega⟩ ⟨by omega, by omega⟩ hb
                      refine ⟨⟨j - 1, by omega, by omega, by omega, _, D6, fun p q h0 h1 h2 h3 => ?_⟩, by omega⟩
                      have hg := gv_swp (L := L1) (i := j) (j := j - 1) (by omega) (by omega)
                      rw [hg, hg]
                      by_cases eq : q = j
                      · subst eq
                        rw [if_neg (by omega), if_pos rfl]
                        by_cases ep : p = q - 1
                        · rw [if_pos ep]; exact C.c.asy _ _ o0 o1 hlt
                        · rw [if_neg ep, if_neg (by omega)]; exact hO p (q - 1) h0 (by omega) (by omega) (by omega)
                      · rw [if_neg h3, if_neg eq]
                        by_cases ep : p = j - 1
                        · rw [if_pos ep]; exact hO j q (by omega) (by omega) h2 eq
                        · rw [if_neg ep]
                          by_cases ep2 : p = j
                          · rw [if_pos ep2]; exact hO (j - 1) q (by omega) (by omega) h2 eq
                          · rw [if_neg ep2]; exact hO p q h0 h1 h2 eq
                    · simp -implicitDefEqProofs (disch := omega) [go_sem, r0, r1, r2, r3, r9, r10, r11]
                      refine ⟨L1, D5, fun p q h0 h1 h2 => ?_⟩
                      by_cases eq : q = j
                      · subst eq
                        by_cases ep : p = q - 1
                        · subst ep; unfold Le; omega
                        · exact C.c.tr _ _ _ (hok.rng D.R hb p (by omega)) o1 o0 (hO p (q - 1) h0 (by omega) (by omega) (by omega)) (by omega)
                      · exact hO p q h0 h1 h2 eq
              · simp -implicitDefEqProofs (disch := omega) [go_sem, r0, r1, r2, r3, r9, r10, h2i]
                exact ⟨_, D4, fun p q h0 h1 h2 => by omega⟩
            · clear r0 r1 r2 r3 r9 r10 D4 c0 c1 w0 w1 hc hfz D hlen hlt hO ne1 ej
              clear L1
              rintro ρ h4 ⟨r0, r1, r2, r3, r10, r9, L1, D, hO⟩
              have hlen := D.R.len
              simp -implicitDefEqProofs (disch := omega) [go_sem, r0, r1, r2, r3, r9, r10]
              refine condCutQ (fun ρ h' => ρ 0 = .slice (some ⟨bk, 0, none⟩) L.length cap ∧ ρ 1 = .int .i64 a ∧ ρ 2 = .int .i64 b ∧ ρ 3 = .func (.func fn) #[] cs.toArray ∧ ρ 10 = .int .i64 k ∧ ρ 9 = .int .i64 i ∧ ∃ L' : List Value, Dat h (some ⟨bk, 0, none⟩) cap L a b h' L' ∧ Srt cf a i L') ?_ ?_
              · by_cases h2b : (2 : Int) ≤ b - i
                · simp -implicitDefEqProofs (disch := omega) [go_sem, r9, h2b]
                  refine loopK (fun ρ h' => ρ 0 = .slice (some ⟨bk, 0, none⟩) L.length cap ∧ ρ 1 = .int .i64 a ∧ ρ 2 = .int .i64 b ∧ ρ 3 = .func (.func fn) #[] cs.toArray ∧ ρ 10 = .int .i64 k ∧ ρ 9 = .int .i64 i ∧
                    ∃ (j : Nat) (L' : List Value), ρ 12 = .int .i64 j ∧ i < j ∧ j ≤ b ∧ Dat h (some ⟨bk, 0, none⟩) cap L a b h' L' ∧ Srt cf a i L') (fun ρ _ => b - (intOf (ρ 12)).toNat) (by kernel_rfl) ?_ ?_
                  · skip
                    exact ⟨by simp -implicitDefEqProofs [go_sem, r0], by simp -implicitDefEqProofs [go_sem, r1], by simp -implicitDefEqProofs [go_sem, r2], by simp -implicitDefEqProofs [go_sem, r3], by simp -implicitDefEqProofs [go_sem, r10], by simp -implicitDefEqProofs [go_sem, r9], i + 1, L1, by simp -implicitDefEqProofs [go_sem], by omega, by omega, D, hO⟩
                  · clear r0 r1 r2 r3 r9 r10 D hlen hO
                    clear L1
                    rintro ρ h4 ⟨r0, r1, r2, r3, r10, r9, j, L1, r12, hj1, hj2, D, hO⟩
                    have hlen := D.R.len
                    by_cases hjb : j < b
                    · obtain ⟨bk', hA, _, hfz, hc⟩ := D.S.base (by omega)
                      cases hA
                      have c0 := hc j _ (gv_at (by omega))
                      have c1 := hc (j - 1) _ (gv_at (by omega))
                      have ej : ((j : Int) - 1).toNat = j - 1 := by omega
                      have o0 := hok.rng D.R hb j (by omega)
                      have o1 := hok.rng D.R hb (j - 1) (by omega)
                      simp -implicitDefEqProofs (disch := omega) [go_sem, r0, r1, r2, r3, r9, r10, r12]
                      refine drawK [(0, 0), (1, 0), (2, 0), (3, 0), (4, 1), (5, 0), (6, 0), (7, 0), (8, 0), (9, 1), (10, 3), (11, 0), (12, 0)] ?_
                      simp -implicitDefEqProofs (disch := omega) [go_sem, r0, r1, r2, r3, r9, r10, r12, c0, c1, ej]
                      refine useC (C.call h4 D.f _ _ o0 o1) ?_
                      rintro _ h5 ⟨rfl, f5⟩
                      have D5 := D.fr0 f5
                      by_cases hlt : cf (gv L1 j) (gv L1 (j - 1)) < 0
                      · have w0 := store_one (D.one hone (p := j) (by omega))
                        have w1 := store_one (D.one hone (p := j - 1) (by omega))
                        have c03 := (f5.cell (o := j) (hcell_lt c0) id).trans c0
                        have c13 := (f5.cell (o := j - 1) (hcell_lt c0) id).trans c1
                        have hfz3 : ∀ o, hfrz h5 ⟨bk, o, none⟩ = false := fun o => (f5.frz (hcell_lt c0) id).trans (hfz o)
                        have ne1 : ¬ j - 1 = j := by omega
                        simp -implicitDefEqProofs (disch := omega) [go_sem, r0, r1, r2, r3, r9, r10, r12]
                        refine drawK [(0, 0), (1, 0), (2, 0), (3, 0), (4, 0), (5, 0), (6, 0), (7, 0), (8, 0), (9, 1), (10, 0), (11, 0), (12, 0), (13, 1), (14, 0), (15, 3), (16, 0), (17, 3)] ?_
                        simp -implicitDefEqProofs (disch := omega) [go_sem, r0, r1, r2, r3, r9, r10, r12, c03, c13, ej, hfz3, ne1, w0, w1]
                        have D6 := D5.swp (i := j) (j := j - 1) ⟨by omega, by omega⟩ ⟨by omega, by omega⟩ hb
                        refine ⟨⟨j + 1, by omega, by omega, by omega, _, D6, fun p q h0 h1 h2 => ?_⟩, by omega⟩
                        have hg := gv_swp (L := L1) (i := j) (j := j - 1) (by omega) (by omega)
                        rw [hg, hg, if_neg (by omega), if_neg (by omega), if_neg (by omega), if_neg (by omega)]
                        exact hO p q h0 h1 h2
                      · simp -implicitDefEqProofs (disch := omega) [go_sem, r0, r1, r2, r3, r9, r10, r12]
                        exact ⟨L1, D5, hO⟩
                    · simp -implicitDefEqProofs (disch := omega) [go_sem, r0, r1, r2, r3, r9, r10, r12]
                      exact ⟨L1, D, hO⟩
                · simp -implicitDefEqProofs (disch := omega) [go_sem, r0, r1, r2, r3, r9, r10, h2b]
                  exact ⟨_, D, hO⟩
              · clear r0 r1 r2 r3 r9 r10 D hlen hO
                clear L1
                rintro ρ h4 ⟨r0, r1, r2, r3, r10, r9, L1, D, hO⟩
                simp -implicitDefEqProofs (disch := omega) [go_sem, r0, r1, r2, r3, r9, r10]
                exact ⟨⟨i, rfl, k + 1, by omega, by omega, hi, hib, L1, D, hO⟩, by omega⟩
    · simp -implicitDefEqProofs (disch := omega) [go_sem, r0, r1, r2, r3, r9, r10]
      exact ⟨L1, D⟩
end
end Xe

/- Sorting in place, walked: by a heap. -/
namespace Xe
open Go Go.Proofs
set_option maxRecDepth 16000
set_option maxHeartbeats 1000000

/-- the heap's order, from a node on -/
def HB (cf : Value → Value → Int) (L : List Value) (f lo hi : Nat) : Prop := ∀ i c, lo ≤ i → c < hi → (c = 2 * i + 1 ∨ c = 2 * i + 2) → 0 ≤ cf (gv L (f + i)) (gv L (f + c))
/-- but for one node -/
structure HX (cf : Value → Value → Int) (L : List Value) (f lo hi r : Nat) : Prop where
  low : lo ≤ r
  but : ∀ i c, lo ≤ i → i ≠ r → c < hi → (c = 2 * i + 1 ∨ c = 2 * i + 2) → 0 ≤ cf (gv L (f + i)) (gv L (f + c))
  grand : ∀ i c, lo ≤ i → (r = 2 * i + 1 ∨ r = 2 * i + 2) → c < hi → (c = 2 * r + 1 ∨ c = 2 * r + 2) → 0 ≤ cf (gv L (f + i)) (gv L (f + c))
section
variable {cf : Value → Value → Int} {ok : Value → Prop} {L : List Value} {f lo hi r ch : Nat}
theorem HB.start (H : HB cf L f (lo + 1) hi) : HX cf L f lo hi lo :=
  ⟨Nat.le_refl _, fun i c h1 h2 h3 h4 => H i c (by omega) h3 h4, fun i c h1 h2 => by omega⟩
theorem HX.done (H : HX cf L f lo hi r) (h : ∀ c, c < hi → (c = 2 * r + 1 ∨ c = 2 * r + 2) → 0 ≤ cf (gv L (f + r)) (gv L (f + c))) : HB cf L f lo hi := fun i c h1 h2 h3 => by
  by_cases e : i = r
  · rw [e] at h3 ⊢; exact h c h2 h3
  · exact H.but i c h1 e h2 h3
theorem HX.step (C : COk cf ok) (hok : OkR ok L) (hl : f + hi ≤ L.length) (H : HX cf L f lo hi r) (hc : ch = 2 * r + 1 ∨ ch = 2 * r + 2) (hch : ch < hi) (hmax : ∀ c, c < hi → (c = 2 * r + 1 ∨ c = 2 * r + 2) → 0 ≤ cf (gv L (f + ch)) (gv L (f + c)))
    (hlt : cf (gv L (f + r)) (gv L (f + ch)) < 0) : HX cf (swp L (f + r) (f + ch)) f lo hi ch := by
  have hlo := H.low
  have hg := gv_swp (L := L) (i := f + r) (j := f + ch) (by omega) (by omega)
  refine ⟨by omega, fun i c h1 h2 h3 h4 => ?_, fun i c h1 h2 h3 h4 => ?_⟩
  · rw [hg, hg]
    by_cases ei : i = r
    · subst ei
      rw [if_neg (by omega), if_pos rfl]
      by_cases ec : c = ch
      · subst ec; rw [if_pos rfl]; exact C.asy _ _ (hok _ (by omega)) (hok _ (by omega)) hlt
      · rw [if_neg (by omega), if_neg (by omega)]; exact hmax c h3 h4
    · rw [if_neg (by omega), if_neg (by omega)]
      by_cases ec : c = r
      · subst ec; rw [if_neg (by omega), if_pos rfl]; exact H.grand i ch h1 h4 hch hc
      · rw [if_neg (by omega), if_neg (by omega)]; exact H.but i c h1 ei h3 h4
  · have ei : i = r := by omega
    subst ei
    rw [hg, hg, if_neg (by omega), if_pos rfl, if_neg (by omega), if_neg (by omega)]
    exact H.but ch c (by omega) (by omega) h3 h4
theorem HB.max (C : COk cf ok) (hok : OkR ok L) (hl : f + hi ≤ L.length) (H : HB cf L f 0 hi) : ∀ c, c < hi → 0 ≤ cf (gv L f) (gv L (f + c)) := by
  intro c
  induction c using Nat.strongRecOn with
  | _ c ih =>
    intro hc
    by_cases e : c = 0
    · subst e
      rw [Nat.add_zero]
      rcases Int.lt_or_le (cf (gv L f) (gv L f)) 0 with h | h
      · have := C.asy _ _ (hok _ (by omega)) (hok _ (by omega)) h; exact this
      · exact h
    · have hp := H ((c - 1) / 2) c (by omega) hc (by omega)
      have := ih ((c - 1) / 2) (by omega) (by omega)
      exact C.tr _ _ _ (hok _ (by omega)) (hok _ (by omega)) (hok _ (by omega)) hp this
end
section
variable {h : Heap} {A : Option Addr} {cap : Nat} {fn : FuncId} {cs : List Value} {cf : Value → Value → Int} {ok : Value → Prop} {L : List Value} {n f lo hi : Nat}
theorem sift_ok (C : Cmp Tryz.prog h A fn cs cf ok) (S : SlAt h A cap L) (hn : n = L.length) (hs : n < 2 ^ 40) (hone : ∀ w ∈ L, w.oneCell' = true) (hok : OkR ok L) (H : HB cf L f (lo + 1) hi) (hb' : f + hi ≤ n) (hlo : lo < 2 ^ 40) :
    CallsH Tryz.prog 241 [.slice A n cap, .int .i64 lo, .int .i64 hi, .int .i64 f, .func (.func fn) #[] cs.toArray] h fun _ h' => ∃ L', Dat h A cap L (f + lo) (f + hi) h' L' ∧ HB cf L' f lo hi := by
  subst hn
  have hb : f + hi ≤ L.length := hb'
  refine calls_of 82 [] Go.Proofs.Tryz.func241 rfl rfl rfl ?_
  simp -implicitDefEqProofs (disch := omega) [go_sem]
  refine loopK (fun ρ h' => ρ 0 = .slice A L.length cap ∧ ρ 2 = .int .i64 hi ∧ ρ 3 = .int .i64 f ∧ ρ 4 = .func (.func fn) #[] cs.toArray ∧ ∃ (r : Nat) (L' : List Value), ρ 10 = .int .i64 r ∧ r < 2 ^ 40 ∧ Dat h A cap L (f + lo) (f + hi) h' L' ∧ HX cf L' f lo hi r)
    (fun ρ _ => 2 ^ 40 - (intOf (ρ 10)).toNat) (by kernel_rfl) ?_ ?_
  · exact ⟨rfl, rfl, rfl, rfl, lo, L, rfl, hlo, Dat.refl S, H.start⟩
  · rintro ρ h1 ⟨r0, r2, r3, r4, r, L1, r10, hr40, D, X⟩
    have hlen := D.R.len
    have hX := X.low
    by_cases hend : hi ≤ 2 * r + 1
    · simp -implicitDefEqProofs (disch := omega) [go_sem, r0, r2, r3, r4, r10]
      exact ⟨L1, D, X.done fun c h1 h2 => by omega⟩
    · obtain ⟨bk, hA, hbk, hfz, hc⟩ := D.S.base (by omega)
      have hokk := hok.rng D.R hb
      have cr := hc (f + r) _ (gv_at (by omega))
      have c1 := hc (f + (2 * r + 1)) _ (gv_at (by omega))
      subst hA
      simp -implicitDefEqProofs (disch := omega) [go_sem, r0, r2, r3, r4, r10]
      refine drawK [(0, 0), (1, 0), (2, 0), (3, 0), (4, 0), (5, 0), (6, 0), (7, 0), (8, 0), (9, 0), (10, 0), (11, 1), (12, 0), (13, 0), (14, 0), (15, 0), (16, 0), (17, 0), (18, 1), (19, 3), (20, 0), (21, 0)] ?_
      obtain ⟨k, hk⟩ : ∃ k : Nat, k = 2 * r + 1 := ⟨_, rfl⟩
      have hkI : 2 * (r : Int) + 1 = (k : Int) := by omega
      have orr := hokk (f + r) (by omega)
      have hrefl : ∀ x, ok x → 0 ≤ cf x x := fun x hx => by
        rcases Int.lt_or_le (cf x x) 0 with h | h
        · exact C.c.asy _ _ hx hx h
        · exact h
      by_cases h2 : k + 1 < hi
      · have ck := hc (f + k) _ (gv_at (by omega))
        have ck1 := hc (f + (k + 1)) _ (gv_at (by omega))
        have ok0 := hokk (f + k) (by omega)
        have ok1 := hokk (f + (k + 1)) (by omega)
        have iy1 : ((f : Int) + k).toNat = f + k := by omega
        have iy2 : ((f : Int) + k + 1).toNat = f + (k + 1) := by omega
        simp -implicitDefEqProofs (disch := omega) [go_sem, r0, r2, r3, r4, r10, hkI, ck, ck1, iy1, iy2]
        refine useC (C.call h1 D.f _ _ ok0 ok1) ?_
        rintro _ h2 ⟨rfl, f2⟩
        have D2 := D.fr0 f2
        by_cases hlt : cf (gv L1 (f + k)) (gv L1 (f + (k + 1))) < 0
        · simp -implicitDefEqProofs (disch := omega) [go_sem, r0, r2, r3, r4, r10, hkI, hlt]
          have cch := hc (f + (k + 1)) _ (gv_at (by omega))
          have och := hokk (f + (k + 1)) (by omega)
          have crr := (f2.cell (o := f + r) hbk id).trans cr
          have ccc := (f2.cell (o := f + (k + 1)) hbk id).trans cch
          have hfz2 : ∀ o, hfrz h2 ⟨bk, o, none⟩ = false := fun o => (f2.frz hbk id).trans (hfz o)
          have ix1 : ((f : Int) + r).toNat = f + r := by omega
          have ix2 : ((f : Int) + ((k + 1 : Nat) : Int)).toNat = f + (k + 1) := by omega
          have ix3 : ((f : Int) + ((k : Int) + 1)).toNat = f + (k + 1) := by omega
          have hcd : k + 1 = 2 * r + 1 ∨ k + 1 = 2 * r + 2 := by omega
          have hmx : ∀ c, c < hi → (c = 2 * r + 1 ∨ c = 2 * r + 2) → 0 ≤ cf (gv L1 (f + (k + 1))) (gv L1 (f + c)) := fun c g1 g2 => (show c = k ∨ c = k + 1 by omega).elim (fun e => by rw [e]; exact C.c.asy _ _ ok0 ok1 hlt) fun e => by rw [e]; exact hrefl _ ok1
          refine drawK [(0, 0), (1, 0), (2, 0), (3, 0), (4, 0), (5, 0), (6, 1), (7, 0), (8, 0), (9, 0), (10, 0), (11, 0), (12, 1), (13, 3), (14, 0), (15, 0)] ?_
          simp -implicitDefEqProofs (disch := omega) [go_sem, r0, r2, r3, r4, r10, hkI, crr, ccc, ix1, ix2, ix3]
          refine useC (C.call h2 D2.f _ _ orr och) ?_
          rintro _ h3 ⟨rfl, f3⟩
          have D3 := D2.fr0 f3
          by_cases hlt2 : cf (gv L1 (f + r)) (gv L1 (f + (k + 1))) < 0
          · have w0 := store_one (D.one hone (p := f + r) (by omega))
            have w1 := store_one (D.one hone (p := f + (k + 1)) (by omega))
            have crr3 := (f3.cell (o := f + r) (hcell_lt crr) id).trans crr
            have ccc3 := (f3.cell (o := f + (k + 1)) (hcell_lt crr) id).trans ccc
            have hfz3 : ∀ o, hfrz h3 ⟨bk, o, none⟩ = false := fun o => (f3.frz (hcell_lt crr) id).trans (hfz2 o)
            have ne1 : ¬ f + (k + 1) = f + r := by omega
            have ne2 : ¬ k + 1 = r := by omega
            simp -implicitDefEqProofs (disch := omega) [go_sem, r0, r2, r3, r4, r10, hkI, hlt2]
            refine drawK [(0, 0), (1, 0), (2, 0), (3, 0), (4, 0), (5, 0), (6, 0), (7, 0), (8, 0), (9, 0), (10, 0), (11, 0), (12, 0), (13, 1), (14, 0), (15, 0), (16, 0), (17, 0), (18, 0), (19, 1), (20, 0), (21, 3), (22, 0), (23, 3)] ?_
            simp -implicitDefEqProofs (disch := omega) [go_sem, r0, r2, r3, r4, r10, hkI, crr3, ccc3, ix1, ix2, ix3, hfz3, ne1, ne2, w0, w1]
            have D4 := D3.swp (i := f + r) (j := f + (k + 1)) ⟨by omega, by omega⟩ ⟨by omega, by omega⟩ hb
            exact ⟨⟨k + 1, by omega, by omega, _, D4, X.step C.c hokk (by omega) hcd (by omega) hmx hlt2⟩, by omega⟩
          · simp -implicitDefEqProofs (disch := omega) [go_sem, r0, r2, r3, r4, r10, hkI, hlt2]
            exact ⟨L1, D3, X.done fun c g1 g2 => C.c.tr _ _ _ (hokk _ (by omega)) och orr (hmx c g1 g2) (by omega)⟩
        · simp -implicitDefEqProofs (disch := omega) [go_sem, r0, r2, r3, r4, r10, hkI, hlt]
          have cch := hc (f + (k)) _ (gv_at (by omega))
          have och := hokk (f + (k)) (by omega)
          have crr := (f2.cell (o := f + r) hbk id).trans cr
          have ccc := (f2.cell (o := f + (k)) hbk id).trans cch
          have hfz2 : ∀ o, hfrz h2 ⟨bk, o, none⟩ = false := fun o => (f2.frz hbk id).trans (hfz o)
          have ix1 : ((f : Int) + r).toNat = f + r := by omega
          have ix2 : ((f : Int) + ((k : Nat) : Int)).toNat = f + (k) := by omega
          have ix3 : ((f : Int) + ((k : Int) + 1)).toNat = f + (k + 1) := by omega
          have hcd : k = 2 * r + 1 ∨ k = 2 * r + 2 := by omega
          have hmx : ∀ c, c < hi → (c = 2 * r + 1 ∨ c = 2 * r + 2) → 0 ≤ cf (gv L1 (f + (k))) (gv L1 (f + c)) := fun c g1 g2 => (show c = k ∨ c = k + 1 by omega).elim (fun e => by rw [e]; exact hrefl _ ok0) fun e => by rw [e]; omega
          refine drawK [(0, 0), (1, 0), (2, 0), (3, 0), (4, 0), (5, 0), (6, 1), (7, 0), (8, 0), (9, 0), (10, 0), (11, 0), (12, 1), (13, 3), (14, 0), (15, 0)] ?_
          simp -implicitDefEqProofs (disch := omega) [go_sem, r0, r2, r3, r4, r10, hkI, crr, ccc, ix1, ix2, ix3]
          refine useC (C.call h2 D2.f _ _ orr och) ?_
          rintro _ h3 ⟨rfl, f3⟩
          have D3 := D2.fr0 f3
          by_cases hlt2 : cf (gv L1 (f + r)) (gv L1 (f + (k))) < 0
          · have w0 := store_one (D.one hone (p := f + r) (by omega))
            have w1 := store_one (D.one hone (p := f + (k)) (by omega))
            have crr3 := (f3.cell (o := f + r) (hcell_lt crr) id).trans crr
            have ccc3 := (f3.cell (o := f + (k)) (hcell_lt crr) id).trans ccc
            have hfz3 : ∀ o, hfrz h3 ⟨bk, o, none⟩ = false := fun o => (f3.frz (hcell_lt crr) id).trans (hfz2 o)
            have ne1 : ¬ f + (k) = f + r := by omega
            have ne2 : ¬ k = r := by omega
            simp -implicitDefEqProofs (disch := omega) [go_sem, r0, r2, r3, r4, r10, hkI, hlt2]
            refine drawK [(0, 0), (1, 0), (2, 0), (3, 0), (4, 0), (5, 0), (6, 0), (7, 0), (8, 0), (9, 0), (10, 0), (11, 0), (12, 0), (13, 1), (14, 0), (15, 0), (16, 0), (17, 0), (18, 0), (19, 1), (20, 0), (21, 3), (22, 0), (23, 3)] ?_
            simp -implicitDefEqProofs (disch := omega) [go_sem, r0, r2, r3, r4, r10, hkI, crr3, ccc3, ix1, ix2, ix3, hfz3, ne1, ne2, w0, w1]
            have D4 := D3.swp (i := f + r) (j := f + (k)) ⟨by omega, by omega⟩ ⟨by omega, by omega⟩ hb
            exact ⟨⟨k, by omega, by omega, _, D4, X.step C.c hokk (by omega) hcd (by omega) hmx hlt2⟩, by omega⟩
          · simp -implicitDefEqProofs (disch := omega) [go_sem, r0, r2, r3, r4, r10, hkI, hlt2]
            exact ⟨L1, D3, X.done fun c g1 g2 => C.c.tr _ _ _ (hokk _ (by omega)) och orr (hmx c g1 g2) (by omega)⟩
      · have h2 := h1
        obtain ⟨h2, e2⟩ : ∃ h2, h2 = h1 := ⟨_, rfl⟩
        have f2 : Fr (fun _ => False) h1 h2 := by rw [e2]; exact Fr.refl _ _
        have D2 : Dat h (some ⟨bk, 0, none⟩) cap L (f + lo) (f + hi) h2 L1 := by rw [e2]; exact D
        simp -implicitDefEqProofs (disch := omega) [go_sem, r0, r2, r3, r4, r10, hkI]
        rw [← e2]
        have cch := hc (f + (k)) _ (gv_at (by omega))
        have och := hokk (f + (k)) (by omega)
        have crr := (f2.cell (o := f + r) hbk id).trans cr
        have ccc := (f2.cell (o := f + (k)) hbk id).trans cch
        have hfz2 : ∀ o, hfrz h2 ⟨bk, o, none⟩ = false := fun o => (f2.frz hbk id).trans (hfz o)
        have ix1 : ((f : Int) + r).toNat = f + r := by omega
        have ix2 : ((f : Int) + ((k : Nat) : Int)).toNat = f + (k) := by omega
        have ix3 : ((f : Int) + ((k : Int) + 1)).toNat = f + (k + 1) := by omega
        have hcd : k = 2 * r + 1 ∨ k = 2 * r + 2 := by omega
        have hmx : ∀ c, c < hi → (c = 2 * r + 1 ∨ c = 2 * r + 2) → 0 ≤ cf (gv L1 (f + (k))) (gv L1 (f + c)) := fun c g1 g2 => by rw [show c = k by omega]; exact hrefl _ (hokk _ (by omega))
        refine drawK [(0, 0), (1, 0), (2, 0), (3, 0), (4, 0), (5, 0), (6, 1), (7, 0), (8, 0), (9, 0), (10, 0), (11, 0), (12, 1), (13, 3), (14, 0), (15, 0)] ?_
        simp -implicitDefEqProofs (disch := omega) [go_sem, r0, r2, r3, r4, r10, hkI, crr, ccc, ix1, ix2, ix3]
        refine useC (C.call h2 D2.f _ _ orr och) ?_
        rintro _ h3 ⟨rfl, f3⟩
        have D3 := D2.fr0 f3
        by_cases hlt2 : cf (gv L1 (f + r)) (gv L1 (f + (k))) < 0
        · have w0 := store_one (D.one hone (p := f + r) (by omega))
          have w1 := store_one (D.one hone (p := f + (k)) (by omega))
          have crr3 := (f3.cell (o := f + r) (hcell_lt crr) id).trans crr
          have ccc3 := (f3.cell (o := f + (k)) (hcell_lt crr) id).trans ccc
          have hfz3 : ∀ o, hfrz h3 ⟨bk, o, none⟩ = false := fun o => (f3.frz (hcell_lt crr) id).trans (hfz2 o)
          have ne1 : ¬ f + (k) = f + r := by omega
          have ne2 : ¬ k = r := by omega
          simp -implicitDefEqProofs (disch := omega) [go_sem, r0, r2, r3, r4, r10, hkI, hlt2]
          refine drawK [(0, 0), (1, 0), (2, 0), (3, 0), (4, 0), (5, 0), (6, 0), (7, 0), (8, 0), (9, 0), (10, 0), (11, 0), (12, 0), (13, 1), (14, 0), (15, 0), (16, 0), (17, 0), (18, 0), (19, 1), (20, 0), (21, 3), (22, 0), (23, 3)] ?_
          simp -implicitDefEqProofs (disch := omega) [go_sem, r0, r2, r3, r4, r10, hkI, crr3, ccc3, ix1, ix2, ix3, hfz3, ne1, ne2, w0, w1]
          have D4 := D3.swp (i := f + r) (j := f + (k)) ⟨by omega, by omega⟩ ⟨by omega, by omega⟩ hb
          exact ⟨⟨k, by omega, by omega, _, D4, X.step C.c hokk (by omega) hcd (by omega) hmx hlt2⟩, by omega⟩
        · simp -implicitDefEqProofs (disch := omega) [go_sem, r0, r2, r3, r4, r10, hkI, hlt2]
          exact ⟨L1, D3, X.done fun c g1 g2 => C.c.tr _ _ _ (hokk _ (by omega)) och orr (hmx c g1 g2) (by omega)⟩

end
end Xe

/- Sorting in place, walked: heapSort. -/
namespace Xe
open Go Go.Proofs
set_option maxRecDepth 16000
set_option maxHeartbeats 1000000
section
variable {h : Heap} {A : Option Addr} {cap : Nat} {fn : FuncId} {cs : List Value} {cf : Value → Value → Int} {ok : Value → Prop} {L : List Value} {n a b : Nat}
/-- a further step in a narrower range -/
theorem Dat.then {h0 h1 h2 : Heap} {L0 L1 L2 : List Value} {a' b' : Nat} (D : Dat h0 A cap L0 a b h1 L1) (E : Dat h1 A cap L1 a' b' h2 L2) (ha : a ≤ a') (hb : b' ≤ b) (hl : b ≤ L0.length) : Dat h0 A cap L0 a b h2 L2 :=
  ⟨D.R.trans (E.R.mono ha hb (by rw [D.R.len]; exact hl)), E.S, D.f.trans E.f⟩
theorem Dat.oneR {h0 h1 : Heap} {L0 L1 : List Value} (D : Dat h0 A cap L0 a b h1 L1) (hone : ∀ w ∈ L0, w.oneCell' = true) : ∀ w ∈ L1, w.oneCell' = true := fun w hw => hone w (D.R.perm.mem_iff.1 hw)
theorem heapSort_ok (C : Cmp Tryz.prog h A fn cs cf ok) (S : SlAt h A cap L) (hn : n = L.length) (hs : n < 2 ^ 40) (hone : ∀ w ∈ L, w.oneCell' = true) (hok : OkR ok L) (hab : a < b) (hb' : b ≤ n) :
    CallsH Tryz.prog 203 [.slice A n cap, .int .i64 a, .int .i64 b, .func (.func fn) #[] cs.toArray] h fun _ h' => ∃ L', Dat h A cap L a b h' L' ∧ Srt cf a b L' := by
  subst hn
  have hb : b ≤ L.length := hb'
  refine calls_of 60 [] Go.Proofs.Tryz.func203 rfl rfl rfl ?_
  obtain ⟨m, hm⟩ : ∃ m : Nat, (b : Int) - a = m := ⟨b - a, by omega⟩
  obtain ⟨q, hq⟩ : ∃ q : Nat, ((m : Int) - 1) / 2 = q := ⟨(m - 1) / 2, by omega⟩
  obtain ⟨bk, hA, hbk, _, _⟩ := S.base (by omega)
  subst hA
  simp -implicitDefEqProofs (disch := omega) [go_sem, hm, hq]
  refine loopK (fun ρ h' => ρ 0 = .slice (some ⟨bk, 0, none⟩) L.length cap ∧ ρ 3 = .func (.func fn) #[] cs.toArray ∧ ρ 8 = .int .i64 a ∧ ρ 9 = .int .i64 0 ∧ ρ 10 = .int .i64 m ∧ ∃ (i : Nat) (L' : List Value), ρ 11 = .int .i64 ((i : Int) - 1) ∧ i ≤ m ∧ Dat h (some ⟨bk, 0, none⟩) cap L a b h' L' ∧ HB cf L' a i m)
    (fun ρ _ => (intOf (ρ 11) + 1).toNat) (by kernel_rfl) ?_ ?_
  · refine ⟨rfl, rfl, rfl, rfl, rfl, q + 1, L, ?_, by omega, Dat.refl S, fun i c h1 h2 h3 => by omega⟩
    have e : ((q + 1 : Nat) : Int) - 1 = q := by omega
    rw [e]; rfl
  · rintro ρ h1 ⟨r0, r3, r8, r9, r10, i, L1, r11, him, D, H⟩
    have hlen := D.R.len
    by_cases hi0 : i = 0
    · subst hi0
      simp -implicitDefEqProofs (disch := omega) [go_sem, r0, r3, r8, r9, r10, r11]
      refine loopK (fun ρ h' => ρ 0 = .slice (some ⟨bk, 0, none⟩) L.length cap ∧ ρ 3 = .func (.func fn) #[] cs.toArray ∧ ρ 8 = .int .i64 a ∧ ρ 9 = .int .i64 0 ∧ ρ 10 = .int .i64 m ∧
          ∃ (i : Nat) (L' : List Value), ρ 12 = .int .i64 ((i : Int) - 1) ∧ i ≤ m ∧ Dat h (some ⟨bk, 0, none⟩) cap L a b h' L' ∧ HB cf L' a 0 i ∧ ∀ p q, a ≤ p → p < q → q < b → a + i ≤ q → 0 ≤ cf (gv L' q) (gv L' p))
        (fun ρ _ => (intOf (ρ 12) + 1).toNat) (by kernel_rfl) ?_ ?_
      · exact ⟨by simp -implicitDefEqProofs [go_sem, r0], by simp -implicitDefEqProofs [go_sem, r3], by simp -implicitDefEqProofs [go_sem, r8], by simp -implicitDefEqProofs [go_sem, r9], by simp -implicitDefEqProofs [go_sem, r10], m, L1, by simp -implicitDefEqProofs [go_sem], by omega, D, H, fun p q h1 h2 h3 h4 => by omega⟩
      · clear r0 r3 r8 r9 r10 r11 D H hlen
        clear L1
        rintro ρ h2 ⟨r0, r3, r8, r9, r10, i, L1, r12, him, D, H, hO⟩
        have hlen := D.R.len
        by_cases hi0 : i = 0
        · subst hi0
          simp -implicitDefEqProofs (disch := omega) [go_sem, r0, r3, r8, r9, r10, r12]
          exact ⟨L1, D, fun p q h1 h2 h3 => hO p q h1 h2 h3 (by omega)⟩
        · obtain ⟨k, rfl⟩ : ∃ k, i = k + 1 := ⟨i - 1, by omega⟩
          have ek : ((k + 1 : Nat) : Int) - 1 = k := by omega
          rw [ek] at r12
          have hokk := hok.rng D.R hb
          obtain ⟨bk', hA, _, hfz, hc⟩ := D.S.base (by omega)
          cases hA
          have c0 := hc a _ (gv_at (by omega))
          have c1 := hc (a + k) _ (gv_at (by omega))
          have w0 := store_one (D.one hone (p := a) (by omega))
          have w1 := store_one (D.one hone (p := a + k) (by omega))
          have ix : ((a : Int) + k).toNat = a + k := by omega
          simp -implicitDefEqProofs (disch := omega) [go_sem, r0, r3, r8, r9, r10, r12]
          refine drawK [(0, 0), (1, 0), (2, 0), (3, 0), (4, 0), (5, 0), (6, 0), (7, 0), (8, 0), (9, 0), (10, 0), (11, 1), (12, 0), (13, 0), (14, 0), (15, 1), (16, 0), (17, 3), (18, 0), (19, 3)] ?_
          have D4 := D.swp (i := a) (j := a + k) ⟨by omega, by omega⟩ ⟨by omega, by omega⟩ hb
          have hmx := H.max C.c hokk (by omega)
          have hg := gv_swp (L := L1) (i := a) (j := a + k) (by omega) (by omega)
          have hok4 := hok.rng D4.R hb
          have H4 : HB cf (swp L1 a (a + k)) a 1 k := fun i c h1 h2 h3 => by
            rw [hg, hg, if_neg (by omega), if_neg (by omega), if_neg (by omega), if_neg (by omega)]
            exact H i c (by omega) (by omega) h3
          have P4 : ∀ q, a + k + 1 ≤ q → q < b → ∀ p, a ≤ p → p < q → 0 ≤ cf (gv (swp L1 a (a + k)) q) (gv (swp L1 a (a + k)) p) := fun q h1 h2 p h3 h4 => by
            rw [hg, hg, if_neg (by omega), if_neg (by omega)]
            by_cases e1 : p = a + k
            · rw [if_pos e1]; exact hO a q (by omega) (by omega) h2 (by omega)
            · rw [if_neg e1]
              by_cases e2 : p = a
              · rw [if_pos e2]; exact hO (a + k) q (by omega) (by omega) h2 (by omega)
              · rw [if_neg e2]; exact hO p q h3 h4 h2 (by omega)
          have Q4 : ∀ p, a ≤ p → p < a + k → 0 ≤ cf (gv L1 a) (gv (swp L1 a (a + k)) p) := fun p h1 h2 => by
            rw [hg, if_neg (by omega)]
            by_cases e2 : p = a
            · rw [if_pos e2]; exact hmx k (by omega)
            · rw [if_neg e2]
              have := hmx (p - a) (by omega)
              rwa [show a + (p - a) = p by omega] at this
          simp -implicitDefEqProofs (disch := omega) [go_sem, r0, r3, r8, r9, r10, r12, c0, c1, hfz, ix, w0, w1]
          have sk := sift_ok (lo := 0) (C.fr D4.f) D4.S (by rw [D4.R.len]) hs (D4.oneR hone) hok4 H4 (by omega) (by omega)
          have e0 : ((0 : Nat) : Int) = 0 := rfl
          rw [e0] at sk
          refine useC sk ?_
          rintro _ h3 ⟨L3, E, H3⟩
          simp -implicitDefEqProofs (disch := omega) [go_sem, r0, r3, r8, r9, r10, r12]
          refine ⟨k, by omega, by omega, L3, D4.then E (by omega) (by omega) hb, H3, fun p q h1 h2 h3 h4 => ?_⟩
          by_cases eq : q = a + k
          · subst eq
            rw [E.R.out (p := a + k) (by omega), hg (a + k), if_pos rfl]
            exact E.R.all (P := fun x => 0 ≤ cf (gv L1 a) x) (fun p h1 h2 => Q4 p (by omega) h2) p (by omega) (by omega)
          · rw [E.R.out (p := q) (by omega)]
            by_cases ep : p < a + k
            · exact E.R.all (P := fun x => 0 ≤ cf (gv (swp L1 a (a + k)) q) x) (fun p h1 h2 => P4 q (by omega) h3 p (by omega) (by omega)) p (by omega) ep
            · rw [E.R.out (p := p) (by omega)]; exact P4 q (by omega) h3 p h1 h2
    · obtain ⟨k, rfl⟩ : ∃ k, i = k + 1 := ⟨i - 1, by omega⟩
      have ek : ((k + 1 : Nat) : Int) - 1 = k := by omega
      rw [ek] at r11
      have hokk := hok.rng D.R hb
      simp -implicitDefEqProofs (disch := omega) [go_sem, r0, r3, r8, r9, r10, r11]
      refine useC (sift_ok (C.fr D.f) D.S (by omega) hs (D.oneR hone) hokk H (by omega) (by omega)) ?_
      rintro _ h3 ⟨L3, E, H3⟩
      simp -implicitDefEqProofs (disch := omega) [go_sem, r0, r3, r8, r9, r10, r11]
      exact ⟨k, by omega, by omega, L3, D.then E (by omega) (by omega) hb, H3⟩
end
end Xe

/- Sorting in place, walked: breaking patterns. -/
namespace Xe
open Go Go.Proofs
set_option maxRecDepth 16000
set_option maxHeartbeats 1000000
theorem and_le (x y : Int) (hy : 0 ≤ y) (hy2 : y < 2 ^ 64) : (((BitVec.ofInt 64 x &&& BitVec.ofInt 64 y).toNat : Nat) : Int) ≤ y := by
  rw [BitVec.toNat_and]
  have h1 : (BitVec.ofInt 64 y).toNat = y.toNat := by
    rw [BitVec.toNat_ofInt]
    have : y % ((2 ^ 64 : Nat) : Int) = y := Int.emod_eq_of_lt hy (by omega)
    rw [this]
  have := Nat.and_le_right (n := (BitVec.ofInt 64 x).toNat) (m := (BitVec.ofInt 64 y).toNat)
  omega
theorem run_and {P : Program} {t : Nat} {a b : Int} {k : Value → Prop} (hb0 : 0 ≤ b) (hb : b < 2 ^ 64) (hk : ∀ o : Nat, (o : Int) ≤ b → k (.int .u64 o)) : @runK (cmpV P .and t (.int .u64 a) (.int .u64 b)) ⟨k⟩ := by
  rw [cmpV_and]
  have h1 := and_le a b hb0 hb
  have hw : IntKind.u64.wrap ((BitVec.ofInt 64 a &&& BitVec.ofInt 64 b).toNat : Nat) = ((BitVec.ofInt 64 a &&& BitVec.ofInt 64 b).toNat : Nat) := by
    unfold IntKind.wrap
    simp only [IntKind.signed, IntKind.bits, Bool.false_and, if_false, Bool.false_eq_true]
    exact Int.emod_eq_of_lt (Int.natCast_nonneg _) (by omega)
  show k (.int .u64 (IntKind.u64.wrap ((BitVec.ofInt 64 a &&& BitVec.ofInt 64 b).toNat : Nat)))
  rw [hw]
  exact hk _ h1
section
variable {h : Heap} {A : Option Addr} {cap n a b : Nat} {L : List Value}
theorem break_ok (S : SlAt h A cap L) (hn : n = L.length) (hs : n < 2 ^ 40) (hone : ∀ w ∈ L, w.oneCell' = true) (hab : a + 12 < b) (hb' : b ≤ n) (f : Value) :
    CallsH Tryz.prog 204 [.slice A n cap, .int .i64 a, .int .i64 b, f] h fun _ h' => ∃ L', Dat h A cap L a b h' L' := by
  subst hn
  have hb : b ≤ L.length := hb'
  refine calls_of 67 [] Go.Proofs.Tryz.func204 rfl rfl rfl ?_
  obtain ⟨m, hm⟩ : ∃ m : Nat, (b : Int) - a = m := ⟨b - a, by omega⟩
  obtain ⟨q, hq, hq1, hq2⟩ : ∃ q : Nat, (m : Int) / 4 = q ∧ 4 * q ≤ m ∧ m < 4 * q + 4 := ⟨m / 4, by omega, by omega, by omega⟩
  simp -implicitDefEqProofs (disch := omega) [go_sem, hm]
  have hsz : Fr (fun _ => False) h (h.push (.cells #[.int .u64 (m : Int)] 278)) := (Fr.refl _ _).push
  have w64 : IntKind.u64.wrap (m : Int) = m := by
    unfold IntKind.wrap
    simp only [IntKind.signed, IntKind.bits, Bool.false_and, if_false, Bool.false_eq_true]
    exact Int.emod_eq_of_lt (by omega) (by omega)
  refine useC (nextPow_ok (n := m) (by omega) (by omega)) ?_
  rintro _ h2 ⟨⟨M, rfl, hM1, hM2⟩, rfl⟩
  simp -implicitDefEqProofs (disch := omega) [go_sem, hq]
  have hns : ¬ blk A h.size := fun h => by have := S.blk_lt h; omega
  refine loopK (fun ρ h' => ρ 0 = .slice A L.length cap ∧ ρ 1 = .int .i64 a ∧ ρ 8 = .int .i64 m ∧ ρ 9 = .pointer (some ⟨h.size, 0, none⟩) ∧ ρ 10 = .int .u64 M ∧ ∃ (i : Nat) (y : Int) (L' : List Value), ρ 11 = .int .i64 i ∧ a ≤ i ∧ i ≤ a + q * 2 + 2 ∧
      hcell h' ⟨h.size, 0, none⟩ = some (.int .u64 y) ∧ (∀ o, hfrz h' ⟨h.size, o, none⟩ = false) ∧ Dat h A cap L a b h' L') (fun ρ _ => a + q * 2 + 2 - (intOf (ρ 11)).toNat) (by kernel_rfl) ?_ ?_
  · refine ⟨rfl, rfl, rfl, rfl, rfl, a + q * 2 - 1, m, L, ?_, by omega, by omega, ?_, ?_, ?_⟩
    · have e : ((a + q * 2 - 1 : Nat) : Int) = (a : Int) + q * 2 - 1 := by omega
      rw [e]; simp -implicitDefEqProofs [go_sem]
    · rw [hcell_hset, if_pos ⟨rfl, rfl⟩, hcell_push_new]; rfl
    · intro o; rw [hfrz_hset]; exact hfrz_push_new
    · have f0 : Fr (fun _ => False) h (h.push (.cells #[.int .u64 0] 278)) := (Fr.refl _ _).push
      have f1 : Fr (fun _ => False) h (hset (h.push (.cells #[.int .u64 0] 278)) ⟨h.size, 0, none⟩ (.int .u64 m)) := f0.new (Nat.le_refl _)
      exact ⟨.refl _, S.fr f1 (fun _ _ => id), f1.mono fun _ _ h => h.elim⟩
  · rintro ρ h3 ⟨r0, r1, r8, r9, r10, i, y, L1, r11, hi1, hi2, k1, k2, D⟩
    have hlen := D.R.len
    by_cases hie : i ≤ a + q * 2 + 1
    · simp -implicitDefEqProofs (disch := omega) [go_sem, r0, r1, r8, r9, r10, r11, hq]
      refine useC (next_ok k1 k2) ?_
      rintro _ h4 ⟨z, rfl, hz, k3, k4, f4⟩
      have D4 : Dat h A cap L a b h4 L1 := ⟨D.R, D.S.fr f4 (fun x hx e => hns (e ▸ hx)), D.f.trans' f4 fun x hx e => by omega⟩
      simp -implicitDefEqProofs (disch := omega) [go_sem, r0, r1, r8, r9, r10, r11, hq]
      refine run_and (by omega) (by omega) fun o ho => ?_
      have hokk : ∀ p, p < L.length → (gv L1 p).oneCell' = true := fun p hp => D.one hone (by omega)
      obtain ⟨bk, hA, hbk, hfz, hc⟩ := D4.S.base (by omega)
      subst hA
      have ci := hc i _ (gv_at (by omega))
      have hbs : ¬ h.size = bk := fun e => hns ⟨⟨bk, 0, none⟩, rfl, e.symm⟩
      have w0 := store_one (hokk i (by omega))
      by_cases hom : (m : Int) ≤ o
      · obtain ⟨u, hu⟩ : ∃ u : Nat, (o : Int) - m = u := ⟨o - m, by omega⟩
        have cu := hc (a + u) _ (gv_at (by omega))
        have w1 := store_one (hokk (a + u) (by omega))
        have ix : ((a : Int) + u).toNat = a + u := by omega
        simp -implicitDefEqProofs (disch := omega) [go_sem, r0, r1, r8, r9, r10, r11, hq, hom, hu]
        refine drawK [(0, 0), (1, 0), (2, 0), (3, 0), (4, 0), (5, 0), (6, 0), (7, 0), (8, 0), (9, 0), (10, 0), (11, 1), (12, 0), (13, 0), (14, 0), (15, 1), (16, 0), (17, 3), (18, 0), (19, 3)] ?_
        simp -implicitDefEqProofs (disch := omega) [go_sem, r0, r1, r8, r9, r10, r11, hq, hom, ci, cu, ix, hfz, w0, w1, hbs]
        exact ⟨⟨i + 1, by omega, by omega, by omega, ⟨z, k3⟩, k4, _, D4.swp (i := i) (j := a + u) ⟨by omega, by omega⟩ ⟨by omega, by omega⟩ hb⟩, by omega⟩
      · have cu := hc (a + o) _ (gv_at (by omega))
        have w1 := store_one (hokk (a + o) (by omega))
        have ix : ((a : Int) + o).toNat = a + o := by omega
        simp -implicitDefEqProofs (disch := omega) [go_sem, r0, r1, r8, r9, r10, r11, hq, hom]
        refine drawK [(0, 0), (1, 0), (2, 0), (3, 0), (4, 0), (5, 0), (6, 0), (7, 0), (8, 0), (9, 0), (10, 0), (11, 1), (12, 0), (13, 0), (14, 0), (15, 1), (16, 0), (17, 3), (18, 0), (19, 3)] ?_
        simp -implicitDefEqProofs (disch := omega) [go_sem, r0, r1, r8, r9, r10, r11, hq, hom, ci, cu, ix, hfz, w0, w1, hbs]
        exact ⟨⟨i + 1, by omega, by omega, by omega, ⟨z, k3⟩, k4, _, D4.swp (i := i) (j := a + o) ⟨by omega, by omega⟩ ⟨by omega, by omega⟩ hb⟩, by omega⟩
    · simp -implicitDefEqProofs (disch := omega) [go_sem, r0, r1, r8, r9, r10, r11, hq]
      exact ⟨L1, D⟩
end
end Xe
