/- Sorting in place, walked: partition. -/
import Derived.Test.YtgebeiaffjpcaaaGreatDoorSOb
namespace Xe
open Go Go.Proofs
set_option maxRecDepth 16000
set_option maxHeartbeats 1000000

/-- a range of a row, from one to the next -/
structure Dat (h0 : Heap) (A : Option Addr) (cap : Nat) (L0 : List Value) (a b : Nat) (h : Heap) (L : List Value) : Prop where
  R : Rng a b L0 L
  S : SlAt h A cap L
  f : Fr (blk A) h0 h
/-- a comparer, called -/
structure Cmp (P : Program) (h : Heap) (A : Option Addr) (fn : FuncId) (cs : List Value) (cf : Value → Value → Int) (ok : Value → Prop) : Prop where
  call : ∀ h', Fr (blk A) h h' → ∀ x y, ok x → ok y → CallsH P fn ([x, y] ++ cs) h' fun r h'' => r = .int .i64 (cf x y) ∧ Fr (fun _ => False) h' h''
  c : COk cf ok
section
variable {h0 h h' : Heap} {A : Option Addr} {cap a b : Nat} {L0 L : List Value}
theorem Dat.refl (S : SlAt h A cap L) : Dat h A cap L a b h L := ⟨.refl _, S, Fr.refl _ _⟩
theorem Dat.fr0 (D : Dat h0 A cap L0 a b h L) (f : Fr (fun _ => False) h h') : Dat h0 A cap L0 a b h' L := ⟨D.R, D.S.fr f (fun _ _ => id), D.f.trans (f.mono fun _ _ h => h.elim)⟩
theorem Dat.swp {bk i j : Nat} (D : Dat h0 (some ⟨bk, 0, none⟩) cap L0 a b h L) (hi : a ≤ i ∧ i < b) (hj : a ≤ j ∧ j < b) (hb : b ≤ L0.length) :
    Dat h0 (some ⟨bk, 0, none⟩) cap L0 a b (hset (hset h ⟨bk, i, none⟩ (gv L j)) ⟨bk, j, none⟩ (gv L i)) (swp L i j) := by
  have hl := D.R.len
  exact ⟨D.R.trans (Rng.one hi.1 hi.2 hj.1 hj.2 (by omega)), swp_slat D.S (by omega) (by omega), swp_fr D.f⟩
theorem Dat.one (D : Dat h0 A cap L0 a b h L) (hone : ∀ w ∈ L0, w.oneCell' = true) {p : Nat} (hp : p < L.length) : (gv L p).oneCell' = true := hone _ (D.R.perm.mem_iff.1 (List.mem_of_getElem? (gv_at hp)))
theorem Cmp.fr {P : Program} {fn : FuncId} {cs : List Value} {cf : Value → Value → Int} {ok : Value → Prop} (C : Cmp P h A fn cs cf ok) (f : Fr (blk A) h h') : Cmp P h' A fn cs cf ok := ⟨fun h'' f' => C.call h'' (f.trans f'), C.c⟩
end

/-- the lesser ones are ahead, the others behind -/
structure PI (cf : Value → Value → Int) (L : List Value) (a b i j : Nat) : Prop where
  p1 : a + 1 ≤ i
  p2 : i ≤ j + 1
  p3 : j < b
  p4 : ∀ p, a + 1 ≤ p → p < i → cf (gv L p) (gv L a) < 0
  p5 : ∀ p, j < p → p < b → 0 ≤ cf (gv L p) (gv L a)
section
variable {cf : Value → Value → Int} {L : List Value} {a b i j : Nat}
theorem PI.up (P : PI cf L a b i j) (hij : i ≤ j) (h : cf (gv L i) (gv L a) < 0) : PI cf L a b (i + 1) j :=
  ⟨by have := P.p1; omega, by omega, P.p3, fun p h1 h2 => by
    by_cases e : p = i
    · rw [e]; exact h
    · exact P.p4 p h1 (by omega), P.p5⟩
theorem PI.down (P : PI cf L a b i j) (hij : i ≤ j) (h : 0 ≤ cf (gv L j) (gv L a)) : PI cf L a b i (j - 1) :=
  ⟨P.p1, by have := P.p1; omega, by have := P.p3; omega, P.p4, fun p h1 h2 => by
    by_cases e : p = j
    · rw [e]; exact h
    · exact P.p5 p (by omega) h2⟩
theorem PI.swap (P : PI cf L a b i j) (hij : i ≤ j) (hl : b ≤ L.length) (h1 : 0 ≤ cf (gv L i) (gv L a)) (h2 : cf (gv L j) (gv L a) < 0) : i < j ∧ PI cf (swp L i j) a b (i + 1) (j - 1) := by
  have p1 := P.p1
  have p3 := P.p3
  have hne : i ≠ j := fun e => by rw [e] at h1; omega
  have hg := gv_swp (L := L) (i := i) (j := j) (by omega) (by omega)
  have ha : gv (swp L i j) a = gv L a := by rw [hg, if_neg (by omega), if_neg (by omega)]
  refine ⟨by omega, by omega, by omega, by omega, fun p h3 h4 => ?_, fun p h3 h4 => ?_⟩
  · rw [ha, hg, if_neg (by omega)]
    by_cases e : p = i
    · rw [if_pos e]; exact h2
    · rw [if_neg e]; exact P.p4 p h3 (by omega)
  · rw [ha, hg]
    by_cases e : p = j
    · rw [if_pos e]; exact h1
    · rw [if_neg e, if_neg (by omega)]; exact P.p5 p (by omega) h4
/-- at the end -/
theorem PI.fin (P : PI cf L a b i j) (hij : ¬ i ≤ j) (hl : b ≤ L.length) : a ≤ j ∧ j < b ∧ (∀ p, a ≤ p → p < j → cf (gv (swp L j a) p) (gv (swp L j a) j) < 0) ∧ ∀ p, j < p → p < b → 0 ≤ cf (gv (swp L j a) p) (gv (swp L j a) j) := by
  have p1 := P.p1
  have p2 := P.p2
  have p3 := P.p3
  have hg := gv_swp (L := L) (i := j) (j := a) (by omega) (by omega)
  have hj : gv (swp L j a) j = gv L a := by
    rw [hg]
    by_cases e : j = a
    · rw [if_pos e, e]
    · rw [if_neg e, if_pos rfl]
  refine ⟨by omega, p3, fun p h1 h2 => ?_, fun p h1 h2 => ?_⟩
  · rw [hj, hg]
    by_cases e : p = a
    · rw [if_pos e]; exact P.p4 j (by omega) (by omega)
    · rw [if_neg e, if_neg (by omega)]; exact P.p4 p (by omega) (by omega)
  · rw [hj, hg, if_neg (by omega), if_neg (by omega)]; exact P.p5 p h1 h2
end

section
variable {h : Heap} {A : Option Addr} {cap : Nat} {fn : FuncId} {cs : List Value} {cf : Value → Value → Int} {ok : Value → Prop}
theorem partition_ok {L : List Value} {n a b pv : Nat} (C : Cmp Tryz.prog h A fn cs cf ok) (S : SlAt h A cap L) (hn : n = L.length) (hs : n < 2 ^ 40) (hone : ∀ w ∈ L, w.oneCell' = true) (hok : OkR ok L) (hp : a ≤ pv ∧ pv < b) (hb' : b ≤ n) :
    CallsH Tryz.prog 209 [.slice A n cap, .int .i64 a, .int .i64 b, .int .i64 pv, .func (.func fn) #[] cs.toArray] h fun r h' =>
      ∃ L' mid al, r = .tuple #[.int .i64 (mid : Nat), .bool al] ∧ Dat h A cap L a b h' L' ∧ a ≤ mid ∧ mid < b ∧ (∀ p, a ≤ p → p < mid → cf (gv L' p) (gv L' mid) < 0) ∧ ∀ p, mid < p → p < b → 0 ≤ cf (gv L' p) (gv L' mid) := by
  subst hn
  have hb : b ≤ L.length := hb'
  refine calls_of 178 [.tmp 10, .tmp 11] Go.Proofs.Tryz.func209 rfl rfl rfl ?_
  obtain ⟨bk, hA0, hbk0, hfz0, hc0⟩ := S.base (by omega)
  have c00 := hc0 a _ (gv_at (by omega))
  have c01 := hc0 pv _ (gv_at (by omega))
  have w00 := store_one ((Dat.refl (a := a) (b := b) S).one hone (p := a) (by omega))
  have w01 := store_one ((Dat.refl (a := a) (b := b) S).one hone (p := pv) (by omega))
  subst hA0
  simp -implicitDefEqProofs (disch := omega) [go_sem]
  refine drawK [(0, 0), (1, 0), (2, 0), (3, 0), (4, 0), (5, 0), (6, 0), (7, 1), (8, 0), (9, 0), (10, 0), (11, 1), (12, 0), (13, 3), (14, 0), (15, 3)] ?_
  have D0 := (Dat.refl (a := a) (b := b) S).swp (i := a) (j := pv) ⟨by omega, by omega⟩ ⟨by omega, by omega⟩ hb
  simp -implicitDefEqProofs (disch := omega) [↓ stop_block (id := 0), go_sem, c00, c01, hfz0, w00, w01]
  refine cutK (fun ρ h' => ρ 0 = .slice (some ⟨bk, 0, none⟩) L.length cap ∧ ρ 1 = .int .i64 a ∧ ρ 2 = .int .i64 b ∧ ρ 4 = .func (.func fn) #[] cs.toArray ∧ ∃ (i j : Nat) (L' : List Value), ρ 12 = .int .i64 i ∧ ρ 13 = .int .i64 j ∧ Dat h (some ⟨bk, 0, none⟩) cap L a b h' L' ∧ PI cf L' a b i j ∧ (i ≤ j → 0 ≤ cf (gv L' i) (gv L' a))) ?_ ?_
  · simp -implicitDefEqProofs (disch := omega) [go_sem]
    refine loopK (fun ρ h' => ρ 0 = .slice (some ⟨bk, 0, none⟩) L.length cap ∧ ρ 1 = .int .i64 a ∧ ρ 2 = .int .i64 b ∧ ρ 4 = .func (.func fn) #[] cs.toArray ∧ ∃ (i j : Nat) (L' : List Value), ρ 12 = .int .i64 i ∧ ρ 13 = .int .i64 j ∧ Dat h (some ⟨bk, 0, none⟩) cap L a b h' L' ∧ PI cf L' a b i j)
      (fun ρ _ => (intOf (ρ 13) + 1 - intOf (ρ 12)).toNat) (by kernel_rfl) ?_ ?_
    · exact ⟨rfl, rfl, rfl, rfl, a + 1, b - 1, swp L a pv, by simp -implicitDefEqProofs (disch := omega) [go_sem], by simp -implicitDefEqProofs (disch := omega) [go_sem]; omega, D0, ⟨by omega, by omega, by omega, fun p h1 h2 => by omega, fun p h1 h2 => by omega⟩⟩
    · skip
      rintro ρ h' ⟨r0, r1, r2, r4, i, j, L', r12, r13, D, P⟩
      have hlen := D.R.len
      have hP := P
      obtain ⟨p1, p2, p3, p4, p5⟩ := hP
      simp -implicitDefEqProofs (disch := omega) [go_sem, r0, r1, r2, r4, r12, r13]
      refine drawK [(0, 0), (1, 0), (2, 0), (3, 0), (4, 0), (5, 0), (6, 0), (7, 0), (8, 1), (9, 0), (10, 0), (11, 0), (12, 1), (13, 3), (14, 0), (15, 0)] ?_
      by_cases hij : i ≤ j
      · obtain ⟨bk', hbk', hbk, hfz, hc⟩ := D.S.base (by omega)
        cases hbk'
        have c0 := hc i _ (gv_at (by omega))
        have c1 := hc a _ (gv_at (by omega))
        have o0 := hok.rng D.R hb i (by omega)
        have o1 := hok.rng D.R hb a (by omega)
        simp -implicitDefEqProofs (disch := omega) [go_sem, r0, r1, r2, r4, r12, r13, c0, c1]
        refine useC (C.call h' D.f _ _ o0 o1) ?_
        rintro _ h2 ⟨rfl, f2⟩
        have D2 := D.fr0 f2
        by_cases hlt : cf (gv L' i) (gv L' a) < 0
        · simp -implicitDefEqProofs (disch := omega) [go_sem, r0, r1, r2, r4, r12, r13, hlt]
          exact ⟨⟨i + 1, by omega, j, rfl, L', D2, P.up hij hlt⟩, by omega⟩
        · simp -implicitDefEqProofs (disch := omega) [go_sem, r0, r1, r2, r4, r12, r13, hlt]
          exact ⟨i, rfl, j, rfl, L', D2, P, fun _ => by omega⟩
      · simp -implicitDefEqProofs (disch := omega) [go_sem, r0, r1, r2, r4, r12, r13, hij]
        exact ⟨i, rfl, j, rfl, L', D, P, fun h => absurd h hij⟩
  · rintro ρ h' ⟨r0, r1, r2, r4, i, j, L', r12, r13, D, P, u0⟩
    simp -implicitDefEqProofs (disch := omega) [↓ stop_block (id := 2), go_sem, r0, r1, r2, r4, r12, r13]
    refine cutK (fun ρ h' => ρ 0 = .slice (some ⟨bk, 0, none⟩) L.length cap ∧ ρ 1 = .int .i64 a ∧ ρ 2 = .int .i64 b ∧ ρ 4 = .func (.func fn) #[] cs.toArray ∧ ∃ (i j : Nat) (L' : List Value), ρ 12 = .int .i64 i ∧ ρ 13 = .int .i64 j ∧ Dat h (some ⟨bk, 0, none⟩) cap L a b h' L' ∧ PI cf L' a b i j ∧ (i ≤ j → 0 ≤ cf (gv L' i) (gv L' a)) ∧ (i ≤ j → cf (gv L' j) (gv L' a) < 0)) ?_ ?_
    · simp -implicitDefEqProofs (disch := omega) [go_sem]
      refine loopK (fun ρ h' => ρ 0 = .slice (some ⟨bk, 0, none⟩) L.length cap ∧ ρ 1 = .int .i64 a ∧ ρ 2 = .int .i64 b ∧ ρ 4 = .func (.func fn) #[] cs.toArray ∧ ∃ (i j : Nat) (L' : List Value), ρ 12 = .int .i64 i ∧ ρ 13 = .int .i64 j ∧ Dat h (some ⟨bk, 0, none⟩) cap L a b h' L' ∧ PI cf L' a b i j ∧ (i ≤ j → 0 ≤ cf (gv L' i) (gv L' a)))
        (fun ρ _ => (intOf (ρ 13) + 1 - intOf (ρ 12)).toNat) (by kernel_rfl) ?_ ?_
      · exact ⟨r0, r1, r2, r4, i, j, L', r12, r13, D, P, u0⟩
      · clear r0 r1 r2 r4 r12 r13 D P u0
        clear i j L'
        rintro ρ h' ⟨r0, r1, r2, r4, i, j, L', r12, r13, D, P, u0⟩
        have hlen := D.R.len
        have hP := P
        obtain ⟨p1, p2, p3, p4, p5⟩ := hP
        simp -implicitDefEqProofs (disch := omega) [go_sem, r0, r1, r2, r4, r12, r13]
        refine drawK [(0, 0), (1, 0), (2, 0), (3, 0), (4, 0), (5, 0), (6, 0), (7, 0), (8, 1), (9, 0), (10, 0), (11, 0), (12, 1), (13, 3), (14, 0), (15, 0), (16, 0)] ?_
        by_cases hij : i ≤ j
        · obtain ⟨bk', hbk', hbk, hfz, hc⟩ := D.S.base (by omega)
          cases hbk'
          have c0 := hc j _ (gv_at (by omega))
          have c1 := hc a _ (gv_at (by omega))
          have o0 := hok.rng D.R hb j (by omega)
          have o1 := hok.rng D.R hb a (by omega)
          simp -implicitDefEqProofs (disch := omega) [go_sem, r0, r1, r2, r4, r12, r13, c0, c1]
          refine useC (C.call h' D.f _ _ o0 o1) ?_
          rintro _ h2 ⟨rfl, f2⟩
          have D2 := D.fr0 f2
          by_cases hlt : cf (gv L' j) (gv L' a) < 0
          · simp -implicitDefEqProofs (disch := omega) [go_sem, r0, r1, r2, r4, r12, r13, hlt]
            exact ⟨i, rfl, j, rfl, L', D2, P, u0, fun _ => hlt⟩
          · simp -implicitDefEqProofs (disch := omega) [go_sem, r0, r1, r2, r4, r12, r13, hlt]
            exact ⟨⟨i, rfl, j - 1, by omega, L', D2, P.down hij (by omega), fun h => u0 (by omega)⟩, by omega⟩
        · simp -implicitDefEqProofs (disch := omega) [go_sem, r0, r1, r2, r4, r12, r13, hij]
          exact ⟨i, rfl, j, rfl, L', D, P, u0, fun h => absurd h hij⟩
    · clear r0 r1 r2 r4 r12 r13 D P u0
      clear i j L'
      rintro ρ h' ⟨r0, r1, r2, r4, i, j, L', r12, r13, D, P, u0, u1⟩
      have hlen := D.R.len
      have hP := P
      obtain ⟨p1, p2, p3, p4, p5⟩ := hP
      by_cases hij : i ≤ j
      · simp -implicitDefEqProofs (disch := omega) [go_sem, r0, r1, r2, r4, r12, r13, hij]
        obtain ⟨bk', hbk', hbk, hfz, hc⟩ := D.S.base (by omega)
        cases hbk'
        have c0 := hc i _ (gv_at (by omega))
        have c1 := hc j _ (gv_at (by omega))
        have w0 := store_one (D.one hone (p := i) (by omega))
        have w1 := store_one (D.one hone (p := j) (by omega))
        refine drawK [(0, 0), (1, 0), (2, 0), (3, 0), (4, 0), (5, 0), (6, 0), (7, 1), (8, 0), (9, 0), (10, 0), (11, 1), (12, 0), (13, 3), (14, 0), (15, 3)] ?_
        obtain ⟨q0, Q⟩ := P.swap hij (by omega) (u0 hij) (u1 hij)
        have ne1 : ¬ j = i := by omega
        have D9 := D.swp (i := i) (j := j) ⟨by omega, by omega⟩ ⟨by omega, by omega⟩ hb
        simp -implicitDefEqProofs (disch := omega) [go_sem, r0, r1, r2, r4, r12, r13, c0, c1, hfz, w0, w1, ne1]
        refine loopK (fun ρ h' => ρ 0 = .slice (some ⟨bk, 0, none⟩) L.length cap ∧ ρ 1 = .int .i64 a ∧ ρ 2 = .int .i64 b ∧ ρ 4 = .func (.func fn) #[] cs.toArray ∧ ∃ (i j : Nat) (L' : List Value), ρ 12 = .int .i64 i ∧ ρ 13 = .int .i64 j ∧ Dat h (some ⟨bk, 0, none⟩) cap L a b h' L' ∧ PI cf L' a b i j)
          (fun ρ _ => (intOf (ρ 13) + 1 - intOf (ρ 12)).toNat) (by kernel_rfl) ?_ ?_
        · have ej : ((j - 1 : Nat) : Int) = (j : Int) - 1 := by omega
          exact ⟨by simp -implicitDefEqProofs [go_sem, r0], by simp -implicitDefEqProofs [go_sem, r1], by simp -implicitDefEqProofs [go_sem, r2], by simp -implicitDefEqProofs [go_sem, r4], i + 1, j - 1, _, by simp -implicitDefEqProofs [go_sem, r12], by simp -implicitDefEqProofs [go_sem, r13, ej], D9, Q⟩
        · clear r0 r1 r2 r4 r12 r13 D P u0 u1 D9 Q hlen p1 p2 p3 p4 p5 c0 c1 w0 w1 hc hbk hfz q0 ne1 hij
          clear i j L'
          rintro ρ h' ⟨r0, r1, r2, r4, i0, j0, L', r12, r13, D, P⟩
          have hmu : (intOf (ρ 13) + 1 - intOf (ρ 12)).toNat = j0 + 1 - i0 := by rw [r12, r13]; simp only [intOf_int]; omega
          simp -implicitDefEqProofs (disch := omega) [↓ stop_block (id := 6), go_sem, r0, r1, r2, r4, r12, r13]
          refine cutK (fun ρ h' => ρ 0 = .slice (some ⟨bk, 0, none⟩) L.length cap ∧ ρ 1 = .int .i64 a ∧ ρ 2 = .int .i64 b ∧ ρ 4 = .func (.func fn) #[] cs.toArray ∧ ∃ (i j : Nat) (L' : List Value), ρ 12 = .int .i64 i ∧ ρ 13 = .int .i64 j ∧ Dat h (some ⟨bk, 0, none⟩) cap L a b h' L' ∧ PI cf L' a b i j ∧ (i ≤ j → 0 ≤ cf (gv L' i) (gv L' a)) ∧ j + 1 - i ≤ j0 + 1 - i0) ?_ ?_
          · simp -implicitDefEqProofs (disch := omega) [go_sem]
            refine loopK (fun ρ h' => ρ 0 = .slice (some ⟨bk, 0, none⟩) L.length cap ∧ ρ 1 = .int .i64 a ∧ ρ 2 = .int .i64 b ∧ ρ 4 = .func (.func fn) #[] cs.toArray ∧ ∃ (i j : Nat) (L' : List Value), ρ 12 = .int .i64 i ∧ ρ 13 = .int .i64 j ∧ Dat h (some ⟨bk, 0, none⟩) cap L a b h' L' ∧ PI cf L' a b i j ∧ j + 1 - i ≤ j0 + 1 - i0)
              (fun ρ _ => (intOf (ρ 13) + 1 - intOf (ρ 12)).toNat) (by kernel_rfl) ?_ ?_
            · exact ⟨r0, r1, r2, r4, i0, j0, L', r12, r13, D, P, by omega⟩
            · clear r0 r1 r2 r4 r12 r13 D P
              clear L'
              rintro ρ h' ⟨r0, r1, r2, r4, i, j, L', r12, r13, D, P, m0⟩
              have hlen := D.R.len
              have hP := P
              obtain ⟨p1, p2, p3, p4, p5⟩ := hP
              simp -implicitDefEqProofs (disch := omega) [go_sem, r0, r1, r2, r4, r12, r13]
              refine drawK [(0, 0), (1, 0), (2, 0), (3, 0), (4, 0), (5, 0), (6, 0), (7, 0), (8, 1), (9, 0), (10, 0), (11, 0), (12, 1), (13, 3), (14, 0), (15, 0)] ?_
              by_cases hij : i ≤ j
              · obtain ⟨bk', hbk', hbk, hfz, hc⟩ := D.S.base (by omega)
                cases hbk'
                have c0 := hc i _ (gv_at (by omega))
                have c1 := hc a _ (gv_at (by omega))
                have o0 := hok.rng D.R hb i (by omega)
                have o1 := hok.rng D.R hb a (by omega)
                simp -implicitDefEqProofs (disch := omega) [go_sem, r0, r1, r2, r4, r12, r13, c0, c1]
                refine useC (C.call h' D.f _ _ o0 o1) ?_
                rintro _ h2 ⟨rfl, f2⟩
                have D2 := D.fr0 f2
                by_cases hlt : cf (gv L' i) (gv L' a) < 0
                · simp -implicitDefEqProofs (disch := omega) [go_sem, r0, r1, r2, r4, r12, r13, hlt]
                  exact ⟨⟨i + 1, by omega, j, rfl, L', D2, P.up hij hlt, by omega⟩, by omega⟩
                · simp -implicitDefEqProofs (disch := omega) [go_sem, r0, r1, r2, r4, r12, r13, hlt]
                  exact ⟨i, rfl, j, rfl, L', D2, P, fun _ => by omega, by omega⟩
              · simp -implicitDefEqProofs (disch := omega) [go_sem, r0, r1, r2, r4, r12, r13, hij]
                exact ⟨i, rfl, j, rfl, L', D, P, fun h => absurd h hij, by omega⟩
          · clear r0 r1 r2 r4 r12 r13 D P L'
            rintro ρ h' ⟨r0, r1, r2, r4, i, j, L', r12, r13, D, P, u0, m0⟩
            simp -implicitDefEqProofs (disch := omega) [↓ stop_block (id := 8), go_sem, r0, r1, r2, r4, r12, r13]
            refine cutK (fun ρ h' => ρ 0 = .slice (some ⟨bk, 0, none⟩) L.length cap ∧ ρ 1 = .int .i64 a ∧ ρ 2 = .int .i64 b ∧ ρ 4 = .func (.func fn) #[] cs.toArray ∧ ∃ (i j : Nat) (L' : List Value), ρ 12 = .int .i64 i ∧ ρ 13 = .int .i64 j ∧ Dat h (some ⟨bk, 0, none⟩) cap L a b h' L' ∧ PI cf L' a b i j ∧ (i ≤ j → 0 ≤ cf (gv L' i) (gv L' a)) ∧ (i ≤ j → cf (gv L' j) (gv L' a) < 0) ∧ j + 1 - i ≤ j0 + 1 - i0) ?_ ?_
            · simp -implicitDefEqProofs (disch := omega) [go_sem]
              refine loopK (fun ρ h' => ρ 0 = .slice (some ⟨bk, 0, none⟩) L.length cap ∧ ρ 1 = .int .i64 a ∧ ρ 2 = .int .i64 b ∧ ρ 4 = .func (.func fn) #[] cs.toArray ∧ ∃ (i j : Nat) (L' : List Value), ρ 12 = .int .i64 i ∧ ρ 13 = .int .i64 j ∧ Dat h (some ⟨bk, 0, none⟩) cap L a b h' L' ∧ PI cf L' a b i j ∧ (i ≤ j → 0 ≤ cf (gv L' i) (gv L' a)) ∧ j + 1 - i ≤ j0 + 1 - i0)
                (fun ρ _ => (intOf (ρ 13) + 1 - intOf (ρ 12)).toNat) (by kernel_rfl) ?_ ?_
              · exact ⟨r0, r1, r2, r4, i, j, L', r12, r13, D, P, u0, m0⟩
              · clear r0 r1 r2 r4 r12 r13 D P u0 m0
                clear i j L'
                rintro ρ h' ⟨r0, r1, r2, r4, i, j, L', r12, r13, D, P, u0, m0⟩
                have hlen := D.R.len
                have hP := P
                obtain ⟨p1, p2, p3, p4, p5⟩ := hP
                simp -implicitDefEqProofs (disch := omega) [go_sem, r0, r1, r2, r4, r12, r13]
                refine drawK [(0, 0), (1, 0), (2, 0), (3, 0), (4, 0), (5, 0), (6, 0), (7, 0), (8, 1), (9, 0), (10, 0), (11, 0), (12, 1), (13, 3), (14, 0), (15, 0), (16, 0)] ?_
                by_cases hij : i ≤ j
                · obtain ⟨bk', hbk', hbk, hfz, hc⟩ := D.S.base (by omega)
                  cases hbk'
                  have c0 := hc j _ (gv_at (by omega))
                  have c1 := hc a _ (gv_at (by omega))
                  have o0 := hok.rng D.R hb j (by omega)
                  have o1 := hok.rng D.R hb a (by omega)
                  simp -implicitDefEqProofs (disch := omega) [go_sem, r0, r1, r2, r4, r12, r13, c0, c1]
                  refine useC (C.call h' D.f _ _ o0 o1) ?_
                  rintro _ h2 ⟨rfl, f2⟩
                  have D2 := D.fr0 f2
                  by_cases hlt : cf (gv L' j) (gv L' a) < 0
                  · simp -implicitDefEqProofs (disch := omega) [go_sem, r0, r1, r2, r4, r12, r13, hlt]
                    exact ⟨i, rfl, j, rfl, L', D2, P, u0, fun _ => hlt, by omega⟩
                  · simp -implicitDefEqProofs (disch := omega) [go_sem, r0, r1, r2, r4, r12, r13, hlt]
                    exact ⟨⟨i, rfl, j - 1, by omega, L', D2, P.down hij (by omega), fun h => u0 (by omega), by omega⟩, by omega⟩
                · simp -implicitDefEqProofs (disch := omega) [go_sem, r0, r1, r2, r4, r12, r13, hij]
                  exact ⟨i, rfl, j, rfl, L', D, P, u0, fun h => absurd h hij, by omega⟩
            · clear r0 r1 r2 r4 r12 r13 D P u0 m0
              clear i j L'
              rintro ρ h' ⟨r0, r1, r2, r4, i, j, L', r12, r13, D, P, u0, u1, m0⟩
              have hlen := D.R.len
              have hP := P
              obtain ⟨p1, p2, p3, p4, p5⟩ := hP
              by_cases hij : i ≤ j
              · simp -implicitDefEqProofs (disch := omega) [go_sem, r0, r1, r2, r4, r12, r13, hij]
                obtain ⟨bk', hbk', hbk, hfz, hc⟩ := D.S.base (by omega)
                cases hbk'
                have c0 := hc i _ (gv_at (by omega))
                have c1 := hc j _ (gv_at (by omega))
                have w0 := store_one (D.one hone (p := i) (by omega))
                have w1 := store_one (D.one hone (p := j) (by omega))
                refine drawK [(0, 0), (1, 0), (2, 0), (3, 0), (4, 0), (5, 0), (6, 0), (7, 1), (8, 0), (9, 0), (10, 0), (11, 1), (12, 0), (13, 3), (14, 0), (15, 3)] ?_
                obtain ⟨q0, Q⟩ := P.swap hij (by omega) (u0 hij) (u1 hij)
                have ne1 : ¬ j = i := by omega
                simp -implicitDefEqProofs (disch := omega) [go_sem, r0, r1, r2, r4, r12, r13, c0, c1, hfz, w0, w1, ne1]
                exact ⟨⟨i + 1, by omega, j - 1, by omega, _, D.swp ⟨by omega, by omega⟩ ⟨by omega, by omega⟩ hb, Q⟩, by omega⟩
              · simp -implicitDefEqProofs (disch := omega) [go_sem, r0, r1, r2, r4, r12, r13, hij]
                obtain ⟨bk', hbk', hbk, hfz, hc⟩ := D.S.base (by omega)
                cases hbk'
                have c0 := hc j _ (gv_at (by omega))
                have c1 := hc a _ (gv_at (by omega))
                have w0 := store_one (D.one hone (p := j) (by omega))
                have w1 := store_one (D.one hone (p := a) (by omega))
                refine drawK [(0, 0), (1, 0), (2, 0), (3, 0), (4, 0), (5, 0), (6, 0), (7, 1), (8, 0), (9, 0), (10, 0), (11, 1), (12, 0), (13, 3), (14, 0), (15, 3)] ?_
                simp -implicitDefEqProofs (disch := omega) [go_sem, r0, r1, r2, r4, r12, r13, c0, c1, hfz, w0, w1]
                obtain ⟨g1, g2, g3, g4⟩ := P.fin hij (by omega)
                exact ⟨_, j, rfl, D.swp ⟨by omega, by omega⟩ ⟨by omega, by omega⟩ hb, by omega, by omega, g3, g4⟩
      · simp -implicitDefEqProofs (disch := omega) [go_sem, r0, r1, r2, r4, r12, r13, hij]
        obtain ⟨bk', hbk', hbk, hfz, hc⟩ := D.S.base (by omega)
        cases hbk'
        have c0 := hc j _ (gv_at (by omega))
        have c1 := hc a _ (gv_at (by omega))
        have w0 := store_one (D.one hone (p := j) (by omega))
        have w1 := store_one (D.one hone (p := a) (by omega))
        refine drawK [(0, 0), (1, 0), (2, 0), (3, 0), (4, 0), (5, 0), (6, 0), (7, 1), (8, 0), (9, 0), (10, 0), (11, 1), (12, 0), (13, 3), (14, 0), (15, 3)] ?_
        simp -implicitDefEqProofs (disch := omega) [go_sem, r0, r1, r2, r4, r12, r13, c0, c1, hfz, w0, w1]
        obtain ⟨g1, g2, g3, g4⟩ := P.fin hij (by omega)
        exact ⟨_, j, rfl, D.swp ⟨by omega, by omega⟩ ⟨by omega, by omega⟩ hb, by omega, by omega, g3, g4⟩
end
end Xe

/- Sorting in place, walked: partition into equal ones and greater ones. -/
namespace Xe
open Go Go.Proofs
set_option maxRecDepth 16000
set_option maxHeartbeats 1000000

def eqF (cf : Value → Value → Int) (x p : Value) : Int := if cf p x < 0 then 0 else -1
theorem eqF_pos {cf : Value → Value → Int} {x p : Value} (h : cf p x < 0) : 0 ≤ eqF cf x p := by unfold eqF; rw [if_pos h]; omega
theorem eqF_neg {cf : Value → Value → Int} {x p : Value} (h : ¬ cf p x < 0) : eqF cf x p < 0 := by unfold eqF; rw [if_neg h]; omega
theorem eqF_lt {cf : Value → Value → Int} {x p : Value} (h : eqF cf x p < 0) : 0 ≤ cf p x := by
  unfold eqF at h; split at h <;> omega
theorem eqF_ge {cf : Value → Value → Int} {x p : Value} (h : 0 ≤ eqF cf x p) : cf p x < 0 := by
  unfold eqF at h; split at h <;> omega
section
variable {cf : Value → Value → Int} {L : List Value} {a b i j : Nat}
theorem PI.fin2 (P : PI (eqF cf) L a b i j) (hij : ¬ i ≤ j) : ∀ p, a < p → p < i → 0 ≤ cf (gv L a) (gv L p) := fun p h1 h2 => eqF_lt (P.p4 p (by omega) h2)
theorem PI.fin3 (P : PI (eqF cf) L a b i j) (hij : ¬ i ≤ j) : ∀ p, i ≤ p → p < b → cf (gv L a) (gv L p) < 0 := fun p h1 h2 => eqF_ge (P.p5 p (by omega) h2)
end
/-- and the pivot stands ahead -/
structure PJ (cf : Value → Value → Int) (L : List Value) (a b i j : Nat) (x : Value) : Prop where
  pi : PI (eqF cf) L a b i j
  pv : gv L a = x
section
variable {cf : Value → Value → Int} {L : List Value} {a b i j : Nat} {x : Value}
theorem PJ.up (P : PJ cf L a b i j x) (hij : i ≤ j) (h : eqF cf (gv L i) (gv L a) < 0) : PJ cf L a b (i + 1) j x := ⟨P.pi.up hij h, P.pv⟩
theorem PJ.down (P : PJ cf L a b i j x) (hij : i ≤ j) (h : 0 ≤ eqF cf (gv L j) (gv L a)) : PJ cf L a b i (j - 1) x := ⟨P.pi.down hij h, P.pv⟩
theorem PJ.swap (P : PJ cf L a b i j x) (hij : i ≤ j) (hl : b ≤ L.length) (h1 : 0 ≤ eqF cf (gv L i) (gv L a)) (h2 : eqF cf (gv L j) (gv L a) < 0) : i < j ∧ PJ cf (swp L i j) a b (i + 1) (j - 1) x := by
  have h := P.pi.swap hij hl h1 h2
  refine ⟨h.1, h.2, ?_⟩
  have p1 := P.pi.p1
  have p3 := P.pi.p3
  rw [gv_swp (by omega) (by omega), if_neg (by omega), if_neg (by omega)]
  exact P.pv
theorem PJ.fin2 (P : PJ cf L a b i j x) (hij : ¬ i ≤ j) : ∀ p, a < p → p < i → 0 ≤ cf (gv L a) (gv L p) := P.pi.fin2 hij
theorem PJ.fin3 (P : PJ cf L a b i j x) (hij : ¬ i ≤ j) : ∀ p, i ≤ p → p < b → cf (gv L a) (gv L p) < 0 := P.pi.fin3 hij
end
section
variable {h : Heap} {A : Option Addr} {cap : Nat} {fn : FuncId} {cs : List Value} {cf : Value → Value → Int} {ok : Value → Prop}
theorem partitionEq_ok {L : List Value} {n a b pv : Nat} (C : Cmp Tryz.prog h A fn cs cf ok) (S : SlAt h A cap L) (hn : n = L.length) (hs : n < 2 ^ 40) (hone : ∀ w ∈ L, w.oneCell' = true) (hok : OkR ok L) (hp : a ≤ pv ∧ pv < b) (hb' : b ≤ n) :
    CallsH Tryz.prog 208 [.slice A n cap, .int .i64 a, .int .i64 b, .int .i64 pv, .func (.func fn) #[] cs.toArray] h fun r h' =>
      ∃ L' mid, r = .int .i64 (mid : Nat) ∧ Dat h A cap L a b h' L' ∧ a < mid ∧ mid ≤ b ∧ (∀ p, a < p → p < mid → 0 ≤ cf (gv L' a) (gv L' p)) ∧ (∀ p, mid ≤ p → p < b → cf (gv L' a) (gv L' p) < 0) ∧ gv L' a = gv L pv := by
  subst hn
  have hb : b ≤ L.length := hb'
  refine calls_of 90 [.tmp 10] Go.Proofs.Tryz.func208 rfl rfl rfl ?_
  obtain ⟨bk, hA0, hbk0, hfz0, hc0⟩ := S.base (by omega)
  have c00 := hc0 a _ (gv_at (by omega))
  have c01 := hc0 pv _ (gv_at (by omega))
  have w00 := store_one ((Dat.refl (a := a) (b := b) S).one hone (p := a) (by omega))
  have w01 := store_one ((Dat.refl (a := a) (b := b) S).one hone (p := pv) (by omega))
  subst hA0
  simp -implicitDefEqProofs (disch := omega) [go_sem]
  refine drawK [(0, 0), (1, 0), (2, 0), (3, 0), (4, 0), (5, 0), (6, 0), (7, 1), (8, 0), (9, 0), (10, 0), (11, 1), (12, 0), (13, 3), (14, 0), (15, 3)] ?_
  have D0 := (Dat.refl (a := a) (b := b) S).swp (i := a) (j := pv) ⟨by omega, by omega⟩ ⟨by omega, by omega⟩ hb
  have E0 : gv (swp L a pv) a = gv L pv := by
    rw [gv_swp (by omega) (by omega)]
    by_cases e : a = pv
    · rw [if_pos e, e]
    · rw [if_neg e, if_pos rfl]
  simp -implicitDefEqProofs (disch := omega) [go_sem, c00, c01, hfz0, w00, w01]
  refine loopK (fun ρ h' => ρ 0 = .slice (some ⟨bk, 0, none⟩) L.length cap ∧ ρ 1 = .int .i64 a ∧ ρ 2 = .int .i64 b ∧ ρ 4 = .func (.func fn) #[] cs.toArray ∧ ∃ (i j : Nat) (L' : List Value), ρ 11 = .int .i64 i ∧ ρ 12 = .int .i64 j ∧ Dat h (some ⟨bk, 0, none⟩) cap L a b h' L' ∧ PJ cf L' a b i j (gv L pv))
    (fun ρ _ => (intOf (ρ 12) + 1 - intOf (ρ 11)).toNat) (by kernel_rfl) ?_ ?_
  · have ej : ((b - 1 : Nat) : Int) = (b : Int) - 1 := by omega
    exact ⟨rfl, rfl, rfl, rfl, a + 1, b - 1, swp L a pv, by simp -implicitDefEqProofs [go_sem], by simp -implicitDefEqProofs [go_sem, ej], D0, ⟨by omega, by omega, by omega, fun p h1 h2 => by omega, fun p h1 h2 => by omega⟩, E0⟩
  · rintro ρ h' ⟨r0, r1, r2, r4, i0, j0, L', r11, r12, D, P⟩
    have hmu : (intOf (ρ 12) + 1 - intOf (ρ 11)).toNat = j0 + 1 - i0 := by rw [r11, r12]; simp only [intOf_int]; omega
    simp -implicitDefEqProofs (disch := omega) [↓ stop_block (id := 2), go_sem, r0, r1, r2, r4, r11, r12]
    refine cutK (fun ρ h' => ρ 0 = .slice (some ⟨bk, 0, none⟩) L.length cap ∧ ρ 1 = .int .i64 a ∧ ρ 2 = .int .i64 b ∧ ρ 4 = .func (.func fn) #[] cs.toArray ∧ ∃ (i j : Nat) (L' : List Value), ρ 11 = .int .i64 i ∧ ρ 12 = .int .i64 j ∧ Dat h (some ⟨bk, 0, none⟩) cap L a b h' L' ∧ PJ cf L' a b i j (gv L pv) ∧ (i ≤ j → 0 ≤ eqF cf (gv L' i) (gv L' a)) ∧ j + 1 - i ≤ j0 + 1 - i0) ?_ ?_
    · simp -implicitDefEqProofs (disch := omega) [go_sem]
      refine loopK (fun ρ h' => ρ 0 = .slice (some ⟨bk, 0, none⟩) L.length cap ∧ ρ 1 = .int .i64 a ∧ ρ 2 = .int .i64 b ∧ ρ 4 = .func (.func fn) #[] cs.toArray ∧ ∃ (i j : Nat) (L' : List Value), ρ 11 = .int .i64 i ∧ ρ 12 = .int .i64 j ∧ Dat h (some ⟨bk, 0, none⟩) cap L a b h' L' ∧ PJ cf L' a b i j (gv L pv) ∧ j + 1 - i ≤ j0 + 1 - i0)
        (fun ρ _ => (intOf (ρ 12) + 1 - intOf (ρ 11)).toNat) (by kernel_rfl) ?_ ?_
      · exact ⟨r0, r1, r2, r4, i0, j0, L', r11, r12, D, P, by omega⟩
      · clear r0 r1 r2 r4 r11 r12 D P L'
        rintro ρ h' ⟨r0, r1, r2, r4, i, j, L', r11, r12, D, P, m0⟩
        have hlen := D.R.len
        have hP := P.1
        obtain ⟨p1, p2, p3, p4, p5⟩ := hP
        simp -implicitDefEqProofs (disch := omega) [go_sem, r0, r1, r2, r4, r11, r12]
        refine drawK [(0, 0), (1, 0), (2, 0), (3, 0), (4, 0), (5, 0), (6, 0), (7, 0), (8, 1), (9, 0), (10, 0), (11, 0), (12, 1), (13, 3), (14, 0), (15, 0), (16, 0)] ?_
        by_cases hij : i ≤ j
        · obtain ⟨bk', hbk', hbk, hfz, hc⟩ := D.S.base (by omega)
          cases hbk'
          have c0 := hc i _ (gv_at (by omega))
          have c1 := hc a _ (gv_at (by omega))
          have o0 := hok.rng D.R hb i (by omega)
          have o1 := hok.rng D.R hb a (by omega)
          simp -implicitDefEqProofs (disch := omega) [go_sem, r0, r1, r2, r4, r11, r12, c0, c1]
          refine useC (C.call h' D.f _ _ o1 o0) ?_
          rintro _ h2 ⟨rfl, f2⟩
          have D2 := D.fr0 f2
          by_cases hlt : cf (gv L' a) (gv L' i) < 0
          · have hq := eqF_pos hlt
            simp -implicitDefEqProofs (disch := omega) [go_sem, r0, r1, r2, r4, r11, r12, hlt]
            exact ⟨i, rfl, j, rfl, L', D2, P, fun _ => by omega, by omega⟩
          · have hq := eqF_neg hlt
            simp -implicitDefEqProofs (disch := omega) [go_sem, r0, r1, r2, r4, r11, r12, hlt]
            exact ⟨⟨i + 1, by omega, j, rfl, L', D2, P.up hij hq, by omega⟩, by omega⟩
        · simp -implicitDefEqProofs (disch := omega) [go_sem, r0, r1, r2, r4, r11, r12, hij]
          exact ⟨i, rfl, j, rfl, L', D, P, fun h => absurd h hij, by omega⟩
    · clear r0 r1 r2 r4 r11 r12 D P L'
      rintro ρ h' ⟨r0, r1, r2, r4, i, j, L', r11, r12, D, P, u0, m0⟩
      simp -implicitDefEqProofs (disch := omega) [↓ stop_block (id := 4), go_sem, r0, r1, r2, r4, r11, r12]
      refine cutK (fun ρ h' => ρ 0 = .slice (some ⟨bk, 0, none⟩) L.length cap ∧ ρ 1 = .int .i64 a ∧ ρ 2 = .int .i64 b ∧ ρ 4 = .func (.func fn) #[] cs.toArray ∧ ∃ (i j : Nat) (L' : List Value), ρ 11 = .int .i64 i ∧ ρ 12 = .int .i64 j ∧ Dat h (some ⟨bk, 0, none⟩) cap L a b h' L' ∧ PJ cf L' a b i j (gv L pv) ∧ (i ≤ j → 0 ≤ eqF cf (gv L' i) (gv L' a)) ∧ (i ≤ j → eqF cf (gv L' j) (gv L' a) < 0) ∧ j + 1 - i ≤ j0 + 1 - i0) ?_ ?_
      · simp -implicitDefEqProofs (disch := omega) [go_sem]
        refine loopK (fun ρ h' => ρ 0 = .slice (some ⟨bk, 0, none⟩) L.length cap ∧ ρ 1 = .int .i64 a ∧ ρ 2 = .int .i64 b ∧ ρ 4 = .func (.func fn) #[] cs.toArray ∧ ∃ (i j : Nat) (L' : List Value), ρ 11 = .int .i64 i ∧ ρ 12 = .int .i64 j ∧ Dat h (some ⟨bk, 0, none⟩) cap L a b h' L' ∧ PJ cf L' a b i j (gv L pv) ∧ (i ≤ j → 0 ≤ eqF cf (gv L' i) (gv L' a)) ∧ j + 1 - i ≤ j0 + 1 - i0)
          (fun ρ _ => (intOf (ρ 12) + 1 - intOf (ρ 11)).toNat) (by kernel_rfl) ?_ ?_
        · exact ⟨r0, r1, r2, r4, i, j, L', r11, r12, D, P, u0, m0⟩
        · clear r0 r1 r2 r4 r11 r12 D P u0 m0
          clear i j L'
          rintro ρ h' ⟨r0, r1, r2, r4, i, j, L', r11, r12, D, P, u0, m0⟩
          have hlen := D.R.len
          have hP := P.1
          obtain ⟨p1, p2, p3, p4, p5⟩ := hP
          simp -implicitDefEqProofs (disch := omega) [go_sem, r0, r1, r2, r4, r11, r12]
          refine drawK [(0, 0), (1, 0), (2, 0), (3, 0), (4, 0), (5, 0), (6, 0), (7, 0), (8, 1), (9, 0), (10, 0), (11, 0), (12, 1), (13, 3), (14, 0), (15, 0)] ?_
          by_cases hij : i ≤ j
          · obtain ⟨bk', hbk', hbk, hfz, hc⟩ := D.S.base (by omega)
            cases hbk'
            have c0 := hc j _ (gv_at (by omega))
            have c1 := hc a _ (gv_at (by omega))
            have o0 := hok.rng D.R hb j (by omega)
            have o1 := hok.rng D.R hb a (by omega)
            simp -implicitDefEqProofs (disch := omega) [go_sem, r0, r1, r2, r4, r11, r12, c0, c1]
            refine useC (C.call h' D.f _ _ o1 o0) ?_
            rintro _ h2 ⟨rfl, f2⟩
            have D2 := D.fr0 f2
            by_cases hlt : cf (gv L' a) (gv L' j) < 0
            · have hq := eqF_pos hlt
              simp -implicitDefEqProofs (disch := omega) [go_sem, r0, r1, r2, r4, r11, r12, hlt]
              exact ⟨⟨i, rfl, j - 1, by omega, L', D2, P.down hij (by omega), fun h => u0 (by omega), by omega⟩, by omega⟩
            · have hq := eqF_neg hlt
              simp -implicitDefEqProofs (disch := omega) [go_sem, r0, r1, r2, r4, r11, r12, hlt]
              exact ⟨i, rfl, j, rfl, L', D2, P, u0, fun _ => hq, by omega⟩
          · simp -implicitDefEqProofs (disch := omega) [go_sem, r0, r1, r2, r4, r11, r12, hij]
            exact ⟨i, rfl, j, rfl, L', D, P, u0, fun h => absurd h hij, by omega⟩
      · clear r0 r1 r2 r4 r11 r12 D P u0 m0
        clear i j L'
        rintro ρ h' ⟨r0, r1, r2, r4, i, j, L', r11, r12, D, P, u0, u1, m0⟩
        have hlen := D.R.len
        have hP := P.1
        obtain ⟨p1, p2, p3, p4, p5⟩ := hP
        by_cases hij : i ≤ j
        · simp -implicitDefEqProofs (disch := omega) [go_sem, r0, r1, r2, r4, r11, r12, hij]
          obtain ⟨bk', hbk', hbk, hfz, hc⟩ := D.S.base (by omega)
          cases hbk'
          have c0 := hc i _ (gv_at (by omega))
          have c1 := hc j _ (gv_at (by omega))
          have w0 := store_one (D.one hone (p := i) (by omega))
          have w1 := store_one (D.one hone (p := j) (by omega))
          refine drawK [(0, 0), (1, 0), (2, 0), (3, 0), (4, 0), (5, 0), (6, 0), (7, 1), (8, 0), (9, 0), (10, 0), (11, 1), (12, 0), (13, 3), (14, 0), (15, 3)] ?_
          obtain ⟨q0, Q⟩ := P.swap hij (by omega) (u0 hij) (u1 hij)
          have ne1 : ¬ j = i := by omega
          simp -implicitDefEqProofs (disch := omega) [go_sem, r0, r1, r2, r4, r11, r12, c0, c1, hfz, w0, w1, ne1]
          exact ⟨⟨i + 1, by omega, j - 1, by omega, _, D.swp ⟨by omega, by omega⟩ ⟨by omega, by omega⟩ hb, Q⟩, by omega⟩
        · simp -implicitDefEqProofs (disch := omega) [go_sem, r0, r1, r2, r4, r11, r12, hij]
          exact ⟨_, i, rfl, D, by omega, by omega, P.fin2 hij, P.fin3 hij, P.pv⟩
end
end Xe

/- Sorting in place, walked: which pivot. -/
namespace Xe
open Go Go.Proofs
set_option maxRecDepth 16000
set_option maxHeartbeats 1000000

/-- a counter beside a row -/
structure Ctr (hc h : Heap) (A : Option Addr) (cap : Nat) (L : List Value) (sb : Nat) (s : Nat) : Prop where
  f : Fr (blk A) hc h
  S : SlAt h A cap L
  c : hcell h ⟨sb, 0, none⟩ = some (.int .i64 s)
  fz : ∀ o, hfrz h ⟨sb, o, none⟩ = false
  new : hc.size ≤ sb
  nA : ¬ blk A sb
section
variable {hc h : Heap} {A : Option Addr} {cap : Nat} {fn : FuncId} {cs : List Value} {cf : Value → Value → Int} {ok : Value → Prop} {L : List Value} {sb s n a b : Nat}
theorem Ctr.fr0 (K : Ctr hc h A cap L sb s) {h' : Heap} (f : Fr (fun _ => False) h h') : Ctr hc h' A cap L sb s :=
  ⟨K.f.trans (f.mono fun _ _ h => h.elim), K.S.fr f (fun _ _ => id), (f.cell (hcell_lt K.c) id).trans K.c, fun o => (f.frz (hcell_lt K.c) id).trans (K.fz o), K.new, K.nA⟩
theorem Ctr.up (K : Ctr hc h A cap L sb s) : Ctr hc (hset h ⟨sb, 0, none⟩ (.int .i64 ((s : Int) + 1))) A cap L sb (s + 1) where
  f := K.f.new K.new
  S := K.S.fr ((Fr.refl (fun x => x = sb) h).set rfl) fun x hx e => K.nA (e ▸ hx)
  c := by
    have e : ((s + 1 : Nat) : Int) = (s : Int) + 1 := by omega
    rw [e, hcell_hset, if_pos ⟨rfl, rfl⟩, K.c]; rfl
  fz o := by rw [hfrz_hset]; exact K.fz o
  new := K.new
  nA := K.nA
theorem order2_ok (C : Cmp Tryz.prog hc A fn cs cf ok) (K : Ctr hc h A cap L sb s) (hn : n = L.length) (hs : n < 2 ^ 40) (hok : OkR ok L) (ha : a < n) (hb : b < n) (hs2 : s < 2 ^ 40) :
    CallsH Tryz.prog 268 [.slice A n cap, .int .i64 a, .int .i64 b, .pointer (some ⟨sb, 0, none⟩), .func (.func fn) #[] cs.toArray] h fun r h' =>
      ∃ x y s' : Nat, r = .tuple #[.int .i64 x, .int .i64 y] ∧ ((x = a ∧ y = b) ∨ (x = b ∧ y = a)) ∧ s ≤ s' ∧ s' ≤ s + 1 ∧ Ctr hc h' A cap L sb s' ∧ Fr (fun x => x = sb) h h' := by
  subst hn
  refine calls_of 32 [.tmp 10, .tmp 11] Go.Proofs.Tryz.func268 rfl rfl rfl ?_
  obtain ⟨bk, hA0, hbk0, hfz0, hc0⟩ := K.S.base (by omega)
  have c00 := hc0 a _ (gv_at (by omega))
  have c01 := hc0 b _ (gv_at (by omega))
  subst hA0
  simp -implicitDefEqProofs (disch := omega) [go_sem]
  refine drawK [(0, 0), (1, 0), (2, 0), (3, 0), (4, 1), (5, 0), (6, 0), (7, 0), (8, 1), (9, 3), (10, 0)] ?_
  simp -implicitDefEqProofs (disch := omega) [go_sem, c00, c01]
  refine useC (C.call h K.f _ _ (hok b (by omega)) (hok a (by omega))) ?_
  rintro _ h2 ⟨rfl, f2⟩
  have K2 := K.fr0 f2
  have k1 := K2.c
  have k2 := K2.fz
  have f2' : Fr (fun x => x = sb) h h2 := f2.mono fun _ _ h => h.elim
  by_cases hlt : cf (gv L b) (gv L a) < 0
  · simp -implicitDefEqProofs (disch := omega) [go_sem, hlt, k1, k2]
    exact ⟨b, a, ⟨rfl, rfl⟩, .inr ⟨rfl, rfl⟩, s + 1, by omega, by omega, K2.up, f2'.set rfl⟩
  · simp -implicitDefEqProofs (disch := omega) [go_sem, hlt]
    exact ⟨a, b, ⟨rfl, rfl⟩, .inl ⟨rfl, rfl⟩, s, by omega, by omega, K2, f2'⟩

theorem median_ok {c : Nat} (C : Cmp Tryz.prog hc A fn cs cf ok) (K : Ctr hc h A cap L sb s) (hn : n = L.length) (hs : n < 2 ^ 40) (hok : OkR ok L) (ha : a < n) (hb : b < n) (hcn : c < n) (hs2 : s < 2 ^ 30) :
    CallsH Tryz.prog 245 [.slice A n cap, .int .i64 a, .int .i64 b, .int .i64 c, .pointer (some ⟨sb, 0, none⟩), .func (.func fn) #[] cs.toArray] h fun r h' =>
      ∃ x s' : Nat, r = .int .i64 x ∧ (x = a ∨ x = b ∨ x = c) ∧ s ≤ s' ∧ s' ≤ s + 3 ∧ Ctr hc h' A cap L sb s' ∧ Fr (fun x => x = sb) h h' := by
  refine calls_of 41 [.tmp 12] Go.Proofs.Tryz.func245 rfl rfl rfl ?_
  simp -implicitDefEqProofs (disch := omega) [go_sem]
  refine useC (order2_ok C K hn hs hok ha hb (by omega)) ?_
  rintro _ h1 ⟨x1, y1, s1, rfl, hxy1, hs1, hs1', K1, f1⟩
  simp -implicitDefEqProofs (disch := omega) [go_sem]
  refine useC (order2_ok C K1 hn hs hok (show y1 < n by omega) hcn (by omega)) ?_
  rintro _ h2 ⟨x2, y2, s2, rfl, hxy2, hs2, hs2', K2, f2⟩
  simp -implicitDefEqProofs (disch := omega) [go_sem]
  refine useC (order2_ok C K2 hn hs hok (show x1 < n by omega) (show x2 < n by omega) (by omega)) ?_
  rintro _ h3 ⟨x3, y3, s3, rfl, hxy3, hs3, hs3', K3, f3⟩
  simp -implicitDefEqProofs (disch := omega) [go_sem]
  exact ⟨y3, rfl, by omega, s3, by omega, by omega, K3, (f1.trans f2).trans f3⟩
theorem medianAdj_ok (C : Cmp Tryz.prog hc A fn cs cf ok) (K : Ctr hc h A cap L sb s) (hn : n = L.length) (hs : n < 2 ^ 40) (hok : OkR ok L) (ha : 1 ≤ a) (hb : a + 1 < n) (hs2 : s < 2 ^ 30) :
    CallsH Tryz.prog 244 [.slice A n cap, .int .i64 a, .pointer (some ⟨sb, 0, none⟩), .func (.func fn) #[] cs.toArray] h fun r h' =>
      ∃ x s' : Nat, r = .int .i64 x ∧ (a ≤ x + 1 ∧ x ≤ a + 1) ∧ s ≤ s' ∧ s' ≤ s + 3 ∧ Ctr hc h' A cap L sb s' ∧ Fr (fun x => x = sb) h h' := by
  refine calls_of 18 [.tmp 8] Go.Proofs.Tryz.func244 rfl rfl rfl ?_
  simp -implicitDefEqProofs (disch := omega) [go_sem]
  have e1 : (a : Int) - 1 = ((a - 1 : Nat) : Int) := by omega
  have e2 : (a : Int) + 1 = ((a + 1 : Nat) : Int) := by omega
  rw [e1, e2]
  refine useC (median_ok C K hn hs hok (show a - 1 < n by omega) (by omega) (by omega) (by omega)) ?_
  rintro _ h1 ⟨x, s1, rfl, hx, hs1, hs1', K1, f1⟩
  simp -implicitDefEqProofs (disch := omega) [go_sem]
  exact ⟨x, rfl, by omega, s1, by omega, by omega, K1, f1⟩
theorem choose_ok (C : Cmp Tryz.prog h A fn cs cf ok) (S : SlAt h A cap L) (hn : n = L.length) (hs : n < 2 ^ 40) (hok : OkR ok L) (hab : a + 12 < b) (hb : b ≤ n) :
    CallsH Tryz.prog 205 [.slice A n cap, .int .i64 a, .int .i64 b, .func (.func fn) #[] cs.toArray] h fun r h' =>
      ∃ x t : Nat, r = .tuple #[.int .i64 x, .int .i64 t] ∧ a ≤ x ∧ x < b ∧ t ≤ 2 ∧ Fr (fun _ => False) h h' := by
  refine calls_of 63 [.tmp 8, .tmp 9] Go.Proofs.Tryz.func205 rfl rfl rfl ?_
  obtain ⟨l, hl⟩ : ∃ l : Nat, (b : Int) - a = l := ⟨b - a, by omega⟩
  simp -implicitDefEqProofs (disch := omega) [go_sem, hl]
  have K : Ctr h (h.push (.cells #[.int .i64 0] 3)) A cap L h.size 0 := by
    have f : Fr (fun _ => False) h (h.push (.cells #[.int .i64 0] 3)) := (Fr.refl _ _).push
    exact ⟨f.mono fun _ _ h => h.elim, S.fr f (fun _ _ => id), by rw [hcell_push_new]; rfl, fun o => hfrz_push_new, Nat.le_refl _, fun h => by have := S.blk_lt h; omega⟩
  obtain ⟨q, hq, hq1, hq2⟩ : ∃ q : Nat, (l : Int) / 4 = q ∧ 4 * q ≤ l ∧ l < 4 * q + 4 := ⟨l / 4, by omega, by omega, by omega⟩
  have e1 : (a : Int) + q = ((a + q : Nat) : Int) := by omega
  have e2 : (a : Int) + q * 2 = ((a + q * 2 : Nat) : Int) := by omega
  have e3 : (a : Int) + q * 3 = ((a + q * 3 : Nat) : Int) := by omega
  have fin : ∀ {h' : Heap}, Fr (fun x => x = h.size) (h.push (.cells #[.int .i64 0] 3)) h' → Fr (fun _ => False) h h' := fun f => by
    have f0 : Fr (fun _ => False) h (h.push (.cells #[.int .i64 0] 3)) := (Fr.refl _ _).push
    exact f0.trans' f fun x hx e => by omega
  by_cases h50 : 50 ≤ l
  · simp -implicitDefEqProofs (disch := omega) [go_sem, h50, hq]
    rw [e1]
    refine useC (medianAdj_ok C K hn hs hok (by omega) (by omega) (by omega)) ?_
    rintro _ h1 ⟨x1, s1, rfl, hx1, _, hs1, K1, f1⟩
    simp -implicitDefEqProofs (disch := omega) [go_sem, hq]
    rw [e2]
    refine useC (medianAdj_ok C K1 hn hs hok (by omega) (by omega) (by omega)) ?_
    rintro _ h2 ⟨x2, s2, rfl, hx2, _, hs2, K2, f2⟩
    simp -implicitDefEqProofs (disch := omega) [go_sem, hq]
    rw [e3]
    refine useC (medianAdj_ok C K2 hn hs hok (by omega) (by omega) (by omega)) ?_
    rintro _ h3 ⟨x3, s3, rfl, hx3, _, hs3, K3, f3⟩
    simp -implicitDefEqProofs (disch := omega) [go_sem]
    refine useC (median_ok C K3 hn hs hok (by omega) (by omega) (by omega) (by omega)) ?_
    rintro _ h4 ⟨x4, s4, rfl, hx4, _, hs4, K4, f4⟩
    have k := K4.c
    have ff := fin (((f1.trans f2).trans f3).trans f4)
    by_cases z0 : s4 = 0
    · simp -implicitDefEqProofs (disch := omega) [go_sem, k, z0]
      exact ⟨x4, 1, ⟨rfl, rfl⟩, by omega, by omega, by omega, ff⟩
    · by_cases z12 : s4 = 12
      · simp -implicitDefEqProofs (disch := omega) [go_sem, k, z12]
        exact ⟨x4, 2, ⟨rfl, rfl⟩, by omega, by omega, by omega, ff⟩
      · simp -implicitDefEqProofs (disch := omega) [go_sem, k, z0, z12]
        exact ⟨x4, 0, ⟨rfl, rfl⟩, by omega, by omega, by omega, ff⟩
  · simp -implicitDefEqProofs (disch := omega) [go_sem, h50, hq]
    rw [e1, e2, e3]
    refine useC (median_ok C K hn hs hok (by omega) (by omega) (by omega) (by omega)) ?_
    rintro _ h4 ⟨x4, s4, rfl, hx4, _, hs4, K4, f4⟩
    have k := K4.c
    have ff := fin f4
    by_cases z0 : s4 = 0
    · simp -implicitDefEqProofs (disch := omega) [go_sem, k, z0]
      exact ⟨x4, 1, ⟨rfl, rfl⟩, by omega, by omega, by omega, ff⟩
    · by_cases z12 : s4 = 12
      · simp -implicitDefEqProofs (disch := omega) [go_sem, k, z12]
        exact ⟨x4, 2, ⟨rfl, rfl⟩, by omega, by omega, by omega, ff⟩
      · simp -implicitDefEqProofs (disch := omega) [go_sem, k, z0, z12]
        exact ⟨x4, 0, ⟨rfl, rfl⟩, by omega, by omega, by omega, ff⟩
end
end Xe

/- Sorting in place, walked: insertion. -/
namespace Xe
open Go Go.Proofs
set_option maxRecDepth 16000
set_option maxHeartbeats 1000000
section
variable {h : Heap} {A : Option Addr} {cap : Nat} {fn : FuncId} {cs : List Value} {cf : Value → Value → Int} {ok : Value → Prop} {L : List Value} {n a b : Nat}
theorem insertionR_ok (C : Cmp Tryz.prog h A fn cs cf ok) (S : SlAt h A cap L) (hn : n = L.length) (hs : n < 2 ^ 40) (hone : ∀ w ∈ L, w.oneCell' = true) (hok : OkR ok L) (hab : a ≤ b) (hb' : b ≤ n) :
    CallsH Tryz.prog 202 [.slice A n cap, .int .i64 a, .int .i64 b, .func (.func fn) #[] cs.toArray] h fun _ h' => ∃ L', Dat h A cap L a b h' L' ∧ Srt cf a b L' := by
  subst hn
  have hb : b ≤ L.length := hb'
  refine calls_of 53 [] Go.Proofs.Tryz.func202 rfl rfl rfl ?_
  simp -implicitDefEqProofs (disch := omega) [go_sem]
  refine loopK (fun ρ h' => ρ 0 = .slice A L.length cap ∧ ρ 1 = .int .i64 a ∧ ρ 2 = .int .i64 b ∧ ρ 3 = .func (.func fn) #[] cs.toArray ∧
      ∃ (i : Nat) (L' : List Value), ρ 8 = .int .i64 i ∧ a + 1 ≤ i ∧ Dat h A cap L a b h' L' ∧ ∀ p q, a ≤ p → p < q → q < i → q < b → 0 ≤ cf (gv L' q) (gv L' p))
    (fun ρ _ => b - (intOf (ρ 8)).toNat) (by kernel_rfl) ?_ ?_
  · exact ⟨rfl, rfl, rfl, rfl, a + 1, L, rfl, by omega, Dat.refl S, fun p q _ h1 h2 => by omega⟩
  · rintro ρ h1 ⟨r0, r1, r2, r3, i, L1, r8, hi, D, hO⟩
    have hlen := D.R.len
    by_cases hin : i < b
    · simp -implicitDefEqProofs (disch := omega) [go_sem, r0, r1, r2, r3, r8]
      refine loopK (fun ρ h' => ρ 0 = .slice A L.length cap ∧ ρ 1 = .int .i64 a ∧ ρ 2 = .int .i64 b ∧ ρ 3 = .func (.func fn) #[] cs.toArray ∧ ρ 8 = .int .i64 i ∧
          ∃ (j : Nat) (L' : List Value), ρ 9 = .int .i64 j ∧ a ≤ j ∧ j ≤ i ∧ Dat h A cap L a b h' L' ∧ ∀ p q, a ≤ p → p < q → q ≤ i → q ≠ j → 0 ≤ cf (gv L' q) (gv L' p))
        (fun ρ _ => (intOf (ρ 9)).toNat) (by kernel_rfl) ?_ ?_
      · exact ⟨r0, r1, r2, r3, r8, i, L1, rfl, by omega, by omega, D, fun p q h0 h1 h2 h3 => hO p q h0 h1 (by omega) (by omega)⟩
      · have hr8 : (intOf (ρ 8)).toNat = i := by rw [r8]; rfl
        clear r0 r1 r2 r3 r8 D hO hlen
        clear L1
        rintro ρ h2 ⟨r0, r1, r2, r3, r8, j, L1, r9, hj1, hj2, D, hO⟩
        have hlen := D.R.len
        by_cases hj0 : j = a
        · subst hj0
          simp -implicitDefEqProofs (disch := omega) [go_sem, r0, r1, r2, r3, r8, r9]
          refine drawK [(0, 0), (1, 0), (2, 0), (3, 0), (4, 0), (5, 0), (6, 0), (7, 0), (8, 1), (9, 0), (10, 0), (11, 0), (12, 0), (13, 1), (14, 3), (15, 0), (16, 0)] ?_
          simp -implicitDefEqProofs (disch := omega) [go_sem, r0, r1, r2, r3, r8, r9]
          exact ⟨⟨i + 1, by omega, by omega, L1, D, fun p q h0 h1 h2 h3 => hO p q h0 h1 (by omega) (by omega)⟩, by omega⟩
        · obtain ⟨bk, hA, hbk, hfz, hc⟩ := D.S.base (by omega)
          have c0 := hc j _ (gv_at (by omega))
          have c1 := hc (j - 1) _ (gv_at (by omega))
          have ej : ((j : Int) - 1).toNat = j - 1 := by omega
          have o0 := hok.rng D.R hb j (by omega)
          have o1 := hok.rng D.R hb (j - 1) (by omega)
          have w0 := store_one (D.one hone (p := j) (by omega))
          have w1 := store_one (D.one hone (p := j - 1) (by omega))
          subst hA
          simp -implicitDefEqProofs (disch := omega) [go_sem, r0, r1, r2, r3, r8, r9]
          refine drawK [(0, 0), (1, 0), (2, 0), (3, 0), (4, 0), (5, 0), (6, 0), (7, 0), (8, 1), (9, 0), (10, 0), (11, 0), (12, 0), (13, 1), (14, 3), (15, 0), (16, 0)] ?_
          simp -implicitDefEqProofs (disch := omega) [go_sem, r0, r1, r2, r3, r8, r9, c0, c1, ej]
          refine useC (C.call h2 D.f _ _ o0 o1) ?_
          rintro _ h3 ⟨rfl, f3⟩
          have D3 := D.fr0 f3
          have c03 := (f3.cell (o := j) hbk id).trans c0
          have c13 := (f3.cell (o := j - 1) hbk id).trans c1
          have hfz3 : ∀ o, hfrz h3 ⟨bk, o, none⟩ = false := fun o => (f3.frz hbk id).trans (hfz o)
          by_cases hlt : cf (gv L1 j) (gv L1 (j - 1)) < 0
          · simp -implicitDefEqProofs (disch := omega) [go_sem, r0, r1, r2, r3, r8, r9]
            refine drawK [(0, 0), (1, 0), (2, 0), (3, 0), (4, 0), (5, 0), (6, 0), (7, 0), (8, 0), (9, 1), (10, 0), (11, 0), (12, 0), (13, 1), (14, 0), (15, 3), (16, 0), (17, 3)] ?_
            have ne1 : ¬ j - 1 = j := by omega
            simp -implicitDefEqProofs (disch := omega) [go_sem, r0, r1, r2, r3, r8, r9, c03, c13, ej, hfz3, ne1, w0, w1]
            have D4 := D3.swp (i := j) (j := j - 1) ⟨by omega, by omega⟩ ⟨by omega, by omega⟩ hb
            refine ⟨⟨j - 1, by omega, by omega, by omega, _, D4, fun p q h0 h1 h2 h3 => ?_⟩, by omega⟩
            have hg := gv_swp (L := L1) (i := j) (j := j - 1) (by omega) (by omega)
            rw [hg, hg]
            by_cases eq : q = j
            · subst eq
              rw [if_neg (by omega), if_pos rfl]
              by_cases ep : p = q - 1
              · rw [if_pos ep]; exact C.c.asy _ _ o0 o1 hlt
              · rw [if_neg ep, if_neg (by omega)]; exact hO p (q - 1) h0 (by omega) (by omega) (by omega)
            · rw [if_neg h3, if_neg eq]
              by_cases ep : p = j - 1
              · rw [if_pos ep]; exact hO j q (by omega) (by omega) h2 eq
              · rw [if_neg ep]
                by_cases ep2 : p = j
                · rw [if_pos ep2]; exact hO (j - 1) q (by omega) (by omega) h2 eq
                · rw [if_neg ep2]; exact hO p q h0 h1 h2 eq
          · have hge : 0 ≤ cf (gv L1 j) (gv L1 (j - 1)) := by omega
            simp -implicitDefEqProofs (disch := omega) [go_sem, r0, r1, r2, r3, r8, r9]
            refine ⟨⟨i + 1, by omega, by omega, L1, D3, fun p q h0 h1 h2 h3 => ?_⟩, by omega⟩
            by_cases eq : q = j
            · subst eq
              by_cases ep : p = q - 1
              · subst ep; exact hge
              · have op := hok.rng D.R hb p (by omega)
                exact C.c.tr _ _ _ op o1 o0 (hO p (q - 1) h0 (by omega) (by omega) (by omega)) hge
            · exact hO p q h0 h1 (by omega) eq
    · simp -implicitDefEqProofs (disch := omega) [go_sem, r0, r1, r2, r3, r8]
      exact ⟨L1, D, fun p q h0 h1 h2 => hO p q h0 h1 (by omega) h2⟩
end
end Xe
