/- The law's own functions of layer 21: small, filled. -/
import Derived.Test.YtkghjecglmmloaaGreatC15
namespace Xe
open Go Tp Go.Proofs Hq
set_option maxRecDepth 16000
set_option maxHeartbeats 4000000

section
variable {h : Heap}
/-- what small tells -/
structure Sml (a0 : Int) (m q : Nat) (gs : Nat → List Int) (sc : Scr) : Prop where
  v0 : 0 ≤ a0
  v1 : a0 ≤ 7
  hm : m ≤ 24
  hq : q ≤ 8
  p : sc.picks.length ≤ 20
  g : sc.signs.length ≤ 20
  r : sc.res.length ≤ 20
  d : sc.red.length ≤ 20
  l : ∀ i, i < m → (gs i).length ≤ 8
theorem small21_ok {A B : Option Addr} {m c q d : Nat} {gs : Nat → List Int} (R : Args2 h A m gs) {sc : Scr} {a : ScrA} (Ms : ScrM h sc a) (hq : q < 2 ^ 63) {a0 : Int} (w0 : -9223372036854775808 ≤ a0 ∧ a0 ≤ 9223372036854775807) :
    CallsH Tryz.prog 30 [.int .i64 a0, .slice A m c, .agg (scrV sc a).toArray, .slice B q d] h fun r h' => Fr (fun _ => False) h h' ∧ ∃ b : Bool, r = .bool b ∧ (b = true → Sml a0 m q gs sc) := by
  have hms := R.small
  have l1 := Ms.lP
  have l2 := Ms.lG
  have l3 := Ms.lR
  have l4 := Ms.lD
  refine calls_of 62 [.tmp 8] Go.Proofs.Tryz.func30 rfl rfl rfl (by kernel_rfl) (Nat.le_of_ble_eq_true rfl) ?_
  unfold scrV
  simp -implicitDefEqProofs (disch := omega) [go_sem]
  obtain ⟨h1, e1⟩ : ∃ h1, h1 = h.push (.cells #[.slice a.P sc.picks.length a.pc, .slice a.G sc.signs.length a.gc, .slice a.R sc.res.length a.rc, .slice a.D sc.red.length a.dc, .int .i64 sc.steps] 56) := ⟨_, rfl⟩
  have f1 : Fr (fun _ => False) h h1 := by rw [e1]; exact (Fr.refl _ _).push
  have V1 : ListB h1 h.size [.slice a.P sc.picks.length a.pc, .slice a.G sc.signs.length a.gc, .slice a.R sc.res.length a.rc, .slice a.D sc.red.length a.dc, .int .i64 sc.steps] := by rw [e1]; exact ListB.new
  have b0 := V1.at' 0 _ rfl
  have b1 := V1.at' 1 _ rfl
  have b2 := V1.at' 2 _ rfl
  have b3 := V1.at' 3 _ rfl
  by_cases g1 : a0 < 0
  · simp -implicitDefEqProofs (disch := omega) [go_sem, g1]
    exact (Fr.refl _ _).push
  by_cases g2 : 7 < a0
  · simp -implicitDefEqProofs (disch := omega) [go_sem, g1, g2]
    exact (Fr.refl _ _).push
  by_cases g3 : 24 < m
  · have g3' : (24 : Int) < m := by omega
    simp -implicitDefEqProofs (disch := omega) [go_sem, g1, g2, g3']
    exact (Fr.refl _ _).push
  have g3' : ¬ (24 : Int) < m := by omega
  by_cases g4 : 8 < q
  · have g4' : (8 : Int) < q := by omega
    simp -implicitDefEqProofs (disch := omega) [go_sem, g1, g2, g3', g4']
    exact (Fr.refl _ _).push
  have g4' : ¬ (8 : Int) < q := by omega
  by_cases g5 : 20 < sc.picks.length
  · have g5' : (20 : Int) < sc.picks.length := by omega
    simp -implicitDefEqProofs (disch := omega) [go_sem, g1, g2, g3', g4', g5', ← e1, b0]
    exact f1
  have g5' : ¬ (20 : Int) < sc.picks.length := by omega
  by_cases g6 : 20 < sc.signs.length
  · have g6' : (20 : Int) < sc.signs.length := by omega
    simp -implicitDefEqProofs (disch := omega) [go_sem, g1, g2, g3', g4', g5', g6', ← e1, b0, b1]
    exact f1
  have g6' : ¬ (20 : Int) < sc.signs.length := by omega
  by_cases g7 : 20 < sc.res.length
  · have g7' : (20 : Int) < sc.res.length := by omega
    simp -implicitDefEqProofs (disch := omega) [go_sem, g1, g2, g3', g4', g5', g6', g7', ← e1, b0, b1, b2]
    exact f1
  have g7' : ¬ (20 : Int) < sc.res.length := by omega
  by_cases g8 : 20 < sc.red.length
  · have g8' : (20 : Int) < sc.red.length := by omega
    simp -implicitDefEqProofs (disch := omega) [go_sem, g1, g2, g3', g4', g5', g6', g7', g8', ← e1, b0, b1, b2, b3]
    exact f1
  have g8' : ¬ (20 : Int) < sc.red.length := by omega
  simp -implicitDefEqProofs (disch := omega) [go_sem, g1, g2, g3', g4', g5', g6', g7', g8', ← e1, b0, b1, b2, b3]
  have R1 := R.fr f1
  refine loopK (fun ρ h' => ρ 1 = .slice A m c ∧ h' = h1 ∧ ∃ i : Nat, ρ 9 = .int .i64 i ∧ i ≤ m ∧ ∀ j, j < i → (gs j).length ≤ 8) (fun ρ _ => m - (intOf (ρ 9)).toNat) (by kernel_rfl) ?_ ?_
  · exact ⟨rfl, e1.symm, 0, rfl, by omega, fun j h => by omega⟩
  · rintro ρ h' ⟨r1, rfl, i, r9, hi, hj⟩
    by_cases hin : i < m
    · obtain ⟨bk, off, B', cB, rfl, e0, RB, hBl, hBr⟩ := R1.at' i hin
      by_cases hlen : 8 < (gs i).length
      · have hl' : (8 : Int) < (gs i).length := by omega
        simp -implicitDefEqProofs (disch := omega) [go_sem, r1, r9, e0, hl']
        exact f1
      · have hl' : ¬ (8 : Int) < (gs i).length := by omega
        simp -implicitDefEqProofs (disch := omega) [go_sem, r1, r9, e0, hl']
        refine ⟨⟨i + 1, by omega, by omega, fun j hj2 => ?_⟩, by omega⟩
        by_cases e : j = i
        · subst e; omega
        · exact hj j (by omega)
    · have e : i = m := by omega
      subst e
      simp -implicitDefEqProofs (disch := omega) [go_sem, r1, r9]
      exact ⟨f1, ⟨by omega, by omega, by omega, by omega, by omega, by omega, by omega, by omega, hj⟩⟩
end
end Xe

/- The law's own functions of layer 21: filled. -/
namespace Xe
open Go Tp Go.Proofs Hq
set_option maxRecDepth 16000
set_option maxHeartbeats 4000000

/-- a core of the law's own -/
structure Fld (h0 h : Heap) (cb : Nat) (k : Nat → Option CT) (c : CSt) (vars N M0 : Nat) (X : Option Addr) (xc : Nat) (Cs : List (List Int)) (vs : List Value) (K : List (List Int)) : Prop where
  C : CoreM h cb k c
  S : SInv K c.s c.ln c.lg
  HF : HFull c
  hv : c.s.vars = vars
  cs : c.s.cs.length ≤ N
  R : RowsW h h0.size M0 X xc Cs vs
  hM : M0 ≤ h0.size
  kX : ∀ y, blk X y → k y = none
  cln : Cln vars Cs K
  lC : Cs.length ≤ N
  l8 : ∀ C ∈ Cs, C.length ≤ 8
  low : ∀ y t, k y = some t → h0.size ≤ y
  fr : Fr (fun _ => False) h0 h
theorem Fld.next {h0 h h' : Heap} {cb : Nat} {k k' : Nat → Option CT} {c c' : CSt} {vars N N' M0 : Nat} {X : Option Addr} {xc : Nat} {Cs K : List (List Int)} {vs : List Value} (F : Fld h0 h cb k c vars N M0 X xc Cs vs K) (C' : CoreM h' cb k' c') (st : KSt k k' h h') (S' : SInv K c'.s c'.ln c'.lg) (HF' : HFull c') (hv : c'.s.vars = c.s.vars) (hcs : c'.s.cs.length ≤ N') (hN : N ≤ N') : Fld h0 h' cb k' c' vars N' M0 X xc Cs vs K where
  C := C'
  S := S'
  HF := HF'
  hv := hv.trans F.hv
  cs := hcs
  R := F.R.fr st.fr (fun y hy h => h (F.kX y hy)) fun y hy _ h => by
    cases hc : k y with
    | none => exact h hc
    | some t => have := F.low y t hc; have := F.hM; omega
  hM := F.hM
  kX y hy := st.free (F.kX y hy) (F.R.S.blk_lt hy)
  cln := F.cln
  lC := Nat.le_trans F.lC hN
  l8 := F.l8
  low y t hy := (st.own y t hy).elim (F.low y t) fun h => Nat.le_trans F.fr.size h
  fr := F.fr.trans' st.fr fun y hy hn => by
    cases hc : k y with
    | none => exact hn hc
    | some t => have := F.low y t hc; omega

theorem Fld.cb {h0 h : Heap} {cb : Nat} {k : Nat → Option CT} {c : CSt} {vars N M0 : Nat} {X : Option Addr} {xc : Nat} {Cs K : List (List Int)} {vs : List Value} (F : Fld h0 h cb k c vars N M0 X xc Cs vs K) : h0.size ≤ cb := by
  obtain ⟨bb, hb, p, O, n, act, LA, lc, GA, gc, vs', C⟩ := F.C.ex
  exact F.low _ _ C.kC
/-- what lay there before isn't the core's -/
theorem Fld.not {h0 h : Heap} {cb : Nat} {k : Nat → Option CT} {c : CSt} {vars N M0 : Nat} {X : Option Addr} {xc : Nat} {Cs K : List (List Int)} {vs : List Value} (F : Fld h0 h cb k c vars N M0 X xc Cs vs K) {B : Option Addr} {ws : List Value} (R : RowAt h0 B ws) : NotK k cb B ws := fun hw y hy => by
  have h1 := row_lt R hw hy
  have h2 := F.cb
  refine ⟨?_, by omega⟩
  cases hc : k y with
  | none => rfl
  | some t => have := F.low y t hc; omega
theorem Fld.frK {h0 h h' : Heap} {cb : Nat} {k k' : Nat → Option CT} {c : CSt} {vars N M0 : Nat} {X : Option Addr} {xc : Nat} {Cs K : List (List Int)} {vs : List Value} (F : Fld h0 h cb k c vars N M0 X xc Cs vs K) (st : KSt k k' h h') : Fr (fun _ => False) h0 h' ∧ RowsW h' h0.size M0 X xc Cs vs ∧ (∀ y, blk X y → k' y = none) ∧ (∀ y t, k' y = some t → h0.size ≤ y) := by
  refine ⟨F.fr.trans' st.fr fun y hy hn => ?_, F.R.fr st.fr (fun y hy h => h (F.kX y hy)) fun y hy _ h => ?_, fun y hy => st.free (F.kX y hy) (F.R.S.blk_lt hy), fun y t hy => (st.own y t hy).elim (F.low y t) fun h => Nat.le_trans F.fr.size h⟩
  · cases hc : k y with
    | none => exact hn hc
    | some t => have := F.low y t hc; omega
  · cases hc : k y with
    | none => exact h hc
    | some t => have := F.low y t hc; have := F.hM; omega
/-- the clauses that a core took -/
inductive KOf (vars : Nat) (gs : Nat → List Int) : Nat → List (List Int) → Prop
  | nil : KOf vars gs 0 []
  | bad {i : Nat} {K : List (List Int)} : KOf vars gs i K → goodC vars (gs i) = false → KOf vars gs (i + 1) K
  | no {i : Nat} {K : List (List Int)} : KOf vars gs i K → goodC vars (gs i) = true → CleanR (gs i) none → KOf vars gs (i + 1) K
  | add {i : Nat} {K : List (List Int)} {L : List Int} : KOf vars gs i K → goodC vars (gs i) = true → CleanR (gs i) (some L) → KOf vars gs (i + 1) (K ++ [L])

/-- what filled gives -/
def FldR (h0 : Heap) (M0 vars m : Nat) (gs : Nat → List Int) (r : Value) (h : Heap) : Prop := ∃ cb k c X xc Cs vs K, r = .tuple #[.pointer (some ⟨cb, 0, none⟩), .slice X (Cs : List (List Int)).length xc] ∧ Fld h0 h cb k c vars m M0 X xc Cs vs K ∧ c.ln = [] ∧ c.lg = [] ∧ KOf vars gs m K
structure FiJ (h0 : Heap) (M0 : Nat) (A : Option Addr) (m cA vars : Nat) (gs : Nat → List Int) (ρ : Env) (h : Heap) : Prop where
  r1 : ρ 1 = .slice A m cA
  ex : ∃ (i : Nat) (cb : Nat) (k : Nat → Option CT) (c : CSt) (X : Option Addr) (xc : Nat) (Cs : List (List Int)) (vs : List Value) (K : List (List Int)), ρ 6 = .pointer (some ⟨cb, 0, none⟩) ∧ ρ 8 = .int .i64 i ∧ i ≤ m ∧ ρ 7 = .slice X Cs.length xc ∧ Fld h0 h cb k c vars i M0 X xc Cs vs K ∧ c.ln = [] ∧ c.lg = [] ∧ KOf vars gs i K
theorem filled21_ok {h0 h : Heap} {A : Option Addr} {m cA vars : Nat} {gs : Nat → List Int} (R : Args2 h0 A m gs) (f00 : Fr (fun _ => False) h0 h) (hm : m ≤ 24) (hv : vars ≤ 1048576) (hl : ∀ i, i < m → (gs i).length ≤ 8) :
    CallsH Tryz.prog 32 [.int .i64 vars, .slice A m cA] h fun r h' => FldR h h0.size vars m gs r h' := by
  refine calls_of 37 [.tmp 4, .tmp 5] Go.Proofs.Tryz.func32 rfl rfl rfl (by kernel_rfl) (Nat.le_of_ble_eq_true rfl) ?_
  simp -implicitDefEqProofs (disch := omega) [go_sem]
  refine useC (cnew_ok (x := (vars : Int)) (by omega) (by omega)) ?_
  rintro _ h1 (⟨hneg, _⟩ | ⟨vars', cb, ev, _, rfl, k, C1, low1, f1⟩)
  · omega
  obtain rfl : vars = vars' := by omega
  simp -implicitDefEqProofs (disch := omega) [go_sem]
  refine loopK (FiJ h h0.size A m cA vars gs) (fun ρ _ => m - (intOf (ρ 8)).toNat) (by kernel_rfl) ?_ ?_
  · refine ⟨rfl, 0, cb, k, cst0 vars, none, 0, [], [], [], rfl, rfl, by omega, rfl, ⟨C1, SInv.new (by omega), fun v h1 h2 _ => ⟨h1, h2⟩, rfl, Nat.le_refl _, RowsW.nil (Nat.le_trans f00.size f1.size), f00.size, fun y ⟨_, h, _⟩ => (nomatch h), ⟨fun C hC => (nomatch hC), fun C hC => (nomatch hC), fun C hC => (nomatch hC)⟩, Nat.le_refl _, fun C hC => (nomatch hC), low1, f1⟩, rfl, rfl, .nil⟩
  · clear C1 low1 f1
    clear cb k
    rintro ρ h2 ⟨r1, i, cb, k, c, X, xc, Cs, vs, K, r6, r8, hi, r7, F, eln, elg, KO⟩
    by_cases hin : i < m
    · obtain ⟨bk, off, B, cB, rfl, e0, RB0, hBl, hBr⟩ := R.at' i hin
      have f0F := f00.trans F.fr
      have e2 := (f0F.cell (hcell_lt e0) fun h => h).trans e0
      have RB2 := RB0.fr0 f0F
      have hli := hl i hin
      have hcs := F.cs
      have hlC := F.lC
      simp -implicitDefEqProofs (disch := omega) [go_sem, r1, r6, r7, r8, e2]
      refine useC (cadd_ok F.C F.S F.HF RB2 (F.not (RB0.fr0 f00)) rfl (by omega) hBr (by omega)) ?_
      rintro _ h3 ⟨k3, c3, e, rfl, C3, st3, HF3, hv3, eln3, elg3, est3, hcs3, hor⟩
      have keep : SInv K c3.s c3.ln c3.lg → Fld h h3 cb k3 c3 vars (i + 1) h0.size X xc Cs vs K := fun S3 => F.next C3 st3 S3 HF3 hv3 (by omega) (by omega)
      rcases hor with ⟨rfl, hgF, S3⟩ | ⟨rfl, hgT, hcN, S3⟩ | ⟨rfl, hg, L, hL, S3⟩
      · simp -implicitDefEqProofs (disch := omega) [go_sem, r1, r6, r7, r8]
        exact ⟨⟨r1, i + 1, cb, k3, c3, X, xc, Cs, vs, K, r6, rfl, by omega, r7, keep S3, eln3.trans eln, elg3.trans elg, KO.bad (F.hv ▸ hgF)⟩, by omega⟩
      · simp -implicitDefEqProofs (disch := omega) [go_sem, r1, r6, r7, r8]
        exact ⟨⟨r1, i + 1, cb, k3, c3, X, xc, Cs, vs, K, r6, rfl, by omega, r7, keep S3, eln3.trans eln, elg3.trans elg, KO.no (F.hv ▸ hgT) hcN⟩, by omega⟩
      · obtain ⟨f03, RX3, kX3, low3⟩ := F.frK st3
        have e3 := ((f00.trans f03).cell (hcell_lt e0) fun h => h).trans e0
        simp -implicitDefEqProofs (disch := omega) [go_sem, r1, r6, r7, r8, e3]
        refine build1 rfl rfl ?_
        have f4 : Fr (fun _ => False) h3 (h3.push (.cells #[.slice B (gs i).length cB] 23)) := (Fr.refl _ _).push
        have RX4 := RX3.fr0 f4
        have z0 := f03.size
        have z4 := f4.size
        simp -implicitDefEqProofs (disch := omega) [go_sem, r1, r6, r7, r8]
        refine appendB (vs := vs) (ws := [.slice B (gs i).length cB]) RX4.S (by rw [RX4.len]) (SlAt.new (vs := [.slice B (gs i).length cB])).row rfl (by simp [Value.oneCell']) (by omega) (by omega) ?_
        intro X5 xc5 h5 S5 f5 hX5
        have z00 := f00.size
        have hB : gs i ≠ [] → ∀ y, blk B y → y < h0.size ∧ ¬ blk X y := fun hne y hy => by
          have h1 := row_lt RB0 (fun e => hne (by
            cases hgi : gs i with
            | nil => rfl
            | cons a b => rw [hgi] at e; cases e)) hy
          exact ⟨h1, fun h => by have := RX3.own y h; omega⟩
        have RX5 := RX4.snoc f5 S5 hX5 (by omega) ((RB0.fr0 (f00.trans f03)).fr0 f4) hB (Nat.le_refl _) (by omega)
        have kX5 : ∀ y, blk X5 y → k3 y = none := fun y hy => by
          rcases hX5 y hy with h | h
          · exact kX3 y h
          · cases hc : k3 y with
            | none => rfl
            | some t => have := C3.low y t hc; omega
        have C5 : CoreM h5 cb k3 c3 := (C3.fr0 f4).frN f5 kX3
        have hl5 : (Cs ++ [gs i]).length = Cs.length + 1 := by rw [List.length_append]; rfl
        have f05 : Fr (fun _ => False) h h5 := (f03.trans f4).trans' f5 fun y hy hb => by have := RX3.own y hb; omega
        have hvv : c.s.vars = vars := F.hv
        rw [hvv] at hg
        simp -implicitDefEqProofs (disch := omega) [go_sem, r1, r6, r7, r8]
        refine ⟨⟨r1, i + 1, cb, k3, c3, X5, xc5, Cs ++ [gs i], _, K ++ [L], r6, rfl, by omega, by rw [hl5]; rfl, ⟨C5, S3, HF3, hv3.trans hvv, by omega, RX5, F.hM, kX5, F.cln.add hg (by omega) hL, by omega, fun C hC => ?_, low3, f05⟩, eln3.trans eln, elg3.trans elg, KO.add hg hL⟩, by omega⟩
        rcases List.mem_append.1 hC with hC | hC
        · exact F.l8 C hC
        · rw [List.mem_singleton] at hC; rw [hC]; exact hli
    · have ei : i = m := by omega
      subst ei
      simp -implicitDefEqProofs (disch := omega) [go_sem, r1, r6, r7, r8]
      exact ⟨cb, k, c, X, xc, Cs, vs, K, rfl, F, eln, elg, KO⟩
end Xe

/- Layer 21's own example. -/
namespace Xe
open Go Tp Go.Proofs Hq
set_option maxRecDepth 16000
set_option maxHeartbeats 4000000

/-- a core, since a time -/
structure Cor (h0 h : Heap) (cb : Nat) (k : Nat → Option CT) (c : CSt) (vars N : Nat) (K : List (List Int)) : Prop where
  C : CoreM h cb k c
  S : SInv K c.s c.ln c.lg
  HF : HFull c
  hv : c.s.vars = vars
  cs : c.s.cs.length + c.ln.length + c.lg.length ≤ N
  low : ∀ y t, k y = some t → h0.size ≤ y
  fr : Fr (fun _ => False) h0 h
section
variable {h0 h h' : Heap} {cb : Nat} {k k' : Nat → Option CT} {c c' : CSt} {vars N N' : Nat} {K K' : List (List Int)}
theorem Cor.next (F : Cor h0 h cb k c vars N K) (C' : CoreM h' cb k' c') (st : KSt k k' h h') (S' : SInv K' c'.s c'.ln c'.lg) (HF' : HFull c') (hv : c'.s.vars = c.s.vars) (hcs : c'.s.cs.length + c'.ln.length + c'.lg.length ≤ N') : Cor h0 h' cb k' c' vars N' K' where
  C := C'
  S := S'
  HF := HF'
  hv := hv.trans F.hv
  cs := hcs
  low y t hy := (st.own y t hy).elim (F.low y t) fun h => Nat.le_trans F.fr.size h
  fr := F.fr.trans' st.fr fun y hy hn => by
    cases hc : k y with
    | none => exact hn hc
    | some t => have := F.low y t hc; omega
theorem Cor.fr0 (F : Cor h0 h cb k c vars N K) (f : Fr (fun _ => False) h h') : Cor h0 h' cb k c vars N K := F.next (F.C.fr0 f) (KSt.fr0 f) F.S F.HF rfl F.cs

theorem Cor.cbh (F : Cor h0 h cb k c vars N K) : cb < h.size := by
  obtain ⟨bb, hb, p, O, n, act, LA, lc, GA, gc, vs', C⟩ := F.C.ex
  exact C.low _ _ C.kC
theorem Cor.fresh (F : Cor h0 h cb k c vars N K) {B : Option Addr} {ws : List Value} (hB : ∀ y, blk B y → h.size ≤ y) : NotK k cb B ws := fun _ y hy => by
  have h1 := hB y hy
  have h2 := F.cbh
  refine ⟨?_, by omega⟩
  cases hc : k y with
  | none => rfl
  | some t => have := F.C.low y t hc; omega
end
theorem ext4 {a b c d : Value} : extractV (.tuple #[a, b, c, d]) 3 = some d := rfl
theorem pos_mdl : Mdl fun x => 0 < x := fun x hx => by
  constructor
  · intro h1 h2; omega
  · intro h1; omega
/-- no script -/
def scr0 (st : Int) : Scr := ⟨[], [], [], [], st⟩
def scr0A : ScrA := ⟨none, 0, none, 0, none, 0, none, 0⟩
theorem scr0M {h : Heap} {st : Int} (h0 : -9223372036854775808 ≤ st ∧ st ≤ 9223372036854775807) : ScrM h (scr0 st) scr0A :=
  ⟨RowAt.nil, RowAt.nil, RowAt.nil, RowAt.nil, Nat.two_pow_pos 63, Nat.two_pow_pos 63, Nat.two_pow_pos 63, Nat.two_pow_pos 63, fun x hx => (nomatch hx), fun x hx => (nomatch hx), fun x hx => (nomatch hx), h0⟩
theorem scr0K {k : Nat → Option CT} {xb : Nat} {st : Int} : ScrK k xb (scr0 st) scr0A := ⟨fun h => absurd rfl h, fun h => absurd rfl h, fun h => absurd rfl h, fun h => absurd rfl h⟩

theorem awake21 {h : Heap} : CallsH Tryz.prog 29 [] h fun r h' => r = .bool true ∧ Fr (fun _ => False) h h' := by
  refine calls_of 75 [.tmp 0] Go.Proofs.Tryz.func29 rfl rfl rfl (by kernel_rfl) (Nat.le_of_ble_eq_true rfl) ?_
  simp -implicitDefEqProofs (disch := omega) [go_sem]
  refine useC (cnew_ok (x := 2) (by omega) (by omega)) ?_
  rintro _ h1 (⟨hneg, _⟩ | ⟨vars, cb, ev, _, rfl, k1, C1, low1, f1⟩)
  · omega
  obtain rfl : vars = 2 := by omega
  have F1 : Cor h h1 cb k1 (cst0 2) 2 0 [] := ⟨C1, SInv.new (by omega), fun v h1 h2 _ => ⟨h1, h2⟩, rfl, Nat.le_refl _, low1, f1⟩
  simp -implicitDefEqProofs (disch := omega) [go_sem]
  refine build2 ?_
  have f2 : Fr (fun _ => False) h1 (h1.push (.cells #[.int .i64 1, .int .i64 2] 3)) := (Fr.refl _ _).push
  have F2 := F1.fr0 f2
  have hB2 : ∀ y, blk (some (⟨h1.size, 0, none⟩ : Addr)) y → h1.size ≤ y := fun y ⟨_, h, e⟩ => by cases h; exact Nat.le_of_eq e
  have R2 := (SlAt.new (h := h1) (vs := ints [1, 2]) (e := 3)).row
  simp -implicitDefEqProofs (disch := omega) [go_sem]
  refine useC (cadd_ok (l := [1, 2]) (n := 2) F2.C F2.S F2.HF R2 (F1.fresh hB2) rfl (by omega) (by simp) (by decide)) ?_
  rintro _ h3 ⟨k3, c3, e, rfl, C3, st3, HF3, hv3, eln3, elg3, est3, hcs3, hor⟩
  rcases hor with ⟨_, hb, _⟩ | ⟨_, _, ⟨x, hx, _, hnx⟩, _⟩ | ⟨rfl, _, L1, hL1, S3⟩
  · exact absurd hb (by decide)
  · simp at hx hnx; omega
  have F3 : Cor h h3 cb k3 c3 2 1 ([] ++ [L1]) := F2.next C3 st3 S3 HF3 hv3 (by rw [eln3, elg3]; exact hcs3)
  simp -implicitDefEqProofs (disch := omega) [go_sem]
  refine build2 ?_
  have f4 : Fr (fun _ => False) h3 (h3.push (.cells #[.int .i64 (-1), .int .i64 2] 3)) := (Fr.refl _ _).push
  have F4 := F3.fr0 f4
  have hB4 : ∀ y, blk (some (⟨h3.size, 0, none⟩ : Addr)) y → h3.size ≤ y := fun y ⟨_, h, e⟩ => by cases h; exact Nat.le_of_eq e
  have R4 := (SlAt.new (h := h3) (vs := ints [-1, 2]) (e := 3)).row
  simp -implicitDefEqProofs (disch := omega) [go_sem]
  refine useC (cadd_ok (l := [-1, 2]) (n := 2) F4.C F4.S F4.HF R4 (F3.fresh hB4) rfl (by omega) (by simp) (by have := F4.cs; omega)) ?_
  rintro _ h5 ⟨k5, c5, e, rfl, C5, st5, HF5, hv5, eln5, elg5, est5, hcs5, hor⟩
  have hv3' := F3.hv
  rcases hor with ⟨_, hb, _⟩ | ⟨_, _, ⟨x, hx, _, hnx⟩, _⟩ | ⟨rfl, _, L2, hL2, S5⟩
  · rw [hv3'] at hb; exact absurd hb (by decide)
  · simp at hx hnx; omega
  have F5 : Cor h h5 cb k5 c5 2 2 ([] ++ [L1] ++ [L2]) := F4.next C5 st5 S5 HF5 hv5 (by have := F3.cs; rw [eln5, elg5]; omega)
  have m1 : ∀ x, x ∈ L1 ↔ x = 1 ∨ x = 2 := fun x => by rw [hL1.2 x]; simp [okL]; omega
  have m2 : ∀ x, x ∈ L2 ↔ x = -1 ∨ x = 2 := fun x => by rw [hL2.2 x]; simp [okL]; omega
  have hK : ∀ {M : Int → Prop}, (∀ c ∈ [] ++ [L1] ++ [L2], SatM M c) → SatM M L1 ∧ SatM M L2 := fun H => ⟨H L1 (by simp), H L2 (by simp)⟩
  have pos : ∀ c ∈ [] ++ [L1] ++ [L2], SatM (fun x => 0 < x) c := fun c hc => by
    simp at hc
    rcases hc with rfl | rfl
    · exact ⟨2, (m1 2).2 (.inr rfl), by simp⟩
    · exact ⟨2, (m2 2).2 (.inr rfl), by simp⟩
  have hv5' := F5.hv
  have hN : needN c5.s.vars (scr0 100).res.length = 12 := by rw [hv5']; rfl
  simp -implicitDefEqProofs (disch := omega) [go_sem]
  refine useC (solve_ok (sc := scr0 100) (a := scr0A) (A := none) (n := 0) (ac := 0) (am := []) F5.C F5.S F5.HF (scr0M (by omega)) scr0K RowAt.nil (fun h => absurd rfl h) rfl (by omega) (fun x hx => (nomatch hx)) (by omega) (by have := F5.cs; omega) (by have := F5.cs; omega)) ?_
  rintro _ h6 (⟨hb, _⟩ | ⟨_, k6, c6, e, mm, ca, rfl, C6, st6, S6, HF6, hv6, hst6, hcs6, hlg6, E6⟩)
  · rw [hv5'] at hb; exact absurd hb (by decide)
  rw [hN] at hcs6 hlg6 E6
  have F6 : Cor h h6 cb k6 c6 2 100 ([] ++ [L1] ++ [L2]) := F5.next C6 st6 S6 HF6 hv6 (by have := F5.cs; omega)
  have hv6' := F6.hv
  cases E6 with
  | none a1 a2 a3 a4 a5 a6 => exact (a6 _ pos_mdl pos fun x hx => (nomatch a3 x hx)).elim
  | steps a1 a2 =>
    have : (c6.st : Int) = 100 := a1
    omega
  | @model M mc bs a1 a2 a3 a4 a5 =>
    rw [hv5'] at a1 ⊢
    have hb1 : bs[1]? = some true := by
      obtain ⟨s1, s2⟩ := hK a4
      have h2 : MB bs 2 := by
        obtain ⟨x, hx, hMx⟩ := s1
        rcases (m1 x).1 hx with rfl | rfl
        · obtain ⟨y, hy, hMy⟩ := s2
          rcases (m2 y).1 hy with rfl | rfl
          · exact absurd hMx (((MB_mdl bs) 1 (by omega)).1 hMy)
          · exact hMy
        · exact hMx
      unfold MB at h2
      rw [if_pos ⟨by decide, by rw [a1]; decide⟩] at h2
      unfold truB at h2
      rw [if_neg (by decide)] at h2
      have : bs[1]? = some bs[1] := List.getElem?_eq_getElem (by omega)
      rw [show (2 : Int).natAbs - 1 = 1 from rfl, this] at h2
      simp only at h2
      rw [this]
      cases hb : bs[1] with
      | true => rfl
      | false => rw [hb] at h2; simp at h2
    have z6 := F6.fr.size
    simp -implicitDefEqProofs (disch := omega) [go_sem, ext4]
    refine build1 rfl rfl ?_
    have f7 : Fr (fun _ => False) h6 (h6.push (.cells #[.int .i64 (-2)] 3)) := (Fr.refl _ _).push
    have F7 := F6.fr0 f7
    have hB7 : ∀ y, blk (some (⟨h6.size, 0, none⟩ : Addr)) y → h6.size ≤ y := fun y ⟨_, h, e⟩ => by cases h; exact Nat.le_of_eq e
    have R7 := (SlAt.new (h := h6) (vs := ints [-2]) (e := 3)).row
    have hN7 : needN c6.s.vars (scr0 100).res.length = 12 := by rw [hv6']; rfl
    simp -implicitDefEqProofs (disch := omega) [go_sem]
    refine useC (solve_ok (sc := scr0 100) (a := scr0A) (n := 1) (ac := 1) (am := [-2]) F7.C F7.S F7.HF (scr0M (by omega)) scr0K R7 (F6.fresh hB7) rfl (by omega) (by simp) (by omega) (by have := F7.cs; omega) (by have := F7.cs; omega)) ?_
    rintro _ h8 (⟨hb, _⟩ | ⟨_, k8, c8, e, mm, ca, rfl, C8, st8, S8, HF8, hv8, hst8, hcs8, hlg8, E8⟩)
    · rw [hv6'] at hb; exact absurd hb (by decide)
    rw [hN7] at hcs8 hlg8 E8
    have F8 : Cor h h8 cb k8 c8 2 200 ([] ++ [L1] ++ [L2]) := F7.next C8 st8 S8 HF8 hv8 (by have := F7.cs; omega)
    cases E8 with
    | @model _ _ bs' b1 b2 b3 b4 b5 =>
      exfalso
      obtain ⟨s1, s2⟩ := hK b4
      have h2 : MB bs' 2 := by
        obtain ⟨x, hx, hMx⟩ := s1
        rcases (m1 x).1 hx with rfl | rfl
        · obtain ⟨y, hy, hMy⟩ := s2
          rcases (m2 y).1 hy with rfl | rfl
          · exact absurd hMx (((MB_mdl bs') 1 (by omega)).1 hMy)
          · exact hMy
        · exact hMx
      exact ((MB_mdl bs' 2 (by omega)).1 (b5 (-2) (by simp))) h2
    | steps a1 a2 =>
      have : (c8.st : Int) = 100 := a1
      omega
    | @none CA cd cl b1 b2 b3 b4 b5 b6 =>
      have hcl : cl = [-2] := by
        have hne : cl ≠ [] := fun e => by subst e; exact b6 _ pos_mdl pos fun x hx => (nomatch hx)
        match cl, hne, b3, b4 with
        | [x], _, b3, _ => have := b3 x (by simp); simp at this; rw [this]
        | x :: y :: r, _, b3, b4 =>
          have hx := b3 x (by simp)
          have hy := b3 y (by simp)
          simp at hx hy
          have := (List.pairwise_cons.1 b4).1 y (by simp)
          unfold lexLt at this
          omega
      subst hcl
      have a2' := (a2.fr0 f7).fr st8.fr fun y hy h => h (a3 y hy).2
      obtain ⟨bk, off, rfl, hc⟩ := a2'.get (by rw [bools_len]; omega)
      have c1 := hc 1 _ (bools_at hb1)
      simp -implicitDefEqProofs (disch := omega) [go_sem, ext4, c1]
      refine build1 rfl rfl ?_
      have f9 : Fr (fun _ => False) h8 (h8.push (.cells #[.int .i64 (-2)] 3)) := (Fr.refl _ _).push
      simp -implicitDefEqProofs (disch := omega) [go_sem]
      refine useC (same12_ok (a := [-2]) (b := [-2]) (b1.row.fr0 f9) (SlAt.new (h := h8) (vs := ints [-2]) (e := 3)).row rfl rfl (by decide) (by decide)) ?_
      rintro _ h10 ⟨rfl, rfl⟩
      simp -implicitDefEqProofs (disch := omega) [go_sem]
      exact F8.fr.trans f9
end Xe

/- CdclTells, walked. -/
namespace Xe
open Go Tp Go.Proofs Hq
set_option maxRecDepth 16000
set_option maxHeartbeats 4000000

section
variable {h : Heap}

end
end Xe

/- CdclEnds, walked. -/
namespace Xe
open Go Tp Go.Proofs Hq
set_option maxRecDepth 16000
set_option maxHeartbeats 4000000

/-- a script with other steps -/
def scB (sc : Scr) (st : Nat) : Scr := { sc with steps := st }
theorem needN_bd {v R D : Nat} : needN v R ≤ (v + 1) * (R + D + 1) * 3 ^ v := by
  have h1 : needN v R = (R + 1) * ((v + 1) * 2 ^ v) := by
    unfold needN
    obtain ⟨P, hP⟩ : ∃ P, P = (v + 1) * 2 ^ v := ⟨_, rfl⟩
    rw [← hP, Nat.add_mul, Nat.one_mul, Nat.add_comm]
  have h2 : (v + 1) * (R + D + 1) * 3 ^ v = (R + D + 1) * ((v + 1) * 3 ^ v) := by rw [Nat.mul_comm (v + 1), Nat.mul_assoc]
  rw [h1, h2]
  exact Nat.mul_le_mul (by omega) (Nat.mul_le_mul (Nat.le_refl _) (Nat.pow_le_pow_left (by omega) _))
theorem bd_le {v R D : Nat} (hv : v ≤ 7) (hR : R ≤ 20) (hD : D ≤ 20) : (v + 1) * (R + D + 1) * 3 ^ v ≤ 717336 := by
  have h1 : (v + 1) * (R + D + 1) ≤ 8 * 41 := Nat.mul_le_mul (by omega) (by omega)
  have h2 : 3 ^ v ≤ 3 ^ 7 := Nat.pow_le_pow_right (by omega) hv
  exact Nat.mul_le_mul h1 h2
theorem scB_M {h : Heap} {sc : Scr} {a : ScrA} (M : ScrM h sc a) {st : Nat} (hs : st ≤ 717336) : ScrM h (scB sc st) a :=
  ⟨M.P, M.G, M.R, M.D, M.lP, M.lG, M.lR, M.lD, M.rP, M.rR, M.rD, by show -9223372036854775808 ≤ (st : Int) ∧ (st : Int) ≤ 9223372036854775807; omega⟩
theorem scB_good {sc : Scr} {st : Nat} (hg : goodScr sc = true) (hs : st ≤ 717336) : goodScr (scB sc st) = true := by
  have Z := goodScr_S hg
  have : goodScr (scB sc st) = ((rightL sc.picks && rightL sc.res && rightL sc.red && decide (sc.signs.length ≤ 1000)) && decide ((0 : Int) ≤ st) && decide ((st : Int) ≤ 1099511627776)) := rfl
  rw [this]
  have e : (rightL sc.picks && rightL sc.res && rightL sc.red && decide (sc.signs.length ≤ 1000)) = true := by
    unfold goodScr at hg
    rw [Bool.and_eq_true, Bool.and_eq_true] at hg
    exact hg.1.1
  rw [e, decide_eq_true (by omega), decide_eq_true (by omega)]
  rfl

section
variable {h : Heap}

end
end Xe

/- Package cdcl: Log. -/
namespace Xe
open Go Tp Go.Proofs Hq
set_option maxRecDepth 16000
set_option maxHeartbeats 4000000

/-- a log that was copied -/
structure LgW (h : Heap) (N : Nat) (X : Option Addr) (xc : Nat) (L : List (List Int × Bool)) (vs : List Value) : Prop where
  S : SlAt h X (xc * 2) vs
  len : vs.length = L.length * 2
  own : ∀ y, blk X y → N ≤ y
  one : ∀ w ∈ vs, w.oneCell' = true
  at' : ∀ (i : Nat) c g, L[i]? = some (c, g) → ∃ A d, vs[i * 2]? = some (.slice A c.length d) ∧ vs[i * 2 + 1]? = some (.bool g) ∧ RowAt h A (ints c) ∧ ∀ y, blk A y → N ≤ y ∧ ¬ blk X y ∧ y < h.size
theorem LgW.nil {h : Heap} {N : Nat} : LgW h N none 0 [] [] := ⟨by simpa using SlAt.nil h, rfl, fun y ⟨_, h, _⟩ => (nomatch h), fun w hw => (nomatch hw), fun i c g hi => by simp at hi⟩
theorem LgW.fr0 {h h' : Heap} {N : Nat} {X : Option Addr} {xc : Nat} {L : List (List Int × Bool)} {vs : List Value} (R : LgW h N X xc L vs) (f : Fr (fun _ => False) h h') : LgW h' N X xc L vs where
  S := R.S.fr f fun _ _ h => h
  len := R.len
  own := R.own
  one := R.one
  at' i c g hi := by
    obtain ⟨A, d, h1, h2, h3, h4⟩ := R.at' i c g hi
    exact ⟨A, d, h1, h2, h3.fr0 f, fun y hy => ⟨(h4 y hy).1, (h4 y hy).2.1, Nat.lt_of_lt_of_le (h4 y hy).2.2 f.size⟩⟩
theorem LgW.snoc {h h' : Heap} {N : Nat} {X X' : Option Addr} {xc xc' : Nat} {L : List (List Int × Bool)} {vs : List Value} (R : LgW h N X xc L vs) (f : Fr (blk X) h h') {c : List Int} {g : Bool} {A : Option Addr} {d : Nat} (S : SlAt h' X' (xc' * 2) (vs ++ [.slice A c.length d, .bool g])) (hX : ∀ y, blk X' y → blk X y ∨ h.size ≤ y) (RA : RowAt h A (ints c))
    (hA : ∀ y, blk A y → N ≤ y ∧ ¬ blk X y ∧ y < h.size) (hN : N ≤ h.size) : LgW h' N X' xc' (L ++ [(c, g)]) (vs ++ [.slice A c.length d, .bool g]) where
  S := S
  len := by rw [List.length_append, List.length_append, R.len]; simp; omega
  own y hy := (hX y hy).elim (R.own y) fun h => by omega
  one w hw := by
    rcases List.mem_append.1 hw with h | h
    · exact R.one w h
    · simp only [List.mem_cons, List.not_mem_nil, or_false] at h
      rcases h with rfl | rfl <;> rfl
  at' i c' g' hi := by
    have z := f.size
    have key : ∀ {B : Option Addr}, (∀ y, blk B y → N ≤ y ∧ ¬ blk X y ∧ y < h.size) → ∀ y, blk B y → N ≤ y ∧ ¬ blk X' y ∧ y < h'.size := fun hB y hy => by
      obtain ⟨h1, h2, h3⟩ := hB y hy
      exact ⟨h1, fun h => (hX y h).elim h2 fun h => by omega, by omega⟩
    by_cases hil : i < L.length
    · rw [List.getElem?_append_left hil] at hi
      obtain ⟨B, e, h1, h2, h3, h4⟩ := R.at' i c' g' hi
      have hl := R.len
      exact ⟨B, e, by rw [List.getElem?_append_left (by omega)]; exact h1, by rw [List.getElem?_append_left (by omega)]; exact h2, h3.fr f fun y hy => (h4 y hy).2.1, key h4⟩
    · have hi' := (List.getElem?_eq_some_iff.1 hi).1
      rw [List.length_append, List.length_singleton] at hi'
      obtain rfl : i = L.length := by omega
      rw [List.getElem?_append_right (Nat.le_refl _), Nat.sub_self] at hi
      simp only [List.getElem?_cons_zero, Option.some.injEq, Prod.mk.injEq] at hi
      obtain ⟨rfl, rfl⟩ := hi
      have hl := R.len
      exact ⟨A, d, by rw [List.getElem?_append_right (by omega), hl, Nat.sub_self]; rfl, by rw [List.getElem?_append_right (by omega), hl, Nat.add_sub_cancel_left]; rfl, RA.fr f fun y hy => (hA y hy).2.1, key hA⟩

/-- what Log gives -/
def LogO (L : List (List Int × Bool)) (r : Value) (h h' : Heap) : Prop := Fr (fun _ => False) h h' ∧ ∃ X xc vs, r = .slice X L.length xc ∧ LgW h' h.size X xc L vs
structure LoJ (h0 : Heap) (GA : Option Addr) (gc : Nat) (L : List (List Int × Bool)) (ρ : Env) (h : Heap) : Prop where
  r9 : ρ 9 = .slice GA L.length gc
  r10 : ρ 10 = .int .i64 L.length
  fr : Fr (fun _ => False) h0 h
  ex : ∃ (i : Nat) (X : Option Addr) (xc : Nat) (vs : List Value), ρ 11 = .int .i64 i ∧ i ≤ L.length ∧ ρ 3 = .slice X i xc ∧ LgW h h0.size X xc (L.take i) vs
section
variable {h : Heap} {cb : Nat} {k : Nat → Option CT} {c : CSt}
theorem clog_ok (C : CoreM h cb k c) (hl : c.lg.length < 2 ^ 40) (hb : ∀ x ∈ c.lg, x.1.length < 2 ^ 40) :
    CallsH Tryz.prog 43 [.pointer (some ⟨cb, 0, none⟩)] h fun r h' => LogO c.lg r h h' := by
  obtain ⟨bb, hb', p, O, n, act, LA, lc, GA, gc, vs0, C⟩ := C.ex
  have b3 := C.B.at' 3 _ rfl
  refine calls_of 26 [.tmp 2] Go.Proofs.Tryz.func43 rfl rfl rfl (by kernel_rfl) (Nat.le_of_ble_eq_true rfl) ?_
  simp -implicitDefEqProofs (disch := omega) [go_sem, b3]
  refine loopK (LoJ h GA gc c.lg) (fun ρ _ => c.lg.length - (intOf (ρ 11)).toNat) (by kernel_rfl) ?_ ?_
  · exact ⟨rfl, rfl, Fr.refl _ _, 0, none, 0, [], rfl, Nat.zero_le _, rfl, LgW.nil⟩
  · rintro ρ h1 ⟨r9, r10, f01, i, X, xc, vs, r11, hi, r3, W⟩
    by_cases hin : i < c.lg.length
    · obtain ⟨⟨cl, g⟩, hx⟩ : ∃ x, c.lg[i]? = some x := ⟨_, List.getElem?_eq_getElem hin⟩
      have C1 := C.fr0 f01
      obtain ⟨A, d, v0, v1, RA, hkA⟩ := C1.R.at' i cl g hx
      have hcl := hb _ (List.mem_of_getElem? hx)
      obtain ⟨bk, off, rfl, hc⟩ := C1.G.row.get (by rw [C1.R.len]; omega)
      have c0 := hc _ _ v0
      have c1 := hc _ _ v1
      rw [← Nat.add_assoc] at c1
      simp -implicitDefEqProofs (disch := omega) [go_sem, r3, r9, r10, r11, c0, c1]
      obtain ⟨h2, e2⟩ : ∃ h2, h2 = hset (hset (h1.push (.cells #[.slice none 0 0, .bool false] 74)) ⟨h1.size, 0, none⟩ (.slice A cl.length d)) ⟨h1.size, 1, none⟩ (.bool g) := ⟨_, rfl⟩
      have f2 : Fr (fun _ => False) h1 h2 := by rw [e2]; exact (((Fr.refl _ _).push).new (Nat.le_refl _)).new (Nat.le_refl _)
      have V2 : ListB h2 h1.size [.slice A cl.length d, .bool g] := by rw [e2]; exact ((ListB.new (vs := [.slice none 0 0, .bool false])).set (i := 0) (.slice A cl.length d) Nat.two_pos).set (i := 1) (.bool g) Nat.one_lt_two
      rw [← e2]
      have d0 := V2.at' 0 _ rfl
      have d1 := V2.at' 1 _ rfl
      refine drawC [(0, 0), (1, 0), (2, 1), (4, 0), (5, 2), (3, 3), (6, 0), (7, 3), (8, 3), (9, 0)] (fun h' => hcell h' ⟨h1.size, 1, none⟩ = some (.bool g)) mixed (by kernel_rfl) d1 ?_
      simp -implicitDefEqProofs (disch := omega) [go_sem, r3, r9, r10, r11, d0]
      refine float2 (.bool g) (fun h' hC => by simp -implicitDefEqProofs (disch := omega) [go_sem, hC]) ?_
      simp -implicitDefEqProofs (disch := omega) [go_sem, r3, r9, r10, r11]
      have RA2 := RA.fr0 f2
      refine useC (clone_ok RA2 (by rw [ints_len]) ints_one (show cl.length < 2 ^ 40 from hcl)) ?_
      rintro _ h3 ⟨A3, d3, rfl, S3, own3, f3⟩
      have d13 := (f3.cell V2.lt fun h => h).trans d1
      refine ⟨d13, ?_⟩
      simp -implicitDefEqProofs (disch := omega) [go_sem, r3, r9, r10, r11]
      refine build2r ?_
      have f4 : Fr (fun _ => False) h3 (h3.push (.cells #[.slice A3 cl.length d3, .bool g] 74)) := (Fr.refl _ _).push
      have d14 := (f4.cell (hcell_lt d13) fun h => h).trans d13
      refine ⟨d14, ?_⟩
      simp -implicitDefEqProofs (disch := omega) [go_sem, r3, r9, r10, r11]
      have f14 := (f2.trans f3).trans f4
      have W4 := W.fr0 f14
      have hlt : (c.lg.take i).length = i := by rw [List.length_take]; omega
      refine appendN (sz := 2) (vs := vs) (ws := [.slice A3 cl.length d3, .bool g]) W4.S (by rw [W4.len, hlt]) (SlAt.new (vs := [.slice A3 cl.length d3, .bool g])).row rfl (by omega) (by simp [Value.oneCell']) (by omega) (by omega) ?_
      intro X5 xc5 h5 S5 f5 hX5
      have nX : ¬ blk X h1.size := fun h => by have := W.S.blk_lt h; omega
      have d15 := (f5.cell (hcell_lt d14) nX).trans d14
      refine ⟨d15, ?_⟩
      simp -implicitDefEqProofs (disch := omega) [go_sem, r3, r9, r10, r11]
      have z1 := f01.size
      have z2 := f2.size
      have z3 := f3.size
      have z4 := f4.size
      have W5 := W4.snoc f5 (c := cl) (g := g) S5 hX5 (S3.row.fr0 f4) (fun y hy => by
        have h1' := own3 y hy
        exact ⟨by omega, fun h => by have := W.S.blk_lt h; omega, by have := S3.blk_lt hy; omega⟩) (by omega)
      have f05 : Fr (fun _ => False) h h5 := (f01.trans f14).trans' f5 fun y hy hb => by have := W.own y hb; omega
      exact ⟨⟨r9, r10, f05, i + 1, X5, xc5, _, rfl, by omega, rfl, by rw [List.take_add_one, hx]; exact W5⟩, by omega⟩
    · obtain rfl : i = c.lg.length := by omega
      rw [List.take_length] at W
      simp -implicitDefEqProofs (disch := omega) [go_sem, r3, r9, r10, r11]
      exact ⟨f01, X, xc, vs, rfl, W⟩
end
end Xe

/- CdclLearns, walked. -/
namespace Xe
open Go Tp Go.Proofs Hq
set_option maxRecDepth 16000
set_option maxHeartbeats 4000000

/-- what was learned holds in each model that was told -/
theorem log_holds {vars : Nat} {Cs K : List (List Int)} (H : Cln vars Cs K) {s : WS} {ln : List Nat} {lg : List (List Int × Bool)} (S : SInv K s ln lg) (hv : s.vars = vars) {m : List Bool} (hm : m.length = vars) (hh : ∀ C ∈ Cs, holdB m C = true) {x : List Int × Bool} (hx : x ∈ lg) : holdB m x.1 = true := by
  have h1 : ∀ k ∈ K, SatM (MB m) k := H.k fun C hC => (MB_of fun y hy => by have := goodC_mem (H.good C hC) hy; omega).2 (hh C hC)
  obtain ⟨e, he, hl⟩ := S.lgc x hx
  refine (MB_of fun y hy => ?_).1 (S.lgs (MB m) (MB_mdl m) h1 x hx)
  have := (S.I.cl e he).2 y (by rw [hl]; exact hy)
  omega
theorem log_rng {K : List (List Int)} {s : WS} {ln : List Nat} {lg : List (List Int × Bool)} (S : SInv K s ln lg) {x : List Int × Bool} (hx : x ∈ lg) : x.1.length ≤ s.vars ∧ ∀ y ∈ x.1, y.natAbs ≤ s.vars := by
  obtain ⟨e, he, hl⟩ := S.lgc x hx
  have h1 := S.I.cl e he
  rw [hl] at h1
  exact ⟨by have := rise_length (a := 0) (n := s.vars) h1.1 fun y hy => ⟨(h1.2 y hy).1, (h1.2 y hy).2⟩; omega, fun y hy => (h1.2 y hy).2⟩

/-- what stands in the loops over the log -/
structure LrJ (hL : Heap) (X : Option Addr) (n xc : Nat) (RM : Option Addr) (mn mc : Nat) (a b : Int) (ρ : Env) (h : Heap) : Prop where
  r20 : ρ 20 = .slice X n xc
  r19 : ρ 19 = .slice RM mn mc
  r11 : ρ 11 = .int .i64 a
  r15 : ρ 15 = .int .i64 b
  he : h = hL
structure LrK (lg : List (List Int × Bool)) (cl : List Int) (j : Nat) (ρ : Env) : Prop where
  r21 : ρ 21 = .int .i64 j
  ex : ∃ (q : Nat) (b : Bool), ρ 24 = .int .i64 q ∧ q ≤ j ∧ ρ 23 = .bool b ∧ ∀ y, y < q → lg[y]? = some (cl, false) → b = true
section
variable {h : Heap}
theorem learns21_walk (a0 : Int) (w0 : -9223372036854775808 ≤ a0 ∧ a0 ≤ 9223372036854775807) (A : Option Addr) (m c : Nat) (gs : Nat → List Int) (R : Args2 h A m gs) (sc : Scr) (a : ScrA) (Ms : ScrM h sc a) (B : Option Addr) (d : Nat) (am : List Int) (hqs : am.length < 2 ^ 63) (RA : RowAt h B (ints am)) (hr : ∀ x ∈ am, -9223372036854775808 ≤ x ∧ x ≤ 9223372036854775807) :
    CallsH Tryz.prog 7 [.int .i64 a0, .slice A m c, .agg (scrV sc a).toArray, .slice B am.length d] h fun r h' => r = .bool true ∧ Fr (fun _ => False) h h' := by
  refine calls_of 140 [.tmp 8] Go.Proofs.Tryz.func7 rfl rfl rfl (by kernel_rfl) (Nat.le_of_ble_eq_true rfl) ?_
  unfold scrV
  simp -implicitDefEqProofs (disch := omega) [go_sem]
  obtain ⟨h1, e1⟩ : ∃ h1, h1 = h.push (.cells #[.slice a.P sc.picks.length a.pc, .slice a.G sc.signs.length a.gc, .slice a.R sc.res.length a.rc, .slice a.D sc.red.length a.dc, .int .i64 sc.steps] 56) := ⟨_, rfl⟩
  have f1 : Fr (fun _ => False) h h1 := by rw [e1]; exact (Fr.refl _ _).push
  have V1 : ListB h1 h.size (scrV sc a) := by rw [e1]; exact ListB.new
  rw [← e1]
  refine useC awake21 ?_
  rintro _ h3 ⟨rfl, f3⟩
  have V3 := V1.fr f3 fun h => h
  have ld1 := load5 V3
  have f03 := f1.trans f3
  simp -implicitDefEqProofs (disch := omega) [go_sem, ld1]
  refine useC (small21_ok (R.fr f03) (Ms.fr0 f03) hqs w0) ?_
  rintro _ h5 ⟨f5, b, rfl, hsm⟩
  have f05 := f03.trans f5
  have V5 := V3.fr f5 fun h => h
  clear ld1
  have ld1 := load5 V5
  cases b with
  | false =>
    simp -implicitDefEqProofs (disch := omega) [go_sem]
    exact f05
  | true =>
    have Q := hsm rfl
    obtain ⟨q1, q2, q3, q4, q5, q6, q7, q8, q9⟩ := Q
    obtain ⟨i, rfl⟩ : ∃ v : Nat, a0 = v := ⟨a0.toNat, by omega⟩
    have hv7 : i ≤ 7 := by omega
    simp -implicitDefEqProofs (disch := omega) [go_sem, ld1]
    refine useC (rgood20_ok (Ms.fr0 f05)) ?_
    rintro _ h6 ⟨rfl, f6⟩
    have f06 := f05.trans f6
    have V6 := V5.fr f6 fun h => h
    clear ld1
    cases hg : goodScr sc with
    | false =>
      simp -implicitDefEqProofs (disch := omega) [go_sem]
      exact f06
    | true =>
      simp -implicitDefEqProofs (disch := omega) [go_sem]
      refine useC (rgood12_ok (RA.fr0 f06) rfl (by omega) (vars := i) (by omega) hr) ?_
      rintro _ h8 ⟨rfl, rfl⟩
      cases hga : goodC i am with
      | false =>
        simp -implicitDefEqProofs (disch := omega) [go_sem]
        exact f06
      | true =>
        simp -implicitDefEqProofs (disch := omega) [go_sem]
        obtain ⟨N, hN⟩ : ∃ N, N = (i + 1) * (sc.res.length + sc.red.length + 1) := ⟨_, rfl⟩
        have hT : N * 3 ^ i ≤ 717336 := by rw [hN]; exact bd_le hv7 q7 q8
        have hnT : needN i sc.res.length ≤ N * 3 ^ i := by rw [hN]; exact needN_bd
        have hlt : N * 3 ^ i < 2 ^ 40 := by omega
        refine useC (filled21_ok R f06 q3 (by omega) q9) ?_
        rintro _ h15 ⟨cb, k, cc, X, xc, Cs, vs, K, rfl, F, eln, elg, KO⟩
        have f015 := f06.trans F.fr
        have V15 := V6.fr F.fr fun h => h
        have ld1 := load5 V15
        simp -implicitDefEqProofs (disch := omega) [go_sem, ld1]
        refine useC (bound_ok (sc := sc) (a := a) (vars := i) (N := N) (by omega) (by omega) (by omega) hN hlt) ?_
        rintro _ h11 ⟨rfl, f11⟩
        obtain ⟨T, hTn⟩ : ∃ T, T = N * 3 ^ i := ⟨_, rfl⟩
        rw [← hTn] at hT hnT ⊢
        have V11 := V15.fr f11 fun h => h
        have c4 := V11.at' 4 _ rfl
        have fz := V11.fz
        obtain ⟨h12, e12⟩ : ∃ h12, h12 = hset h11 ⟨h.size, 4, none⟩ (.int .i64 T) := ⟨_, rfl⟩
        have V12 : ListB h12 h.size (scrV (scB sc T) a) := by rw [e12]; exact V11.set (i := 4) (.int .i64 T) (Nat.lt_succ_self 4)
        have f012 : Fr (fun _ => False) h h12 := by rw [e12]; exact (f015.trans f11).new (Nat.le_refl _)
        simp -implicitDefEqProofs (disch := omega) [go_sem, c4, fz]
        rw [← e12]
        have z6 : h.size < h8.size := V6.lt
        have hkn : ∀ y, y < h8.size → k y = none := fun y hy => by
          cases hc : k y with
          | none => rfl
          | some t => have := F.low y t hc; omega
        have fS : Fr (fun y => y = h.size) h11 h12 := by rw [e12]; exact (Fr.refl _ _).set rfl
        have C12 : CoreM h12 cb k cc := (F.C.fr0 f11).frN fS fun x hx => hkn x (by rw [hx]; exact z6)
        have RX12 : RowsW h12 h8.size h.size X xc Cs vs := (F.R.fr0 f11).fr fS (fun y hy e => by have := F.R.own y hy; omega) fun y hy _ e => by omega
        have ld12 := load5 V12
        simp -implicitDefEqProofs (disch := omega) [go_sem, ld12]
        have Ms12 := scB_M (Ms.fr0 f012) hT
        have Ms6 := scB_M (Ms.fr0 f06) hT
        have Ks12 : ScrK k cb (scB sc T) a := ⟨F.not Ms6.P, F.not Ms6.G, F.not Ms6.R, F.not Ms6.D⟩
        have KA12 := F.not (RA.fr0 f06)
        have RA12 := RA.fr0 f012
        have hcv := F.hv
        have hcs := F.cs
        have hlC := F.lC
        have hln0 : cc.ln.length = 0 := by rw [eln]; rfl
        have hlg0 : cc.lg.length = 0 := by rw [elg]; rfl
        have hnd : needN i sc.res.length ≤ 717336 := by omega
        refine useC (solve_ok (sc := scB sc T) (a := a) C12 F.S F.HF Ms12 Ks12 RA12 KA12 rfl (by omega) hr (by omega) (by rw [hcv]; show _ + needN i sc.res.length < _; omega) (by rw [hcv]; show _ + 2 * needN i sc.res.length < _; omega)) ?_
        rintro _ h17 hsol
        rw [SolR, hcv, scB_good hg hT, hga] at hsol
        rcases hsol with ⟨hb, _, _⟩ | ⟨_, k7, c7, e, mm, ca, rfl, C7, st7, S7, HF7, hv7', hst7, hcs7, hlg7, E7⟩
        · cases hb
        obtain ⟨Ms17, Ks17⟩ := Ms12.kst st7 Ks12
        obtain ⟨RA17, KA17⟩ := st7.rowK RA12 KA12
        have V17 := st7.lb V12 (hkn _ z6)
        have ld17 := load5 V17
        simp -implicitDefEqProofs (disch := omega) [go_sem, ext4, ld17]
        have hcs7' : c7.s.cs.length ≤ cc.s.cs.length + needN i sc.res.length := hcs7
        have hlg7' : c7.lg.length + c7.ln.length ≤ cc.lg.length + cc.ln.length + 2 * needN i sc.res.length := hlg7
        refine useC (solve_ok (sc := scB sc T) (a := a) C7 S7 HF7 Ms17 Ks17 RA17 KA17 rfl (by omega) hr (by omega) (by rw [hv7']; show _ + needN i sc.res.length < _; omega) (by rw [hv7']; show _ + 2 * needN i sc.res.length < _; omega)) ?_
        rintro _ h18 hsol2
        rw [SolR, hv7', scB_good hg hT, hga] at hsol2
        rcases hsol2 with ⟨hb, _, _⟩ | ⟨_, k8, c8, ee, mm2, ca2, rfl, C8, st8, S8, HF8, hv8', hst8, hcs8, hlg8, E8⟩
        · cases hb
        have no1 : ∀ st : Nat, (st : Int) = (scB sc T).steps → st < needN i (scB sc T).res.length → False := fun st h1 h2 => by
          have h1' : (st : Int) = (T : Int) := h1
          have h2' : st < needN i sc.res.length := h2
          omega
        obtain ⟨x, rfl, rfl⟩ : ∃ x : Int, e = .int .i64 x ∧ ee = .int .i64 x := by
          cases E7 with
          | @model M mc bs a1 a2 a3 a4 a5 =>
            cases E8 with
            | @model M' mc' bs' a1' a2' a3' a4' a5' => exact ⟨0, rfl, rfl⟩
            | @none CA cd cl a1' a2' a3' a4' a5' a6' => exact (a6' (MB bs) (MB_mdl bs) a4 fun x hx => a5 x (a3' x hx)).elim
            | steps a1' a2' => exact (no1 _ a1' a2').elim
          | @none CA cd cl a1 a2 a3 a4 a5 a6 =>
            cases E8 with
            | @model M' mc' bs' a1' a2' a3' a4' a5' => exact (a6 (MB bs') (MB_mdl bs') a4' fun x hx => a5' x (a3 x hx)).elim
            | @none CA' cd' cl' a1' a2' a3' a4' a5' a6' => exact ⟨1, rfl, rfl⟩
            | steps a1' a2' => exact (no1 _ a1' a2').elim
          | steps a1 a2 => exact (no1 _ a1 a2).elim
        clear E7 E8
        have st78 := st7.trans st8
        have RX18 : RowsW h18 h8.size h.size X xc Cs vs := RX12.fr st78.fr (fun y hy hn => hn (F.kX y hy)) fun y hy _ hn => hn (hkn y (by omega))
        have f018 : Fr (fun _ => False) h h18 := f012.trans' st78.fr fun y hy hn => hn (hkn y (by omega))
        simp -implicitDefEqProofs (disch := omega) [go_sem, ext4]
        have hrng : ∀ C ∈ Cs, C.length < 2 ^ 40 ∧ ∀ x ∈ C, x.natAbs ≤ 16777216 := fun C hC => ⟨by have := F.l8 C hC; omega, fun x hx => by have := goodC_mem (F.cln.good C hC) hx; omega⟩
        refine useC (rmodels12_ok RX18.rowsA rfl (by omega) hrng (by omega) i (bs := []) (Fr.refl _ _) RowAt.nil (by simp)) ?_
        rintro _ h19 ⟨f19, RM, ms, mc', mvs, rfl, RMs, hml, hms⟩
        have hp : 2 ^ i ≤ 128 := Nat.pow_le_pow_right (n := 2) (by omega) hv7
        simp -implicitDefEqProofs (disch := omega) [go_sem, ext4]
        have hlg8' : c8.lg.length + c8.ln.length ≤ c7.lg.length + c7.ln.length + 2 * needN i sc.res.length := hlg8
        have hv8 : c8.s.vars = i := hv8'
        have hsz : ∀ y ∈ c8.lg, y.1.length ≤ 7 ∧ ∀ z ∈ y.1, z.natAbs ≤ 7 := fun y hy => by
          obtain ⟨h1, h2⟩ := log_rng S8 hy
          exact ⟨by omega, fun z hz => by have := h2 z hz; omega⟩
        refine useC (clog_ok (C8.fr0 f19) (by omega) fun y hy => by have := (hsz y hy).1; omega) ?_
        rintro _ h20 ⟨f20, Y, yc, ys, rfl, W⟩
        have RMs20 := RMs.fr0 f20
        have hgone := S8.gone
        have hhold : ∀ y ∈ c8.lg, ∀ m ∈ ms, holdB m y.1 = true := fun y hy m hm => log_holds F.cln S8 hv8 (hms m hm).1 (hms m hm).2 hy
        have hmlen : ∀ m ∈ ms, m.length = i := fun m hm => (hms m hm).1
        have f020 := (f018.trans f19).trans f20
        obtain ⟨lg, hlg⟩ : ∃ lg, lg = c8.lg := ⟨_, rfl⟩
        rw [← hlg] at W hsz hgone hhold hlg8' ⊢
        have hlgl : lg.length < 2 ^ 40 := by omega
        have hmsl : ms.length ≤ 128 := by omega
        clear hlg8' hlg7' hcs7' hlg S8 C8 HF8 S7 C7 HF7 st7 st8 st78 Ms17 Ks17 RA17 KA17 V17 ld17 Ms12 Ks12 Ms6 KA12 RA12 C12 RX12 RX18 ld12 V12 V11 V15 hkn fS c4 fz KO F hrng RMs
        simp -implicitDefEqProofs (disch := omega) [go_sem, ext4]
        refine loopK (fun ρ h' => LrJ h20 Y lg.length yc RM ms.length mc' x x ρ h' ∧ ∃ j : Nat, ρ 21 = .int .i64 j ∧ j ≤ lg.length) (fun ρ _ => lg.length - (intOf (ρ 21)).toNat) (by kernel_rfl) ?_ ?_
        · exact ⟨⟨rfl, rfl, rfl, rfl, rfl⟩, 0, rfl, Nat.zero_le _⟩
        · rintro ρ h21 ⟨⟨r20, r19, r11, r15, rfl⟩, j, r21, hj⟩
          by_cases hjn : j < lg.length
          · obtain ⟨⟨cl, g⟩, hx⟩ : ∃ y, lg[j]? = some y := ⟨_, List.getElem?_eq_getElem hjn⟩
            have hxm := List.mem_of_getElem? hx
            have hhx := hhold _ hxm
            have hxl : cl.length ≤ 7 := (hsz _ hxm).1
            have hxz : ∀ z ∈ cl, z.natAbs ≤ 7 := (hsz _ hxm).2
            obtain ⟨A1, d1, v0, v1, RA1, _⟩ := W.at' j cl g hx
            obtain ⟨bk, off, rfl, hc⟩ := W.S.row.get (by rw [W.len]; omega)
            have c0 := hc _ _ v0
            have c1 := hc _ _ v1
            rw [← Nat.add_assoc] at c1
            simp -implicitDefEqProofs (disch := omega) [go_sem, r20, r19, r11, r15, r21]
            refine loopK (fun ρ h' => LrJ h21 (some ⟨bk, off, none⟩) lg.length yc RM ms.length mc' x x ρ h' ∧ ρ 21 = .int .i64 j ∧ ∃ q : Nat, ρ 22 = .int .i64 q ∧ q ≤ ms.length) (fun ρ _ => ms.length - (intOf (ρ 22)).toNat) (by kernel_rfl) ?_ ?_
            · exact ⟨⟨r20, r19, r11, r15, rfl⟩, r21, 0, rfl, Nat.zero_le _⟩
            · have o21 := r21
              clear r20 r19 r11 r15 r21
              rintro ρ h22 ⟨⟨r20, r19, r11, r15, rfl⟩, r21, q, r22, hq⟩
              by_cases hqn : q < ms.length
              · obtain ⟨m, hm⟩ : ∃ m, ms[q]? = some m := ⟨_, List.getElem?_eq_getElem hqn⟩
                have hmm := List.mem_of_getElem? hm
                have hml := hmlen m hmm
                obtain ⟨B1, e1, u0, RB1, _⟩ := RMs20.at' q m hm
                obtain ⟨bk2, off2, rfl, hc2⟩ := RMs20.S.row.get (by rw [RMs20.len]; omega)
                have d0 := hc2 _ _ u0
                simp -implicitDefEqProofs (disch := omega) [go_sem, o21, r20, r19, r11, r15, r21, r22]
                refine drawK [(0, 0), (1, 0), (2, 0), (3, 0), (4, 1), (5, 0), (6, 0), (7, 0), (8, 1), (9, 3), (10, 0)] mixed (by kernel_rfl) ?_
                simp -implicitDefEqProofs (disch := omega) [go_sem, o21, r20, r19, r11, r15, r21, r22, c0, d0]
                refine useC (rholds12_ok RB1 rfl (by omega) RA1 rfl (by omega) fun y hy => by have := hxz y hy; omega) ?_
                rintro _ h23 ⟨rfl, rfl⟩
                rw [hhx m hmm]
                simp -implicitDefEqProofs (disch := omega) [go_sem, o21, r20, r19, r11, r15, r21, r22]
                exact ⟨⟨⟨r20, r19, r11, r15, rfl⟩, q + 1, rfl, by omega⟩, by omega⟩
              · simp -implicitDefEqProofs (disch := omega) [go_sem, o21, r20, r19, r11, r15, r21, r22, c1]
                cases g with
                | false =>
                  simp -implicitDefEqProofs (disch := omega) [go_sem, o21, r20, r19, r11, r15, r21, r22]
                  exact ⟨⟨⟨r20, r19, r11, r15, rfl⟩, j + 1, rfl, by omega⟩, by omega⟩
                | true =>
                  simp -implicitDefEqProofs (disch := omega) [go_sem, o21, r20, r19, r11, r15, r21, r22]
                  refine loopK (fun ρ h' => LrJ h22 (some ⟨bk, off, none⟩) lg.length yc RM ms.length mc' x x ρ h' ∧ LrK lg cl j ρ) (fun ρ _ => j - (intOf (ρ 24)).toNat) (by kernel_rfl) ?_ ?_
                  · exact ⟨⟨r20, r19, r11, r15, rfl⟩, r21, 0, false, rfl, Nat.zero_le _, rfl, fun y hy => absurd hy (Nat.not_lt_zero _)⟩
                  · clear r20 r19 r11 r15 r21 r22 hq hqn q
                    rintro ρ h23 ⟨⟨r20, r19, r11, r15, rfl⟩, r21, q, b, r24, hq, r23, hb⟩
                    by_cases hqn : q < j
                    · obtain ⟨⟨cl2, g2⟩, hx2⟩ : ∃ y, lg[q]? = some y := ⟨_, List.getElem?_eq_getElem (by omega)⟩
                      have hxs2 : cl2.length ≤ 7 := (hsz _ (List.mem_of_getElem? hx2)).1
                      obtain ⟨A2, d2, w0', w1, RA2, _⟩ := W.at' q cl2 g2 hx2
                      have p0 := hc _ _ w0'
                      have p1 := hc _ _ w1
                      rw [← Nat.add_assoc] at p1
                      simp -implicitDefEqProofs (disch := omega) [go_sem, o21, r20, r19, r11, r15, r21, r23, r24]
                      refine drawK [(0, 0), (1, 0), (2, 0), (3, 0), (4, 0), (5, 0), (6, 1), (7, 0), (8, 0), (9, 0), (10, 0), (11, 0), (12, 0), (13, 1), (14, 0), (15, 0), (16, 0), (17, 0), (18, 1), (19, 3), (20, 0), (21, 0), (22, 0)] mixed (by kernel_rfl) ?_
                      have fin : ∀ b' : Bool, (b = true → b' = true) → ((cl2, g2) = (cl, false) → b' = true) → ∀ y, y < q + 1 → lg[y]? = some (cl, false) → b' = true := fun b' h1 h2 y hy he => by
                        by_cases hyq : y < q
                        · exact h1 (hb y hyq he)
                        · obtain rfl : y = q := by omega
                          rw [hx2] at he
                          exact h2 (Option.some.inj he)
                      cases b with
                      | true =>
                        simp -implicitDefEqProofs (disch := omega) [go_sem, o21, r20, r19, r11, r15, r21, r23, r24]
                        exact ⟨⟨⟨r20, r19, r11, r15, rfl⟩, r21, q + 1, true, rfl, by omega, rfl, fun _ _ _ => rfl⟩, by omega⟩
                      | false =>
                        cases g2 with
                        | true =>
                          simp -implicitDefEqProofs (disch := omega) [go_sem, o21, r20, r19, r11, r15, r21, r23, r24, p1]
                          exact ⟨⟨⟨r20, r19, r11, r15, rfl⟩, r21, q + 1, false, rfl, by omega, rfl, fin false (fun h => h) fun h => by cases h⟩, by omega⟩
                        | false =>
                          simp -implicitDefEqProofs (disch := omega) [go_sem, o21, r20, r19, r11, r15, r21, r23, r24, p1, p0, c0]
                          refine useC (same12_ok RA2 RA1 rfl rfl (by omega) (by omega)) ?_
                          rintro _ h24 ⟨rfl, rfl⟩
                          simp -implicitDefEqProofs (disch := omega) [go_sem, o21, r20, r19, r11, r15, r21, r23, r24]
                          exact ⟨⟨⟨r20, r19, r11, r15, rfl⟩, r21, q + 1, decide (cl2 = cl), rfl, by omega, rfl, fin _ (fun h => by cases h) fun h => by cases h; exact decide_eq_true rfl⟩, by omega⟩
                    · obtain ⟨y, hy, he⟩ := hgone j cl hx
                      obtain rfl := hb y (by omega) he
                      simp -implicitDefEqProofs (disch := omega) [go_sem, o21, r20, r19, r11, r15, r21, r23, r24]
                      exact ⟨⟨⟨r20, r19, r11, r15, rfl⟩, j + 1, rfl, by omega⟩, by omega⟩
          · simp -implicitDefEqProofs (disch := omega) [go_sem, r20, r19, r11, r15, r21]
            exact f020
end
end Xe
