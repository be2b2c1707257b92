/- The law's own functions of layer 21: small, filled. -/
import Derived.Test.YtkghjecglmmloaaGreatC15
namespace Xe
open Go Tp Go.Proofs Hq
set_option maxRecDepth 16000
set_option maxHeartbeats 4000000

section
variable {h : Heap}
/-- what small tells -/
structure Sml (a0 : Int) (m q : Nat) (gs : Nat → List Int) (sc : Scr) : Prop where
  v0 : 0 ≤ a0
  v1 : a0 ≤ 7
  hm : m ≤ 24
  hq : q ≤ 8
  p : sc.picks.length ≤ 20
  g : sc.signs.length ≤ 20
  r : sc.res.length ≤ 20
  d : sc.red.length ≤ 20
  l : ∀ i, i < m → (gs i).length ≤ 8
theorem small21_ok {A B : Option Addr} {m c q d : Nat} {gs : Nat → List Int} (R : Args2 h A m gs) {sc : Scr} {a : ScrA} (Ms : ScrM h sc a) (hq : q < 2 ^ 63) {a0 : Int} (w0 : -9223372036854775808 ≤ a0 ∧ a0 ≤ 9223372036854775807) :
    CallsH Tryz.prog 30 [.int .i64 a0, .slice A m c, .agg (scrV sc a).toArray, .slice B q d] h fun r h' => Fr (fun _ => False) h h' ∧ ∃ b : Bool, r = .bool b ∧ (b = true → Sml a0 m q gs sc) := by
  have hms := R.small
  have l1 := Ms.lP
  have l2 := Ms.lG
  have l3 := Ms.lR
  have l4 := Ms.lD
  refine calls_of 62 [.tmp 8] Go.Proofs.Tryz.func30 rfl rfl rfl (by kernel_rfl) (Nat.le_of_ble_eq_true rfl) ?_
  unfold scrV
  simp -implicitDefEqProofs (disch := omega) [go_sem]
  obtain ⟨h1, e1⟩ : ∃ h1, h1 = h.push (.cells #[.slice a.P sc.picks.length a.pc, .slice a.G sc.signs.length a.gc, .slice a.R sc.res.length a.rc, .slice a.D sc.red.length a.dc, .int .i64 sc.steps] 56) := ⟨_, rfl⟩
  have f1 : Fr (fun _ => False) h h1 := by rw [e1]; exact (Fr.refl _ _).push
  have V1 : ListB h1 h.size [.slice a.P sc.picks.length a.pc, .slice a.G sc.signs.length a.gc, .slice a.R sc.res.length a.rc, .slice a.D sc.red.length a.dc, .int .i64 sc.steps] := by rw [e1]; exact ListB.new
  have b0 := V1.at' 0 _ rfl
  have b1 := V1.at' 1 _ rfl
  have b2 := V1.at' 2 _ rfl
  have b3 := V1.at' 3 _ rfl
  by_cases g1 : a0 < 0
  · simp -implicitDefEqProofs (disch := omega) [go_sem, g1]
    exact (Fr.refl _ _).push
  by_cases g2 : 7 < a0
  · simp -implicitDefEqProofs (disch := omega) [go_sem, g1, g2]
    exact (Fr.refl _ _).push
  by_cases g3 : 24 < m
  · have g3' : (24 : Int) < m := by omega
    simp -implicitDefEqProofs (disch := omega) [go_sem, g1, g2, g3']
    exact (Fr.refl _ _).push
  have g3' : ¬ (24 : Int) < m := by omega
  by_cases g4 : 8 < q
  · have g4' : (8 : Int) < q := by omega
    simp -implicitDefEqProofs (disch := omega) [go_sem, g1, g2, g3', g4']
    exact (Fr.refl _ _).push
  have g4' : ¬ (8 : Int) < q := by omega
  by_cases g5 : 20 < sc.picks.length
  · have g5' : (20 : Int) < sc.picks.length := by omega
    simp -implicitDefEqProofs (disch := omega) [go_sem, g1, g2, g3', g4', g5', ← e1, b0]
    exact f1
  have g5' : ¬ (20 : Int) < sc.picks.length := by omega
  by_cases g6 : 20 < sc.signs.length
  · have g6' : (20 : Int) < sc.signs.length := by omega
    simp -implicitDefEqProofs (disch := omega) [go_sem, g1, g2, g3', g4', g5', g6', ← e1, b0, b1]
    exact f1
  have g6' : ¬ (20 : Int) < sc.signs.length := by omega
  by_cases g7 : 20 < sc.res.length
  · have g7' : (20 : Int) < sc.res.length := by omega
    simp -implicitDefEqProofs (disch := omega) [go_sem, g1, g2, g3', g4', g5', g6', g7', ← e1, b0, b1, b2]
    exact f1
  have g7' : ¬ (20 : Int) < sc.res.length := by omega
  by_cases g8 : 20 < sc.red.length
  · have g8' : (20 : Int) < sc.red.length := by omega
    simp -implicitDefEqProofs (disch := omega) [go_sem, g1, g2, g3', g4', g5', g6', g7', g8', ← e1, b0, b1, b2, b3]
    exact f1
  have g8' : ¬ (20 : Int) < sc.red.length := by omega
  simp -implicitDefEqProofs (disch := omega) [go_sem, g1, g2, g3', g4', g5', g6', g7', g8', ← e1, b0, b1, b2, b3]
  have R1 := R.fr f1
  refine loopK (fun ρ h' => ρ 1 = .slice A m c ∧ h' = h1 ∧ ∃ i : Nat, ρ 9 = .int .i64 i ∧ i ≤ m ∧ ∀ j, j < i → (gs j).length ≤ 8) (fun ρ _ => m - (intOf (ρ 9)).toNat) (by kernel_rfl) ?_ ?_
  · exact ⟨rfl, e1.symm, 0, rfl, by omega, fun j h => by omega⟩
  · rintro ρ h' ⟨r1, rfl, i, r9, hi, hj⟩
    by_cases hin : i < m
    · obtain ⟨bk, off, B', cB, rfl, e0, RB, hBl, hBr⟩ := R1.at' i hin
      by_cases hlen : 8 < (gs i).length
      · have hl' : (8 : Int) < (gs i).length := by omega
        simp -implicitDefEqProofs (disch := omega) [go_sem, r1, r9, e0, hl']
        exact f1
      · have hl' : ¬ (8 : Int) < (gs i).length := by omega
        simp -implicitDefEqProofs (disch := omega) [go_sem, r1, r9, e0, hl']
        refine ⟨⟨i + 1, by omega, by omega, fun j hj2 => ?_⟩, by omega⟩
        by_cases e : j = i
        · subst e; omega
        · exact hj j (by omega)
    · have e : i = m := by omega
      subst e
      simp -implicitDefEqProofs (disch := omega) [go_sem, r1, r9]
      exact ⟨f1, ⟨by omega, by omega, by omega, by omega, by omega, by omega, by omega, by omega, hj⟩⟩
end
end Xe

/- The law's own functions of layer 21: filled. -/
namespace Xe
open Go Tp Go.Proofs Hq
set_option maxRecDepth 16000
set_option maxHeartbeats 4000000

/-- a core of the law's own -/
structure Fld (h0 h : Heap) (cb : Nat) (k : Nat → Option CT) (c : CSt) (vars N : Nat) (X : Option Addr) (xc : Nat) (Cs : List (List Int)) (vs : List Value) (K : List (List Int)) : Prop where
  C : CoreM h cb k c
  S : SInv K c.s c.ln c.lg
  HF : HFull c
  hv : c.s.vars = vars
  cs : c.s.cs.length ≤ N
  R : RowsW h h0.size h0.size X xc Cs vs
  kX : ∀ y, blk X y → k y = none
  cln : Cln vars Cs K
  lC : Cs.length ≤ N
  l8 : ∀ C ∈ Cs, C.length ≤ 8
  low : ∀ y t, k y = some t → h0.size ≤ y
  fr : Fr (fun _ => False) h0 h
theorem Fld.next {h0 h h' : Heap} {cb : Nat} {k k' : Nat → Option CT} {c c' : CSt} {vars N N' : Nat} {X : Option Addr} {xc : Nat} {Cs K : List (List Int)} {vs : List Value} (F : Fld h0 h cb k c vars N X xc Cs vs K) (C' : CoreM h' cb k' c') (st : KSt k k' h h') (S' : SInv K c'.s c'.ln c'.lg) (HF' : HFull c') (hv : c'.s.vars = c.s.vars) (hcs : c'.s.cs.length ≤ N') (hN : N ≤ N') : Fld h0 h' cb k' c' vars N' X xc Cs vs K where
  C := C'
  S := S'
  HF := HF'
  hv := hv.trans F.hv
  cs := hcs
  R := F.R.fr st.fr (fun y hy h => h (F.kX y hy)) fun y hy _ h => by
    cases hc : k y with
    | none => exact h hc
    | some t => have := F.low y t hc; omega
  kX y hy := st.free (F.kX y hy) (F.R.S.blk_lt hy)
  cln := F.cln
  lC := Nat.le_trans F.lC hN
  l8 := F.l8
  low y t hy := (st.own y t hy).elim (F.low y t) fun h => Nat.le_trans F.fr.size h
  fr := F.fr.trans' st.fr fun y hy hn => by
    cases hc : k y with
    | none => exact hn hc
    | some t => have := F.low y t hc; omega

theorem Fld.cb {h0 h : Heap} {cb : Nat} {k : Nat → Option CT} {c : CSt} {vars N : Nat} {X : Option Addr} {xc : Nat} {Cs K : List (List Int)} {vs : List Value} (F : Fld h0 h cb k c vars N X xc Cs vs K) : h0.size ≤ cb := by
  obtain ⟨bb, hb, p, O, n, act, LA, lc, GA, gc, vs', C⟩ := F.C.ex
  exact F.low _ _ C.kC
/-- what lay there before isn't the core's -/
theorem Fld.not {h0 h : Heap} {cb : Nat} {k : Nat → Option CT} {c : CSt} {vars N : Nat} {X : Option Addr} {xc : Nat} {Cs K : List (List Int)} {vs : List Value} (F : Fld h0 h cb k c vars N X xc Cs vs K) {B : Option Addr} {ws : List Value} (R : RowAt h0 B ws) : NotK k cb B ws := fun hw y hy => by
  have h1 := row_lt R hw hy
  have h2 := F.cb
  refine ⟨?_, by omega⟩
  cases hc : k y with
  | none => rfl
  | some t => have := F.low y t hc; omega
theorem Fld.frK {h0 h h' : Heap} {cb : Nat} {k k' : Nat → Option CT} {c : CSt} {vars N : Nat} {X : Option Addr} {xc : Nat} {Cs K : List (List Int)} {vs : List Value} (F : Fld h0 h cb k c vars N X xc Cs vs K) (st : KSt k k' h h') : Fr (fun _ => False) h0 h' ∧ RowsW h' h0.size h0.size X xc Cs vs ∧ (∀ y, blk X y → k' y = none) ∧ (∀ y t, k' y = some t → h0.size ≤ y) := by
  refine ⟨F.fr.trans' st.fr fun y hy hn => ?_, F.R.fr st.fr (fun y hy h => h (F.kX y hy)) fun y hy _ h => ?_, fun y hy => st.free (F.kX y hy) (F.R.S.blk_lt hy), fun y t hy => (st.own y t hy).elim (F.low y t) fun h => Nat.le_trans F.fr.size h⟩
  · cases hc : k y with
    | none => exact hn hc
    | some t => have := F.low y t hc; omega
  · cases hc : k y with
    | none => exact h hc
    | some t => have := F.low y t hc; omega
/-- what filled gives -/
def FldR (h0 : Heap) (vars m : Nat) (r : Value) (h : Heap) : Prop := ∃ cb k c X xc Cs vs K, r = .tuple #[.pointer (some ⟨cb, 0, none⟩), .slice X (Cs : List (List Int)).length xc] ∧ Fld h0 h cb k c vars m X xc Cs vs K ∧ c.ln = [] ∧ c.lg = []
structure FiJ (h0 : Heap) (A : Option Addr) (m cA vars : Nat) (ρ : Env) (h : Heap) : Prop where
  r1 : ρ 1 = .slice A m cA
  ex : ∃ (i : Nat) (cb : Nat) (k : Nat → Option CT) (c : CSt) (X : Option Addr) (xc : Nat) (Cs : List (List Int)) (vs : List Value) (K : List (List Int)), ρ 6 = .pointer (some ⟨cb, 0, none⟩) ∧ ρ 8 = .int .i64 i ∧ i ≤ m ∧ ρ 7 = .slice X Cs.length xc ∧ Fld h0 h cb k c vars i X xc Cs vs K ∧ c.ln = [] ∧ c.lg = []
theorem filled21_ok {h : Heap} {A : Option Addr} {m cA vars : Nat} {gs : Nat → List Int} (R : Args2 h A m gs) (hm : m ≤ 24) (hv : vars ≤ 1048576) (hl : ∀ i, i < m → (gs i).length ≤ 8) :
    CallsH Tryz.prog 32 [.int .i64 vars, .slice A m cA] h fun r h' => FldR h vars m r h' := by
  refine calls_of 37 [.tmp 4, .tmp 5] Go.Proofs.Tryz.func32 rfl rfl rfl (by kernel_rfl) (Nat.le_of_ble_eq_true rfl) ?_
  simp -implicitDefEqProofs (disch := omega) [go_sem]
  refine useC (cnew_ok (x := (vars : Int)) (by omega) (by omega)) ?_
  rintro _ h1 (⟨hneg, _⟩ | ⟨vars', cb, ev, _, rfl, k, C1, low1, f1⟩)
  · omega
  obtain rfl : vars = vars' := by omega
  simp -implicitDefEqProofs (disch := omega) [go_sem]
  refine loopK (FiJ h A m cA vars) (fun ρ _ => m - (intOf (ρ 8)).toNat) (by kernel_rfl) ?_ ?_
  · refine ⟨rfl, 0, cb, k, cst0 vars, none, 0, [], [], [], rfl, rfl, by omega, rfl, ⟨C1, SInv.new (by omega), fun v h1 h2 _ => ⟨h1, h2⟩, rfl, Nat.le_refl _, RowsW.nil f1.size, fun y ⟨_, h, _⟩ => (nomatch h), ⟨fun C hC => (nomatch hC), fun C hC => (nomatch hC), fun C hC => (nomatch hC)⟩, Nat.le_refl _, fun C hC => (nomatch hC), low1, f1⟩, rfl, rfl⟩
  · clear C1 low1 f1
    clear cb k
    rintro ρ h2 ⟨r1, i, cb, k, c, X, xc, Cs, vs, K, r6, r8, hi, r7, F, eln, elg⟩
    by_cases hin : i < m
    · obtain ⟨bk, off, B, cB, rfl, e0, RB0, hBl, hBr⟩ := R.at' i hin
      have e2 := (F.fr.cell (hcell_lt e0) fun h => h).trans e0
      have RB2 := RB0.fr0 F.fr
      have hli := hl i hin
      have hcs := F.cs
      have hlC := F.lC
      simp -implicitDefEqProofs (disch := omega) [go_sem, r1, r6, r7, r8, e2]
      refine useC (cadd_ok F.C F.S F.HF RB2 (F.not RB0) rfl (by omega) hBr (by omega)) ?_
      rintro _ h3 ⟨k3, c3, e, rfl, C3, st3, HF3, hv3, eln3, elg3, est3, hcs3, hor⟩
      have keep : SInv K c3.s c3.ln c3.lg → Fld h h3 cb k3 c3 vars (i + 1) X xc Cs vs K := fun S3 => F.next C3 st3 S3 HF3 hv3 (by omega) (by omega)
      rcases hor with ⟨rfl, _, S3⟩ | ⟨rfl, _, _, S3⟩ | ⟨rfl, hg, L, hL, S3⟩
      · simp -implicitDefEqProofs (disch := omega) [go_sem, r1, r6, r7, r8]
        exact ⟨⟨r1, i + 1, cb, k3, c3, X, xc, Cs, vs, K, r6, rfl, by omega, r7, keep S3, eln3.trans eln, elg3.trans elg⟩, by omega⟩
      · simp -implicitDefEqProofs (disch := omega) [go_sem, r1, r6, r7, r8]
        exact ⟨⟨r1, i + 1, cb, k3, c3, X, xc, Cs, vs, K, r6, rfl, by omega, r7, keep S3, eln3.trans eln, elg3.trans elg⟩, by omega⟩
      · obtain ⟨f03, RX3, kX3, low3⟩ := F.frK st3
        have e3 := (f03.cell (hcell_lt e0) fun h => h).trans e0
        simp -implicitDefEqProofs (disch := omega) [go_sem, r1, r6, r7, r8, e3]
        refine build1 rfl rfl ?_
        have f4 : Fr (fun _ => False) h3 (h3.push (.cells #[.slice B (gs i).length cB] 23)) := (Fr.refl _ _).push
        have RX4 := RX3.fr0 f4
        have z0 := f03.size
        have z4 := f4.size
        simp -implicitDefEqProofs (disch := omega) [go_sem, r1, r6, r7, r8]
        refine appendB (vs := vs) (ws := [.slice B (gs i).length cB]) RX4.S (by rw [RX4.len]) (SlAt.new (vs := [.slice B (gs i).length cB])).row rfl (by simp [Value.oneCell']) (by omega) (by omega) ?_
        intro X5 xc5 h5 S5 f5 hX5
        have hB : gs i ≠ [] → ∀ y, blk B y → y < h.size ∧ ¬ blk X y := fun hne y hy => by
          have h1 := row_lt RB0 (fun e => hne (by
            cases hgi : gs i with
            | nil => rfl
            | cons a b => rw [hgi] at e; cases e)) hy
          exact ⟨h1, fun h => by have := RX3.own y h; omega⟩
        have RX5 := RX4.snoc f5 S5 hX5 (by omega) ((RB0.fr0 f03).fr0 f4) hB (Nat.le_refl _) (by omega)
        have kX5 : ∀ y, blk X5 y → k3 y = none := fun y hy => by
          rcases hX5 y hy with h | h
          · exact kX3 y h
          · cases hc : k3 y with
            | none => rfl
            | some t => have := C3.low y t hc; omega
        have C5 : CoreM h5 cb k3 c3 := (C3.fr0 f4).frN f5 kX3
        have hl5 : (Cs ++ [gs i]).length = Cs.length + 1 := by rw [List.length_append]; rfl
        have f05 : Fr (fun _ => False) h h5 := (f03.trans f4).trans' f5 fun y hy hb => by have := RX3.own y hb; omega
        have hvv : c.s.vars = vars := F.hv
        rw [hvv] at hg
        simp -implicitDefEqProofs (disch := omega) [go_sem, r1, r6, r7, r8]
        refine ⟨⟨r1, i + 1, cb, k3, c3, X5, xc5, Cs ++ [gs i], _, K ++ [L], r6, rfl, by omega, by rw [hl5]; rfl, ⟨C5, S3, HF3, hv3.trans hvv, by omega, RX5, kX5, F.cln.add hg (by omega) hL, by omega, fun C hC => ?_, low3, f05⟩, eln3.trans eln, elg3.trans elg⟩, by omega⟩
        rcases List.mem_append.1 hC with hC | hC
        · exact F.l8 C hC
        · rw [List.mem_singleton] at hC; rw [hC]; exact hli
    · have ei : i = m := by omega
      subst ei
      simp -implicitDefEqProofs (disch := omega) [go_sem, r1, r6, r7, r8]
      exact ⟨cb, k, c, X, xc, Cs, vs, K, rfl, F, eln, elg⟩
end Xe

/- Layer 21's own example. -/
namespace Xe
open Go Tp Go.Proofs Hq
set_option maxRecDepth 16000
set_option maxHeartbeats 4000000

/-- a core, since a time -/
structure Cor (h0 h : Heap) (cb : Nat) (k : Nat → Option CT) (c : CSt) (vars N : Nat) (K : List (List Int)) : Prop where
  C : CoreM h cb k c
  S : SInv K c.s c.ln c.lg
  HF : HFull c
  hv : c.s.vars = vars
  cs : c.s.cs.length + c.ln.length + c.lg.length ≤ N
  low : ∀ y t, k y = some t → h0.size ≤ y
  fr : Fr (fun _ => False) h0 h
section
variable {h0 h h' : Heap} {cb : Nat} {k k' : Nat → Option CT} {c c' : CSt} {vars N N' : Nat} {K K' : List (List Int)}
theorem Cor.next (F : Cor h0 h cb k c vars N K) (C' : CoreM h' cb k' c') (st : KSt k k' h h') (S' : SInv K' c'.s c'.ln c'.lg) (HF' : HFull c') (hv : c'.s.vars = c.s.vars) (hcs : c'.s.cs.length + c'.ln.length + c'.lg.length ≤ N') : Cor h0 h' cb k' c' vars N' K' where
  C := C'
  S := S'
  HF := HF'
  hv := hv.trans F.hv
  cs := hcs
  low y t hy := (st.own y t hy).elim (F.low y t) fun h => Nat.le_trans F.fr.size h
  fr := F.fr.trans' st.fr fun y hy hn => by
    cases hc : k y with
    | none => exact hn hc
    | some t => have := F.low y t hc; omega
theorem Cor.fr0 (F : Cor h0 h cb k c vars N K) (f : Fr (fun _ => False) h h') : Cor h0 h' cb k c vars N K := F.next (F.C.fr0 f) (KSt.fr0 f) F.S F.HF rfl F.cs

theorem Cor.cbh (F : Cor h0 h cb k c vars N K) : cb < h.size := by
  obtain ⟨bb, hb, p, O, n, act, LA, lc, GA, gc, vs', C⟩ := F.C.ex
  exact C.low _ _ C.kC
theorem Cor.fresh (F : Cor h0 h cb k c vars N K) {B : Option Addr} {ws : List Value} (hB : ∀ y, blk B y → h.size ≤ y) : NotK k cb B ws := fun _ y hy => by
  have h1 := hB y hy
  have h2 := F.cbh
  refine ⟨?_, by omega⟩
  cases hc : k y with
  | none => rfl
  | some t => have := F.C.low y t hc; omega
end
theorem ext4 {a b c d : Value} : extractV (.tuple #[a, b, c, d]) 3 = some d := rfl
theorem pos_mdl : Mdl fun x => 0 < x := fun x hx => by
  constructor
  · intro h1 h2; omega
  · intro h1; omega
/-- no script -/
def scr0 (st : Int) : Scr := ⟨[], [], [], [], st⟩
def scr0A : ScrA := ⟨none, 0, none, 0, none, 0, none, 0⟩
theorem scr0M {h : Heap} {st : Int} (h0 : -9223372036854775808 ≤ st ∧ st ≤ 9223372036854775807) : ScrM h (scr0 st) scr0A :=
  ⟨RowAt.nil, RowAt.nil, RowAt.nil, RowAt.nil, Nat.two_pow_pos 63, Nat.two_pow_pos 63, Nat.two_pow_pos 63, Nat.two_pow_pos 63, fun x hx => (nomatch hx), fun x hx => (nomatch hx), fun x hx => (nomatch hx), h0⟩
theorem scr0K {k : Nat → Option CT} {xb : Nat} {st : Int} : ScrK k xb (scr0 st) scr0A := ⟨fun h => absurd rfl h, fun h => absurd rfl h, fun h => absurd rfl h, fun h => absurd rfl h⟩

theorem awake21 {h : Heap} : CallsH Tryz.prog 29 [] h fun r h' => r = .bool true ∧ Fr (fun _ => False) h h' := by
  refine calls_of 75 [.tmp 0] Go.Proofs.Tryz.func29 rfl rfl rfl (by kernel_rfl) (Nat.le_of_ble_eq_true rfl) ?_
  simp -implicitDefEqProofs (disch := omega) [go_sem]
  refine useC (cnew_ok (x := 2) (by omega) (by omega)) ?_
  rintro _ h1 (⟨hneg, _⟩ | ⟨vars, cb, ev, _, rfl, k1, C1, low1, f1⟩)
  · omega
  obtain rfl : vars = 2 := by omega
  have F1 : Cor h h1 cb k1 (cst0 2) 2 0 [] := ⟨C1, SInv.new (by omega), fun v h1 h2 _ => ⟨h1, h2⟩, rfl, Nat.le_refl _, low1, f1⟩
  simp -implicitDefEqProofs (disch := omega) [go_sem]
  refine build2 ?_
  have f2 : Fr (fun _ => False) h1 (h1.push (.cells #[.int .i64 1, .int .i64 2] 3)) := (Fr.refl _ _).push
  have F2 := F1.fr0 f2
  have hB2 : ∀ y, blk (some (⟨h1.size, 0, none⟩ : Addr)) y → h1.size ≤ y := fun y ⟨_, h, e⟩ => by cases h; exact Nat.le_of_eq e
  have R2 := (SlAt.new (h := h1) (vs := ints [1, 2]) (e := 3)).row
  simp -implicitDefEqProofs (disch := omega) [go_sem]
  refine useC (cadd_ok (l := [1, 2]) (n := 2) F2.C F2.S F2.HF R2 (F1.fresh hB2) rfl (by omega) (by simp) (by decide)) ?_
  rintro _ h3 ⟨k3, c3, e, rfl, C3, st3, HF3, hv3, eln3, elg3, est3, hcs3, hor⟩
  rcases hor with ⟨_, hb, _⟩ | ⟨_, _, ⟨x, hx, _, hnx⟩, _⟩ | ⟨rfl, _, L1, hL1, S3⟩
  · exact absurd hb (by decide)
  · simp at hx hnx; omega
  have F3 : Cor h h3 cb k3 c3 2 1 ([] ++ [L1]) := F2.next C3 st3 S3 HF3 hv3 (by rw [eln3, elg3]; exact hcs3)
  simp -implicitDefEqProofs (disch := omega) [go_sem]
  refine build2 ?_
  have f4 : Fr (fun _ => False) h3 (h3.push (.cells #[.int .i64 (-1), .int .i64 2] 3)) := (Fr.refl _ _).push
  have F4 := F3.fr0 f4
  have hB4 : ∀ y, blk (some (⟨h3.size, 0, none⟩ : Addr)) y → h3.size ≤ y := fun y ⟨_, h, e⟩ => by cases h; exact Nat.le_of_eq e
  have R4 := (SlAt.new (h := h3) (vs := ints [-1, 2]) (e := 3)).row
  simp -implicitDefEqProofs (disch := omega) [go_sem]
  refine useC (cadd_ok (l := [-1, 2]) (n := 2) F4.C F4.S F4.HF R4 (F3.fresh hB4) rfl (by omega) (by simp) (by have := F4.cs; omega)) ?_
  rintro _ h5 ⟨k5, c5, e, rfl, C5, st5, HF5, hv5, eln5, elg5, est5, hcs5, hor⟩
  have hv3' := F3.hv
  rcases hor with ⟨_, hb, _⟩ | ⟨_, _, ⟨x, hx, _, hnx⟩, _⟩ | ⟨rfl, _, L2, hL2, S5⟩
  · rw [hv3'] at hb; exact absurd hb (by decide)
  · simp at hx hnx; omega
  have F5 : Cor h h5 cb k5 c5 2 2 ([] ++ [L1] ++ [L2]) := F4.next C5 st5 S5 HF5 hv5 (by have := F3.cs; rw [eln5, elg5]; omega)
  have m1 : ∀ x, x ∈ L1 ↔ x = 1 ∨ x = 2 := fun x => by rw [hL1.2 x]; simp [okL]; omega
  have m2 : ∀ x, x ∈ L2 ↔ x = -1 ∨ x = 2 := fun x => by rw [hL2.2 x]; simp [okL]; omega
  have hK : ∀ {M : Int → Prop}, (∀ c ∈ [] ++ [L1] ++ [L2], SatM M c) → SatM M L1 ∧ SatM M L2 := fun H => ⟨H L1 (by simp), H L2 (by simp)⟩
  have pos : ∀ c ∈ [] ++ [L1] ++ [L2], SatM (fun x => 0 < x) c := fun c hc => by
    simp at hc
    rcases hc with rfl | rfl
    · exact ⟨2, (m1 2).2 (.inr rfl), by simp⟩
    · exact ⟨2, (m2 2).2 (.inr rfl), by simp⟩
  have hv5' := F5.hv
  have hN : needN c5.s.vars (scr0 100).res.length = 12 := by rw [hv5']; rfl
  simp -implicitDefEqProofs (disch := omega) [go_sem]
  refine useC (solve_ok (sc := scr0 100) (a := scr0A) (A := none) (n := 0) (ac := 0) (am := []) F5.C F5.S F5.HF (scr0M (by omega)) scr0K RowAt.nil (fun h => absurd rfl h) rfl (by omega) (fun x hx => (nomatch hx)) (by omega) (by have := F5.cs; omega) (by have := F5.cs; omega)) ?_
  rintro _ h6 (⟨hb, _⟩ | ⟨_, k6, c6, e, mm, ca, rfl, C6, st6, S6, HF6, hv6, hst6, hcs6, hlg6, E6⟩)
  · rw [hv5'] at hb; exact absurd hb (by decide)
  rw [hN] at hcs6 hlg6 E6
  have F6 : Cor h h6 cb k6 c6 2 100 ([] ++ [L1] ++ [L2]) := F5.next C6 st6 S6 HF6 hv6 (by have := F5.cs; omega)
  have hv6' := F6.hv
  cases E6 with
  | none a1 a2 a3 a4 a5 a6 => exact (a6 _ pos_mdl pos fun x hx => (nomatch a3 x hx)).elim
  | steps a1 a2 =>
    have : (c6.st : Int) = 100 := a1
    omega
  | @model M mc bs a1 a2 a3 a4 a5 =>
    rw [hv5'] at a1 ⊢
    have hb1 : bs[1]? = some true := by
      obtain ⟨s1, s2⟩ := hK a4
      have h2 : MB bs 2 := by
        obtain ⟨x, hx, hMx⟩ := s1
        rcases (m1 x).1 hx with rfl | rfl
        · obtain ⟨y, hy, hMy⟩ := s2
          rcases (m2 y).1 hy with rfl | rfl
          · exact absurd hMx (((MB_mdl bs) 1 (by omega)).1 hMy)
          · exact hMy
        · exact hMx
      unfold MB at h2
      rw [if_pos ⟨by decide, by rw [a1]; decide⟩] at h2
      unfold truB at h2
      rw [if_neg (by decide)] at h2
      have : bs[1]? = some bs[1] := List.getElem?_eq_getElem (by omega)
      rw [show (2 : Int).natAbs - 1 = 1 from rfl, this] at h2
      simp only at h2
      rw [this]
      cases hb : bs[1] with
      | true => rfl
      | false => rw [hb] at h2; simp at h2
    have z6 := F6.fr.size
    simp -implicitDefEqProofs (disch := omega) [go_sem, ext4]
    refine build1 rfl rfl ?_
    have f7 : Fr (fun _ => False) h6 (h6.push (.cells #[.int .i64 (-2)] 3)) := (Fr.refl _ _).push
    have F7 := F6.fr0 f7
    have hB7 : ∀ y, blk (some (⟨h6.size, 0, none⟩ : Addr)) y → h6.size ≤ y := fun y ⟨_, h, e⟩ => by cases h; exact Nat.le_of_eq e
    have R7 := (SlAt.new (h := h6) (vs := ints [-2]) (e := 3)).row
    have hN7 : needN c6.s.vars (scr0 100).res.length = 12 := by rw [hv6']; rfl
    simp -implicitDefEqProofs (disch := omega) [go_sem]
    refine useC (solve_ok (sc := scr0 100) (a := scr0A) (n := 1) (ac := 1) (am := [-2]) F7.C F7.S F7.HF (scr0M (by omega)) scr0K R7 (F6.fresh hB7) rfl (by omega) (by simp) (by omega) (by have := F7.cs; omega) (by have := F7.cs; omega)) ?_
    rintro _ h8 (⟨hb, _⟩ | ⟨_, k8, c8, e, mm, ca, rfl, C8, st8, S8, HF8, hv8, hst8, hcs8, hlg8, E8⟩)
    · rw [hv6'] at hb; exact absurd hb (by decide)
    rw [hN7] at hcs8 hlg8 E8
    have F8 : Cor h h8 cb k8 c8 2 200 ([] ++ [L1] ++ [L2]) := F7.next C8 st8 S8 HF8 hv8 (by have := F7.cs; omega)
    cases E8 with
    | @model _ _ bs' b1 b2 b3 b4 b5 =>
      exfalso
      obtain ⟨s1, s2⟩ := hK b4
      have h2 : MB bs' 2 := by
        obtain ⟨x, hx, hMx⟩ := s1
        rcases (m1 x).1 hx with rfl | rfl
        · obtain ⟨y, hy, hMy⟩ := s2
          rcases (m2 y).1 hy with rfl | rfl
          · exact absurd hMx (((MB_mdl bs') 1 (by omega)).1 hMy)
          · exact hMy
        · exact hMx
      exact ((MB_mdl bs' 2 (by omega)).1 (b5 (-2) (by simp))) h2
    | steps a1 a2 =>
      have : (c8.st : Int) = 100 := a1
      omega
    | @none CA cd cl b1 b2 b3 b4 b5 b6 =>
      have hcl : cl = [-2] := by
        have hne : cl ≠ [] := fun e => by subst e; exact b6 _ pos_mdl pos fun x hx => (nomatch hx)
        match cl, hne, b3, b4 with
        | [x], _, b3, _ => have := b3 x (by simp); simp at this; rw [this]
        | x :: y :: r, _, b3, b4 =>
          have hx := b3 x (by simp)
          have hy := b3 y (by simp)
          simp at hx hy
          have := (List.pairwise_cons.1 b4).1 y (by simp)
          unfold lexLt at this
          omega
      subst hcl
      have a2' := (a2.fr0 f7).fr st8.fr fun y hy h => h (a3 y hy).2
      obtain ⟨bk, off, rfl, hc⟩ := a2'.get (by rw [bools_len]; omega)
      have c1 := hc 1 _ (bools_at hb1)
      simp -implicitDefEqProofs (disch := omega) [go_sem, ext4, c1]
      refine build1 rfl rfl ?_
      have f9 : Fr (fun _ => False) h8 (h8.push (.cells #[.int .i64 (-2)] 3)) := (Fr.refl _ _).push
      simp -implicitDefEqProofs (disch := omega) [go_sem]
      refine useC (same12_ok (a := [-2]) (b := [-2]) (b1.row.fr0 f9) (SlAt.new (h := h8) (vs := ints [-2]) (e := 3)).row rfl rfl (by decide) (by decide)) ?_
      rintro _ h10 ⟨rfl, rfl⟩
      simp -implicitDefEqProofs (disch := omega) [go_sem]
      exact F8.fr.trans f9
end Xe

/- CdclTells, walked. -/
namespace Xe
open Go Tp Go.Proofs Hq
set_option maxRecDepth 16000
set_option maxHeartbeats 4000000

theorem needN_le {v R : Nat} (hv : v ≤ 7) (hR : R ≤ 20) : needN v R ≤ 21504 := by
  unfold needN
  have h1 : (v + 1) * 2 ^ v ≤ 8 * 128 := Nat.mul_le_mul (by omega) (Nat.pow_le_pow_right (n := 2) (by omega) hv)
  have h2 : R * ((v + 1) * 2 ^ v) ≤ 20 * (8 * 128) := Nat.mul_le_mul hR h1
  omega
/-- what holds of clauses and of literals that are taken as clauses -/
theorem units_sat {vars : Nat} {Cs K : List (List Int)} (H : Cln vars Cs K) {m : List Bool} (hm : m.length = vars) {ls : List Int} (hl : ∀ x ∈ ls, 1 ≤ x.natAbs ∧ x.natAbs ≤ vars) (hh : ∀ C ∈ Cs ++ ls.map fun x => [x], holdB m C = true) : (∀ k ∈ K, SatM (MB m) k) ∧ ∀ x ∈ ls, MB m x := by
  refine ⟨H.k fun C hC => (MB_of fun x hx => ?_).2 (hh C (List.mem_append_left _ hC)), fun x hx => ?_⟩
  · have := goodC_mem (H.good C hC) hx; omega
  · have h1 := (MB_of (bs := m) (k := [x]) fun y hy => ?_).2 (hh [x] (List.mem_append_right _ (List.mem_map.2 ⟨x, hx, rfl⟩)))
    · obtain ⟨y, hy, hMy⟩ := h1
      rw [List.mem_singleton] at hy
      rw [← hy]; exact hMy
    · rw [List.mem_singleton] at hy
      have := hl x hx
      rw [hy]; omega
theorem sat_units {vars : Nat} {Cs K : List (List Int)} (H : Cln vars Cs K) {m : List Bool} (hm : m.length = vars) {ls : List Int} (hl : ∀ x ∈ ls, 1 ≤ x.natAbs ∧ x.natAbs ≤ vars) (hK : ∀ k ∈ K, SatM (MB m) k) (hx : ∀ x ∈ ls, MB m x) : ((Cs ++ ls.map fun x => [x]).all fun C => holdB m C) = true := by
  rw [List.all_eq_true]
  intro C hC
  rcases List.mem_append.1 hC with hC | hC
  · exact (MB_of fun x hx => by have := goodC_mem (H.good C hC) hx; omega).1 (H.c hK C hC)
  · obtain ⟨x, hxl, rfl⟩ := List.mem_map.1 hC
    refine (MB_of fun y hy => ?_).1 ⟨x, List.mem_singleton.2 rfl, hx x hxl⟩
    rw [List.mem_singleton] at hy
    have := hl x hxl
    rw [hy]; omega
theorem units_rng {vars : Nat} (hv : vars ≤ 7) {Cs K : List (List Int)} (H : Cln vars Cs K) (h8 : ∀ C ∈ Cs, C.length ≤ 8) {ls : List Int} (hl : ∀ x ∈ ls, 1 ≤ x.natAbs ∧ x.natAbs ≤ vars) : ∀ C ∈ Cs ++ ls.map fun x => [x], C.length < 2 ^ 40 ∧ ∀ x ∈ C, x.natAbs ≤ 16777216 := fun C hC => by
  rcases List.mem_append.1 hC with hC | hC
  · exact ⟨by have := h8 C hC; omega, fun x hx => by have := goodC_mem (H.good C hC) hx; omega⟩
  · obtain ⟨x, hxl, rfl⟩ := List.mem_map.1 hC
    refine ⟨by simp, fun y hy => ?_⟩
    rw [List.mem_singleton] at hy
    have := hl x hxl
    rw [hy]; omega

section
variable {h : Heap}
theorem tells21_walk (a0 : Int) (w0 : -9223372036854775808 ≤ a0 ∧ a0 ≤ 9223372036854775807) (A : Option Addr) (m c : Nat) (gs : Nat → List Int) (R : Args2 h A m gs) (sc : Scr) (a : ScrA) (Ms : ScrM h sc a) (B : Option Addr) (d : Nat) (am : List Int) (hqs : am.length < 2 ^ 63) (RA : RowAt h B (ints am)) (hr : ∀ x ∈ am, -9223372036854775808 ≤ x ∧ x ≤ 9223372036854775807) :
    CallsH Tryz.prog 5 [.int .i64 a0, .slice A m c, .agg (scrV sc a).toArray, .slice B am.length d] h fun r h' => r = .bool true ∧ Fr (fun _ => False) h h' := by
  refine calls_of 165 [.tmp 8] Go.Proofs.Tryz.func5 rfl rfl rfl (by kernel_rfl) (Nat.le_of_ble_eq_true rfl) ?_
  unfold scrV
  simp -implicitDefEqProofs (disch := omega) [go_sem]
  obtain ⟨h1, e1⟩ : ∃ h1, h1 = h.push (.cells #[.slice a.P sc.picks.length a.pc, .slice a.G sc.signs.length a.gc, .slice a.R sc.res.length a.rc, .slice a.D sc.red.length a.dc, .int .i64 sc.steps] 56) := ⟨_, rfl⟩
  have f1 : Fr (fun _ => False) h h1 := by rw [e1]; exact (Fr.refl _ _).push
  have V1 : ListB h1 h.size (scrV sc a) := by rw [e1]; exact ListB.new
  rw [← e1]
  refine useC awake21 ?_
  rintro _ h2 ⟨rfl, f2⟩
  have V2 := V1.fr f2 fun h => h
  have ld2 := load5 V2
  have f02 := f1.trans f2
  simp -implicitDefEqProofs (disch := omega) [go_sem, ld2]
  refine useC (small21_ok (R.fr f02) (Ms.fr0 f02) hqs w0) ?_
  rintro _ h3 ⟨f3, b, rfl, hsm⟩
  have f03 := f02.trans f3
  cases b with
  | false =>
    by_cases hp : 0 ≤ a0
    · simp -implicitDefEqProofs (disch := omega) [go_sem, hp]
      exact f03
    · simp -implicitDefEqProofs (disch := omega) [go_sem, hp]
      refine useC (cnew_ok w0.1 w0.2) ?_
      rintro _ h4 (⟨_, rfl, rfl⟩ | ⟨v, _, rfl, _⟩)
      · simp -implicitDefEqProofs (disch := omega) [go_sem, hp]
        exact f03
      · omega
  | true =>
    have Q := hsm rfl
    obtain ⟨q1, q2, q3, q4, q5, q6, q7, q8, q9⟩ := Q
    obtain ⟨vars, rfl⟩ : ∃ v : Nat, a0 = v := ⟨a0.toNat, by omega⟩
    have hv7 : vars ≤ 7 := by omega
    simp -implicitDefEqProofs (disch := omega) [go_sem]
    refine useC (filled21_ok (R.fr f03) q3 (by omega) q9) ?_
    rintro _ h4 ⟨cb, k, cc, X, xc, Cs, vs, K, rfl, F, eln, elg⟩
    simp -implicitDefEqProofs (disch := omega) [go_sem]
    refine useC (cvars_ok F.C) ?_
    rintro _ h5 ⟨rfl, rfl⟩
    have hcv := F.hv
    rw [hcv]
    have V4 := ((V2.fr f3 fun h => h).fr F.fr fun h => h)
    have ld4 := load5 V4
    simp -implicitDefEqProofs (disch := omega) [go_sem, ld4]
    have hcb := F.cb
    have Ms3 := Ms.fr0 f03
    have f04 := f03.trans F.fr
    have RA3 := RA.fr0 f03
    have Ks4 : ScrK k cb sc a := ⟨F.not Ms3.P, F.not Ms3.G, F.not Ms3.R, F.not Ms3.D⟩
    have hN := needN_le hv7 q7
    have hcs := F.cs
    have hlC := F.lC
    have hln0 : cc.ln.length = 0 := by rw [eln]; rfl
    have hlg0 : cc.lg.length = 0 := by rw [elg]; rfl
    refine useC (solve_ok (sc := sc) (a := a) F.C F.S F.HF (Ms.fr0 f04) Ks4 (RA.fr0 f04) (F.not RA3) rfl (by omega) hr (by omega) (by rw [hcv]; omega) (by rw [hcv]; omega)) ?_
    rintro _ h6 hsol
    rw [SolR, hcv] at hsol
    rcases hsol with ⟨hb, rfl, f6⟩ | ⟨hgood, k6, c6, e, mm, ca, rfl, C6, st6, S6, HF6, hv6, hst6, hcs6, hlg6, E6⟩
    · -- the script, or an assumption, isn't right
      have V6 := V4.fr f6 fun h => h
      have ld6 := load5 V6
      have b46 := V6.at' 4 _ rfl
      simp -implicitDefEqProofs (disch := omega) [go_sem, ext4, ld6]
      refine useC (rgood20_ok (Ms.fr0 (f04.trans f6))) ?_
      rintro _ h7 ⟨rfl, f7⟩
      cases hg : goodScr sc with
      | false =>
        simp -implicitDefEqProofs (disch := omega) [go_sem, ext4]
        exact (f04.trans f6).trans f7
      | true =>
        rw [hg, Bool.true_and] at hb
        simp -implicitDefEqProofs (disch := omega) [go_sem, ext4]
        refine useC (rgood12_ok (RA.fr0 ((f04.trans f6).trans f7)) rfl (by omega) (vars := vars) (by omega) hr) ?_
        rintro _ h8 ⟨rfl, rfl⟩
        rw [hb]
        simp -implicitDefEqProofs (disch := omega) [go_sem, ext4]
        exact (f04.trans f6).trans f7
    · rw [Bool.and_eq_true] at hgood
      obtain ⟨hg1, hg2⟩ := hgood
      have hZ := goodScr_S hg1
      obtain ⟨_, _, _, _, zs0, zs1⟩ := hZ
      have ham : ∀ x ∈ am, 1 ≤ x.natAbs ∧ x.natAbs ≤ vars := fun x hx => goodC_mem hg2 hx
      obtain ⟨f06, RX6, kX6, low6⟩ := F.frK st6
      have f6' := f03.trans f06
      have hkb : k h.size = none := by
        cases hc : k h.size with
        | none => rfl
        | some t => have := F.low _ t hc; have := V1.lt; have := f2.size; have := f3.size; omega
      have V6 := st6.lb V4 hkb
      have ld6 := load5 V6
      have b46 := V6.at' 4 _ rfl
      have hst0 : ¬ (c6.st : Int) < 0 := by omega
      have hst1 : ¬ sc.steps < (c6.st : Int) := by omega
      -- from the first question on
      cases E6 with
      | @model M mc bs a1 a2 a3 a4 a5 =>
        simp -implicitDefEqProofs (disch := omega) [go_sem, ext4, ld6]
        refine useC (rgood20_ok (Ms.fr0 f6')) ?_
        rintro _ h7 ⟨rfl, f7⟩
        rw [hg1]
        simp -implicitDefEqProofs (disch := omega) [go_sem, ext4]
        refine useC (rgood12_ok (RA.fr0 (f6'.trans f7)) rfl (by omega) (vars := vars) (by omega) hr) ?_
        rintro _ h8 ⟨rfl, rfl⟩
        rw [hg2]
        simp -implicitDefEqProofs (disch := omega) [go_sem, ext4]
        have b48 := (V6.fr f7 fun h => h).at' 4 _ rfl
        have C8 := C6.fr0 f7
        refine drawC [(0, 0), (1, 0), (2, 0), (3, 0), (4, 3), (5, 0), (6, 0), (7, 0), (8, 0), (10, 0), (11, 2), (9, 3), (12, 0), (13, 0)] (fun h' => hcell h' ⟨h.size, 4, none⟩ = some (.int .i64 sc.steps)) mixed (by kernel_rfl) b48 ?_
        simp -implicitDefEqProofs (disch := omega) [go_sem, ext4]
        refine useC (csteps_ok C8) ?_
        rintro _ h9 ⟨rfl, rfl⟩
        refine ⟨b48, ?_⟩
        simp -implicitDefEqProofs (disch := omega) [go_sem, ext4, hst0]
        refine float2g (.int .i64 sc.steps) (by rfl) (fun h' hC => by simp -implicitDefEqProofs (disch := omega) [go_sem, hC]) ?_
        simp -implicitDefEqProofs (disch := omega) [go_sem, ext4, hst0]
        refine useC (csteps_ok C8) ?_
        rintro _ h9 ⟨rfl, rfl⟩
        refine ⟨b48, ?_⟩
        simp -implicitDefEqProofs (disch := omega) [go_sem, ext4, hst0, hst1]
        have RX8 := RX6.fr0 f7
        have f8' := f6'.trans f7
        refine useC (units_ok RX8 rfl (by omega) (RA.fr0 f8') rfl (by omega)) ?_
        rintro _ h10 ⟨f10, U, uc, rfl, RU⟩
        have hU : (Cs ++ am.map fun x => [x]).length < 2 ^ 40 := by rw [List.length_append, List.length_map]; omega
        have hrng := units_rng hv7 F.cln F.l8 ham
        obtain ⟨T, hT⟩ : ∃ T, T = Cs ++ am.map fun x => [x] := ⟨_, rfl⟩
        rw [← hT] at RU hU hrng ⊢
        simp -implicitDefEqProofs (disch := omega) [go_sem, ext4]
        refine useC (rmodels12_ok RU rfl hU hrng (by omega) vars (bs := []) (Fr.refl _ _) RowAt.nil (by simp)) ?_
        rintro _ h11 ⟨f11, RM, ms, mc', mvs, rfl, RMs, hml, hms⟩
        have hp : 2 ^ vars ≤ 128 := Nat.pow_le_pow_right (n := 2) (by omega) hv7
        simp -implicitDefEqProofs (disch := omega) [go_sem, ext4]
        have f811 := f10.trans f11
        refine useC (units_ok (RX8.fr0 f811) rfl (by omega) (RA.fr0 (f8'.trans f811)) rfl (by omega)) ?_
        rintro _ h12 ⟨f12, U2, uc2, rfl, RU2⟩
        rw [← hT] at RU2 ⊢
        simp -implicitDefEqProofs (disch := omega) [go_sem, ext4]
        have RM12 := ((a2.fr0 f7).fr0 f811).fr0 f12
        refine useC (rall12_ok RU2 rfl hU hrng RM12 a1.symm (by omega)) ?_
        rintro _ h13 ⟨rfl, rfl⟩
        rw [hT, sat_units F.cln a1 ham a4 a5]
        simp -implicitDefEqProofs (disch := omega) [go_sem, ext4]
        exact (f8'.trans f811).trans f12
      | @none CA cd cl a1 a2 a3 a4 a5 a6 =>
        simp -implicitDefEqProofs (disch := omega) [go_sem, ext4, ld6]
        refine useC (rgood20_ok (Ms.fr0 f6')) ?_
        rintro _ h7 ⟨rfl, f7⟩
        rw [hg1]
        simp -implicitDefEqProofs (disch := omega) [go_sem, ext4]
        refine useC (rgood12_ok (RA.fr0 (f6'.trans f7)) rfl (by omega) (vars := vars) (by omega) hr) ?_
        rintro _ h8 ⟨rfl, rfl⟩
        rw [hg2]
        simp -implicitDefEqProofs (disch := omega) [go_sem, ext4]
        have b48 := (V6.fr f7 fun h => h).at' 4 _ rfl
        have C8 := C6.fr0 f7
        refine drawC [(0, 0), (1, 0), (2, 0), (3, 0), (4, 3), (5, 0), (6, 0), (7, 0), (8, 0), (10, 0), (11, 2), (9, 3), (12, 0), (13, 0)] (fun h' => hcell h' ⟨h.size, 4, none⟩ = some (.int .i64 sc.steps)) mixed (by kernel_rfl) b48 ?_
        simp -implicitDefEqProofs (disch := omega) [go_sem, ext4]
        refine useC (csteps_ok C8) ?_
        rintro _ h9 ⟨rfl, rfl⟩
        refine ⟨b48, ?_⟩
        simp -implicitDefEqProofs (disch := omega) [go_sem, ext4, hst0]
        refine float2g (.int .i64 sc.steps) (by rfl) (fun h' hC => by simp -implicitDefEqProofs (disch := omega) [go_sem, hC]) ?_
        simp -implicitDefEqProofs (disch := omega) [go_sem, ext4, hst0]
        refine useC (csteps_ok C8) ?_
        rintro _ h9 ⟨rfl, rfl⟩
        refine ⟨b48, ?_⟩
        simp -implicitDefEqProofs (disch := omega) [go_sem, ext4, hst0, hst1]
        have RX8 := RX6.fr0 f7
        have f8' := f6'.trans f7
        refine useC (units_ok RX8 rfl (by omega) (RA.fr0 f8') rfl (by omega)) ?_
        rintro _ h10 ⟨f10, U, uc, rfl, RU⟩
        have hU : (Cs ++ am.map fun x => [x]).length < 2 ^ 40 := by rw [List.length_append, List.length_map]; omega
        have hrng := units_rng hv7 F.cln F.l8 ham
        obtain ⟨T, hT⟩ : ∃ T, T = Cs ++ am.map fun x => [x] := ⟨_, rfl⟩
        rw [← hT] at RU hU hrng ⊢
        simp -implicitDefEqProofs (disch := omega) [go_sem, ext4]
        refine useC (rmodels12_ok RU rfl hU hrng (by omega) vars (bs := []) (Fr.refl _ _) RowAt.nil (by simp)) ?_
        rintro _ h11 ⟨f11, RM, ms, mc', mvs, rfl, RMs, hml, hms⟩
        have hp : 2 ^ vars ≤ 128 := Nat.pow_le_pow_right (n := 2) (by omega) hv7
        simp -implicitDefEqProofs (disch := omega) [go_sem, ext4]
        have ms0 : ms = [] := by
          match ms, hms with
          | [], _ => rfl
          | x :: r, hms =>
            exfalso
            obtain ⟨g1, g2⟩ := hms x (by simp)
            obtain ⟨g3, g4⟩ := units_sat F.cln g1 ham (by rw [← hT]; exact g2)
            exact a6 (MB x) (MB_mdl x) g3 fun y hy => g4 y (a3 y hy)
        subst ms0
        have f811 := f10.trans f11
        have RC11 := (a1.row.fr0 f7).fr0 f811
        have hcl : ∀ x ∈ cl, 1 ≤ x.natAbs ∧ x.natAbs ≤ vars := fun x hx => ham x (a3 x hx)
        simp -implicitDefEqProofs (disch := omega) [go_sem, ext4]
        refine useC (units_ok (RX8.fr0 f811) rfl (by omega) RC11 rfl (by omega)) ?_
        rintro _ h12 ⟨f12, U2, uc2, rfl, RU2⟩
        have hU2 : (Cs ++ cl.map fun x => [x]).length < 2 ^ 40 := by rw [List.length_append, List.length_map]; omega
        have hrng2 := units_rng hv7 F.cln F.l8 hcl
        obtain ⟨T2, hT2⟩ : ∃ T2, T2 = Cs ++ cl.map fun x => [x] := ⟨_, rfl⟩
        rw [← hT2] at RU2 hU2 hrng2 ⊢
        simp -implicitDefEqProofs (disch := omega) [go_sem, ext4]
        refine useC (rmodels12_ok RU2 rfl hU2 hrng2 (by omega) vars (bs := []) (Fr.refl _ _) RowAt.nil (by simp)) ?_
        rintro _ h13 ⟨f13, RM2, ms2, mc2, mvs2, rfl, RMs2, hml2, hms2⟩
        have ms20 : ms2 = [] := by
          match ms2, hms2 with
          | [], _ => rfl
          | x :: r, hms2 =>
            exfalso
            obtain ⟨g1, g2⟩ := hms2 x (by simp)
            obtain ⟨g3, g4⟩ := units_sat F.cln g1 hcl (by rw [← hT2]; exact g2)
            exact a6 (MB x) (MB_mdl x) g3 g4
        subst ms20
        simp -implicitDefEqProofs (disch := omega) [go_sem, ext4]
        have f13' := (f8'.trans f811).trans (f12.trans f13)
        have RC13 := RC11.fr0 (f12.trans f13)
        have RA13 := RA.fr0 f13'
        refine loopK (fun ρ h' => ρ 3 = .slice B am.length d ∧ ρ 13 = .slice CA cl.length cd ∧ h' = h13 ∧ ∃ i : Nat, ρ 16 = .int .i64 i ∧ i ≤ cl.length) (fun ρ _ => cl.length - (intOf (ρ 16)).toNat) (by kernel_rfl) ?_ ?_
        · exact ⟨rfl, rfl, rfl, 0, rfl, by omega⟩
        · rintro ρ h14 ⟨r3, r13, rfl, i, r16, hi⟩
          by_cases hin : i < cl.length
          · obtain ⟨bk, off, rfl, hc⟩ := RC13.get (by rw [ints_len]; omega)
            obtain ⟨x, hx⟩ := some_at hin
            have c0 := hc _ _ (ints_at hx)
            have hxa := a3 x (List.mem_of_getElem? hx)
            simp -implicitDefEqProofs (disch := omega) [go_sem, r3, r13, r16, c0]
            refine useC (has12_ok RA13 rfl (by omega) x) ?_
            rintro _ h15 ⟨rfl, rfl⟩
            simp -implicitDefEqProofs (disch := omega) [go_sem, r3, r13, r16, hxa]
            exact ⟨⟨i + 1, by omega, by omega⟩, by omega⟩
          · simp -implicitDefEqProofs (disch := omega) [go_sem, r3, r13, r16]
            exact f13'
      | steps a1 a2 =>
        simp -implicitDefEqProofs (disch := omega) [go_sem, ext4, ld6]
        refine useC (rgood20_ok (Ms.fr0 f6')) ?_
        rintro _ h7 ⟨rfl, f7⟩
        rw [hg1]
        simp -implicitDefEqProofs (disch := omega) [go_sem, ext4]
        refine useC (rgood12_ok (RA.fr0 (f6'.trans f7)) rfl (by omega) (vars := vars) (by omega) hr) ?_
        rintro _ h8 ⟨rfl, rfl⟩
        rw [hg2]
        simp -implicitDefEqProofs (disch := omega) [go_sem, ext4]
        have b48 := (V6.fr f7 fun h => h).at' 4 _ rfl
        have C8 := C6.fr0 f7
        refine drawC [(0, 0), (1, 0), (2, 0), (3, 0), (4, 3), (5, 0), (6, 0), (7, 0), (8, 0), (10, 0), (11, 2), (9, 3), (12, 0), (13, 0)] (fun h' => hcell h' ⟨h.size, 4, none⟩ = some (.int .i64 sc.steps)) mixed (by kernel_rfl) b48 ?_
        simp -implicitDefEqProofs (disch := omega) [go_sem, ext4]
        refine useC (csteps_ok C8) ?_
        rintro _ h9 ⟨rfl, rfl⟩
        refine ⟨b48, ?_⟩
        simp -implicitDefEqProofs (disch := omega) [go_sem, ext4, hst0]
        refine float2g (.int .i64 sc.steps) (by rfl) (fun h' hC => by simp -implicitDefEqProofs (disch := omega) [go_sem, hC]) ?_
        simp -implicitDefEqProofs (disch := omega) [go_sem, ext4, hst0]
        refine useC (csteps_ok C8) ?_
        rintro _ h9 ⟨rfl, rfl⟩
        refine ⟨b48, ?_⟩
        simp -implicitDefEqProofs (disch := omega) [go_sem, ext4, hst0, hst1]
        have RX8 := RX6.fr0 f7
        have f8' := f6'.trans f7
        refine useC (units_ok RX8 rfl (by omega) (RA.fr0 f8') rfl (by omega)) ?_
        rintro _ h10 ⟨f10, U, uc, rfl, RU⟩
        have hU : (Cs ++ am.map fun x => [x]).length < 2 ^ 40 := by rw [List.length_append, List.length_map]; omega
        have hrng := units_rng hv7 F.cln F.l8 ham
        obtain ⟨T, hT⟩ : ∃ T, T = Cs ++ am.map fun x => [x] := ⟨_, rfl⟩
        rw [← hT] at RU hU hrng ⊢
        simp -implicitDefEqProofs (disch := omega) [go_sem, ext4]
        refine useC (rmodels12_ok RU rfl hU hrng (by omega) vars (bs := []) (Fr.refl _ _) RowAt.nil (by simp)) ?_
        rintro _ h11 ⟨f11, RM, ms, mc', mvs, rfl, RMs, hml, hms⟩
        have hp : 2 ^ vars ≤ 128 := Nat.pow_le_pow_right (n := 2) (by omega) hv7
        simp -implicitDefEqProofs (disch := omega) [go_sem, ext4]
        have f811 := f10.trans f11
        have C11 := C8.fr0 f811
        have b411 := ((V6.fr f7 fun h => h).fr f811 fun h => h).at' 4 _ rfl
        refine drawC [(0, 0), (1, 0), (2, 0), (3, 0), (5, 0), (6, 2), (4, 3), (7, 0), (8, 0), (9, 0), (10, 0), (11, 0), (12, 0), (13, 0), (14, 0), (15, 0), (16, 0), (17, 0), (18, 0), (19, 0)] (fun h' => hcell h' ⟨h.size, 4, none⟩ = some (.int .i64 sc.steps)) mixed (by kernel_rfl) b411 ?_
        simp -implicitDefEqProofs (disch := omega) [go_sem, ext4]
        refine float2g (.int .i64 sc.steps) (by rfl) (fun h' hC => by simp -implicitDefEqProofs (disch := omega) [go_sem, hC]) ?_
        simp -implicitDefEqProofs (disch := omega) [go_sem, ext4]
        refine useC (csteps_ok C11) ?_
        rintro _ h12 ⟨rfl, rfl⟩
        refine ⟨b411, ?_⟩
        simp -implicitDefEqProofs (disch := omega) [go_sem, ext4, a1]
        exact f8'.trans f811
end
end Xe
