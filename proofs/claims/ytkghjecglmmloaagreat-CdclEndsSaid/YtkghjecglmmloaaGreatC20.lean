/- Layer 21's own example. -/
import Derived.Test.YtkghjecglmmloaaGreatC17
namespace Xe
open Go Tp Go.Proofs Hq
set_option maxRecDepth 16000
set_option maxHeartbeats 4000000

/-- a core, since a time -/
structure Cor (h0 h : Heap) (cb : Nat) (k : Nat → Option CT) (c : CSt) (vars N : Nat) (K : List (List Int)) : Prop where
  C : CoreM h cb k c
  S : SInv K c.s c.ln c.lg
  HF : HFull c
  hv : c.s.vars = vars
  cs : c.s.cs.length + c.ln.length + c.lg.length ≤ N
  low : ∀ y t, k y = some t → h0.size ≤ y
  fr : Fr (fun _ => False) h0 h
section
variable {h0 h h' : Heap} {cb : Nat} {k k' : Nat → Option CT} {c c' : CSt} {vars N N' : Nat} {K K' : List (List Int)}
theorem Cor.next (F : Cor h0 h cb k c vars N K) (C' : CoreM h' cb k' c') (st : KSt k k' h h') (S' : SInv K' c'.s c'.ln c'.lg) (HF' : HFull c') (hv : c'.s.vars = c.s.vars) (hcs : c'.s.cs.length + c'.ln.length + c'.lg.length ≤ N') : Cor h0 h' cb k' c' vars N' K' where
  C := C'
  S := S'
  HF := HF'
  hv := hv.trans F.hv
  cs := hcs
  low y t hy := (st.own y t hy).elim (F.low y t) fun h => Nat.le_trans F.fr.size h
  fr := F.fr.trans' st.fr fun y hy hn => by
    cases hc : k y with
    | none => exact hn hc
    | some t => have := F.low y t hc; omega
theorem Cor.fr0 (F : Cor h0 h cb k c vars N K) (f : Fr (fun _ => False) h h') : Cor h0 h' cb k c vars N K := F.next (F.C.fr0 f) (KSt.fr0 f) F.S F.HF rfl F.cs

theorem Cor.cbh (F : Cor h0 h cb k c vars N K) : cb < h.size := by
  obtain ⟨bb, hb, p, O, n, act, LA, lc, GA, gc, vs', C⟩ := F.C.ex
  exact C.low _ _ C.kC
theorem Cor.fresh (F : Cor h0 h cb k c vars N K) {B : Option Addr} {ws : List Value} (hB : ∀ y, blk B y → h.size ≤ y) : NotK k cb B ws := fun _ y hy => by
  have h1 := hB y hy
  have h2 := F.cbh
  refine ⟨?_, by omega⟩
  cases hc : k y with
  | none => rfl
  | some t => have := F.C.low y t hc; omega
end
theorem ext4 {a b c d : Value} : extractV (.tuple #[a, b, c, d]) 3 = some d := rfl
theorem pos_mdl : Mdl fun x => 0 < x := fun x hx => by
  constructor
  · intro h1 h2; omega
  · intro h1; omega
/-- no script -/
def scr0 (st : Int) : Scr := ⟨[], [], [], [], st⟩
def scr0A : ScrA := ⟨none, 0, none, 0, none, 0, none, 0⟩
theorem scr0M {h : Heap} {st : Int} (h0 : -9223372036854775808 ≤ st ∧ st ≤ 9223372036854775807) : ScrM h (scr0 st) scr0A :=
  ⟨RowAt.nil, RowAt.nil, RowAt.nil, RowAt.nil, Nat.two_pow_pos 63, Nat.two_pow_pos 63, Nat.two_pow_pos 63, Nat.two_pow_pos 63, fun x hx => (nomatch hx), fun x hx => (nomatch hx), fun x hx => (nomatch hx), h0⟩
theorem scr0K {k : Nat → Option CT} {xb : Nat} {st : Int} : ScrK k xb (scr0 st) scr0A := ⟨fun h => absurd rfl h, fun h => absurd rfl h, fun h => absurd rfl h, fun h => absurd rfl h⟩

theorem awake21 {h : Heap} : CallsH Tryz.prog 29 [] h fun r h' => r = .bool true ∧ Fr (fun _ => False) h h' := by
  refine calls_of 75 [.tmp 0] Go.Proofs.Tryz.func29 rfl rfl rfl (by kernel_rfl) (Nat.le_of_ble_eq_true rfl) ?_
  simp -implicitDefEqProofs (disch := omega) [go_sem]
  refine useC (cnew_ok (x := 2) (by omega) (by omega)) ?_
  rintro _ h1 (⟨hneg, _⟩ | ⟨vars, cb, ev, _, rfl, k1, C1, low1, f1⟩)
  · omega
  obtain rfl : vars = 2 := by omega
  have F1 : Cor h h1 cb k1 (cst0 2) 2 0 [] := ⟨C1, SInv.new (by omega), fun v h1 h2 _ => ⟨h1, h2⟩, rfl, Nat.le_refl _, low1, f1⟩
  simp -implicitDefEqProofs (disch := omega) [go_sem]
  refine build2 ?_
  have f2 : Fr (fun _ => False) h1 (h1.push (.cells #[.int .i64 1, .int .i64 2] 3)) := (Fr.refl _ _).push
  have F2 := F1.fr0 f2
  have hB2 : ∀ y, blk (some (⟨h1.size, 0, none⟩ : Addr)) y → h1.size ≤ y := fun y ⟨_, h, e⟩ => by cases h; exact Nat.le_of_eq e
  have R2 := (SlAt.new (h := h1) (vs := ints [1, 2]) (e := 3)).row
  simp -implicitDefEqProofs (disch := omega) [go_sem]
  refine useC (cadd_ok (l := [1, 2]) (n := 2) F2.C F2.S F2.HF R2 (F1.fresh hB2) rfl (by omega) (by simp) (by decide)) ?_
  rintro _ h3 ⟨k3, c3, e, rfl, C3, st3, HF3, hv3, eln3, elg3, est3, hcs3, hor⟩
  rcases hor with ⟨_, hb, _⟩ | ⟨_, _, ⟨x, hx, _, hnx⟩, _⟩ | ⟨rfl, _, L1, hL1, S3⟩
  · exact absurd hb (by decide)
  · simp at hx hnx; omega
  have F3 : Cor h h3 cb k3 c3 2 1 ([] ++ [L1]) := F2.next C3 st3 S3 HF3 hv3 (by rw [eln3, elg3]; exact hcs3)
  simp -implicitDefEqProofs (disch := omega) [go_sem]
  refine build2 ?_
  have f4 : Fr (fun _ => False) h3 (h3.push (.cells #[.int .i64 (-1), .int .i64 2] 3)) := (Fr.refl _ _).push
  have F4 := F3.fr0 f4
  have hB4 : ∀ y, blk (some (⟨h3.size, 0, none⟩ : Addr)) y → h3.size ≤ y := fun y ⟨_, h, e⟩ => by cases h; exact Nat.le_of_eq e
  have R4 := (SlAt.new (h := h3) (vs := ints [-1, 2]) (e := 3)).row
  simp -implicitDefEqProofs (disch := omega) [go_sem]
  refine useC (cadd_ok (l := [-1, 2]) (n := 2) F4.C F4.S F4.HF R4 (F3.fresh hB4) rfl (by omega) (by simp) (by have := F4.cs; omega)) ?_
  rintro _ h5 ⟨k5, c5, e, rfl, C5, st5, HF5, hv5, eln5, elg5, est5, hcs5, hor⟩
  have hv3' := F3.hv
  rcases hor with ⟨_, hb, _⟩ | ⟨_, _, ⟨x, hx, _, hnx⟩, _⟩ | ⟨rfl, _, L2, hL2, S5⟩
  · rw [hv3'] at hb; exact absurd hb (by decide)
  · simp at hx hnx; omega
  have F5 : Cor h h5 cb k5 c5 2 2 ([] ++ [L1] ++ [L2]) := F4.next C5 st5 S5 HF5 hv5 (by have := F3.cs; rw [eln5, elg5]; omega)
  have m1 : ∀ x, x ∈ L1 ↔ x = 1 ∨ x = 2 := fun x => by rw [hL1.2 x]; simp [okL]; omega
  have m2 : ∀ x, x ∈ L2 ↔ x = -1 ∨ x = 2 := fun x => by rw [hL2.2 x]; simp [okL]; omega
  have hK : ∀ {M : Int → Prop}, (∀ c ∈ [] ++ [L1] ++ [L2], SatM M c) → SatM M L1 ∧ SatM M L2 := fun H => ⟨H L1 (by simp), H L2 (by simp)⟩
  have pos : ∀ c ∈ [] ++ [L1] ++ [L2], SatM (fun x => 0 < x) c := fun c hc => by
    simp at hc
    rcases hc with rfl | rfl
    · exact ⟨2, (m1 2).2 (.inr rfl), by simp⟩
    · exact ⟨2, (m2 2).2 (.inr rfl), by simp⟩
  have hv5' := F5.hv
  have hN : needN c5.s.vars (scr0 100).res.length = 12 := by rw [hv5']; rfl
  simp -implicitDefEqProofs (disch := omega) [go_sem]
  refine useC (solve_ok (sc := scr0 100) (a := scr0A) (A := none) (n := 0) (ac := 0) (am := []) F5.C F5.S F5.HF (scr0M (by omega)) scr0K RowAt.nil (fun h => absurd rfl h) rfl (by omega) (fun x hx => (nomatch hx)) (by omega) (by have := F5.cs; omega) (by have := F5.cs; omega)) ?_
  rintro _ h6 (⟨hb, _⟩ | ⟨_, k6, c6, e, mm, ca, rfl, C6, st6, S6, HF6, hv6, hst6, hcs6, hlg6, E6⟩)
  · rw [hv5'] at hb; exact absurd hb (by decide)
  rw [hN] at hcs6 hlg6 E6
  have F6 : Cor h h6 cb k6 c6 2 100 ([] ++ [L1] ++ [L2]) := F5.next C6 st6 S6 HF6 hv6 (by have := F5.cs; omega)
  have hv6' := F6.hv
  cases E6 with
  | none a1 a2 a3 a4 a5 a6 => exact (a6 _ pos_mdl pos fun x hx => (nomatch a3 x hx)).elim
  | steps a1 a2 =>
    have : (c6.st : Int) = 100 := a1
    omega
  | @model M mc bs a1 a2 a3 a4 a5 =>
    rw [hv5'] at a1 ⊢
    have hb1 : bs[1]? = some true := by
      obtain ⟨s1, s2⟩ := hK a4
      have h2 : MB bs 2 := by
        obtain ⟨x, hx, hMx⟩ := s1
        rcases (m1 x).1 hx with rfl | rfl
        · obtain ⟨y, hy, hMy⟩ := s2
          rcases (m2 y).1 hy with rfl | rfl
          · exact absurd hMx (((MB_mdl bs) 1 (by omega)).1 hMy)
          · exact hMy
        · exact hMx
      unfold MB at h2
      rw [if_pos ⟨by decide, by rw [a1]; decide⟩] at h2
      unfold truB at h2
      rw [if_neg (by decide)] at h2
      have : bs[1]? = some bs[1] := List.getElem?_eq_getElem (by omega)
      rw [show (2 : Int).natAbs - 1 = 1 from rfl, this] at h2
      simp only at h2
      rw [this]
      cases hb : bs[1] with
      | true => rfl
      | false => rw [hb] at h2; simp at h2
    have z6 := F6.fr.size
    simp -implicitDefEqProofs (disch := omega) [go_sem, ext4]
    refine build1 rfl rfl ?_
    have f7 : Fr (fun _ => False) h6 (h6.push (.cells #[.int .i64 (-2)] 3)) := (Fr.refl _ _).push
    have F7 := F6.fr0 f7
    have hB7 : ∀ y, blk (some (⟨h6.size, 0, none⟩ : Addr)) y → h6.size ≤ y := fun y ⟨_, h, e⟩ => by cases h; exact Nat.le_of_eq e
    have R7 := (SlAt.new (h := h6) (vs := ints [-2]) (e := 3)).row
    have hN7 : needN c6.s.vars (scr0 100).res.length = 12 := by rw [hv6']; rfl
    simp -implicitDefEqProofs (disch := omega) [go_sem]
    refine useC (solve_ok (sc := scr0 100) (a := scr0A) (n := 1) (ac := 1) (am := [-2]) F7.C F7.S F7.HF (scr0M (by omega)) scr0K R7 (F6.fresh hB7) rfl (by omega) (by simp) (by omega) (by have := F7.cs; omega) (by have := F7.cs; omega)) ?_
    rintro _ h8 (⟨hb, _⟩ | ⟨_, k8, c8, e, mm, ca, rfl, C8, st8, S8, HF8, hv8, hst8, hcs8, hlg8, E8⟩)
    · rw [hv6'] at hb; exact absurd hb (by decide)
    rw [hN7] at hcs8 hlg8 E8
    have F8 : Cor h h8 cb k8 c8 2 200 ([] ++ [L1] ++ [L2]) := F7.next C8 st8 S8 HF8 hv8 (by have := F7.cs; omega)
    cases E8 with
    | @model _ _ bs' b1 b2 b3 b4 b5 =>
      exfalso
      obtain ⟨s1, s2⟩ := hK b4
      have h2 : MB bs' 2 := by
        obtain ⟨x, hx, hMx⟩ := s1
        rcases (m1 x).1 hx with rfl | rfl
        · obtain ⟨y, hy, hMy⟩ := s2
          rcases (m2 y).1 hy with rfl | rfl
          · exact absurd hMx (((MB_mdl bs') 1 (by omega)).1 hMy)
          · exact hMy
        · exact hMx
      exact ((MB_mdl bs' 2 (by omega)).1 (b5 (-2) (by simp))) h2
    | steps a1 a2 =>
      have : (c8.st : Int) = 100 := a1
      omega
    | @none CA cd cl b1 b2 b3 b4 b5 b6 =>
      have hcl : cl = [-2] := by
        have hne : cl ≠ [] := fun e => by subst e; exact b6 _ pos_mdl pos fun x hx => (nomatch hx)
        match cl, hne, b3, b4 with
        | [x], _, b3, _ => have := b3 x (by simp); simp at this; rw [this]
        | x :: y :: r, _, b3, b4 =>
          have hx := b3 x (by simp)
          have hy := b3 y (by simp)
          simp at hx hy
          have := (List.pairwise_cons.1 b4).1 y (by simp)
          unfold lexLt at this
          omega
      subst hcl
      have a2' := (a2.fr0 f7).fr st8.fr fun y hy h => h (a3 y hy).2
      obtain ⟨bk, off, rfl, hc⟩ := a2'.get (by rw [bools_len]; omega)
      have c1 := hc 1 _ (bools_at hb1)
      simp -implicitDefEqProofs (disch := omega) [go_sem, ext4, c1]
      refine build1 rfl rfl ?_
      have f9 : Fr (fun _ => False) h8 (h8.push (.cells #[.int .i64 (-2)] 3)) := (Fr.refl _ _).push
      simp -implicitDefEqProofs (disch := omega) [go_sem]
      refine useC (same12_ok (a := [-2]) (b := [-2]) (b1.row.fr0 f9) (SlAt.new (h := h8) (vs := ints [-2]) (e := 3)).row rfl rfl (by decide) (by decide)) ?_
      rintro _ h10 ⟨rfl, rfl⟩
      simp -implicitDefEqProofs (disch := omega) [go_sem]
      exact F8.fr.trans f9
end Xe

/- CdclTells, walked. -/
namespace Xe
open Go Tp Go.Proofs Hq
set_option maxRecDepth 16000
set_option maxHeartbeats 4000000

section
variable {h : Heap}

end
end Xe

/- CdclEnds, walked. -/
namespace Xe
open Go Tp Go.Proofs Hq
set_option maxRecDepth 16000
set_option maxHeartbeats 4000000

/-- a script with other steps -/
def scB (sc : Scr) (st : Nat) : Scr := { sc with steps := st }
theorem needN_bd {v R D : Nat} : needN v R ≤ (v + 1) * (R + D + 1) * 3 ^ v := by
  have h1 : needN v R = (R + 1) * ((v + 1) * 2 ^ v) := by
    unfold needN
    obtain ⟨P, hP⟩ : ∃ P, P = (v + 1) * 2 ^ v := ⟨_, rfl⟩
    rw [← hP, Nat.add_mul, Nat.one_mul, Nat.add_comm]
  have h2 : (v + 1) * (R + D + 1) * 3 ^ v = (R + D + 1) * ((v + 1) * 3 ^ v) := by rw [Nat.mul_comm (v + 1), Nat.mul_assoc]
  rw [h1, h2]
  exact Nat.mul_le_mul (by omega) (Nat.mul_le_mul (Nat.le_refl _) (Nat.pow_le_pow_left (by omega) _))
theorem bd_le {v R D : Nat} (hv : v ≤ 7) (hR : R ≤ 20) (hD : D ≤ 20) : (v + 1) * (R + D + 1) * 3 ^ v ≤ 717336 := by
  have h1 : (v + 1) * (R + D + 1) ≤ 8 * 41 := Nat.mul_le_mul (by omega) (by omega)
  have h2 : 3 ^ v ≤ 3 ^ 7 := Nat.pow_le_pow_right (by omega) hv
  exact Nat.mul_le_mul h1 h2
theorem scB_M {h : Heap} {sc : Scr} {a : ScrA} (M : ScrM h sc a) {st : Nat} (hs : st ≤ 717336) : ScrM h (scB sc st) a :=
  ⟨M.P, M.G, M.R, M.D, M.lP, M.lG, M.lR, M.lD, M.rP, M.rR, M.rD, by show -9223372036854775808 ≤ (st : Int) ∧ (st : Int) ≤ 9223372036854775807; omega⟩
theorem scB_good {sc : Scr} {st : Nat} (hg : goodScr sc = true) (hs : st ≤ 717336) : goodScr (scB sc st) = true := by
  have Z := goodScr_S hg
  have : goodScr (scB sc st) = ((rightL sc.picks && rightL sc.res && rightL sc.red && decide (sc.signs.length ≤ 1000)) && decide ((0 : Int) ≤ st) && decide ((st : Int) ≤ 1099511627776)) := rfl
  rw [this]
  have e : (rightL sc.picks && rightL sc.res && rightL sc.red && decide (sc.signs.length ≤ 1000)) = true := by
    unfold goodScr at hg
    rw [Bool.and_eq_true, Bool.and_eq_true] at hg
    exact hg.1.1
  rw [e, decide_eq_true (by omega), decide_eq_true (by omega)]
  rfl

structure EnJ (h1 : Heap) (A : Option Addr) (m c vars : Nat) (b1 b2 : Nat) (B : Option Addr) (q d : Nat) (ρ : Env) (h : Heap) : Prop where
  r0 : ρ 0 = .int .i64 vars
  r1 : ρ 1 = .slice A m c
  r4 : ρ 4 = .slice B q d
  r7 : ρ 7 = .pointer (some ⟨b1, 0, none⟩)
  r8 : ρ 8 = .pointer (some ⟨b2, 0, none⟩)
  he : h = h1
  ex : ∃ i : Nat, ρ 12 = .int .i64 i ∧ i ≤ vars ∧ ρ 11 = .int .i64 (3 ^ i : Nat)
section
variable {h : Heap}
theorem ends21_walk (a0 : Int) (w0 : -9223372036854775808 ≤ a0 ∧ a0 ≤ 9223372036854775807) (A : Option Addr) (m c : Nat) (gs : Nat → List Int) (R : Args2 h A m gs) (sc : Scr) (a : ScrA) (Ms : ScrM h sc a) (sc2 : Scr) (a2 : ScrA) (Ms2 : ScrM h sc2 a2) (B : Option Addr) (d : Nat) (am : List Int) (hqs : am.length < 2 ^ 63) (RA : RowAt h B (ints am)) (hr : ∀ x ∈ am, -9223372036854775808 ≤ x ∧ x ≤ 9223372036854775807) :
    CallsH Tryz.prog 6 [.int .i64 a0, .slice A m c, .agg (scrV sc a).toArray, .agg (scrV sc2 a2).toArray, .slice B am.length d] h fun r h' => r = .bool true ∧ Fr (fun _ => False) h h' := by
  refine calls_of 141 [.tmp 10] Go.Proofs.Tryz.func6 rfl rfl rfl (by kernel_rfl) (Nat.le_of_ble_eq_true rfl) ?_
  unfold scrV
  simp -implicitDefEqProofs (disch := omega) [go_sem]
  obtain ⟨h1, e1⟩ : ∃ h1, h1 = h.push (.cells #[.slice a.P sc.picks.length a.pc, .slice a.G sc.signs.length a.gc, .slice a.R sc.res.length a.rc, .slice a.D sc.red.length a.dc, .int .i64 sc.steps] 56) := ⟨_, rfl⟩
  have f1 : Fr (fun _ => False) h h1 := by rw [e1]; exact (Fr.refl _ _).push
  have V1 : ListB h1 h.size (scrV sc a) := by rw [e1]; exact ListB.new
  have s1 : h1.size = h.size + 1 := by rw [e1, push_size]
  rw [← e1]
  obtain ⟨h2, e2⟩ : ∃ h2, h2 = h1.push (.cells #[.slice a2.P sc2.picks.length a2.pc, .slice a2.G sc2.signs.length a2.gc, .slice a2.R sc2.res.length a2.rc, .slice a2.D sc2.red.length a2.dc, .int .i64 sc2.steps] 56) := ⟨_, rfl⟩
  have f2 : Fr (fun _ => False) h1 h2 := by rw [e2]; exact (Fr.refl _ _).push
  have W2 : ListB h2 h1.size (scrV sc2 a2) := by rw [e2]; exact ListB.new
  have V2 : ListB h2 h.size (scrV sc a) := V1.fr f2 fun h => h
  rw [← e2]
  have f02 := f1.trans f2
  refine useC awake21 ?_
  rintro _ h3 ⟨rfl, f3⟩
  have V3 := V2.fr f3 fun h => h
  have W3 := W2.fr f3 fun h => h
  have ld1 := load5 V3
  have ld2 := load5 W3
  have f03 := f02.trans f3
  simp -implicitDefEqProofs (disch := omega) [go_sem, ld1, ld2]
  refine useC (small21_ok (R.fr f03) (Ms.fr0 f03) hqs w0) ?_
  rintro _ h4 ⟨f4, b, rfl, hsm⟩
  have f04 := f03.trans f4
  have V4 := V3.fr f4 fun h => h
  have W4 := W3.fr f4 fun h => h
  clear ld1 ld2
  have ld1 := load5 V4
  have ld2 := load5 W4
  cases b with
  | false =>
    simp -implicitDefEqProofs (disch := omega) [go_sem]
    exact f04
  | true =>
    have Q := hsm rfl
    obtain ⟨q1, q2, q3, q4, q5, q6, q7, q8, q9⟩ := Q
    obtain ⟨vars, rfl⟩ : ∃ v : Nat, a0 = v := ⟨a0.toNat, by omega⟩
    have hv7 : vars ≤ 7 := by omega
    simp -implicitDefEqProofs (disch := omega) [go_sem, ld1, ld2]
    refine useC (small21_ok (R.fr f04) (Ms2.fr0 f04) hqs w0) ?_
    rintro _ h5 ⟨f5, b, rfl, hsm2⟩
    have f05 := f04.trans f5
    cases b with
    | false =>
      simp -implicitDefEqProofs (disch := omega) [go_sem]
      exact f05
    | true =>
      have Q2 := hsm2 rfl
      obtain ⟨_, _, _, _, p5, p6, p7, p8, _⟩ := Q2
      have V5 := V4.fr f5 fun h => h
      have W5 := W4.fr f5 fun h => h
      clear ld1 ld2
      have ld1 := load5 V5
      have ld2 := load5 W5
      simp -implicitDefEqProofs (disch := omega) [go_sem, ld1, ld2]
      refine useC (rgood20_ok (Ms.fr0 f05)) ?_
      rintro _ h6 ⟨rfl, f6⟩
      have f06 := f05.trans f6
      have V6 := V5.fr f6 fun h => h
      have W6 := W5.fr f6 fun h => h
      clear ld1 ld2
      have ld1 := load5 V6
      have ld2 := load5 W6
      cases hg : goodScr sc with
      | false =>
        simp -implicitDefEqProofs (disch := omega) [go_sem]
        exact f06
      | true =>
        simp -implicitDefEqProofs (disch := omega) [go_sem, ld1, ld2]
        refine useC (rgood20_ok (Ms2.fr0 f06)) ?_
        rintro _ h7 ⟨rfl, f7⟩
        have f07 := f06.trans f7
        cases hg2 : goodScr sc2 with
        | false =>
          simp -implicitDefEqProofs (disch := omega) [go_sem]
          exact f07
        | true =>
          simp -implicitDefEqProofs (disch := omega) [go_sem]
          refine useC (rgood12_ok (RA.fr0 f07) rfl (by omega) (vars := vars) (by omega) hr) ?_
          rintro _ h8 ⟨rfl, rfl⟩
          cases hga : goodC vars am with
          | false =>
            simp -implicitDefEqProofs (disch := omega) [go_sem]
            exact f07
          | true =>
            have V7 := V6.fr f7 fun h => h
            have W7 := W6.fr f7 fun h => h
            obtain ⟨N, hN⟩ : ∃ N, N = (vars + 1) * (sc.res.length + sc.red.length + 1) := ⟨_, rfl⟩
            obtain ⟨N2, hN2⟩ : ∃ N2, N2 = (vars + 1) * (sc2.res.length + sc2.red.length + 1) := ⟨_, rfl⟩
            have hT : N * 3 ^ vars ≤ 717336 := by rw [hN]; exact bd_le hv7 q7 q8
            have hT2 : N2 * 3 ^ vars ≤ 717336 := by rw [hN2]; exact bd_le hv7 p7 p8
            have hnT : needN vars sc.res.length ≤ N * 3 ^ vars := by rw [hN]; exact needN_bd
            have hnT2 : needN vars sc2.res.length ≤ N2 * 3 ^ vars := by rw [hN2]; exact needN_bd
            simp -implicitDefEqProofs (disch := omega) [go_sem]
            refine loopK (EnJ h8 A m c vars h.size h1.size B am.length d) (fun ρ _ => vars - (intOf (ρ 12)).toNat) (by kernel_rfl) ?_ ?_
            · exact ⟨rfl, rfl, rfl, rfl, rfl, rfl, 0, rfl, by omega, rfl⟩
            · rintro ρ h9 ⟨r0, r1, r4, r7, r8, rfl, i, r12, hi, r11⟩
              have hpw : 3 ^ i ≤ 2187 := Nat.pow_le_pow_right (n := 3) (by omega) (show i ≤ 7 by omega)
              by_cases hin : i < vars
              · have e3 : 3 ^ (i + 1) = 3 ^ i * 3 := Nat.pow_succ 3 i
                obtain ⟨P, hP⟩ : ∃ P, P = 3 ^ i := ⟨_, rfl⟩
                rw [← hP] at r11 hpw e3
                simp -implicitDefEqProofs (disch := omega) [go_sem, r0, r1, r4, r7, r8, r12, r11]
                exact ⟨⟨r0, r1, r4, r7, r8, rfl, i + 1, rfl, by omega, by rw [e3]; push_cast; rfl⟩, by omega⟩
              · obtain rfl : i = vars := by omega
                have c2 := V7.at' 2 _ rfl
                have c3 := V7.at' 3 _ rfl
                have c4 := V7.at' 4 _ rfl
                have fz := V7.fz
                have ld1 := load5 V7
                have hTe : 3 ^ i * (i + 1) * (sc.res.length + sc.red.length + 1) = N * 3 ^ i := by rw [hN, Nat.mul_comm (3 ^ i), Nat.mul_assoc, Nat.mul_comm (3 ^ i), ← Nat.mul_assoc]
                obtain ⟨P, hP⟩ : ∃ P, P = 3 ^ i := ⟨_, rfl⟩
                rw [← hP] at r11 hpw hTe
                have hQ : P * (i + 1) ≤ 2187 * 8 := Nat.mul_le_mul hpw (by omega)
                obtain ⟨Q, hQe⟩ : ∃ Q, Q = P * (i + 1) := ⟨_, rfl⟩
                rw [← hQe] at hQ hTe
                have m1 : (P : Int) * ((i : Int) + 1) = (Q : Int) := by rw [hQe]; push_cast; rfl
                obtain ⟨T, hTn⟩ : ∃ T, T = N * P := ⟨_, rfl⟩
                have m2 : (Q : Int) * ((sc.res.length : Int) + (sc.red.length : Int) + 1) = (T : Int) := by rw [hTn, ← hTe]; push_cast; rfl
                simp -implicitDefEqProofs (disch := omega) [go_sem, r0, r1, r4, r7, r8, r12, r11, m1, m2, c2, c3, ld1]
                have hlt : N * 3 ^ i < 2 ^ 40 := by omega
                have hlt2 : N2 * 3 ^ i < 2 ^ 40 := by omega
                have hTi : ((N * 3 ^ i : Nat) : Int) = (T : Int) := by rw [hTn, hP]
                rw [← hP, ← hTn] at hT hnT
                obtain ⟨T2, hT2e⟩ : ∃ T2, T2 = N2 * 3 ^ i := ⟨_, rfl⟩
                rw [← hT2e] at hT2 hnT2
                refine useC (bound_ok (sc := sc) (a := a) (vars := i) (N := N) (by omega) (by omega) (by omega) hN hlt) ?_
                rintro _ h10 ⟨rfl, f10⟩
                rw [hTi]
                have V10 := V7.fr f10 fun h => h
                have W10 := W7.fr f10 fun h => h
                have ld10 := load5 V10
                simp -implicitDefEqProofs (disch := omega) [go_sem, r0, r1, r4, r7, r8, ld10]
                refine useC (bound_ok (sc := sc) (a := a) (vars := i) (N := N) (by omega) (by omega) (by omega) hN hlt) ?_
                rintro _ h11 ⟨rfl, f11⟩
                rw [hTi]
                have V11 := V10.fr f11 fun h => h
                have W11 := W10.fr f11 fun h => h
                have c4 := V11.at' 4 _ rfl
                have fz := V11.fz
                obtain ⟨h12, e12⟩ : ∃ h12, h12 = hset h11 ⟨h.size, 4, none⟩ (.int .i64 T) := ⟨_, rfl⟩
                have V12 : ListB h12 h.size (scrV (scB sc T) a) := by rw [e12]; exact V11.set (i := 4) (.int .i64 T) (Nat.lt_succ_self 4)
                have W12 : ListB h12 h1.size (scrV sc2 a2) := by rw [e12]; exact W11.oth (by omega)
                have f012 : Fr (fun _ => False) h h12 := by rw [e12]; exact ((f07.trans f10).trans f11).new (Nat.le_refl _)
                have ld12 := load5 W12
                simp -implicitDefEqProofs (disch := omega) [go_sem, r0, r1, r4, r7, r8, c4, fz]
                rw [← e12]
                simp -implicitDefEqProofs (disch := omega) [go_sem, r0, r1, r4, r7, r8, ld12]
                refine useC (bound_ok (sc := sc2) (a := a2) (vars := i) (N := N2) (by omega) (by omega) (by omega) hN2 hlt2) ?_
                rintro _ h13 ⟨rfl, f13⟩
                rw [← hT2e]
                have V13 := V12.fr f13 fun h => h
                have W13 := W12.fr f13 fun h => h
                have d4 := W13.at' 4 _ rfl
                have fz2 := W13.fz
                obtain ⟨h14, e14⟩ : ∃ h14, h14 = hset h13 ⟨h1.size, 4, none⟩ (.int .i64 T2) := ⟨_, rfl⟩
                have V14 : ListB h14 h.size (scrV (scB sc T) a) := by rw [e14]; exact V13.oth (by omega)
                have W14 : ListB h14 h1.size (scrV (scB sc2 T2) a2) := by rw [e14]; exact W13.set (i := 4) (.int .i64 T2) (Nat.lt_succ_self 4)
                have f014 : Fr (fun _ => False) h h14 := by rw [e14]; exact (f012.trans f13).new (show h.size ≤ h1.size by omega)
                simp -implicitDefEqProofs (disch := omega) [go_sem, r0, r1, r4, r7, r8, d4, fz2]
                rw [← e14]
                refine useC (filled21_ok (R.fr f014) (Fr.refl _ _) q3 (by omega) q9) ?_
                rintro _ h15 ⟨cb, k, cc, X, xc, Cs, vs, K, rfl, F, eln, elg, KO⟩
                simp -implicitDefEqProofs (disch := omega) [go_sem, r0, r1, r4, r7, r8]
                have f015 := f014.trans F.fr
                refine useC (filled21_ok (R.fr f015) (Fr.refl _ _) q3 (by omega) q9) ?_
                rintro _ h16 ⟨cb2, k2, cc2, X2, xc2, Cs2, vs2, K2, rfl, F2, eln2, elg2, KO2⟩
                obtain rfl := KO.uniq KO2
                have f016 := f015.trans F2.fr
                have V16 := (V14.fr F.fr fun h => h).fr F2.fr fun h => h
                have W16 := (W14.fr F.fr fun h => h).fr F2.fr fun h => h
                have ld16 := load5 V16
                simp -implicitDefEqProofs (disch := omega) [go_sem, r0, r1, r4, r7, r8, ld16]
                have C16 := F.C.fr0 F2.fr
                have Ms16 := scB_M (Ms.fr0 f016) hT
                have Ms14 := scB_M (Ms.fr0 f014) hT
                have Ks16 : ScrK k cb (scB sc T) a := ⟨F.not Ms14.P, F.not Ms14.G, F.not Ms14.R, F.not Ms14.D⟩
                have hcv := F.hv
                have hcs := F.cs
                have hln0 : cc.ln.length = 0 := by rw [eln]; rfl
                have hlg0 : cc.lg.length = 0 := by rw [elg]; rfl
                have hnd : needN i sc.res.length ≤ 717336 := by omega
                refine useC (solve_ok (sc := scB sc T) (a := a) C16 F.S F.HF Ms16 Ks16 (RA.fr0 f016) (F.not (RA.fr0 f014)) rfl (by omega) hr (by omega) (by rw [hcv]; show _ + needN i sc.res.length < _; omega) (by rw [hcv]; show _ + 2 * needN i sc.res.length < _; omega)) ?_
                rintro _ h17 hsol
                rw [SolR, hcv, scB_good hg hT, hga] at hsol
                rcases hsol with ⟨hb, _, _⟩ | ⟨_, k7, c7, e, mm, ca, rfl, C7, st7, S7, HF7, hv7', hst7, hcs7, hlg7, E7⟩
                · cases hb
                have hk16 : ∀ x, k x ≠ none → k2 x = none := fun x hx => by
                  cases hc : k2 x with
                  | none => rfl
                  | some t =>
                    have h1 := F2.low x t hc
                    cases hc' : k x with
                    | none => exact absurd hc' hx
                    | some t' => have := F.C.low x t' hc'; omega
                have C17 := F2.C.frN st7.fr hk16
                have hkn : ∀ y, y < h14.size → k y = none := fun y hy => by
                  cases hc : k y with
                  | none => rfl
                  | some t => have := F.low y t hc; omega
                have z14 : h1.size < h14.size := W14.lt
                have W17 := W16.fr st7.fr fun hn => hn (hkn _ z14)
                have f017 : Fr (fun _ => False) h h17 := f016.trans' st7.fr fun y hy hn => hn (hkn _ (by have := f014.size; omega))
                have ld17 := load5 W17
                simp -implicitDefEqProofs (disch := omega) [go_sem, ext4, r0, r1, r4, r7, r8, ld17]
                have Ms217 := scB_M (Ms2.fr0 f017) hT2
                have Ms215 := scB_M (Ms2.fr0 f015) hT2
                have Ks217 : ScrK k2 cb2 (scB sc2 T2) a2 := ⟨F2.not Ms215.P, F2.not Ms215.G, F2.not Ms215.R, F2.not Ms215.D⟩
                have hcv2 := F2.hv
                have hcs2 := F2.cs
                have hln2 : cc2.ln.length = 0 := by rw [eln2]; rfl
                have hlg2 : cc2.lg.length = 0 := by rw [elg2]; rfl
                have hnd2 : needN i sc2.res.length ≤ 717336 := by omega
                refine useC (solve_ok (sc := scB sc2 T2) (a := a2) C17 F2.S F2.HF Ms217 Ks217 (RA.fr0 f017) (F2.not (RA.fr0 f015)) rfl (by omega) hr (by omega) (by rw [hcv2]; show _ + needN i sc2.res.length < _; omega) (by rw [hcv2]; show _ + 2 * needN i sc2.res.length < _; omega)) ?_
                rintro _ h18 hsol2
                rw [SolR, hcv2, scB_good hg2 hT2, hga] at hsol2
                rcases hsol2 with ⟨hb, _, _⟩ | ⟨_, k8, c8, ee, mm2, ca2, rfl, C8, st8, S8, HF8, hv8', hst8, hcs8, hlg8, E8⟩
                · cases hb
                have f018 : Fr (fun _ => False) h h18 := f017.trans' st8.fr fun y hy hn => by
                  cases hc : k2 y with
                  | none => exact hn hc
                  | some t => have := F2.low y t hc; have := f015.size; omega
                have no1 : (c7.st : Int) = (scB sc T).steps → c7.st < needN i (scB sc T).res.length → False := fun h1 h2 => by
                  have h1' : (c7.st : Int) = (T : Int) := h1
                  have h2' : c7.st < needN i sc.res.length := h2
                  omega
                have no2 : (c8.st : Int) = (scB sc2 T2).steps → c8.st < needN i (scB sc2 T2).res.length → False := fun h1 h2 => by
                  have h1' : (c8.st : Int) = (T2 : Int) := h1
                  have h2' : c8.st < needN i sc2.res.length := h2
                  omega
                cases E7 with
                | @model M mc bs a1 a2 a3 a4 a5 =>
                  cases E8 with
                  | @model M' mc' bs' a1' a2' a3' a4' a5' =>
                    simp -implicitDefEqProofs (disch := omega) [go_sem, ext4, r0, r1, r4, r7, r8]
                    exact f018
                  | @none CA cd cl a1' a2' a3' a4' a5' a6' => exact (a6' (MB bs) (MB_mdl bs) a4 fun x hx => a5 x (a3' x hx)).elim
                  | steps a1' a2' => exact (no2 a1' a2').elim
                | @none CA cd cl a1 a2 a3 a4 a5 a6 =>
                  cases E8 with
                  | @model M' mc' bs' a1' a2' a3' a4' a5' => exact (a6 (MB bs') (MB_mdl bs') a4' fun x hx => a5' x (a3 x hx)).elim
                  | @none CA' cd' cl' a1' a2' a3' a4' a5' a6' =>
                    simp -implicitDefEqProofs (disch := omega) [go_sem, ext4, r0, r1, r4, r7, r8]
                    exact f018
                  | steps a1' a2' => exact (no2 a1' a2').elim
                | steps a1 a2 => exact (no1 a1 a2).elim
end
end Xe
