/- The walks through package trail. -/
import Derived.Test.YtkghjecglmmloaaT16a
namespace Xe
open Go Tp Go.Proofs
set_option maxRecDepth 16000

theorem LV_le {l : List St} {m : Nat} (h : ∀ s ∈ l, s.lv ≤ m) (v : Nat) : -1 ≤ LV l v ∧ LV l v ≤ m := by
  unfold LV
  cases hf : find l v with
  | none => simp only; omega
  | some k =>
    obtain ⟨s, hs, _, _⟩ := find_some hf
    have := h s (List.mem_of_getElem? hs)
    simp only [hs]; omega

/-- a literal's variable; 0: it is none -/
def varI (vars : Nat) (x : Int) : Nat := if 1 ≤ x.natAbs ∧ x.natAbs ≤ vars then x.natAbs else 0
/-- what pushing tells -/
def pushE (vars : Nat) (l : List St) (x r : Int) : Nat := if varI vars x = 0 ∨ r < -1 then 1 else if (find l x.natAbs).isSome then 6 else 0
/-- the truth of a literal -/
def trI (l : List St) (x : Int) : Int := if x ∈ lits l then 1 else if -x ∈ lits l then -1 else 0

structure TrailM (h : Heap) (b rb sb vars cl cr cs : Nat) (A : Option Addr) (l : List St) (level : Int) : Prop where
  B : ListB h b [.slice A l.length cl, .slice (some ⟨rb, 0, none⟩) (vars + 1) cr, .slice (some ⟨sb, 0, none⟩) (vars + 1) cs, .int .i64 level]
  S : SlAt h A cl (ints (lits l))
  R : FnB h rb (vars + 1) fun v => .int .i64 (RS l v)
  P : FnB h sb (vars + 1) fun v => .complex .f64 (Fx.enc (LV l v)) (Fx.enc (PL l v))
  br : b ≠ rb
  bs : b ≠ sb
  rs : rb ≠ sb
  sep : ∀ x, blk A x → x ≠ b ∧ x ≠ rb ∧ x ≠ sb

def tO (b rb sb : Nat) (A : Option Addr) (x : Nat) : Prop := x = b ∨ x = rb ∨ x = sb ∨ blk A x

section
variable {h : Heap} {b rb sb vars cl cr cs : Nat} {A : Option Addr} {l : List St} {level : Int}

theorem TrailM.fr (M : TrailM h b rb sb vars cl cr cs A l level) {S : Nat → Prop} {h' : Heap} (f : Fr S h h') (hs : ∀ x, tO b rb sb A x → ¬ S x) : TrailM h' b rb sb vars cl cr cs A l level where
  B := M.B.fr f (hs _ (.inl rfl))
  S := M.S.fr f fun x hx => hs _ (.inr (.inr (.inr hx)))
  R := M.R.fr f (hs _ (.inr (.inl rfl)))
  P := M.P.fr f (hs _ (.inr (.inr (.inl rfl))))
  br := M.br
  bs := M.bs
  rs := M.rs
  sep := M.sep
theorem TrailM.low (M : TrailM h b rb sb vars cl cr cs A l level) {x : Nat} (hx : tO b rb sb A x) : x < h.size := by
  rcases hx with rfl | rfl | rfl | hx
  · exact M.B.lt
  · exact M.R.lt
  · exact M.P.lt
  · exact M.S.blk_lt hx
/-- the level, set -/
theorem TrailM.setLv (M : TrailM h b rb sb vars cl cr cs A l level) (n : Int) : TrailM (hset h ⟨b, 3, none⟩ (.int .i64 n)) b rb sb vars cl cr cs A l n where
  B := M.B.set (i := 3) (.int .i64 n) (by simp)
  S := M.S.keep (fun x hx => hset_other (M.sep x hx).1) (by rw [hset_size]; exact Nat.le_refl _)
  R := M.R.oth (Ne.symm M.br)
  P := M.P.oth (Ne.symm M.bs)
  br := M.br
  bs := M.bs
  rs := M.rs
  sep := M.sep

theorem vars_m (M : TrailM h b rb sb vars cl cr cs A l level) (hv : vars ≤ 16777216) : CallsH Try.prog 83 [.pointer (some ⟨b, 0, none⟩)] h fun r h' => r = .int .i64 vars ∧ h' = h := by
  have s2 := M.B.at' 2 _ rfl
  refine calls_of 9 [.tmp 2] Go.Proofs.Try.func83 rfl rfl rfl (by kernel_rfl) (Nat.le_of_ble_eq_true rfl) ?_
  simp -implicitDefEqProofs (disch := omega) [go_sem, s2]

theorem variable_m (M : TrailM h b rb sb vars cl cr cs A l level) (hv : vars ≤ 16777216) {x : Int} (h0 : -9223372036854775808 ≤ x) (h1 : x ≤ 9223372036854775807) :
    CallsH Try.prog 80 [.pointer (some ⟨b, 0, none⟩), .int .i64 x] h fun r h' => r = .int .i64 (varI vars x) ∧ h' = h := by
  refine calls_of 19 [.tmp 4] Go.Proofs.Try.func80 rfl rfl rfl (by kernel_rfl) (Nat.le_of_ble_eq_true rfl) ?_
  by_cases hm : x = -9223372036854775808
  · subst hm
    have e : IntKind.i64.wrap 9223372036854775808 = -9223372036854775808 := by decide
    have ev : varI vars (-9223372036854775808) = 0 := if_neg (by simp; omega)
    simp -implicitDefEqProofs (disch := omega) [go_sem, e, ev]
  · by_cases hz : 1 ≤ x.natAbs
    · simp -implicitDefEqProofs (disch := omega) [go_sem]
      refine useC (vars_m M hv) ?_
      rintro _ h' ⟨rfl, rfl⟩
      by_cases hv2 : x.natAbs ≤ vars
      · have ev : varI vars x = x.natAbs := if_pos ⟨hz, hv2⟩
        simp -implicitDefEqProofs (disch := omega) [go_sem, ev]
        omega
      · have ev : varI vars x = 0 := if_neg (by omega)
        simp -implicitDefEqProofs (disch := omega) [go_sem, ev]
    · have ev : varI vars x = 0 := if_neg (by omega)
      simp -implicitDefEqProofs (disch := omega) [go_sem, ev]

/-- a step more, in memory -/
theorem push_m (M : TrailM h b rb sb vars cl cr cs A l level) (G : Good vars l) (hl : ∀ s ∈ l, s.lv ≤ vars) (hv : vars ≤ 16777216) {x r : Int} {n : Nat} (hn : level = n) (hn2 : n ≤ vars + 1)
    (h0 : -9223372036854775808 ≤ x) (h1 : x ≤ 9223372036854775807) :
    CallsH Try.prog 31 [.pointer (some ⟨b, 0, none⟩), .int .i64 x, .int .i64 r] h fun e h' => e = .int .i64 (pushE vars l x r : Nat) ∧ (pushE vars l x r ≠ 0 → h' = h) ∧
      (pushE vars l x r = 0 → varI vars x = x.natAbs ∧ 1 ≤ x.natAbs ∧ x.natAbs ≤ vars ∧ find l x.natAbs = none ∧
        ∃ A' cl', TrailM h' b rb sb vars cl' cr cs A' (l ++ [⟨x, r, n⟩]) n ∧ Fr (tO b rb sb A) h h' ∧ ∀ y, blk A' y → blk A y ∨ h.size ≤ y) := by
  subst hn
  have s0 := M.B.at' 0 _ rfl
  have s1 := M.B.at' 1 _ rfl
  have s2 := M.B.at' 2 _ rfl
  have s3 := M.B.at' 3 _ rfl
  have hln := G.len
  refine calls_of 62 [.tmp 6] Go.Proofs.Try.func31 rfl rfl rfl (by kernel_rfl) (Nat.le_of_ble_eq_true rfl) ?_
  simp -implicitDefEqProofs (disch := omega) [go_sem]
  refine useC (variable_m M hv h0 h1) ?_
  rintro _ h' ⟨rfl, rfl⟩
  by_cases hv0 : varI vars x = 0
  · have ep : pushE vars l x r = 1 := if_pos (.inl hv0)
    simp -implicitDefEqProofs (disch := omega) [go_sem, hv0, ep]
  have hv1 : varI vars x = x.natAbs ∧ 1 ≤ x.natAbs ∧ x.natAbs ≤ vars := by
    unfold varI at hv0 ⊢
    split
    · rename_i h; exact ⟨rfl, h⟩
    · rename_i h; rw [if_neg h] at hv0; exact absurd rfl hv0
  obtain ⟨ev, hv2, hv3⟩ := hv1
  obtain ⟨v, hvv⟩ : ∃ v, v = x.natAbs := ⟨_, rfl⟩
  rw [← hvv] at ev hv2 hv3 ⊢
  rw [ev]
  by_cases hr : r < -1
  · have ep : pushE vars l x r = 1 := if_pos (.inr hr)
    simp -implicitDefEqProofs (disch := omega) [go_sem, ep]
  have c2 := M.P.at' v (by omega)
  have b1 := LV_le hl v
  have b2 := PL_lt l v
  cases hf : find l v with
  | some k =>
    have ep : pushE vars l x r = 6 := by unfold pushE; rw [if_neg (by omega), ← hvv, hf]; rfl
    have hp : ¬ PL l v = -1 := by unfold PL; rw [hf]; simp only; omega
    simp -implicitDefEqProofs (disch := omega) [go_sem, s2, c2, hp, ep]
  | none =>
    have ep : pushE vars l x r = 0 := by unfold pushE; rw [if_neg (by omega), ← hvv, hf]; rfl
    obtain ⟨hl1, hp1, hr1⟩ := none_of hf
    have c1 := M.R.at' v (by omega)
    have fR := M.R.fz
    have fP := M.P.fz
    have fB := M.B.fz
    have n1 := M.br
    have n2 := M.bs
    have n3 := M.rs
    simp -implicitDefEqProofs (disch := omega) [go_sem, s1, s2, c1, c2, hl1, hp1, fR, n1, n2, n3, Ne.symm n1, Ne.symm n2, Ne.symm n3]
    refine drawK [(0, 0), (1, 0), (2, 0), (3, 1), (4, 0), (5, 0), (6, 0), (7, 0), (8, 1), (9, 0), (10, 0), (11, 0), (12, 0), (13, 1), (14, 0), (15, 0), (16, 0), (17, 0), (18, 3)] mixed (by kernel_rfl) ?_
    simp -implicitDefEqProofs (disch := omega) [go_sem, s0, s1, s2, s3, c1, c2, hl1, hp1, fR, fP, fB, n1, n2, n3, Ne.symm n1, Ne.symm n2, Ne.symm n3]
    refine build1 rfl rfl ?_
    simp -implicitDefEqProofs (disch := omega) [go_sem]
    obtain ⟨h2, e2⟩ : ∃ h2, h2 = hset (hset h' ⟨rb, v, none⟩ (.int .i64 r)) ⟨sb, v, none⟩ (.complex .f64 (Fx.enc n) (Fx.enc l.length)) := ⟨_, rfl⟩
    have S2 : SlAt h2 A (cl * 1) (ints (lits l)) := by
      rw [e2, Nat.mul_one]
      exact M.S.keep (fun x hx => (hset_other (M.sep x hx).2.2).trans (hset_other (M.sep x hx).2.1)) (by rw [hset_size, hset_size]; exact Nat.le_refl _)
    have R2 : FnB h2 rb (vars + 1) fun v => .int .i64 (RS (l ++ [⟨x, r, n⟩]) v) := by
      rw [e2]
      refine ((M.R.set (.int .i64 r) (i := v) (by omega)).oth n3).cong fun i hi => ?_
      rw [RS_push (by simp only; rw [← hvv]; exact hf), ← hvv]
      split <;> rfl
    have P2 : FnB h2 sb (vars + 1) fun v => .complex .f64 (Fx.enc (LV (l ++ [⟨x, r, n⟩]) v)) (Fx.enc (PL (l ++ [⟨x, r, n⟩]) v)) := by
      rw [e2]
      refine ((M.P.oth (Ne.symm n3)).set (.complex .f64 (Fx.enc n) (Fx.enc l.length)) (i := v) (by omega)).cong fun i hi => ?_
      rw [LV_push (by simp only; rw [← hvv]; exact hf), PL_push (by simp only; rw [← hvv]; exact hf), ← hvv]
      split <;> rfl
    have B2 := (M.B.oth (v := .int .i64 r) (o := v) n1).oth (v := .complex .f64 (Fx.enc n) (Fx.enc l.length)) (o := v) n2
    rw [← e2] at B2
    have f2 : Fr (tO b rb sb A) h' h2 := by
      rw [e2]
      exact ((Fr.refl _ _).set (.inr (.inl rfl))).set (.inr (.inr (.inl rfl)))
    have f3 : Fr (fun _ => False) h2 (h2.push (.cells #[.int .i64 x] 3)) := (Fr.refl _ _).push
    have z2 : h2.size = h'.size := by rw [e2, hset_size, hset_size]
    have W2 := (SlAt.new (h := h2) (vs := [.int .i64 x]) (e := 3)).row
    rw [z2] at W2
    have S3 := S2.fr f3 (fun _ _ => id)
    have B3 := B2.push (X := .cells #[.int .i64 x] 3)
    have R3 := R2.push (X := .cells #[.int .i64 x] 3)
    have P3 := P2.push (X := .cells #[.int .i64 x] 3)
    rw [e2] at S3 W2
    refine appendN S3 (by rw [ints_len]; unfold lits; rw [List.length_map, Nat.mul_one]) W2 rfl (by omega) (by simp [Value.oneCell']) (by omega) (by omega) ?_
    rw [← e2]
    intro A' c' h4 S4 f4 hA
    have hn : ∀ y, tO b rb sb A y → y < h'.size := fun y hy => M.low hy
    have hnb : ¬ blk A b := fun h => (M.sep _ h).1 rfl
    have hnr : ¬ blk A rb := fun h => (M.sep _ h).2.1 rfl
    have hns : ¬ blk A sb := fun h => (M.sep _ h).2.2 rfl
    have B4 := B3.fr f4 hnb
    have R4 := R3.fr f4 hnr
    have P4 := P3.fr f4 hns
    have hA2 : ∀ y, blk A' y → blk A y ∨ h'.size ≤ y := fun y hy => (hA y hy).imp id fun h => by rw [push_size, z2] at h; omega
    have hsep : ∀ y, blk A' y → y ≠ b ∧ y ≠ rb ∧ y ≠ sb := fun y hy => by
      rcases hA2 y hy with h | h
      · exact M.sep y h
      · have := hn b (.inl rfl); have := hn rb (.inr (.inl rfl)); have := hn sb (.inr (.inr (.inl rfl))); omega
    have s04 := B4.at' 0 _ rfl
    have fB4 := B4.fz
    simp -implicitDefEqProofs (disch := omega) [go_sem, s04, fB4, ep]
    refine ⟨by omega, by omega, A', ⟨c', ?_, ?_, R4.oth (Ne.symm n1), P4.oth (Ne.symm n2), n1, n2, n3, hsep⟩, ?_, hA2⟩
    · have := B4.set (i := 0) (.slice A' (l.length + 1) c') (by simp)
      simpa using this
    · have e : ints (lits l) ++ [.int .i64 x] = ints (lits (l ++ [⟨x, r, n⟩])) := by simp [ints, lits]
      rw [Nat.mul_one, e] at S4
      exact S4.keep (fun y hy => hset_other (hsep y hy).1) (by rw [hset_size]; exact Nat.le_refl _)
    · have f23 : Fr (tO b rb sb A) h2 h4 := (f3.mono fun _ _ h => h.elim).trans (f4.mono fun _ _ h => .inr (.inr (.inr h)))
      exact (f2.trans f23).set (.inl rfl)

def lenAt (h : Heap) (b : Nat) : Nat := match hcell h ⟨b, 0, none⟩ with
  | some (.slice _ n _) => n
  | _ => 0

theorem back_m (M : TrailM h b rb sb vars cl cr cs A l level) (G : Good vars l) (hv : vars ≤ 16777216) (mono : l.Pairwise fun a b => a.lv ≤ b.lv) {n : Int} {lv : Nat} (hlv : level = lv) (hlv2 : lv ≤ vars) (hl : ∀ s ∈ l, s.lv ≤ lv)
    (h0 : -9223372036854775808 ≤ n) (h1 : n ≤ 9223372036854775807) {k : Nat} (hk : k = if max n 0 < lv then (max n 0).toNat else lv) :
    CallsH Try.prog 35 [.pointer (some ⟨b, 0, none⟩), .int .i64 n] h fun r h' => r = .int .i64 ((cutTo l k).length : Nat) ∧ TrailM h' b rb sb vars cl cr cs A (cutTo l k) k ∧ Fr (tO b rb sb A) h h' := by
  subst hlv
  have s0 := M.B.at' 0 _ rfl
  have s3 := M.B.at' 3 _ rfl
  have hln := G.len
  refine calls_of 78 [.tmp 4] Go.Proofs.Try.func35 rfl rfl rfl (by kernel_rfl) (Nat.le_of_ble_eq_true rfl) ?_
  simp -implicitDefEqProofs (disch := omega) [go_sem]
  refine scopeM 0 (fun ρ h' => ρ 0 = .pointer (some ⟨b, 0, none⟩) ∧ ρ 1 = .int .i64 k ∧ k < lv ∧ ∃ m : Nat, m ≤ l.length ∧ TrailM h' b rb sb vars cl cr cs A (l.take m) k ∧ cutTo l k = cutTo (l.take m) k ∧ Fr (tO b rb sb A) h h')
    (fun _ h' => lenAt h' b) rfl rfl (by kernel_rfl) ?_ ?_
  · by_cases hlt : max n 0 < lv
    · rw [if_pos hlt] at hk
      have fB := M.B.fz
      have hk2 : max n 0 = (k : Int) := by omega
      simp -implicitDefEqProofs (disch := omega) [go_sem, s3, fB, hk2]
      refine ⟨by omega, l.length, by omega, ?_, ?_, (Fr.refl _ _).set (.inl rfl)⟩
      · rw [List.take_length]; exact M.setLv k
      · rw [List.take_length]
    · rw [if_neg hlt] at hk
      subst hk
      have hc : cutTo l k = l := by
        unfold cutTo
        rw [List.filter_eq_self]
        intro s hs
        exact decide_eq_true (hl s hs)
      simp -implicitDefEqProofs (disch := omega) [go_sem, s0, s3, hc]
      exact ⟨M, Fr.refl _ _⟩
  · rintro ρ h2 ⟨r0, r1, hklt, m, hm, M2, hcut, f2⟩
    clear s0
    have s0 := M2.B.at' 0 _ rfl
    have hlt : (l.take m).length = m := by rw [List.length_take]; omega
    rw [hlt] at s0
    cases m with
    | zero =>
      rw [List.take_zero] at M2 hcut
      have hc : cutTo l k = [] := by rw [hcut]; rfl
      simp -implicitDefEqProofs (disch := omega) [go_sem, s0, r0, r1, hc]
      exact ⟨M2, f2⟩
    | succ m =>
      obtain ⟨s, hs⟩ : ∃ s, l[m]? = some s := ⟨_, List.getElem?_eq_getElem (by omega)⟩
      have htk : l.take (m + 1) = l.take m ++ [s] := by rw [List.take_add_one, hs]; rfl
      have G2 : Good vars (l.take (m + 1)) := G.sub (List.take_sublist _ _)
      have hs2 : (l.take (m + 1))[m]? = some s := by rw [List.getElem?_take, if_pos (by omega)]; exact hs
      have hsm := List.mem_of_getElem? hs
      have hrg := G.rng s hsm
      have hcl2 := M2.S.len
      rw [ints_len, lits, List.length_map, hlt] at hcl2
      obtain ⟨bk, rfl, _, _, hcl⟩ := M2.S.base (by rw [ints_len]; unfold lits; rw [List.length_map, hlt]; omega)
      have cs0 := hcl m _ (ints_at (show (lits (l.take (m + 1)))[m]? = some s.lit by unfold lits; rw [List.getElem?_map, hs2]; rfl))
      have ev : varI vars s.lit = s.lit.natAbs := if_pos hrg
      simp -implicitDefEqProofs (disch := omega) [go_sem, s0, r0, r1, cs0]
      refine useC (variable_m M2 hv (by omega) (by omega)) ?_
      rintro _ h3 ⟨rfl, rfl⟩
      have c2 := M2.P.at' s.lit.natAbs (by omega)
      rw [G2.lv hs2, G2.pl hs2] at c2
      have c1 := M2.R.at' s.lit.natAbs (by omega)
      have s1 := M2.B.at' 1 _ rfl
      have s2 := M2.B.at' 2 _ rfl
      have fR := M2.R.fz
      have fP := M2.P.fz
      have fB := M2.B.fz
      have n1 := M2.br
      have n2 := M2.bs
      have n3 := M2.rs
      have hslv := hl s hsm
      by_cases hgt : k < s.lv
      · simp -implicitDefEqProofs (disch := omega) [go_sem, r0, r1, s1, s2, c1, c2, ev]
        refine drawK [(0, 0), (1, 0), (2, 0), (3, 1), (4, 0), (5, 0), (6, 0), (7, 0), (8, 1), (9, 0), (10, 0), (11, 3), (12, 0), (13, 3)] mixed (by kernel_rfl) ?_
        simp -implicitDefEqProofs (disch := omega) [go_sem, r0, r1, s0, s1, s2, c1, c2, ev, fR, fP, fB, n1, n2, n3, Ne.symm n1, Ne.symm n2, Ne.symm n3]
        have hfr : find (l.take m) s.lit.natAbs = none := find_none' fun t ht => by
          have := G2.nd
          rw [htk, List.pairwise_append] at this
          exact this.2.2 t ht s (List.mem_singleton.2 rfl)
        have hlm : (l.take m).length = m := by rw [List.length_take]; omega
        have hkeep : ∀ x, blk (some ⟨bk, 0, none⟩) x → x ≠ b ∧ x ≠ rb ∧ x ≠ sb := M2.sep
        refine ⟨⟨hklt, m, by omega, ⟨?_, ?_, ?_, ?_, n1, n2, n3, hkeep⟩, ?_, ?_⟩, ?_⟩
        · have B3 := ((M2.B.oth (v := .complex .f64 (Fx.enc (-1)) (Fx.enc (-1))) (o := s.lit.natAbs) n2).oth (v := .int .i64 (-1)) (o := s.lit.natAbs) n1).set (i := 0) (.slice (some ⟨bk, 0, none⟩) m cl) (by simp)
          rw [hlm]
          simpa using B3
        · have S3 := M2.S.take m
          have e : (ints (lits (l.take (m + 1)))).take m = ints (lits (l.take m)) := by
            rw [htk]
            unfold lits ints
            rw [List.map_append, List.map_append]
            exact List.take_left' (by rw [List.length_map, List.length_map, hlm])
          rw [e] at S3
          exact S3.keep (fun y hy => ((hset_other (hkeep y hy).1).trans (hset_other (hkeep y hy).2.1)).trans (hset_other (hkeep y hy).2.2)) (by rw [hset_size, hset_size, hset_size]; exact Nat.le_refl _)
        · refine FnB.oth ?_ (Ne.symm n1)
          refine ((M2.R.oth n3).set (.int .i64 (-1)) (i := s.lit.natAbs) (by omega)).cong fun i hi => ?_
          rw [htk, RS_push hfr]
          by_cases e : i = s.lit.natAbs
          · rw [if_pos e, e, (none_of hfr).2.2]
          · rw [if_neg e, if_neg e]
        · refine FnB.oth ?_ (Ne.symm n2)
          refine ((M2.P.set (.complex .f64 (Fx.enc (-1)) (Fx.enc (-1))) (i := s.lit.natAbs) (by omega)).oth (Ne.symm n3)).cong fun i hi => ?_
          rw [htk, LV_push hfr, PL_push hfr]
          by_cases e : i = s.lit.natAbs
          · rw [if_pos e, e, (none_of hfr).2.1, (none_of hfr).1]
          · rw [if_neg e, if_neg e, if_neg e]
        · rw [hcut, htk]
          unfold cutTo
          rw [List.filter_append, List.filter_cons, if_neg (by rw [decide_eq_true_eq]; omega), List.filter_nil, List.append_nil]
        · exact ((f2.set (.inr (.inr (.inl rfl)))).set (.inr (.inl rfl))).set (.inl rfl)
        · have e1 : lenAt h3 b = m + 1 := by unfold lenAt; rw [s0]
          rw [e1]
          unfold lenAt
          simp -implicitDefEqProofs (disch := omega) [go_sem, n1, n2, s0]
      · simp -implicitDefEqProofs (disch := omega) [go_sem, r0, r1, s0, s1, s2, c1, c2, ev]
        have hc : cutTo l k = l.take (m + 1) := by
          rw [hcut]
          unfold cutTo
          rw [List.filter_eq_self]
          intro x hx
          refine decide_eq_true ?_
          obtain ⟨j, hj, rfl⟩ := List.getElem_of_mem hx
          rw [hlt] at hj
          rw [List.getElem_take]
          obtain ⟨hm2, hme⟩ := List.getElem?_eq_some_iff.1 hs
          by_cases e : j = m
          · subst e; rw [hme]; omega
          · have := List.pairwise_iff_getElem.1 mono j m (by omega) hm2 (by omega)
            rw [hme] at this; omega
        rw [hc]
        exact ⟨by rw [hlt]; rfl, M2, f2⟩
end
end Xe
