/- Package trail, as its users see it. -/
import Derived.Test.YtkghjecglmmloaaT16c
namespace Xe
open Go Tp Go.Proofs
set_option maxRecDepth 16000

structure TrailOk (h : Heap) (b : Nat) (O : Nat → Prop) (vars : Nat) (l : List St) (level : Nat) : Prop where
  ex : ∃ rb sb cl cr cs A, TrailM h b rb sb vars cl cr cs A l level ∧ ∀ x, O x ↔ tO b rb sb A x
  good : Good vars l
  lvs : Lvs l level
  hv : vars ≤ 16777216

/-- what is there behind pushing -/
def pushL (vars : Nat) (l : List St) (x r : Int) (n : Nat) : List St := if pushE vars l x r = 0 then l ++ [⟨x, r, n⟩] else l
/-- a variable's level, place, reason, of any number -/
def LVi (l : List St) (v : Int) : Int := if v < 0 then -1 else LV l v.toNat
def PLi (l : List St) (v : Int) : Int := if v < 0 then -1 else PL l v.toNat
def RSi (l : List St) (v : Int) : Int := if v < 0 then -1 else RS l v.toNat

section
variable {h : Heap} {b vars level : Nat} {O : Nat → Prop} {l : List St}

theorem TrailOk.low (T : TrailOk h b O vars l level) : ∀ x, O x → x < h.size := by
  obtain ⟨rb, sb, cl, cr, cs, A, M, hO⟩ := T.ex
  exact fun x hx => M.low ((hO x).1 hx)
theorem TrailOk.own (T : TrailOk h b O vars l level) : O b := by
  obtain ⟨rb, sb, cl, cr, cs, A, M, hO⟩ := T.ex
  exact (hO b).2 (.inl rfl)
theorem TrailOk.fr (T : TrailOk h b O vars l level) {S : Nat → Prop} {h' : Heap} (f : Fr S h h') (hs : ∀ x, O x → ¬ S x) : TrailOk h' b O vars l level := by
  obtain ⟨rb, sb, cl, cr, cs, A, M, hO⟩ := T.ex
  exact ⟨⟨rb, sb, cl, cr, cs, A, M.fr f fun x hx => hs x ((hO x).2 hx), hO⟩, T.good, T.lvs, T.hv⟩
theorem TrailOk.fr0 (T : TrailOk h b O vars l level) {h' : Heap} (f : Fr (fun _ => False) h h') : TrailOk h' b O vars l level := T.fr f fun _ _ => id
theorem TrailOk.lvle (T : TrailOk h b O vars l level) : level ≤ vars := by have := T.lvs.len; have := T.good.len; omega
theorem TrailOk.len (T : TrailOk h b O vars l level) : l.length ≤ vars := T.good.len
theorem TrailOk.lv (T : TrailOk h b O vars l level) : ∀ s ∈ l, s.lv ≤ vars := fun s hs => Nat.le_trans (T.lvs.le s hs) T.lvle

theorem tvars_ok (T : TrailOk h b O vars l level) : CallsH Try.prog 83 [.pointer (some ⟨b, 0, none⟩)] h fun r h' => r = .int .i64 vars ∧ h' = h := by
  obtain ⟨rb, sb, cl, cr, cs, A, M, hO⟩ := T.ex
  exact vars_m M T.hv
theorem tlevel_ok (T : TrailOk h b O vars l level) : CallsH Try.prog 33 [.pointer (some ⟨b, 0, none⟩)] h fun r h' => r = .int .i64 level ∧ h' = h := by
  obtain ⟨rb, sb, cl, cr, cs, A, M, hO⟩ := T.ex
  have s3 := M.B.at' 3 _ rfl
  refine calls_of 7 [.tmp 2] Go.Proofs.Try.func33 rfl rfl rfl (by kernel_rfl) (Nat.le_of_ble_eq_true rfl) ?_
  simp -implicitDefEqProofs (disch := omega) [go_sem, s3]
theorem tlits_ok (T : TrailOk h b O vars l level) : CallsH Try.prog 32 [.pointer (some ⟨b, 0, none⟩)] h fun r h' =>
    ∃ A' c', r = .slice A' l.length c' ∧ SlAt h' A' c' (ints (lits l)) ∧ (∀ x, blk A' x → h.size ≤ x) ∧ Fr (fun _ => False) h h' := by
  obtain ⟨rb, sb, cl, cr, cs, A, M, hO⟩ := T.ex
  have s0 := M.B.at' 0 _ rfl
  have := T.len
  have := T.hv
  refine calls_of 8 [.tmp 2] Go.Proofs.Try.func32 rfl rfl rfl (by kernel_rfl) (Nat.le_of_ble_eq_true rfl) ?_
  simp -implicitDefEqProofs (disch := omega) [go_sem, s0]
  refine useC (clone_ok (vs := ints (lits l)) M.S.row (by rw [ints_len]; unfold lits; rw [List.length_map]) ints_one (by omega)) ?_
  rintro _ h' ⟨A', c', rfl, S, hA, f⟩
  simp -implicitDefEqProofs (disch := omega) [go_sem]
  exact ⟨A', c', ⟨rfl, rfl⟩, S, hA, f⟩

/-- a variable's spot -/
theorem tspot_ok (T : TrailOk h b O vars l level) {v : Int} (h0 : -9223372036854775808 ≤ v) (h1 : v ≤ 9223372036854775807) :
    CallsH Try.prog 82 [.pointer (some ⟨b, 0, none⟩), .int .i64 v] h fun r h' => r = .complex .f64 (Fx.enc (LVi l v)) (Fx.enc (PLi l v)) ∧ h' = h := by
  obtain ⟨rb, sb, cl, cr, cs, A, M, hO⟩ := T.ex
  have s2 := M.B.at' 2 _ rfl
  have hv := T.hv
  have none_case : (v < 1 ∨ vars < v) → LVi l v = -1 ∧ PLi l v = -1 := fun hvv => by
    unfold LVi PLi
    by_cases e : v < 0
    · rw [if_pos e, if_pos e]; exact ⟨rfl, rfl⟩
    · rw [if_neg e, if_neg e]
      have : find l v.toNat = none := find_none' fun s hs => by have := T.good.rng s hs; omega
      exact ⟨(none_of this).1, (none_of this).2.1⟩
  refine calls_of 20 [.tmp 4] Go.Proofs.Try.func82 rfl rfl rfl (by kernel_rfl) (Nat.le_of_ble_eq_true rfl) ?_
  by_cases e1 : v < 1
  · obtain ⟨g1, g2⟩ := none_case (.inl e1)
    simp -implicitDefEqProofs (disch := omega) [go_sem, g1, g2]
  · simp -implicitDefEqProofs (disch := omega) [go_sem]
    refine useC (vars_m M T.hv) ?_
    rintro _ h' ⟨rfl, rfl⟩
    by_cases e2 : vars < v
    · obtain ⟨g1, g2⟩ := none_case (.inr e2)
      simp -implicitDefEqProofs (disch := omega) [go_sem, g1, g2]
    · have c2 := M.P.at' v.toNat (by omega)
      have g1 : LVi l v = LV l v.toNat := if_neg (by omega)
      have g2 : PLi l v = PL l v.toNat := if_neg (by omega)
      simp -implicitDefEqProofs (disch := omega) [go_sem, s2, c2, g1, g2]

theorem LVi_b (T : TrailOk h b O vars l level) (v : Int) : -1 ≤ LVi l v ∧ LVi l v ≤ vars := by
  unfold LVi
  split
  · omega
  · exact LV_le T.lv _
theorem PLi_b (T : TrailOk h b O vars l level) (v : Int) : -1 ≤ PLi l v ∧ PLi l v < l.length := by
  unfold PLi
  split
  · omega
  · exact PL_lt _ _

theorem tlevelOf_ok (T : TrailOk h b O vars l level) {v : Int} (h0 : -9223372036854775808 ≤ v) (h1 : v ≤ 9223372036854775807) :
    CallsH Try.prog 38 [.pointer (some ⟨b, 0, none⟩), .int .i64 v] h fun r h' => r = .int .i64 (LVi l v) ∧ h' = h := by
  have b1 := LVi_b T v
  have hv := T.hv
  refine calls_of 10 [.tmp 4] Go.Proofs.Try.func38 rfl rfl rfl (by kernel_rfl) (Nat.le_of_ble_eq_true rfl) ?_
  simp -implicitDefEqProofs (disch := omega) [go_sem]
  refine useC (tspot_ok T h0 h1) ?_
  rintro _ h' ⟨rfl, rfl⟩
  simp -implicitDefEqProofs (disch := omega) [go_sem]
theorem tplace_ok (T : TrailOk h b O vars l level) {v : Int} (h0 : -9223372036854775808 ≤ v) (h1 : v ≤ 9223372036854775807) :
    CallsH Try.prog 40 [.pointer (some ⟨b, 0, none⟩), .int .i64 v] h fun r h' => r = .int .i64 (PLi l v) ∧ h' = h := by
  have b1 := PLi_b T v
  have hv := T.hv
  have hn := T.len
  refine calls_of 10 [.tmp 4] Go.Proofs.Try.func40 rfl rfl rfl (by kernel_rfl) (Nat.le_of_ble_eq_true rfl) ?_
  simp -implicitDefEqProofs (disch := omega) [go_sem]
  refine useC (tspot_ok T h0 h1) ?_
  rintro _ h' ⟨rfl, rfl⟩
  simp -implicitDefEqProofs (disch := omega) [go_sem]
theorem treason_ok (T : TrailOk h b O vars l level) {v : Int} (h0 : -9223372036854775808 ≤ v) (h1 : v ≤ 9223372036854775807) :
    CallsH Try.prog 39 [.pointer (some ⟨b, 0, none⟩), .int .i64 v] h fun r h' => r = .int .i64 (RSi l v) ∧ h' = h := by
  have b1 := LVi_b T v
  have b2 := PLi_b T v
  have hv := T.hv
  have hn := T.len
  obtain ⟨rb, sb, cl, cr, cs, A, M, hO⟩ := T.ex
  have s1 := M.B.at' 1 _ rfl
  refine calls_of 16 [.tmp 4] Go.Proofs.Try.func39 rfl rfl rfl (by kernel_rfl) (Nat.le_of_ble_eq_true rfl) ?_
  simp -implicitDefEqProofs (disch := omega) [go_sem]
  refine useC (tspot_ok T h0 h1) ?_
  rintro _ h' ⟨rfl, rfl⟩
  by_cases hp : PLi l v = -1
  · have hb : LVi l v = -1 ∧ RSi l v = -1 := by
      unfold LVi RSi
      unfold PLi at hp
      by_cases e : v < 0
      · rw [if_pos e, if_pos e]; exact ⟨rfl, rfl⟩
      · rw [if_neg e] at hp ⊢
        rw [if_neg e]
        have := none_of (PL_neg.1 (show PL l v.toNat < 0 by omega))
        exact ⟨this.1, this.2.2⟩
    simp -implicitDefEqProofs (disch := omega) [go_sem, hp, hb.1, hb.2]
  · have hvr : 1 ≤ v ∧ v ≤ vars := by
      unfold PLi at hp
      by_cases e : v < 0
      · rw [if_pos e] at hp; exact absurd rfl hp
      · rw [if_neg e] at hp
        cases hf : find l v.toNat with
        | none => exact absurd (none_of hf).2.1 hp
        | some k =>
          obtain ⟨s, hs, hs2, _⟩ := find_some hf
          have := T.good.rng s (List.mem_of_getElem? hs)
          omega
    have c1 := M.R.at' v.toNat (by omega)
    have hr : RSi l v = RS l v.toNat := if_neg (by omega)
    simp -implicitDefEqProofs (disch := omega) [go_sem, hp, s1, c1, hr]

theorem tr_at {vars : Nat} {l : List St} (G : Good vars l) {k : Nat} {s : St} (hs : l[k]? = some s) {x : Int} (hx : x.natAbs = s.lit.natAbs) : trI l x = if s.lit = x then 1 else -1 := by
  have hm := List.mem_of_getElem? hs
  have hr := G.rng s hm
  have hu : ∀ y ∈ lits l, y.natAbs = s.lit.natAbs → y = s.lit := by
    intro y hy he
    obtain ⟨t, ht, rfl⟩ := List.mem_map.1 hy
    obtain ⟨j, hj⟩ := List.getElem?_of_mem ht
    have e1 := G.find hj
    have e2 := G.find hs
    rw [he, e2] at e1
    cases e1
    rw [hs] at hj; cases hj; rfl
  have hin : s.lit ∈ lits l := List.mem_map.2 ⟨s, hm, rfl⟩
  unfold trI
  by_cases e : s.lit = x
  · subst e; rw [if_pos hin, if_pos rfl]
  · rw [if_neg e, if_neg (fun hx2 => e (hu x hx2 hx).symm)]
    have : -x = s.lit := by omega
    rw [this, if_pos hin]
theorem tr_none {vars : Nat} {l : List St} {x : Int} (hf : find l x.natAbs = none) : trI l x = 0 := by
  have : ∀ y, y.natAbs = x.natAbs → y ∉ lits l := by
    intro y hy hm
    obtain ⟨t, ht, rfl⟩ := List.mem_map.1 hm
    obtain ⟨j, hj⟩ := List.getElem?_of_mem ht
    exact find_none hf hj hy
  unfold trI
  rw [if_neg (this x rfl), if_neg (this (-x) (by omega))]

theorem ttruth_ok (T : TrailOk h b O vars l level) {x : Int} (h0 : -9223372036854775808 ≤ x) (h1 : x ≤ 9223372036854775807) :
    CallsH Try.prog 36 [.pointer (some ⟨b, 0, none⟩), .int .i64 x] h fun r h' => r = .int .i64 (trI l x) ∧ h' = h := by
  have hv := T.hv
  have hn := T.len
  have T' := T
  obtain ⟨rb, sb, cl, cr, cs, A, M, hO⟩ := T.ex
  have s0 := M.B.at' 0 _ rfl
  refine calls_of 26 [.tmp 4] Go.Proofs.Try.func36 rfl rfl rfl (by kernel_rfl) (Nat.le_of_ble_eq_true rfl) ?_
  simp -implicitDefEqProofs (disch := omega) [go_sem]
  refine useC (variable_m M T.hv h0 h1) ?_
  rintro _ h' ⟨rfl, rfl⟩
  simp -implicitDefEqProofs (disch := omega) [go_sem]
  have hvi : varI vars x ≤ vars := by unfold varI; split <;> omega
  refine useC (tspot_ok T' (by omega) (by omega)) ?_
  rintro _ h' ⟨rfl, rfl⟩
  have b1 := LVi_b T' (varI vars x : Int)
  have b2 := PLi_b T' (varI vars x : Int)
  have g1 : LVi l (varI vars x : Int) = LV l (varI vars x) := by unfold LVi; rw [if_neg (by omega), Int.toNat_natCast]
  have g2 : PLi l (varI vars x : Int) = PL l (varI vars x) := by unfold PLi; rw [if_neg (by omega), Int.toNat_natCast]
  rw [g1] at b1 ⊢
  rw [g2] at b2 ⊢
  cases hf : find l (varI vars x) with
  | none =>
    obtain ⟨hl1, hp1, hr1⟩ := none_of hf
    have ht : trI l x = 0 := by
      refine tr_none (vars := vars) ?_
      unfold varI at hf
      split at hf
      · exact hf
      · exact find_none' fun s hs => by have := T.good.rng s hs; omega
    simp -implicitDefEqProofs (disch := omega) [go_sem, hl1, hp1, ht]
  | some k =>
    obtain ⟨s, hs, hs2, hk⟩ := find_some hf
    have hrg := T.good.rng s (List.mem_of_getElem? hs)
    have hx : varI vars x = x.natAbs := by
      unfold varI
      split
      · rfl
      · rename_i e; unfold varI at hs2; rw [if_neg e] at hs2; omega
    have hpk : PL l (varI vars x) = k := by unfold PL; rw [hf]
    have ht := tr_at T.good hs (x := x) (by omega)
    obtain ⟨bk, hA, _, _, hcl⟩ := M.S.base (by rw [ints_len]; unfold lits; rw [List.length_map]; omega)
    have cs0 := hcl k _ (ints_at (show (lits l)[k]? = some s.lit by unfold lits; rw [List.getElem?_map, hs]; rfl))
    by_cases e : s.lit = x
    · simp -implicitDefEqProofs (disch := omega) [go_sem, hpk, s0, hA, cs0, ht, e]
    · simp -implicitDefEqProofs (disch := omega) [go_sem, hpk, s0, hA, cs0, ht, e]
end
end Xe
