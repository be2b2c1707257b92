/- The law's own answers: are the reasons so; are acts few. -/
import Derived.Test.YtkghjecglmmloaaT17o
namespace Xe
open Go Tp Go.Proofs
set_option maxRecDepth 16000
set_option maxHeartbeats 1000000
section
variable {h : Heap} {bb : Nat} {p : BP} {s : WS}
theorem reasons_ok (M : BaseM h bb p s) (I : WInv s) : CallsH Try.prog 60 [.pointer (some ⟨bb, 0, none⟩)] h fun r h' => r = .bool true ∧ Fr (fun _ => False) h h' := by
  have hv := I.hv
  have hsl := I.good.len
  have hll := lits_len s.l
  have hsm := M.sm.1
  refine calls_of 57 [.tmp 2] Go.Proofs.Try.func60 rfl rfl rfl (by kernel_rfl) (Nat.le_of_ble_eq_true rfl) ?_
  simp -implicitDefEqProofs (disch := omega) [go_sem]
  refine useC (btrail_m M) ?_
  rintro _ h1 ⟨rfl, rfl⟩
  simp -implicitDefEqProofs (disch := omega) [go_sem]
  refine useC (tlits_ok M.T) ?_
  rintro _ h2 ⟨A2, c2, rfl, S2, own2, f2⟩
  have hc2 := S2.len
  rw [ints_len, hll] at hc2
  simp -implicitDefEqProofs (disch := omega) [go_sem]
  refine loopK (fun ρ h' => ρ 0 = .pointer (some ⟨bb, 0, none⟩) ∧ ρ 3 = .slice A2 s.l.length c2 ∧ Fr (fun _ => False) h2 h' ∧ ∃ i : Nat, ρ 4 = .int .i64 i ∧ i ≤ s.l.length) (fun ρ _ => s.l.length - (intOf (ρ 4)).toNat) (by kernel_rfl) ?_ ?_
  · exact ⟨rfl, rfl, Fr.refl _ _, 0, rfl, by omega⟩
  · rintro ρ h3 ⟨r0, r3, f3, i, r4, hi⟩
    have M3 := (M.fr0 f2).fr0 f3
    have S3 := S2.fr f3 (fun _ _ h => h)
    by_cases hil : i < s.l.length
    · obtain ⟨t, ht⟩ : ∃ t, s.l[i]? = some t := ⟨_, List.getElem?_eq_getElem hil⟩
      have hrg := I.good.rng t (List.mem_of_getElem? ht)
      obtain ⟨bk, off, hA, hc⟩ := S3.row.get (by rw [ints_len]; omega)
      have c0 := hc _ _ (ints_at (lits_at ht))
      have hrs := I.good.rs ht
      have hrsi : RSi s.l (t.lit.natAbs : Nat) = t.rs := by unfold RSi; rw [if_neg (by omega), Int.toNat_natCast]; exact hrs
      have hv12 : var12 t.lit = t.lit.natAbs := if_pos (by omega)
      subst hA
      simp -implicitDefEqProofs (disch := omega) [go_sem, r0, r3, r4, c0]
      refine drawC [(0, 0), (2, 0), (3, 0), (4, 0), (5, 2), (1, 3), (6, 3), (7, 3), (8, 0)] (Eq h3) mixed (by kernel_rfl) rfl ?_
      simp -implicitDefEqProofs (disch := omega) [go_sem, r0, r3, r4, c0]
      refine useC (btrail_m M3) ?_
      rintro _ h4 ⟨rfl, rfl⟩
      simp -implicitDefEqProofs (disch := omega) [go_sem, r0, r3, r4, c0]
      refine useC (var12_ok (by omega) (by omega)) ?_
      rintro _ h4 ⟨rfl, rfl⟩
      rw [hv12]
      simp -implicitDefEqProofs (disch := omega) [go_sem, r0, r3, r4, c0]
      refine useC (treason_ok M3.T (by omega) (by omega)) ?_
      rintro _ h4 ⟨rfl, rfl⟩
      rw [hrsi]
      refine ⟨rfl, ?_⟩
      by_cases hneg : t.rs < 0
      · simp -implicitDefEqProofs (disch := omega) [go_sem, r0, r3, r4, hneg]
        exact ⟨⟨f3, i + 1, by omega, by omega⟩, by omega⟩
      · obtain ⟨e, he, hg, hu⟩ := I.rs i t ht (by omega)
        obtain ⟨k, hk⟩ : ∃ k : Nat, t.rs = k := ⟨t.rs.toNat, by omega⟩
        rw [hk, Int.toNat_natCast] at he
        rw [hk]
        have hkl := (List.getElem?_eq_some_iff.1 he).1
        have hel := (M3.E k e he).len
        have hcl := I.cl e (List.mem_of_getElem? he)
        simp -implicitDefEqProofs (disch := omega) [go_sem, r0, r3, r4]
        refine useC (clause_some M3 he hg) ?_
        rintro _ h5 ⟨B5, d5, rfl, S5, own5, f5⟩
        have R5 := (S3.fr f5 (fun _ _ h => h)).row.take i
        rw [ints_take, lits_take] at R5
        have hti : (s.l.take i).length = i := by rw [List.length_take]; omega
        simp -implicitDefEqProofs (disch := omega) [go_sem, r0, r3, r4]
        refine useC (state17_ok S5.row rfl (by omega) R5 hti.symm (by omega) (fun x hx => by have := hcl.2 x hx; omega)) ?_
        rintro _ h6 ⟨rfl, rfl⟩
        have hst := (stI_2 (rise_nodup hcl.1)).2 hu
        have c6 := (f5.cell (hcell_lt c0) (fun h => h)).trans c0
        rw [hst]
        simp -implicitDefEqProofs (disch := omega) [go_sem, r0, r3, r4, c6]
        exact ⟨⟨f3.trans f5, i + 1, by omega, by omega⟩, by omega⟩
    · simp -implicitDefEqProofs (disch := omega) [go_sem, r0, r3, r4]
      exact f2.trans f3
end
end Xe
