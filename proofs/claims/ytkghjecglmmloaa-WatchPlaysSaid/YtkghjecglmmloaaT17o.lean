/- The law's own answers: the clauses that are there; is a propagation right; are the reasons. -/
import Derived.Test.YtkghjecglmmloaaT17n
namespace Xe
open Go Tp Go.Proofs
set_option maxRecDepth 16000
set_option maxHeartbeats 1000000

theorem keptC_push (C : List (List Int × Bool)) (c : List Int) (g : Bool) : keptC (C ++ [(c, g)]) = keptC C ++ if g then [] else [c] := by
  unfold keptC
  rw [List.filter_append, List.map_append]
  cases g <;> rfl
theorem keptC_len (C : List (List Int × Bool)) : (keptC C).length ≤ C.length := by
  unfold keptC; rw [List.length_map]; exact List.length_filter_le ..
section
variable {h : Heap} {bb : Nat} {p : BP} {s : WS}
theorem kept_ok (M : BaseM h bb p s) : CallsH Try.prog 92 [.pointer (some ⟨bb, 0, none⟩)] h fun r h' =>
    ∃ A cap vs, r = .slice A (keptC (absC s.cs)).length cap ∧ RowsK h' h.size A cap (keptC (absC s.cs)) vs ∧ Fr (fun _ => False) h h' := by
  have hsm := M.sm.1
  have hal : (absC s.cs).length = s.cs.length := by unfold absC; rw [List.length_map]
  refine calls_of 25 [.tmp 2] Go.Proofs.Try.func92 rfl rfl rfl (by kernel_rfl) (Nat.le_of_ble_eq_true rfl) ?_
  simp -implicitDefEqProofs (disch := omega) [go_sem]
  refine loopK (fun ρ h' => ρ 0 = .pointer (some ⟨bb, 0, none⟩) ∧ ∃ (i : Nat) (A : Option Addr) (cap : Nat) (vs : List Value), ρ 4 = .int .i64 i ∧ i ≤ s.cs.length ∧ ρ 3 = .slice A (keptC ((absC s.cs).take i)).length cap ∧ RowsK h' h.size A cap (keptC ((absC s.cs).take i)) vs ∧ Fr (fun _ => False) h h')
    (fun ρ _ => s.cs.length - (intOf (ρ 4)).toNat) (by kernel_rfl) ?_ ?_
  · exact ⟨rfl, 0, none, 0, [], rfl, by omega, rfl, ⟨SlAt.nil h, rfl, fun y ⟨a, ha, _⟩ => (nomatch ha), fun w hw => (nomatch hw), fun i k hk => by simp [keptC] at hk⟩, Fr.refl _ _⟩
  · rintro ρ h1 ⟨r0, i, A, cap, vs, r4, hi, r3, R, f1⟩
    have M1 := M.fr0 f1
    have hkl : (keptC ((absC s.cs).take i)).length ≤ i := by
      have := keptC_len ((absC s.cs).take i)
      rw [List.length_take] at this; omega
    simp -implicitDefEqProofs (disch := omega) [go_sem, r0, r3, r4]
    refine useC (blen_m M1) ?_
    rintro _ h2 ⟨rfl, rfl⟩
    by_cases him : i < s.cs.length
    · obtain ⟨e, he⟩ : ∃ e, s.cs[i]? = some e := ⟨_, List.getElem?_eq_getElem him⟩
      have etk := take_at (absC_at he)
      have ekp := keptC_push ((absC s.cs).take i) e.lits e.gone
      rw [← etk] at ekp
      simp -implicitDefEqProofs (disch := omega) [go_sem, r0, r3, r4]
      cases hg : e.gone with
      | true =>
        rw [hg] at ekp
        rw [if_pos rfl, List.append_nil] at ekp
        refine useC (clause_none M1 (by omega) (by omega) (fun _ e' he' => by rw [Int.toNat_natCast, he] at he'; cases he'; exact hg)) ?_
        rintro _ h3 ⟨rfl, rfl⟩
        simp -implicitDefEqProofs (disch := omega) [go_sem, r0, r3, r4]
        refine ⟨⟨i + 1, by omega, by omega, A, cap, ?_⟩, by omega⟩
        rw [ekp]
        exact ⟨⟨rfl, rfl, rfl⟩, ⟨vs, R⟩, f1⟩
      | false =>
        rw [hg] at ekp
        rw [if_neg (by simp)] at ekp
        have hlen := (M1.E i e he).len
        refine useC (clause_some M1 he hg) ?_
        rintro _ h3 ⟨B, d, rfl, S3, own3, f3⟩
        have R3 := R.fr0 f3
        simp -implicitDefEqProofs (disch := omega) [go_sem, r0, r3, r4]
        refine build1 rfl rfl ?_
        have f4 : Fr (fun _ => False) h3 (h3.push (.cells #[.slice B e.lits.length d] 32)) := (Fr.refl _ _).push
        simp -implicitDefEqProofs (disch := omega) [go_sem, r0, r3, r4]
        have R4 := R3.fr0 f4
        have z3 := f3.size
        have z1 := f1.size
        refine append1 R4.S (by rw [R.len]) (v := .slice B e.lits.length d) (by rw [hcell_push_new]; rfl) rfl (by omega) (by omega) ?_
        intro A5 c5 h5 S5 f5 hA5
        simp -implicitDefEqProofs (disch := omega) [go_sem, r0, r3, r4]
        have f15 : Fr (fun _ => False) h h5 := ((f1.trans f3).trans f4).trans' f5 fun x hx hb => by have := R.own x hb; omega
        have e1 : (keptC ((absC s.cs).take (i + 1))).length = (keptC ((absC s.cs).take i)).length + 1 := by rw [ekp]; simp
        refine ⟨⟨i + 1, by omega, by omega, A5, c5, by rw [e1]; exact ⟨rfl, rfl, rfl⟩, ⟨vs ++ [.slice B e.lits.length d], ?_⟩, f15⟩, by omega⟩
        have nb : ∀ y, blk B y → y < h5.size ∧ ¬ blk A5 y := fun y hy => by
          have h6 := own3 y hy
          have h7 := S3.blk_lt hy
          refine ⟨by have := f5.size; rw [push_size] at this; omega, fun h8 => ?_⟩
          rcases hA5 y h8 with h9 | h9
          · have := R.S.blk_lt h9; omega
          · rw [push_size] at h9; omega
        rw [ekp]
        exact {
          S := S5
          len := by rw [List.length_append, List.length_append, R.len]; rfl
          own := fun y hy => (hA5 y hy).elim (R.own y) fun h => by rw [push_size] at h; omega
          one := fun w hw => by
            rw [List.mem_append, List.mem_singleton] at hw
            rcases hw with hw | rfl
            · exact R.one w hw
            · rfl
          at' := fun j k hk => by
            by_cases hj : j < (keptC ((absC s.cs).take i)).length
            · rw [List.getElem?_append_left hj] at hk
              obtain ⟨B', c', g1, g2, g3⟩ := R4.at' j k hk
              refine ⟨B', c', by rw [List.getElem?_append_left (by rw [R.len]; exact hj)]; exact g1, g2.fr f5 fun x hx => (g3 x hx).2, fun y hy => ⟨Nat.lt_of_lt_of_le (g3 y hy).1 f5.size, fun h8 => ?_⟩⟩
              rcases hA5 y h8 with h9 | h9
              · exact (g3 y hy).2 h9
              · have := (g3 y hy).1; omega
            · rw [List.getElem?_append_right (by omega)] at hk
              have hz : j - (keptC ((absC s.cs).take i)).length = 0 := by
                cases hjj : j - (keptC ((absC s.cs).take i)).length with
                | zero => rfl
                | succ q => rw [hjj] at hk; simp at hk
              rw [hz] at hk
              simp only [List.getElem?_cons_zero, Option.some.injEq] at hk
              subst hk
              refine ⟨B, d, by rw [List.getElem?_append_right (by rw [R.len]; omega), R.len, hz]; rfl, ?_, nb⟩
              refine (S3.row.fr0 f4).fr f5 fun x hx hb => ?_
              have := own3 x hx
              have := R.S.blk_lt hb
              omega }
    · have e : i = s.cs.length := by omega
      subst e
      have etk : (absC s.cs).take s.cs.length = absC s.cs := by rw [← hal, List.take_length]
      rw [etk] at R r3
      simp -implicitDefEqProofs (disch := omega) [go_sem, r0, r3, r4]
      exact ⟨A, cap, ⟨rfl, rfl⟩, ⟨vs, R⟩, f1⟩

theorem WInv.keptK (I : WInv s) : ∀ c ∈ keptC (absC s.cs), c.Nodup ∧ ∀ x ∈ c, 1 ≤ x.natAbs ∧ x.natAbs ≤ s.vars := fun c hc => by
  obtain ⟨id, h⟩ := mem_kept.1 hc
  obtain ⟨e, he, rfl, _⟩ := absC_back h
  have := I.cl e (List.mem_of_getElem? he)
  exact ⟨rise_nodup this.1, this.2⟩
theorem ints_take (l : List Int) (n : Nat) : (ints l).take n = ints (l.take n) := by unfold ints; rw [List.map_take]
theorem lits_take (l : List St) (n : Nat) : (lits l).take n = lits (l.take n) := by unfold lits; rw [List.map_take]
theorem lits_at {l : List St} {i : Nat} {t : St} (h : l[i]? = some t) : (lits l)[i]? = some t.lit := by unfold lits; rw [List.getElem?_map, h]; rfl
theorem right_ok (M : BaseM h bb p s) (I : WInv s) {B : Option Addr} {m d : Nat} {l0 ext : List St} (hext : s.l = l0 ++ ext) (G0 : Good s.vars l0) (R0 : RowAt h B (ints (lits l0))) (hm : m = l0.length) (L : Least s.vars (keptC (absC s.cs)) l0 s.l) {id : Int} {ok : Bool}
    (hor : (ok = false ∧ ∃ (k : Nat) (e : Ent), id = k ∧ s.cs[k]? = some e ∧ e.gone = false ∧ FailAt s.l e.lits) ∨ (ok = true ∧ id = -1 ∧ QuietK (keptC (absC s.cs)) s.l)) :
    CallsH Try.prog 59 [.pointer (some ⟨bb, 0, none⟩), .slice B m d, .int .i64 id, .bool ok] h fun r h' => r = .bool true ∧ Fr (fun _ => False) h h' := by
  subst hm
  have hv := I.hv
  have hsl := I.good.len
  have hll := lits_len s.l
  have hl0 := lits_len l0
  have hle : l0.length ≤ s.l.length := by rw [hext, List.length_append]; omega
  have hpre : (lits s.l).take l0.length = lits l0 := by rw [lits_take, hext, List.take_left]
  have hsm := M.sm.1
  refine calls_of 87 [.tmp 8] Go.Proofs.Try.func59 rfl rfl rfl (by kernel_rfl) (Nat.le_of_ble_eq_true rfl) ?_
  simp -implicitDefEqProofs (disch := omega) [go_sem]
  refine useC (btrail_m M) ?_
  rintro _ h1 ⟨rfl, rfl⟩
  simp -implicitDefEqProofs (disch := omega) [go_sem]
  refine useC (tlits_ok M.T) ?_
  rintro _ h2 ⟨A2, c2, rfl, S2, own2, f2⟩
  have M2 := M.fr0 f2
  simp -implicitDefEqProofs (disch := omega) [go_sem]
  refine useC (kept_ok M2) ?_
  rintro _ h3 ⟨A3, c3, vs, rfl, R3, f3⟩
  have hkl : (keptC (absC s.cs)).length < 2 ^ 30 := by
    have h1 := keptC_len (absC s.cs)
    have h2 : (absC s.cs).length = s.cs.length := by unfold absC; rw [List.length_map]
    omega
  have M3 := M2.fr0 f3
  simp -implicitDefEqProofs (disch := omega) [go_sem]
  refine useC (close17_ok R3 rfl hkl ((R0.fr0 f2).fr0 f3) rfl G0 hv (fun c hc => by
    obtain ⟨q1, q2⟩ := I.keptK c hc
    obtain ⟨k, hk⟩ := mem_kept.1 hc
    obtain ⟨e, he, rfl, _⟩ := absC_back hk
    have := (M.E k e he).len
    exact ⟨q1, by omega, q2⟩)) ?_
  rintro r4 h4 ⟨f4, hor4⟩
  have M4 := M3.fr0 f4
  have S4 := (S2.fr f3 (fun _ _ h => h)).fr f4 (fun _ _ h => h)
  have f04 := (f2.trans f3).trans f4
  have hc2 := S4.len
  rw [ints_len, hll] at hc2
  have R4 := S4.row.take l0.length
  rw [ints_take, hpre] at R4
  rcases hor with ⟨rfl, k, e, rfl, he, hg, hf⟩ | ⟨rfl, rfl, q⟩
  · rcases hor4 with ⟨o, C, e4, rfl, Ro, Lo, qo⟩ | ⟨rfl, _⟩
    · exact absurd (L.fail (mem_kept.2 ⟨k, by rw [absC_at he, hg]⟩) hf Lo qo) id
    · simp -implicitDefEqProofs (disch := omega) [go_sem]
      refine useC (same12_ok R4 ((R0.fr0 f2).fr0 (f3.trans f4)) hl0.symm hl0.symm (by omega) (by omega)) ?_
      rintro _ h5 ⟨rfl, rfl⟩
      have hlen := (M4.E k e he).len
      simp -implicitDefEqProofs (disch := omega) [go_sem]
      refine useC (clause_some M4 he hg) ?_
      rintro _ h6 ⟨B6, d6, rfl, S6, own6, f6⟩
      simp -implicitDefEqProofs (disch := omega) [go_sem]
      refine useC (state17_ok S6.row rfl (by omega) ((S4.fr f6 (fun _ _ h => h)).row) rfl (by omega) (fun x hx => by have := (I.cl e (List.mem_of_getElem? he)).2 x hx; omega)) ?_
      rintro _ h7 ⟨rfl, rfl⟩
      have h0 := stI_0.2 hf
      simp -implicitDefEqProofs (disch := omega) [go_sem, h0]
      exact f04.trans f6
  · rcases hor4 with ⟨o, C, e4, rfl, Ro, Lo, qo⟩ | ⟨rfl, o, c, Lo, hc, hf⟩
    · obtain ⟨hmem, hlen⟩ := L.same q Lo qo
      have hol := lits_len o
      simp -implicitDefEqProofs (disch := omega) [go_sem]
      refine useC (same12_ok R4 ((R0.fr0 f2).fr0 (f3.trans f4)) hl0.symm hl0.symm (by omega) (by omega)) ?_
      rintro _ h5 ⟨rfl, rfl⟩
      simp -implicitDefEqProofs (disch := omega) [go_sem]
      refine loopK (fun ρ h' => h' = h5 ∧ ρ 9 = .slice A2 s.l.length c2 ∧ ρ 10 = .slice C o.length e4 ∧ ∃ i : Nat, ρ 16 = .int .i64 i ∧ i ≤ o.length) (fun ρ _ => o.length - (intOf (ρ 16)).toNat) (by kernel_rfl) ?_ ?_
      · exact ⟨rfl, rfl, rfl, 0, rfl, by omega⟩
      · rintro ρ h' ⟨rfl, r9, r10, i, r16, hi⟩
        by_cases hio : i < o.length
        · obtain ⟨t, ht⟩ : ∃ t, o[i]? = some t := ⟨_, List.getElem?_eq_getElem hio⟩
          obtain ⟨bk, off, rfl, hc⟩ := Ro.get (by rw [ints_len]; omega)
          have c0 := hc _ _ (ints_at (lits_at ht))
          have hin : t.lit ∈ lits s.l := (hmem _).2 (List.mem_of_getElem? (lits_at ht))
          simp -implicitDefEqProofs (disch := omega) [go_sem, r9, r10, r16, c0]
          refine useC (has12_ok S4.row (by omega) (by omega) t.lit) ?_
          rintro _ h' ⟨rfl, rfl⟩
          simp -implicitDefEqProofs (disch := omega) [go_sem, r9, r10, r16, hin]
          exact ⟨⟨i + 1, by omega, by omega⟩, by omega⟩
        · simp -implicitDefEqProofs (disch := omega) [go_sem, r9, r10, r16]
          exact f04
    · exact absurd (Lo.fail hc hf L q) id
end
end Xe
