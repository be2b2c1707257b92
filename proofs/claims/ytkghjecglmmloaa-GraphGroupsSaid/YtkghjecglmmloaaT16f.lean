/- Trail's truths; the document's Push and Back. -/
import Derived.Test.YtkghjecglmmloaaT16e
namespace Xe
open Go Tp Go.Proofs
set_option maxRecDepth 16000

/-- a slice of one struct of three cells, fresh -/
theorem build3 {e : TypeId} {bt : Nat} {z0 z1 z2 a b c : Value} {h : Heap} {k : Value → Heap → Prop} (hk : k (.slice (some ⟨h.size, 0, none⟩) 1 1) (h.push (.cells #[a, b, c] e))) :
    @buildSliceK (some (e, 3, bt, .agg #[z0, z1, z2])) 1 [(0, .agg #[a, b, c])] ⟨h⟩ ⟨k⟩ := by
  refine ⟨by omega, #[a, b, c], ?_, hk⟩
  have hz : (zerosOf (Value.agg #[z0, z1, z2]).cells (1 * 3)).size = 3 := by simp [zerosOf]
  obtain ⟨L, hL⟩ : ∃ L, zerosOf (Value.agg #[z0, z1, z2]).cells (1 * 3) = ⟨L⟩ := ⟨_, rfl⟩
  rw [hL] at hz ⊢
  match L, hz with
  | [p, q, r], _ => simp [Instr.fill, Value.cells, List.zipIdx]

/-- append of a fresh slice's cells to one's own -/
theorem appendO {h0 h : Heap} {e : TypeId} {sz bt : Nat} {z : Value} {A : Option Addr} {cap n : Nat} {vs ws : List Value} {k : Value → Heap → Prop} (S : SlAt h A (cap * sz) vs) (own : ∀ x, blk A x → h0.size ≤ x) (fr : Fr (fun _ => False) h0 h)
    (hn : n * sz = vs.length) (hw : ws.length = sz) (hs : 0 < sz) (hone : ∀ w ∈ ws, w.oneCell' = true) (hlen : (n + 1) * bt ≤ 2 ^ 47) (hlm : n + 1 < 2 ^ 50)
    (hk : ∀ A' cap' h', SlAt h' A' (cap' * sz) (vs ++ ws) → (∀ x, blk A' x → h0.size ≤ x) → Fr (fun _ => False) h0 h' → Fr (blk A) h h' → k (.slice A' (n + 1) cap') h') :
    @appendK (some (e, sz, bt, z)) (.slice A n cap) (.slice (some ⟨h.size, 0, none⟩) 1 1) ⟨h.push (.cells ws.toArray e)⟩ ⟨k⟩ := by
  have f1 : Fr (fun _ => False) h (h.push (.cells ws.toArray e)) := (Fr.refl _ _).push
  refine appendN (S.fr f1 fun _ _ => id) hn (SlAt.new (vs := ws) (e := e)).row (by omega) hs hone hlen hlm ?_
  intro A' c' h' S' f hA
  have z := fr.size
  refine hk A' c' h' S' (fun x hx => ?_) ?_ ((f1.mono fun _ _ h => h.elim).trans f)
  · rcases hA x hx with h | h
    · exact own x h
    · rw [push_size] at h; omega
  · exact (fr.trans f1).trans' f fun x hx hb => by have := own x hb; omega

def truthsV (n : Nat) (l : List St) : List Value := (List.range n).map fun i => .bool (decide (0 < trI l ((i + 1 : Nat) : Int)))
theorem truthsV_len (n : Nat) (l : List St) : (truthsV n l).length = n := by unfold truthsV; rw [List.length_map, List.length_range]
theorem truthsV_succ (n : Nat) (l : List St) : truthsV (n + 1) l = truthsV n l ++ [.bool (decide (0 < trI l ((n + 1 : Nat) : Int)))] := by unfold truthsV; rw [List.range_succ, List.map_append]; rfl

section
variable {h : Heap} {b vars level : Nat} {O : Nat → Prop} {l : List St}
theorem ttruths_ok (T : TrailOk h b O vars l level) : CallsH Try.prog 44 [.pointer (some ⟨b, 0, none⟩)] h fun r h' =>
    ∃ A' c', r = .slice A' vars c' ∧ RowAt h' A' (truthsV vars l) ∧ (∀ x, blk A' x → h.size ≤ x) ∧ Fr (fun _ => False) h h' := by
  have hv := T.hv
  refine calls_of 19 [.tmp 2] Go.Proofs.Try.func44 rfl rfl rfl (by kernel_rfl) (Nat.le_of_ble_eq_true rfl) ?_
  simp -implicitDefEqProofs (disch := omega) [go_sem]
  refine loopK (fun ρ h' => ρ 0 = .pointer (some ⟨b, 0, none⟩) ∧ ∃ (i : Nat) (A : Option Addr) (c : Nat), ρ 4 = .int .i64 ((i + 1 : Nat) : Int) ∧ i ≤ vars ∧ ρ 3 = .slice A i c ∧ SlAt h' A c (truthsV i l) ∧ (∀ x, blk A x → h.size ≤ x) ∧ Fr (fun _ => False) h h')
    (fun ρ _ => vars + 1 - (intOf (ρ 4)).toNat) (by kernel_rfl) ?_ ?_
  · exact ⟨rfl, 0, none, 0, rfl, by omega, rfl, SlAt.nil _, fun x ⟨_, h, _⟩ => (nomatch h), Fr.refl _ _⟩
  · rintro ρ h1 ⟨r0, i, A, c, r4, hi, r3, S, own, fr⟩
    have T1 := T.fr0 fr
    simp -implicitDefEqProofs (disch := omega) [go_sem, r0, r4, r3]
    refine useC (tvars_ok T1) ?_
    rintro _ h2 ⟨rfl, rfl⟩
    by_cases hlt : i < vars
    · simp -implicitDefEqProofs (disch := omega) [go_sem, r0, r4, r3]
      have ct := ttruth_ok T1 (x := ((i + 1 : Nat) : Int)) (by omega) (by omega)
      refine useC ct ?_
      rintro _ h3 ⟨rfl, rfl⟩
      simp -implicitDefEqProofs (disch := omega) [go_sem, r0, r4, r3]
      refine build1 rfl rfl ?_
      simp -implicitDefEqProofs (disch := omega) [go_sem, r0, r4, r3]
      refine appendO (cap := c) (ws := [.bool (decide (0 < trI l ((i + 1 : Nat) : Int)))]) (by rw [Nat.mul_one]; exact S) own fr (by rw [truthsV_len]; omega) rfl (by omega) (by simp [Value.oneCell']) (by omega) (by omega) ?_
      intro A' c' h4 S' own' fr' _
      rw [← truthsV_succ, Nat.mul_one] at S'
      simp -implicitDefEqProofs (disch := omega) [go_sem, r0, r4, r3]
      exact ⟨⟨i + 1, by omega, by omega, A', c', ⟨rfl, rfl, rfl⟩, S', own', fr'⟩, by omega⟩
    · have e : i = vars := by omega
      subst e
      simp -implicitDefEqProofs (disch := omega) [go_sem, r0, r4, r3]
      exact ⟨S.row, own, fr⟩

theorem pushL_len {x r : Int} {n : Nat} : (pushL vars l x r n).length ≤ l.length + 1 := by unfold pushL; split <;> simp

/-- the document's Push -/
theorem rpush16_ok {A : Option Addr} {n c lv : Nat} {x r : Int} (R : RowAt h A (stVs l)) (hb : ∀ y, blk A y → y < h.size) (hn : n = l.length) (hsm : n < 2 ^ 30) (G : Good vars l) (hv : vars ≤ 16777216) (h0 : -9223372036854775808 ≤ x) (h1 : x ≤ 9223372036854775807) :
    CallsH Try.prog 41 [.slice A n c, .int .i64 vars, .int .i64 x, .int .i64 r, .int .i64 lv] h fun e h' =>
      ∃ A' c', e = .tuple #[.slice A' (pushL vars l x r lv).length c', .int .i64 (pushE vars l x r : Nat)] ∧ RowAt h' A' (stVs (pushL vars l x r lv)) ∧ (∀ y, blk A' y → y < h'.size) ∧ (∀ y, blk A' y → blk A y ∨ h.size ≤ y) ∧ Fr (fun _ => False) h h' := by
  subst hn
  refine calls_of 41 [.tmp 10, .tmp 11] Go.Proofs.Try.func41 rfl rfl rfl (by kernel_rfl) (Nat.le_of_ble_eq_true rfl) ?_
  simp -implicitDefEqProofs (disch := omega) [go_sem]
  refine useC (var12_ok h0 h1) ?_
  rintro _ h' ⟨rfl, rfl⟩
  by_cases c1 : var12 x < 1
  · have ev : varI vars x = 0 := by unfold varI; unfold var12 at c1; split at c1 <;> (rw [if_neg (by omega)])
    have ep : pushE vars l x r = 1 := if_pos (.inl ev)
    have el : pushL vars l x r lv = l := by unfold pushL; rw [ep]; rfl
    simp -implicitDefEqProofs (disch := omega) [go_sem, ep, el]
    exact ⟨R, hb, fun y hy => .inl hy, Fr.refl _ _⟩
  by_cases c2 : vars < var12 x
  · have ev : varI vars x = 0 := by unfold varI; unfold var12 at c1 c2; split at c1 <;> (rw [if_neg (by split at c2 <;> omega)])
    have ep : pushE vars l x r = 1 := if_pos (.inl ev)
    have el : pushL vars l x r lv = l := by unfold pushL; rw [ep]; rfl
    simp -implicitDefEqProofs (disch := omega) [go_sem, ep, el]
    exact ⟨R, hb, fun y hy => .inl hy, Fr.refl _ _⟩
  have hx : x.natAbs ≤ 16777216 := by unfold var12 at c1; split at c1 <;> omega
  have e12 : var12 x = x.natAbs := if_pos hx
  rw [e12] at c1 c2 ⊢
  have ev : varI vars x = x.natAbs := if_pos (by omega)
  by_cases c3 : r < -1
  · have ep : pushE vars l x r = 1 := if_pos (.inr c3)
    have el : pushL vars l x r lv = l := by unfold pushL; rw [ep]; rfl
    simp -implicitDefEqProofs (disch := omega) [go_sem, ep, el]
    exact ⟨R, hb, fun y hy => .inl hy, Fr.refl _ _⟩
  simp -implicitDefEqProofs (disch := omega) [go_sem]
  refine useC (find16_ok R rfl (by omega) (fun s hs => by have := G.rng s hs; omega) x.natAbs hx) ?_
  rintro _ h2 ⟨rfl, rfl⟩
  have b2 := PL_lt l x.natAbs
  cases hf : find l x.natAbs with
  | some k =>
    have ep : pushE vars l x r = 6 := by unfold pushE; rw [if_neg (by omega), hf]; rfl
    have el : pushL vars l x r lv = l := by unfold pushL; rw [ep]; rfl
    have hp : 0 ≤ PL l x.natAbs := by unfold PL; rw [hf]; simp only; omega
    simp -implicitDefEqProofs (disch := omega) [go_sem, ep, el]
    exact ⟨R, hb, fun y hy => .inl hy, Fr.refl _ _⟩
  | none =>
    have ep : pushE vars l x r = 0 := by unfold pushE; rw [if_neg (by omega), hf]; rfl
    have el : pushL vars l x r lv = l ++ [⟨x, r, lv⟩] := by unfold pushL; rw [ep]; rfl
    have hp := (none_of hf).2.1
    simp -implicitDefEqProofs (disch := omega) [go_sem, hp]
    refine build0 ?_
    simp -implicitDefEqProofs (disch := omega) [go_sem]
    have f0 : Fr (fun _ => False) h2 (h2.push (.cells #[] 67)) := (Fr.refl _ _).push
    refine appendN (vs := []) (cap := 0) (SlAt.new (vs := []) (e := 67)) rfl (R.fr0 f0) (by rw [stVs_len]) (by omega) stVs_one (by omega) (by omega) ?_
    intro A1 c1' h3 S3 f3 hA3
    have own3 : ∀ y, blk A1 y → h2.size ≤ y := fun y hy => by
      rcases hA3 y hy with ⟨a, ha, rfl⟩ | h
      · cases ha; exact Nat.le_refl _
      · rw [push_size] at h; omega
    have fr3 : Fr (fun _ => False) h2 h3 := f0.trans' f3 fun y hy ⟨a, ha, e⟩ => by cases ha; simp at e; omega
    simp -implicitDefEqProofs (disch := omega) [go_sem]
    refine build3 ?_
    simp -implicitDefEqProofs (disch := omega) [go_sem]
    refine appendO (ws := [.int .i64 x, .int .i64 r, .int .i64 lv]) S3 own3 fr3 (by rw [List.nil_append, stVs_len]) rfl (by omega) (by simp [Value.oneCell']) (by omega) (by omega) ?_
    intro A2 c2' h4 S4 own4 fr4 _
    simp -implicitDefEqProofs (disch := omega) [go_sem, ep, el]
    refine ⟨?_, fun y hy => S4.blk_lt hy, fun y hy => .inr (own4 y hy), fr4⟩
    rw [stVs_append]
    exact S4.row

/-- the document's Back -/
theorem rback16_ok {A : Option Addr} {n c k : Nat} (R : RowAt h A (stVs l)) (hn : n = l.length) (hsm : n < 2 ^ 30) (hk : k < 2 ^ 30) (hl : ∀ s ∈ l, s.lv < 2 ^ 30) :
    CallsH Try.prog 42 [.slice A n c, .int .i64 k] h fun e h' =>
      ∃ A' c', e = .slice A' (cutTo l k).length c' ∧ RowAt h' A' (stVs (cutTo l k)) ∧ (∀ y, blk A' y → y < h'.size) ∧ (∀ y, blk A' y → h.size ≤ y) ∧ Fr (fun _ => False) h h' := by
  subst hn
  refine calls_of 28 [.tmp 4] Go.Proofs.Try.func42 rfl rfl rfl (by kernel_rfl) (Nat.le_of_ble_eq_true rfl) ?_
  simp -implicitDefEqProofs (disch := omega) [go_sem]
  refine loopK (fun ρ h' => ρ 0 = .slice A l.length c ∧ ρ 1 = .int .i64 k ∧ ∃ (i : Nat) (B : Option Addr) (d : Nat), ρ 6 = .int .i64 i ∧ i ≤ l.length ∧ ρ 5 = .slice B (cutTo (l.take i) k).length d ∧ SlAt h' B (d * 3) (stVs (cutTo (l.take i) k)) ∧
    (∀ x, blk B x → h.size ≤ x) ∧ Fr (fun _ => False) h h') (fun ρ _ => l.length - (intOf (ρ 6)).toNat) (by kernel_rfl) ?_ ?_
  · exact ⟨rfl, rfl, 0, none, 0, rfl, by omega, rfl, SlAt.nil _, fun x ⟨_, h, _⟩ => (nomatch h), Fr.refl _ _⟩
  · rintro ρ h1 ⟨r0, r1, i, B, d, r6, hi, r5, S, own, fr⟩
    by_cases hin : i < l.length
    · have R1 := R.fr0 fr
      obtain ⟨bk, off, rfl, hc⟩ := R1.get (by rw [stVs_len]; omega)
      obtain ⟨s, hs⟩ : ∃ s, l[i]? = some s := ⟨_, List.getElem?_eq_getElem hin⟩
      obtain ⟨q0, q1, q2⟩ := stVs_at hs
      have c0 := hc _ _ q0
      have c1 := hc _ _ q1
      have c2 := hc _ _ q2
      rw [← Nat.add_assoc] at c1 c2
      have hlv := hl s (List.mem_of_getElem? hs)
      have htk : l.take (i + 1) = l.take i ++ [s] := by rw [List.take_add_one, hs]; rfl
      have hcl : (cutTo (l.take i) k).length ≤ i := by
        have := List.length_filter_le (fun s => decide (s.lv ≤ k)) (l.take i)
        rw [List.length_take] at this
        unfold cutTo; omega
      by_cases hle : s.lv ≤ k
      · have ec : cutTo (l.take (i + 1)) k = cutTo (l.take i) k ++ [s] := by
          rw [htk]; unfold cutTo; rw [List.filter_append, List.filter_cons, if_pos (decide_eq_true hle)]; rfl
        simp -implicitDefEqProofs (disch := omega) [go_sem, r0, r1, r5, r6, c0, c1, c2]
        refine build3 ?_
        simp -implicitDefEqProofs (disch := omega) [go_sem]
        refine appendO (ws := [.int .i64 s.lit, .int .i64 s.rs, .int .i64 (s.lv : Int)]) S own fr (by rw [stVs_len]) rfl (by omega) (by simp [Value.oneCell']) (by omega) (by omega) ?_
        intro A2 c2' h4 S4 own4 fr4 _
        have e4 : stVs (cutTo (l.take i) k) ++ [.int .i64 s.lit, .int .i64 s.rs, .int .i64 (s.lv : Int)] = stVs (cutTo (l.take (i + 1)) k) := by rw [ec, stVs_append]; rfl
        rw [e4] at S4
        simp -implicitDefEqProofs (disch := omega) [go_sem, r0, r1, r5, r6]
        exact ⟨⟨i + 1, by omega, by omega, A2, c2', ⟨rfl, by rw [ec]; simp, rfl⟩, S4, own4, fr4⟩, by omega⟩
      · have ec : cutTo (l.take (i + 1)) k = cutTo (l.take i) k := by
          rw [htk]; unfold cutTo; rw [List.filter_append, List.filter_cons, if_neg (by rw [decide_eq_true_eq]; omega), List.filter_nil, List.append_nil]
        simp -implicitDefEqProofs (disch := omega) [go_sem, r0, r1, r5, r6, c0, c1, c2]
        exact ⟨⟨i + 1, by omega, by omega, B, d, ⟨rfl, by rw [ec], rfl⟩, by rw [ec]; exact S, own, fr⟩, by omega⟩
    · have e : i = l.length := by omega
      subst e
      rw [List.take_length] at r5 S
      simp -implicitDefEqProofs (disch := omega) [go_sem, r0, r1, r5, r6]
      exact ⟨S.row, fun y hy => S.blk_lt hy, own, fr⟩
end
end Xe
