/- Layer 30: the document's Groups. -/
import Derived.Test.YtkghjecglmmloaaG14
namespace Xe
open Go Go.Proofs Gr
set_option maxRecDepth 16000
set_option maxHeartbeats 1000000

theorem Gr.GL.full_len {E : Nat → List Nat} {n : Nat} {L : List (List Nat)} (G : Gd E n) (h : GL E n L) (hl : n ≤ L.length) : Full n L := by
  obtain ⟨h1, h2, h3⟩ := h.flat G
  have h4 : ∀ M : List (List Nat), (∀ l ∈ M, IsG E l) → M.length ≤ M.flatten.length := fun M => by
    induction M with
    | nil => intro _; simp
    | cons a M ih =>
      intro hM
      have h5 := ih fun l hl => hM l (List.mem_cons_of_mem _ hl)
      have h6 : 0 < a.length := List.length_pos_iff.2 fun e => by have := (hd_mem (hM a (List.mem_cons_self ..))).1; rw [e] at this; cases this
      rw [List.flatten_cons, List.length_append, List.length_cons]; omega
  have h5 := h4 L h.isG
  intro p hp
  by_cases hx : p ∈ L.flatten
  · obtain ⟨l, hl, hpl⟩ := List.mem_flatten.1 hx
    exact ⟨l, hl, hpl⟩
  · exfalso
    have := Tp.nodup_le (a := p :: L.flatten) (b := List.range n) (List.nodup_cons.2 ⟨hx, h1⟩) fun x hx => by
      rcases List.mem_cons.1 hx with rfl | hx
      · exact List.mem_range.2 hp
      · exact List.mem_range.2 (h2 x hx)
    rw [List.length_cons, List.length_range] at this
    omega
theorem mem_flat {L : List (List Nat)} {x : Nat} : x ∈ L.flatten ↔ Tk L x := by
  rw [List.mem_flatten]; rfl
def fla (L : List (List Nat)) : List Nat := L.flatten
theorem fla_snoc (L : List (List Nat)) (l : List Nat) : fla (L ++ [l]) = fla L ++ l := by unfold fla; simp

/-- what was taken, in its order and by groups -/
structure RG (h h' : Heap) (G : Option Addr) (gc : Nat) (ovs : List Value) (C1 : Nat → Prop) (K : Option Addr) (kc : Nat) (out : List (List Nat)) : Prop where
  M : MkR h h' G gc ovs C1 out
  S : SlAt h' K kc (nts (fla out))
  own : ∀ x, blk K x → h.size ≤ x ∧ ¬ blk G x ∧ ¬ C1 x
theorem RG.fr0 {h h' h'' : Heap} {G : Option Addr} {gc : Nat} {ovs : List Value} {C1 : Nat → Prop} {K : Option Addr} {kc : Nat} {out : List (List Nat)} (R : RG h h' G gc ovs C1 K kc out) (f : Fr (fun _ => False) h' h'') : RG h h'' G gc ovs C1 K kc out :=
  ⟨R.M.fr0 f, R.S.fr f fun _ _ k => k, R.own⟩

def RdP (l : List Nat) (T : Nat → Prop) (rl : List Nat) (i : Nat) (rd : Bool) : Prop := rd = true ↔ ∀ x ∈ rl.take i, x ∈ l ∨ T x
section
variable {h : Heap} {A : Option Addr} {m c : Nat} {E : Nat → List Nat} {C : Nat → Prop}
theorem rgroups_ok (M : GrM h C A m E) (hm : m ≤ 4096) (hdeg : ∀ i, i < m → (E i).length ≤ 4096) (hgd : Gd E m) :
    CallsH Try.prog 71 [.slice A m c] h fun r h' => Fr (fun _ => False) h h' ∧ ∃ G gc ovs C1 out, r = .slice G ovs.length gc ∧ MkR h h' G gc ovs C1 out ∧ GL E m out ∧ Full m out := by
  refine calls_of 65 [.tmp 2] Go.Proofs.Try.func71 rfl rfl rfl (by kernel_rfl) (Nat.le_of_ble_eq_true rfl) ?_
  simp -implicitDefEqProofs (disch := omega) [go_sem]
  refine loopK (fun ρ h' => ρ 0 = .slice A m c ∧ ∃ (t : Nat) (G : Option Addr) (gc : Nat) (ovs : List Value) (C1 : Nat → Prop) (K : Option Addr) (kc : Nat) (out : List (List Nat)), ρ 3 = .slice G out.length gc ∧ ρ 4 = .slice K (fla out).length kc ∧ ρ 5 = .int .i64 t ∧ t ≤ m ∧ RG h h' G gc ovs C1 K kc out ∧ GL E m out ∧ (t ≤ out.length ∨ Full m out) ∧ Fr (fun _ => False) h h')
    (fun ρ _ => m - (intOf (ρ 5)).toNat) (by kernel_rfl) ?_ ?_
  · exact ⟨rfl, 0, none, 0, [], fun _ => False, none, 0, [], rfl, rfl, rfl, by omega, ⟨⟨SlAt.nil _, ⟨rfl, fun i l hl => by simp at hl⟩, fun x ⟨a, ha, _⟩ => (by cases ha), fun _ h => h.elim, Nat.le_refl _⟩, SlAt.nil _, fun x ⟨a, ha, _⟩ => (by cases ha)⟩, .nil, .inl (by omega), Fr.refl _ _⟩
  · rintro ρ h2 ⟨r0, t, G, gc, ovs, C1, K, kc, out, r3, r4, r5, ht, K2, gl, hfull, f2⟩
    have hmu : (intOf (ρ 5)).toNat = t := by rw [r5]; rfl
    have hol := gl.len hgd
    obtain ⟨_, _, hfl⟩ := gl.flat hgd
    have hov := K2.M.V.len
    by_cases htm : t < m
    · simp -implicitDefEqProofs (disch := omega) [go_sem, r0, r3, r4, r5]
      refine loopK (fun ρ h' => ρ 0 = .slice A m c ∧ ρ 3 = .slice G out.length gc ∧ ρ 4 = .slice K (fla out).length kc ∧ ρ 5 = .int .i64 t ∧ ∃ p : Nat, ρ 6 = .int .i64 p ∧ p ≤ m ∧ RG h h' G gc ovs C1 K kc out ∧ Fr (fun _ => False) h h' ∧ ∀ q, q < p → ¬ Tk out q → ¬ Rdy E (Tk out) q) (fun ρ _ => m - (intOf (ρ 6)).toNat) (by kernel_rfl) ?_ ?_
      · exact ⟨r0, r3, r4, r5, 0, rfl, by omega, K2, f2, fun q hq => by omega⟩
      · clear r0 r3 r4 r5 K2 f2
        rintro ρ h3 ⟨r0, r3, r4, r5, p, r6, hp, K3, f3, hno⟩
        have hmu2 : (intOf (ρ 6)).toNat = p := by rw [r6]; rfl
        have hnext : (¬ Tk out p → ¬ Rdy E (Tk out) p) → ∀ q, q < p + 1 → ¬ Tk out q → ¬ Rdy E (Tk out) q := fun h q hq => by
          by_cases e : q = p
          · rw [e]; exact h
          · exact hno q (by omega)
        by_cases hpm : p < m
        · have hfl' : (fla out).length ≤ m := hfl
          simp -implicitDefEqProofs (disch := omega) [go_sem, r0, r3, r4, r5, r6]
          refine useC (has12_ok (l := toI (fla out)) K3.S.row (by rw [toI_len]) (by omega) (p : Int)) ?_
          rintro _ h4 ⟨rfl, rfl⟩
          have hmem : ∀ x : Nat, ((x : Int) ∈ toI (fla out)) ↔ Tk out x := fun x => by rw [mem_toI]; exact mem_flat
          by_cases htk : Tk out p
          · have hm' := (hmem p).2 htk
            simp -implicitDefEqProofs (disch := omega) [go_sem, r0, r3, r4, r5, r6, hm']
            exact ⟨⟨p + 1, by omega, by omega, K3, f3, hnext fun h => absurd htk h⟩, by omega⟩
          · have hm' : ¬ _ := fun h => htk ((hmem p).1 h)
            simp -implicitDefEqProofs (disch := omega) [go_sem, r0, r3, r4, r5, r6, hm']
            refine useC (rgroup_ok (M.fr0 f3) hm hdeg hgd hpm) ?_
            rintro _ h5 ⟨f5, LA, lc, rfl, S5, own5⟩
            obtain ⟨l, hl⟩ : ∃ l, l = those (SC E p) m := ⟨_, rfl⟩
            have hlm : ∀ x, x ∈ l ↔ x < m ∧ SC E p x := fun x => by rw [hl]; exact mem_those
            have hll := those_len (SC E p) m
            have hgo : GrpOf E l p := ⟨by rw [hl]; exact inc_those _ _, fun x => by
              rw [hlm]
              exact ⟨fun k => k.2, fun k => ⟨k.1.lt hgd hpm, k⟩⟩⟩
            rw [← hl] at S5 hll ⊢
            simp -implicitDefEqProofs (disch := omega) [go_sem, r0, r3, r4, r5, r6]
            refine buildC1 rfl rfl ?_
            intro X6 h6 S6 o6 f6
            simp -implicitDefEqProofs (disch := omega) [go_sem, r0, r3, r4, r5, r6]
            refine useC (rreach_ok (((M.fr0 f3).fr0 f5).fr0 f6) hm hdeg hgd (fl := [(p : Int)]) (fc := 1) S6.row (by simp) (fun x hx => by simp at hx; omega)) ?_
            rintro _ h7 ⟨f7, K7, kc7, rfl, S7, own7⟩
            have hl7 := those_len (RS E m [(p : Int)]) m
            obtain ⟨rl, hrl⟩ : ∃ rl, rl = those (RS E m [(p : Int)]) m := ⟨_, rfl⟩
            have hrm : ∀ x, x ∈ rl ↔ x < m ∧ Rch E p x := fun x => by rw [hrl, mem_those, RS_one hpm]
            rw [← hrl] at S7 hl7 ⊢
            have f47 := (f5.trans f6).trans f7
            have K7' := K3.fr0 f47
            have S57 := S5.fr (f6.trans f7) fun _ _ k => k
            have f37 := f3.trans f47
            simp -implicitDefEqProofs (disch := omega) [go_sem, r0, r3, r4, r5, r6]
            refine loopK (fun ρ h' => ρ 0 = .slice A m c ∧ ρ 3 = .slice G out.length gc ∧ ρ 4 = .slice K (fla out).length kc ∧ ρ 5 = .int .i64 t ∧ ρ 6 = .int .i64 p ∧ ρ 7 = .slice LA l.length lc ∧ ρ 9 = .slice K7 rl.length kc7 ∧ h' = h7 ∧
              ∃ (i : Nat) (rd : Bool), ρ 8 = .bool rd ∧ ρ 10 = .int .i64 i ∧ i ≤ rl.length ∧ RdP l (Tk out) rl i rd) (fun ρ _ => rl.length - (intOf (ρ 10)).toNat) (by kernel_rfl) ?_ ?_
            · exact ⟨r0, r3, r4, r5, r6, rfl, rfl, rfl, 0, true, rfl, rfl, by omega, by unfold RdP; simp⟩
            · clear r0 r3 r4 r5 r6
              rintro ρ h8 ⟨r0, r3, r4, r5, r6, r7, r9, rfl, i, rd, r8, r10, hi, hrd⟩
              have hmu3 : (intOf (ρ 10)).toNat = i := by rw [r10]; rfl
              by_cases hil : i < rl.length
              · obtain ⟨q, hq⟩ : ∃ q, rl[i]? = some q := ⟨_, List.getElem?_eq_getElem hil⟩
                obtain ⟨kb, rfl, _, _, hcK⟩ := S7.base (by rw [nts_len]; omega)
                have cq := hcK i _ (nts_at hq)
                have et : rl.take (i + 1) = rl.take i ++ [q] := by rw [List.take_add_one, hq]; rfl
                have hstep : ∀ b : Bool, (b = true ↔ (rd = true ∧ (q ∈ l ∨ Tk out q))) → RdP l (Tk out) rl (i + 1) b := fun b hb => by
                  unfold RdP at hrd ⊢
                  rw [hb, hrd, et]
                  constructor
                  · rintro ⟨h1, h2⟩ x hx
                    rcases List.mem_append.1 hx with hx | hx
                    · exact h1 x hx
                    · rw [List.mem_singleton] at hx; rw [hx]; exact h2
                  · exact fun h => ⟨fun x hx => h x (List.mem_append_left _ hx), h q (List.mem_append_right _ (List.mem_singleton_self _))⟩
                cases rd with
                | false =>
                  simp -implicitDefEqProofs (disch := omega) [go_sem, r0, r3, r4, r5, r6, r7, r8, r9, r10]
                  exact ⟨⟨i + 1, by omega, by omega, hstep false (by simp)⟩, by omega⟩
                | true =>
                  have hmq : ((q : Int) ∈ toI l) ↔ q ∈ l := mem_toI
                  simp -implicitDefEqProofs (disch := omega) [go_sem, r0, r3, r4, r5, r6, r7, r8, r9, r10, cq]
                  refine useC (has12_ok (l := toI l) S57.row (by rw [toI_len]) (by omega) (q : Int)) ?_
                  rintro _ h9 ⟨rfl, rfl⟩
                  by_cases hql : q ∈ l
                  · have hm' := hmq.2 hql
                    simp -implicitDefEqProofs (disch := omega) [go_sem, r0, r3, r4, r5, r6, r7, r8, r9, r10, hm']
                    exact ⟨⟨i + 1, by omega, by omega, hstep true (by simp [hql])⟩, by omega⟩
                  · have hm' : ¬ _ := fun h => hql (hmq.1 h)
                    simp -implicitDefEqProofs (disch := omega) [go_sem, r0, r3, r4, r5, r6, r7, r8, r9, r10, hm', cq]
                    refine useC (has12_ok (l := toI (fla out)) K7'.S.row (by rw [toI_len]) (by omega) (q : Int)) ?_
                    rintro _ h9 ⟨rfl, rfl⟩
                    by_cases hqt : Tk out q
                    · have hm2 := (hmem q).2 hqt
                      simp -implicitDefEqProofs (disch := omega) [go_sem, r0, r3, r4, r5, r6, r7, r8, r9, r10, hm2]
                      exact ⟨⟨i + 1, by omega, by omega, hstep true (by simp [hqt])⟩, by omega⟩
                    · have hm2 : ¬ _ := fun h => hqt ((hmem q).1 h)
                      simp -implicitDefEqProofs (disch := omega) [go_sem, r0, r3, r4, r5, r6, r7, r8, r9, r10, hm2]
                      exact ⟨⟨i + 1, by omega, by omega, hstep false (by simp [hqt, hql])⟩, by omega⟩
              · have e : i = rl.length := by omega
                unfold RdP at hrd
                rw [e, List.take_length] at hrd
                have hR : rd = true ↔ Rdy E (Tk out) p := by
                  rw [hrd]
                  constructor
                  · intro h x hx
                    rcases h x ((hrm x).2 ⟨hx.lt hgd hpm, hx⟩) with k | k
                    · exact .inl ((hlm x).1 k).2.2
                    · exact .inr k
                  · intro h x hx
                    have := (hrm x).1 hx
                    rcases h x this.2 with k | k
                    · exact .inl ((hlm x).2 ⟨this.1, this.2, k⟩)
                    · exact .inr k
                cases rd with
                | false =>
                  simp -implicitDefEqProofs (disch := omega) [go_sem, r0, r3, r4, r5, r6, r7, r8, r9, r10]
                  exact ⟨⟨p + 1, by omega, by omega, K7', f37, hnext fun _ h => by have := hR.2 h; cases this⟩, by omega⟩
                | true =>
                  have hN : Nxt E m (Tk out) l := ⟨p, hpm, htk, hR.1 rfl, hno, hgo⟩
                  simp -implicitDefEqProofs (disch := omega) [go_sem, r0, r3, r4, r5, r6, r7, r8, r9, r10]
                  refine build1 rfl rfl ?_
                  obtain ⟨h9, e9⟩ : ∃ h9, h9 = h8.push (.cells #[.slice LA l.length lc] 32) := ⟨_, rfl⟩
                  rw [← e9]
                  have f9 : Fr (fun _ => False) h8 h9 := by rw [e9]; exact (Fr.refl _ _).push
                  have K9 := K7'.fr0 f9
                  have S59 := S57.fr f9 fun _ _ k => k
                  simp -implicitDefEqProofs (disch := omega) [go_sem, r0, r3, r4, r5, r6, r7, r8, r9, r10]
                  refine append1 (v := .slice LA l.length lc) K9.M.S hov.symm (by rw [e9, hcell_push_new]; rfl) rfl (by omega) (by omega) ?_
                  intro G' gc' hA SA fA ownA
                  have z5 := f37.size
                  have z9 := f9.size
                  have zA := fA.size
                  have hLA : ∀ x, blk LA x → h.size ≤ x ∧ ¬ blk G x ∧ ¬ blk K x ∧ ¬ C1 x := fun x hx => by
                    have h1 := own5 x hx
                    have h2 := f3.size
                    refine ⟨by omega, fun k => by have := K3.M.S.blk_lt k; omega, fun k => by have := K3.S.blk_lt k; omega, fun k => by have := (K3.M.ownC x k).2.1; omega⟩
                  have MA := K9.M.snoc SA fA ownA S59 fun x hx => ⟨(hLA x hx).1, (hLA x hx).2.1⟩
                  have KA : SlAt hA K kc (nts (fla out)) := K9.S.fr fA fun x hx k => (K9.own x hx).2.1 k
                  have LAA : SlAt hA LA lc (nts l) := S59.fr fA fun x hx k => (hLA x hx).2.1 k
                  simp -implicitDefEqProofs (disch := omega) [go_sem, r0, r3, r4, r5, r6, r7, r8, r9, r10]
                  refine appendN (sz := 1) (by rw [Nat.mul_one]; exact KA) (by rw [nts_len, Nat.mul_one]) LAA.row (by rw [nts_len, Nat.mul_one]) (by omega) nts_one (by omega) (by omega) ?_
                  intro K' kc' hB SB fB ownB
                  rw [Nat.mul_one, ← nts_append, ← fla_snoc] at SB
                  have zB := fB.size
                  have eL : (fla out).length + l.length = (fla (out ++ [l])).length := by rw [fla_snoc, List.length_append]
                  rw [eL]
                  simp -implicitDefEqProofs (disch := omega) [go_sem, r0, r3, r4, r5, r6, r7, r8, r9, r10]
                  have nKG' : ∀ x, blk K x → ¬ blk G' x := fun x hx k => by
                    rcases ownA x k with k | k
                    · exact (K9.own x hx).2.1 k
                    · have := K9.S.blk_lt hx; omega
                  have nKC : ∀ x, blk K x → ¬ (C1 x ∨ blk LA x) := fun x hx k => by
                    rcases k with k | k
                    · exact (K9.own x hx).2.2 k
                    · exact (hLA x k).2.2.1 hx
                  have nK' : ∀ x, blk K' x → blk K x ∨ hA.size ≤ x := fun x hx => ownB x hx
                  have MB : MkR h hB G' gc' (ovs ++ [.slice LA l.length lc]) (fun x => C1 x ∨ blk LA x) (out ++ [l]) := {
                    S := MA.S.fr fB fun x hx k => nKG' x k hx
                    V := MA.V.fr fB fun x k k' => nKC x k k'
                    own := MA.own
                    ownC := fun x k => by have := MA.ownC x k; exact ⟨this.1, by omega, this.2.2⟩
                    z := Nat.le_trans MA.z zB }
                  have RB : RG h hB G' gc' (ovs ++ [.slice LA l.length lc]) (fun x => C1 x ∨ blk LA x) K' kc' (out ++ [l]) := ⟨MB, SB, fun x hx => by
                    rcases nK' x hx with k | k
                    · exact ⟨(K9.own x k).1, nKG' x k, nKC x k⟩
                    · exact ⟨by have := MA.z; omega, fun k2 => by have := MA.S.blk_lt k2; omega, fun k2 => by have := (MA.ownC x k2).2.1; omega⟩⟩
                  have fB' : Fr (fun _ => False) h hB := ((f37.trans f9).trans' fA fun x hx k => by have := K3.M.own x k; omega).trans' fB fun x hx k => by have := (K3.own x k).1; omega
                  refine ⟨?_, by omega⟩
                  exact ⟨t + 1, G', gc', ovs ++ [.slice LA l.length lc], _, K', kc', out ++ [l], ⟨rfl, by simp, rfl⟩, ⟨rfl, rfl, rfl⟩, by omega, by omega, RB, gl.snoc hN,
                    hfull.imp (fun k => by simp; omega) (fun k => absurd (k p hpm) htk), fB'⟩
        · have e : p = m := by omega
          subst e
          have hF : Full p out := fun q hq => by
            by_cases k : Tk out q
            · exact k
            · obtain ⟨x, h1, h2, h3⟩ := ready_ex hgd ⟨q, hq, k⟩
              exact absurd h3 (hno x h1 h2)
          simp -implicitDefEqProofs (disch := omega) [go_sem, r0, r3, r4, r5, r6]
          exact ⟨⟨t + 1, G, gc, ovs, C1, K, kc, out, ⟨rfl, rfl, rfl⟩, ⟨rfl, rfl, rfl⟩, by omega, by omega, K3, gl, .inr hF, f3⟩, by omega⟩
    · have e : t = m := by omega
      subst e
      have hF : Full t out := hfull.elim (fun k => gl.full_len hgd k) id
      simp -implicitDefEqProofs (disch := omega) [go_sem, r0, r3, r4, r5]
      exact ⟨f2, G, gc, ovs, ⟨rfl, hov.symm, rfl⟩, C1, out, K2.M, gl, hF⟩
end
end Xe
