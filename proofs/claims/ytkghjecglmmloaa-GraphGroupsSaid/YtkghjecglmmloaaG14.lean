/- Layer 30: the document's Group, Turned. -/
import Derived.Test.YtkghjecglmmloaaG13
namespace Xe
open Go Go.Proofs Gr
set_option maxRecDepth 16000
set_option maxHeartbeats 1000000

def SC (E : Nat → List Nat) (p x : Nat) : Prop := Rch E p x ∧ Rch E x p
noncomputable def selG (E : Nat → List Nat) (p : Nat) (l : List Nat) : List Nat := by
  classical
  exact l.filter fun x => decide (Rch E x p)
theorem selG_snoc_y {E : Nat → List Nat} {p q : Nat} {l : List Nat} (h : Rch E q p) : selG E p (l ++ [q]) = selG E p l ++ [q] := by
  classical
  unfold selG
  rw [List.filter_append]; simp [h]
theorem selG_snoc_n {E : Nat → List Nat} {p q : Nat} {l : List Nat} (h : ¬ Rch E q p) : selG E p (l ++ [q]) = selG E p l := by
  classical
  unfold selG
  rw [List.filter_append]; simp [h]
theorem selG_nil (E : Nat → List Nat) (p : Nat) : selG E p [] = [] := by classical unfold selG; simp
theorem selG_len (E : Nat → List Nat) (p : Nat) (l : List Nat) : (selG E p l).length ≤ l.length := by classical unfold selG; exact List.length_filter_le _ _
theorem RS_one {E : Nat → List Nat} {m p : Nat} (hp : p < m) {x : Nat} : RS E m [(p : Int)] x ↔ Rch E p x := by
  constructor
  · rintro ⟨y, h1, _, h3⟩
    rw [List.mem_singleton] at h1
    have : y = p := by omega
    exact this ▸ h3
  · exact fun h => ⟨p, List.mem_singleton_self _, hp, h⟩
theorem those_congr {S T : Nat → Prop} {n : Nat} (h : ∀ x, x < n → (S x ↔ T x)) : those S n = those T n := by
  refine (inc_those S n).eq (inc_those T n) fun x => ?_
  rw [mem_those, mem_those]
  exact ⟨fun ⟨h1, h2⟩ => ⟨h1, (h x h1).1 h2⟩, fun ⟨h1, h2⟩ => ⟨h1, (h x h1).2 h2⟩⟩
theorem selG_all {E : Nat → List Nat} {m p : Nat} (hp : p < m) : selG E p (those (RS E m [(p : Int)]) m) = those (SC E p) m := by
  classical
  unfold selG
  refine Inc.eq ((inc_those _ _).filter _) (inc_those _ _) fun x => ?_
  rw [List.mem_filter, mem_those, mem_those, RS_one hp, decide_eq_true_eq]
  exact ⟨fun ⟨⟨a, b⟩, c⟩ => ⟨a, b, c⟩, fun ⟨a, b, c⟩ => ⟨⟨a, b⟩, c⟩⟩
theorem those_len (S : Nat → Prop) (n : Nat) : (those S n).length ≤ n := by
  have := Tp.nodup_le (a := those S n) (b := List.range n) (inc_those S n).nd fun x hx => List.mem_range.2 (mem_those.1 hx).1
  rwa [List.length_range] at this

section
variable {h : Heap} {A : Option Addr} {m c : Nat} {E : Nat → List Nat} {C : Nat → Prop}
theorem rgroup_ok (M : GrM h C A m E) (hm : m ≤ 4096) (hdeg : ∀ i, i < m → (E i).length ≤ 4096) (hgd : Gd E m) {p : Nat} (hp : p < m) :
    CallsH Try.prog 98 [.slice A m c, .int .i64 p] h fun r h' => Fr (fun _ => False) h h' ∧ ∃ K kc, r = .slice K (those (SC E p) m).length kc ∧ SlAt h' K kc (nts (those (SC E p) m)) ∧ ∀ x, blk K x → h.size ≤ x := by
  refine calls_of 35 [.tmp 4] Go.Proofs.Try.func98 rfl rfl rfl (by kernel_rfl) (Nat.le_of_ble_eq_true rfl) ?_
  simp -implicitDefEqProofs (disch := omega) [go_sem]
  refine buildC1 rfl rfl ?_
  intro X1 h1 S1 o1 f1
  simp -implicitDefEqProofs (disch := omega) [go_sem]
  refine useC (rreach_ok (M.fr0 f1) hm hdeg hgd (fl := [(p : Int)]) (fc := 1) S1.row (by simp) (fun x hx => by simp at hx; omega)) ?_
  rintro _ h2 ⟨f2, K, kc, rfl, S2, own2⟩
  obtain ⟨l, hl⟩ : ∃ l, l = those (RS E m [(p : Int)]) m := ⟨_, rfl⟩
  have hll := those_len (RS E m [(p : Int)]) m
  have hsel := selG_all (E := E) hp
  have hlm : ∀ x ∈ l, x < m := fun x hx => by rw [hl] at hx; exact (mem_those.1 hx).1
  rw [← hl] at S2 hll hsel ⊢
  have f12 := f1.trans f2
  have M2 := M.fr0 f12
  simp -implicitDefEqProofs (disch := omega) [go_sem]
  refine loopK (fun ρ h' => ρ 0 = .slice A m c ∧ ρ 1 = .int .i64 p ∧ ρ 6 = .slice K l.length kc ∧ ∃ (i : Nat) (O : Option Addr) (oc : Nat), ρ 5 = .slice O (selG E p (l.take i)).length oc ∧ ρ 7 = .int .i64 i ∧ i ≤ l.length ∧ SlAt h' O oc (nts (selG E p (l.take i))) ∧ (∀ x, blk O x → h2.size ≤ x) ∧ Fr (fun _ => False) h2 h')
    (fun ρ _ => l.length - (intOf (ρ 7)).toNat) (by kernel_rfl) ?_ ?_
  · exact ⟨rfl, rfl, rfl, 0, none, 0, by rw [List.take_zero, selG_nil]; rfl, rfl, by omega, by rw [List.take_zero, selG_nil]; exact SlAt.nil _, fun x ⟨a, ha, _⟩ => (by cases ha), Fr.refl _ _⟩
  · rintro ρ h3 ⟨r0, r1, r6, i, O, oc, r5, r7, hi, S3, own3, f3⟩
    have hmu : (intOf (ρ 7)).toNat = i := by rw [r7]; rfl
    have z3 := f3.size
    by_cases hil : i < l.length
    · obtain ⟨q, hq⟩ : ∃ q, l[i]? = some q := ⟨_, List.getElem?_eq_getElem hil⟩
      have hqn := hlm q (List.mem_of_getElem? hq)
      have et : l.take (i + 1) = l.take i ++ [q] := by rw [List.take_add_one, hq]; rfl
      have hsl := selG_len E p (l.take i)
      rw [List.length_take] at hsl
      obtain ⟨kb, rfl, _, _, hcK⟩ := S2.base (by rw [nts_len]; omega)
      have cq0 := hcK i _ (nts_at hq)
      have cq := (f3.cell (hcell_lt cq0) id).trans cq0
      simp -implicitDefEqProofs (disch := omega) [go_sem, r0, r1, r6, r5, r7, cq]
      refine buildC1 rfl rfl ?_
      intro X4 h4 S4 o4 f4
      simp -implicitDefEqProofs (disch := omega) [go_sem, r0, r1, r6, r5, r7]
      refine useC (rreach_ok ((M2.fr0 f3).fr0 f4) hm hdeg hgd (fl := [(q : Int)]) (fc := 1) S4.row (by simp) (fun x hx => by simp at hx; omega)) ?_
      rintro _ h5 ⟨f5, K5, kc5, rfl, S5, own5⟩
      have hl5 := those_len (RS E m [(q : Int)]) m
      simp -implicitDefEqProofs (disch := omega) [go_sem, r0, r1, r6, r5, r7]
      refine useC (has12_ok (l := toI (those (RS E m [(q : Int)]) m)) S5.row (by rw [toI_len]) (by omega) (p : Int)) ?_
      rintro _ h6 ⟨rfl, rfl⟩
      have f36 := f4.trans f5
      have hmem : ((p : Int) ∈ toI (those (RS E m [(q : Int)]) m)) ↔ Rch E q p := by
        rw [mem_toI, mem_those, RS_one hqn]
        exact ⟨fun h => h.2, fun h => ⟨hp, h⟩⟩
      have z36 := f36.size
      by_cases hr : Rch E q p
      · have hm' := hmem.2 hr
        have es := selG_snoc_y (l := l.take i) hr
        rw [← et] at es
        have cq6 := (f36.cell (hcell_lt cq) id).trans cq
        simp -implicitDefEqProofs (disch := omega) [go_sem, r0, r1, r6, r5, r7, hm', cq6]
        refine build1 rfl rfl ?_
        obtain ⟨h7, e7⟩ : ∃ h7, h7 = h6.push (.cells #[.int .i64 (q : Int)] 3) := ⟨_, rfl⟩
        rw [← e7]
        have f7 : Fr (fun _ => False) h6 h7 := by rw [e7]; exact (Fr.refl _ _).push
        have z7 := f7.size
        simp -implicitDefEqProofs (disch := omega) [go_sem, r0, r1, r6, r5, r7]
        refine append1 (v := .int .i64 (q : Int)) ((S3.fr f36 fun _ _ k => k).fr f7 fun _ _ k => k) (by rw [nts_len]) (by rw [e7, hcell_push_new]; rfl) rfl (by omega) (by omega) ?_
        intro O' oc' h8 S8 f8 own8
        rw [nts_snoc, ← es] at S8
        have hlen : (selG E p (l.take i)).length + 1 = (selG E p (l.take (i + 1))).length := by rw [es, List.length_append]; rfl
        rw [hlen]
        simp -implicitDefEqProofs (disch := omega) [go_sem, r0, r1, r6, r5, r7]
        exact ⟨⟨i + 1, O', oc', ⟨rfl, rfl, rfl⟩, by omega, by omega, S8, fun x hx => (own8 x hx).elim (own3 x) fun k => by omega, ((f3.trans f36).trans f7).trans' f8 fun x hx k => by have := own3 x k; omega⟩, by omega⟩
      · have hm' : ¬ _ := fun h => hr (hmem.1 h)
        have es := selG_snoc_n (l := l.take i) hr
        rw [← et] at es
        simp -implicitDefEqProofs (disch := omega) [go_sem, r0, r1, r6, r5, r7, hm']
        exact ⟨⟨i + 1, O, oc, ⟨rfl, by rw [es], rfl⟩, by omega, by omega, by rw [es]; exact S3.fr f36 fun _ _ k => k, own3, f3.trans f36⟩, by omega⟩
    · have e : i = l.length := by omega
      subst e
      rw [List.take_length, hsel] at r5 S3
      have z12 := f12.size
      simp -implicitDefEqProofs (disch := omega) [go_sem, r0, r1, r6, r5, r7]
      exact ⟨f12.trans f3, O, oc, ⟨rfl, rfl⟩, S3, fun x hx => by have := own3 x hx; omega⟩

/-- rows that are made one by one: their blocks, and the outer row's -/
structure MkR (h0 h : Heap) (G : Option Addr) (gc : Nat) (ovs : List Value) (C1 : Nat → Prop) (L : List (List Nat)) : Prop where
  S : SlAt h G gc ovs
  V : RowsN h C1 ovs L
  own : ∀ x, blk G x → h0.size ≤ x
  ownC : ∀ x, C1 x → h0.size ≤ x ∧ x < h.size ∧ ¬ blk G x
  z : h0.size ≤ h.size
theorem MkR.fr0 {h0 h h' : Heap} {G : Option Addr} {gc : Nat} {ovs : List Value} {C1 : Nat → Prop} {L : List (List Nat)} (M : MkR h0 h G gc ovs C1 L) (f : Fr (fun _ => False) h h') : MkR h0 h' G gc ovs C1 L :=
  ⟨M.S.fr f fun _ _ k => k, M.V.fr f fun _ k => k.elim, M.own, fun x k => by have h1 := M.ownC x k; have h2 := f.size; exact ⟨h1.1, by omega, h1.2.2⟩, Nat.le_trans M.z f.size⟩
/-- one more -/
theorem MkR.snoc {h0 h h' : Heap} {G G' : Option Addr} {gc gc' : Nat} {ovs : List Value} {C1 : Nat → Prop} {L : List (List Nat)} (M : MkR h0 h G gc ovs C1 L) {I : Option Addr} {ic : Nat} {l : List Nat} (S' : SlAt h' G' gc' (ovs ++ [.slice I l.length ic])) (f : Fr (blk G) h h') (own : ∀ x, blk G' x → blk G x ∨ h.size ≤ x)
    (hI : SlAt h I ic (nts l)) (oI : ∀ x, blk I x → h0.size ≤ x ∧ ¬ blk G x) : MkR h0 h' G' gc' (ovs ++ [.slice I l.length ic]) (fun x => C1 x ∨ blk I x) (L ++ [l]) where
  S := S'
  V := ((M.V.fr f fun x k k' => (M.ownC x k').2.2 k).ext fun x k => .inl k).snoc (hI.row.fr f fun x hx k => (oI x hx).2 k) fun x k => .inr k
  own x hx := (own x hx).elim (M.own x) fun k => Nat.le_trans M.z k
  z := Nat.le_trans M.z f.size
  ownC x k := by
    have z := f.size
    rcases k with k | k
    · have := M.ownC x k
      exact ⟨this.1, by omega, fun k2 => (own x k2).elim this.2.2 fun k => by omega⟩
    · have := hI.blk_lt k
      exact ⟨(oI x k).1, by omega, fun k2 => (own x k2).elim (oI x k).2 fun k => by omega⟩

theorem rturned_ok (M : GrM h C A m E) (hm : m ≤ 4096) (hdeg : ∀ i, i < m → (E i).length ≤ 4096) :
    CallsH Try.prog 72 [.slice A m c] h fun r h' => Fr (fun _ => False) h h' ∧ ∃ G gc ovs C1, r = .slice G ovs.length gc ∧ MkR h h' G gc ovs C1 (trn E m) := by
  refine calls_of 34 [.tmp 2] Go.Proofs.Try.func72 rfl rfl rfl (by kernel_rfl) (Nat.le_of_ble_eq_true rfl) ?_
  simp -implicitDefEqProofs (disch := omega) [go_sem]
  refine loopK (fun ρ h' => ρ 0 = .slice A m c ∧ ∃ (q : Nat) (G : Option Addr) (gc : Nat) (ovs : List Value) (C1 : Nat → Prop), ρ 3 = .slice G q gc ∧ ρ 4 = .int .i64 q ∧ q ≤ m ∧ ovs.length = q ∧ MkR h h' G gc ovs C1 ((List.range q).map fun q => who E q m) ∧ Fr (fun _ => False) h h') (fun ρ _ => m - (intOf (ρ 4)).toNat) (by kernel_rfl) ?_ ?_
  · exact ⟨rfl, 0, none, 0, [], fun _ => False, rfl, rfl, by omega, rfl, ⟨SlAt.nil _, ⟨rfl, fun i l hl => by simp at hl⟩, fun x ⟨a, ha, _⟩ => (by cases ha), fun _ h => h.elim, Nat.le_refl _⟩, Fr.refl _ _⟩
  · rintro ρ h2 ⟨r0, q, G, gc, ovs, C1, r3, r4, hq, hov, K2, f2⟩
    have hmu : (intOf (ρ 4)).toNat = q := by rw [r4]; rfl
    by_cases hqm : q < m
    · have M2 := M.fr0 f2
      simp -implicitDefEqProofs (disch := omega) [go_sem, r0, r3, r4]
      refine loopK (fun ρ h' => ρ 0 = .slice A m c ∧ ρ 3 = .slice G q gc ∧ ρ 4 = .int .i64 q ∧ ∃ (p : Nat) (I : Option Addr) (ic : Nat), ρ 5 = .slice I (who E q p).length ic ∧ ρ 6 = .int .i64 p ∧ p ≤ m ∧ SlAt h' I ic (nts (who E q p)) ∧ (∀ x, blk I x → h2.size ≤ x) ∧ Fr (fun _ => False) h2 h') (fun ρ _ => m - (intOf (ρ 6)).toNat) (by kernel_rfl) ?_ ?_
      · exact ⟨r0, r3, r4, 0, none, 0, rfl, rfl, by omega, SlAt.nil _, fun x ⟨a, ha, _⟩ => (by cases ha), Fr.refl _ _⟩
      · clear r0 r3 r4
        rintro ρ h3 ⟨r0, r3, r4, p, I, ic, r5, r6, hp, S3, own3, f3⟩
        have hmu2 : (intOf (ρ 6)).toNat = p := by rw [r6]; rfl
        have hwl := who_len E q p
        have hws := who_succ E q p
        have z3 := f3.size
        have z2 := f2.size
        by_cases hpm : p < m
        · obtain ⟨gk, off, D, d, rfl, g0, gR, _, _⟩ := (M2.fr0 f3).at' p hpm
          have hdp := hdeg p hpm
          simp -implicitDefEqProofs (disch := omega) [go_sem, r0, r3, r4, r5, r6, g0]
          refine useC (has12_ok (l := toI (E p)) gR (by rw [toI_len]) (by omega) (q : Int)) ?_
          rintro _ h4 ⟨rfl, rfl⟩
          have hmem : ((q : Int) ∈ toI (E p)) ↔ q ∈ E p := mem_toI
          by_cases hin : q ∈ E p
          · have hm' := hmem.2 hin
            rw [if_pos hin] at hws
            simp -implicitDefEqProofs (disch := omega) [go_sem, r0, r3, r4, r5, r6, hm']
            refine build1 rfl rfl ?_
            obtain ⟨h5, e5⟩ : ∃ h5, h5 = h4.push (.cells #[.int .i64 (p : Int)] 3) := ⟨_, rfl⟩
            rw [← e5]
            have f5 : Fr (fun _ => False) h4 h5 := by rw [e5]; exact (Fr.refl _ _).push
            have z5 := f5.size
            simp -implicitDefEqProofs (disch := omega) [go_sem, r0, r3, r4, r5, r6]
            refine append1 (v := .int .i64 (p : Int)) (S3.fr f5 fun _ _ k => k) (by rw [nts_len]) (by rw [e5, hcell_push_new]; rfl) rfl (by omega) (by omega) ?_
            intro I' ic' h6 S6 f6 own6
            rw [nts_snoc, ← hws] at S6
            have hlen : (who E q p).length + 1 = (who E q (p + 1)).length := by rw [hws, List.length_append]; rfl
            rw [hlen]
            simp -implicitDefEqProofs (disch := omega) [go_sem, r0, r3, r4, r5, r6]
            exact ⟨⟨p + 1, I', ic', ⟨rfl, rfl, rfl⟩, by omega, by omega, S6, fun x hx => (own6 x hx).elim (own3 x) fun k => by omega, (f3.trans f5).trans' f6 fun x hx k => by have := own3 x k; omega⟩, by omega⟩
          · have hm' : ¬ _ := fun h => hin (hmem.1 h)
            rw [if_neg hin, List.append_nil] at hws
            simp -implicitDefEqProofs (disch := omega) [go_sem, r0, r3, r4, r5, r6, hm']
            exact ⟨⟨p + 1, I, ic, ⟨rfl, by rw [hws], rfl⟩, by omega, by omega, by rw [hws]; exact S3, own3, f3⟩, by omega⟩
        · have e : p = m := by omega
          subst e
          simp -implicitDefEqProofs (disch := omega) [go_sem, r0, r3, r4, r5, r6]
          refine build1 rfl rfl ?_
          obtain ⟨h5, e5⟩ : ∃ h5, h5 = h3.push (.cells #[.slice I (who E q p).length ic] 32) := ⟨_, rfl⟩
          rw [← e5]
          have f5 : Fr (fun _ => False) h3 h5 := by rw [e5]; exact (Fr.refl _ _).push
          have K5 := (K2.fr0 f3).fr0 f5
          simp -implicitDefEqProofs (disch := omega) [go_sem, r0, r3, r4, r5, r6]
          refine append1 (v := .slice I (who E q p).length ic) K5.S hov.symm (by rw [e5, hcell_push_new]; rfl) rfl (by omega) (by omega) ?_
          intro G' gc' h6 S6 f6 own6
          have K6 := K5.snoc S6 f6 own6 (S3.fr f5 fun _ _ k => k) fun x hx => ⟨by have := own3 x hx; omega, fun k => by have := K2.S.blk_lt k; have := own3 x hx; omega⟩
          simp -implicitDefEqProofs (disch := omega) [go_sem, r0, r3, r4, r5, r6]
          refine ⟨⟨q + 1, G', gc', ⟨rfl, rfl, rfl⟩, by omega, by omega, ovs ++ [.slice I (who E q p).length ic], by simp [hov], ⟨_, by rw [List.range_succ, List.map_append]; exact K6⟩, ((f2.trans f3).trans f5).trans' f6 fun x hx k => by have := K2.own x k; omega⟩, by omega⟩
    · have e : q = m := by omega
      subst e
      simp -implicitDefEqProofs (disch := omega) [go_sem, r0, r3, r4]
      exact ⟨f2, G, gc, ovs, ⟨rfl, hov.symm, rfl⟩, C1, K2⟩
end
end Xe
