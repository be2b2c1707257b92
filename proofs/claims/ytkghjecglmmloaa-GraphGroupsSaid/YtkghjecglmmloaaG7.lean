/- Package graph: Groups. -/
import Derived.Test.YtkghjecglmmloaaG6
namespace Xe
open Go Go.Proofs Gr
set_option maxRecDepth 16000
set_option maxHeartbeats 1000000

/-- what is fixed behind a label: the graph, its parts, which part a point is of -/
structure GFix (h : Heap) (C C1 : Nat → Prop) (A R : Option Addr) (rc n ofb : Nat) (vs : List Value) (L : List (List Nat)) (E : Nat → List Nat) (ix : Nat → Nat) : Prop where
  M : GrM h C A n E
  S : SlAt h R rc vs
  V : RowsN h C1 vs L
  P : Parts E n L
  hs : L.Pairwise fun a b => hd a < hd b
  F : FnB h ofb n (fun p => .int .i64 (ix p : Nat))
  x : ∀ (j : Nat) (l : List Nat), L[j]? = some l → ∀ p ∈ l, ix p = j
theorem GFix.fr {h h' : Heap} {C C1 : Nat → Prop} {A R : Option Addr} {rc n ofb : Nat} {vs : List Value} {L : List (List Nat)} {E : Nat → List Nat} {ix : Nat → Nat} (X : GFix h C C1 A R rc n ofb vs L E ix) {S : Nat → Prop} (f : Fr S h h')
    (h1 : ∀ x, S x → ¬ C x ∧ ¬ C1 x ∧ ¬ blk R x ∧ x ≠ ofb) : GFix h' C C1 A R rc n ofb vs L E ix :=
  ⟨X.M.fr f fun x hx => (h1 x hx).1, X.S.fr f fun x hx k => (h1 x k).2.2.1 hx, X.V.fr f fun x hx => (h1 x hx).2.1, X.P, X.hs, X.F.fr f fun k => (h1 _ k).2.2.2 rfl, X.x⟩
theorem GFix.lt {h : Heap} {C C1 : Nat → Prop} {A R : Option Addr} {rc n ofb : Nat} {vs : List Value} {L : List (List Nat)} {E : Nat → List Nat} {ix : Nat → Nat} (X : GFix h C C1 A R rc n ofb vs L E ix) {q : Nat} (hq : q < n) : ix q < L.length := by
  obtain ⟨l, hl, hql⟩ := X.P.all q hq
  obtain ⟨j, hj⟩ := List.getElem?_of_mem hl
  rw [X.x j l hj q hql]
  exact (List.getElem?_eq_some_iff.1 hj).1
/-- what a part lacks, as the code tells it -/
theorem GFix.off {h : Heap} {C C1 : Nat → Prop} {A R : Option Addr} {rc n ofb : Nat} {vs : List Value} {L : List (List Nat)} {E : Nat → List Nat} {ix : Nat → Nat} (X : GFix h C C1 A R rc n ofb vs L E ix) {out : List (List Nat)} (hO : GL E n out) {tk : Nat → Bool}
    (ht : ∀ (j : Nat) (l : List Nat), L[j]? = some l → (tk j = true ↔ Tk out (hd l))) {i : Nat} {l : List Nat} (hi : L[i]? = some l) {q : Nat} (hq : q < n) : offB ix tk i q = true ↔ q ∉ l ∧ ¬ Tk out q := by
  obtain ⟨m, hm, hqm⟩ := X.P.all q hq
  obtain ⟨j, hj⟩ := List.getElem?_of_mem hm
  have hxq := X.x j m hj q hqm
  have h1 := ht j m hj
  have hmG := X.P.g m hm
  have htq : Tk out (hd m) ↔ Tk out q := by
    constructor
    · intro k
      by_cases c : Tk out q
      · exact c
      · exact absurd k (hO.fresh (hmG.at hqm) c _ (hd_mem hmG).1)
    · intro k
      by_cases c : Tk out (hd m)
      · exact c
      · exact absurd k (hO.fresh (hmG.at (hd_mem hmG).1) c _ hqm)
  have hmem : ix q = i ↔ q ∈ l := by
    constructor
    · intro e
      rw [← e, hxq, hj] at hi
      cases hi; exact hqm
    · exact X.x i l hi q
  unfold offB
  rw [Bool.and_eq_true, decide_eq_true_eq, Bool.not_eq_true', hxq, ← Bool.not_eq_true, h1, htq, ← hxq, ← hmem]

theorem RowsN.low {h : Heap} {C : Nat → Prop} {vs : List Value} {L : List (List Nat)} (V : RowsN h C vs L) (hne : ∀ l ∈ L, l ≠ []) : RowsN h (fun x => C x ∧ x < h.size) vs L where
  len := V.len
  at' i l hl := by
    obtain ⟨A, c, h1, h2, h3⟩ := V.at' i l hl
    have h0 : 0 < (nts l).length := by rw [nts_len]; exact List.length_pos_iff.2 (hne l (List.mem_of_getElem? hl))
    obtain ⟨bk, off, rfl, hc⟩ := h2.get h0
    refine ⟨_, c, h1, h2, fun x hx => ⟨h3 x hx, ?_⟩⟩
    obtain ⟨a, ha, rfl⟩ := hx
    cases ha
    exact hcell_lt (hc 0 _ (List.getElem?_eq_getElem h0))
theorem Gr.GL.isG {E : Nat → List Nat} {n : Nat} {L : List (List Nat)} (h : GL E n L) : ∀ l ∈ L, IsG E l := by
  induction h with
  | nil => intro x hx; cases hx
  | snoc _ hN ih =>
    intro x hx
    rcases List.mem_append.1 hx with k | k
    · exact ih x k
    · rw [List.mem_singleton] at k
      obtain ⟨p, _, _, _, _, h5⟩ := hN
      rw [k]; exact ⟨h5.1, p, h5.self, h5.2⟩
theorem Gr.GL.len {E : Nat → List Nat} {n : Nat} {L : List (List Nat)} (G : Gd E n) (h : GL E n L) : L.length ≤ n := by
  have hh : ∀ l ∈ L, hd l ∈ l := fun l hl => (hd_mem (h.isG l hl)).1
  have := Tp.nodup_le (a := L.map hd) (b := List.range n) (by
      unfold List.Nodup
      rw [List.pairwise_map]
      exact h.disj.imp_of_mem fun {a b} ha hb h e => h (hd a) (hh a ha) (e ▸ hh b hb)) fun x hx => by
    obtain ⟨l, hl, rfl⟩ := List.mem_map.1 hx
    exact List.mem_range.2 (h.lt G _ ⟨l, hl, hh l hl⟩)
  rwa [List.length_map, List.length_range] at this
/-- at the label -/
structure GJ0 (h h' : Heap) (A : Option Addr) (m : Nat) (gs : Nat → List Int) (mm : Nat) (h1 : Heap) (C1 : Nat → Prop) (RR : Option Addr) (rc ofb tb : Nat) (vs : List Value) (L : List (List Nat)) (ix : Nat → Nat) (O : Option Addr) (oc : Nat) (ovs : List Value) (out : List (List Nat)) (tk : Nat → Bool) : Prop where
  good : GoodG m gs
  fix : GFix h1 (fun x => x < h.size) C1 A RR rc m ofb vs L (EG m gs) ix
  tb0 : h.size ≤ tb
  tb1 : tb < h1.size
  tbC : ¬ C1 tb
  tbR : ¬ blk RR tb
  tbo : tb ≠ ofb
  c1 : ∀ x, C1 x → h.size ≤ x ∧ x < h1.size
  f0 : Fr (fun _ => False) h h1
  f1 : Fr (fun x => x = tb) h1 h'
  T : FnB h' tb L.length (fun j => .bool (tk j))
  S : SlAt h' O oc ovs
  own : ∀ x, blk O x → h1.size ≤ x
  V : RowsN h' C1 ovs out
  gl : GL (EG m gs) m out
  t : ∀ (j : Nat) (l : List Nat), L[j]? = some l → (tk j = true ↔ Tk out (hd l))
  mm : mm + cntP (Tk out) m = m
def GJ (h : Heap) (A : Option Addr) (m c : Nat) (gs : Nat → List Int) (mm : Nat) (ρ : Env) (h' : Heap) : Prop := ∃ (h1 : Heap) (C1 : Nat → Prop) (RR : Option Addr) (rc ofb tb : Nat) (vs : List Value) (L : List (List Nat)) (ix : Nat → Nat) (O : Option Addr) (oc : Nat) (ovs : List Value) (out : List (List Nat)) (tk : Nat → Bool),
    ρ 0 = .slice A m c ∧ ρ 3 = .slice RR L.length rc ∧ ρ 4 = .slice (some ⟨ofb, 0, none⟩) m m ∧ ρ 9 = .slice (some ⟨tb, 0, none⟩) L.length L.length ∧ ρ 10 = .slice O ovs.length oc ∧ GJ0 h h' A m gs mm h1 C1 RR rc ofb tb vs L ix O oc ovs out tk
section
variable {h : Heap} {A : Option Addr} {m c : Nat} {gs : Nat → List Int}
theorem groups_ok (R : ArgsG h A m gs) : CallsH Try.prog 62 [.slice A m c] h fun r h' => Fr (fun _ => False) h h' ∧ ((¬ GoodG m gs ∧ r = .slice none 0 0) ∨ (GoodG m gs ∧ ∃ O oc ovs out, ∃ C1 : Nat → Prop, r = .slice O ovs.length oc ∧ SlAt h' O oc ovs ∧ RowsN h' C1 ovs out ∧ (∀ x, C1 x → h.size ≤ x) ∧ GL (EG m gs) m out ∧ Full m out)) := by
  have hms := R.small
  refine calls_of 74 [.tmp 2] Go.Proofs.Try.func62 rfl rfl rfl (by kernel_rfl) (Nat.le_of_ble_eq_true rfl) ?_
  simp -implicitDefEqProofs (disch := omega) [go_sem]
  refine scopeMG 0 (GJ h A m c gs) rfl rfl (by kernel_rfl) ?_ ?_
  · simp -implicitDefEqProofs (disch := omega) [go_sem]
    refine useC (goodG_ok R) ?_
    rintro _ h1 ⟨b, rfl, hb, rfl⟩
    cases b with
    | false =>
      simp -implicitDefEqProofs (disch := omega) [go_sem]
      exact ⟨Fr.refl _ _, .inl fun k => by have := hb.2 k; cases this⟩
    | true =>
      have hG := hb.1 rfl
      have hm := hG.1
      have M := R.gr hG
      simp -implicitDefEqProofs (disch := omega) [go_sem]
      refine useC (parts_ok M hm (EG_deg hG) (EG_gd hG)) ?_
      rintro _ h2 ⟨RR, rc, vs0, L0, C1, rfl, S2, V2, P2, hC1, hRn, f2⟩
      simp -implicitDefEqProofs (disch := omega) [go_sem]
      refine useC (sortP_ok S2 V2 (fun x hx => (hC1 x hx).2) P2 hm) ?_
      rintro _ h3 ⟨vs, L, S3, hvl, V3, P3, hs3, f3⟩
      have hLl := P3.len
      have hvL := V3.len
      have el : vs0.length = L.length := by omega
      rw [el]
      simp -implicitDefEqProofs (disch := omega) [go_sem]
      obtain ⟨h4, e4⟩ : ∃ h4, h4 = h3.push (.cells (zerosOf (Value.int .i64 0).cells ((m : Int).toNat * 1)) 3) := ⟨_, rfl⟩
      rw [← e4]
      have f4 : Fr (fun _ => False) h3 h4 := by rw [e4]; exact (Fr.refl _ _).push
      have z4 : h4.size = h3.size + 1 := by rw [e4, push_size]
      have F4 : FnB h4 h3.size m (fun p => .int .i64 (((fun _ => 0) p : Nat) : Int)) := FnB.ofPush (e := 3) (by rw [e4, push_new]; simp [Value.cells])
      have hne : ∀ l ∈ L, l ≠ [] := fun l hl e => by have := (hd_mem (P3.g l hl)).1; rw [e] at this; cases this
      have V3' := V3.low hne
      have z2 := f2.size
      have z3 := f3.size
      have hC2 : ∀ x, (C1 x ∧ x < h3.size) → h1.size ≤ x ∧ x < h3.size := fun x k => ⟨(hC1 x k.1).1, k.2⟩
      have fr13 : Fr (fun _ => False) h1 h3 := f2.trans' f3 fun x hx k => by have := hRn x k; omega
      have nRo : ¬ blk RR h3.size := fun k => by have := S3.blk_lt k; omega
      obtain ⟨ofb, eo⟩ : ∃ ofb, ofb = h3.size := ⟨_, rfl⟩
      rw [← eo] at F4 nRo ⊢
      clear e4 el hvl vs0 L0 S2 V2 P2
      refine loopK (fun ρ h' => ρ 0 = .slice A m c ∧ ρ 3 = .slice RR L.length rc ∧ ρ 4 = .slice (some ⟨ofb, 0, none⟩) m m ∧ ρ 23 = .slice RR L.length rc ∧ ρ 24 = .int .i64 L.length ∧ ∃ (i : Nat) (ix : Nat → Nat), ρ 25 = .int .i64 i ∧ i ≤ L.length ∧ Fr (fun x => x = ofb) h4 h' ∧
        FnB h' ofb m (fun p => .int .i64 (ix p : Nat)) ∧ ∀ (j : Nat) (l : List Nat), j < i → L[j]? = some l → ∀ p ∈ l, ix p = j) (fun ρ _ => L.length - (intOf (ρ 25)).toNat) (by kernel_rfl) ?_ ?_
      · exact ⟨rfl, rfl, by simp -implicitDefEqProofs [go_sem], rfl, rfl, 0, fun _ => 0, rfl, by omega, Fr.refl _ _, F4, fun j l hj => by omega⟩
      · rintro ρ h5 ⟨r0, r3, r4, r23, r24, i, ix, r25, hi, f5, F5, hix⟩
        have hmu : (intOf (ρ 25)).toNat = i := by rw [r25]; rfl
        have z5 := f5.size
        have f35 : Fr (fun _ => False) h3 h5 := f4.trans' f5 fun x hx k => by omega
        by_cases hil : i < L.length
        · obtain ⟨l, hl⟩ : ∃ l, L[i]? = some l := ⟨_, List.getElem?_eq_getElem hil⟩
          obtain ⟨B, d, e1, e2, e3⟩ := V3'.at' i l hl
          have hlm := List.mem_of_getElem? hl
          have hlen0 : 0 < l.length := List.length_pos_iff.2 (hne l hlm)
          obtain ⟨rk, hRR, _, _, hcR⟩ := S3.base (by omega)
          have ci := (f35.cell (hcell_lt (hcR i _ e1)) id).trans (hcR i _ e1)
          subst hRR
          obtain ⟨bk, off, rfl, hcB⟩ := e2.get (by rw [nts_len]; exact hlen0)
          have hbC := e3 bk ⟨_, rfl, rfl⟩
          have hll : l.length ≤ m := by
            have := Tp.nodup_le (a := l) (b := List.range m) (P3.g l hlm).1.nd fun x hx => List.mem_range.2 (P3.lt x ⟨l, hlm, hx⟩)
            rwa [List.length_range] at this
          simp -implicitDefEqProofs (disch := omega) [go_sem, r0, r3, r4, r23, r24, r25, ci]
          refine loopK (fun ρ h' => ρ 0 = .slice A m c ∧ ρ 3 = .slice (some ⟨rk, 0, none⟩) L.length rc ∧ ρ 4 = .slice (some ⟨ofb, 0, none⟩) m m ∧ ρ 23 = .slice (some ⟨rk, 0, none⟩) L.length rc ∧ ρ 24 = .int .i64 L.length ∧ ρ 25 = .int .i64 i ∧ ρ 5 = .int .i64 i ∧ ρ 30 = .slice (some ⟨bk, off, none⟩) l.length d ∧ ρ 31 = .int .i64 l.length ∧
            ∃ (k : Nat) (ix : Nat → Nat), ρ 32 = .int .i64 k ∧ k ≤ l.length ∧ Fr (fun x => x = ofb) h4 h' ∧ FnB h' ofb m (fun p => .int .i64 (ix p : Nat)) ∧ (∀ (j : Nat) (l : List Nat), j < i → L[j]? = some l → ∀ p ∈ l, ix p = j) ∧ ∀ p ∈ l.take k, ix p = i) (fun ρ _ => l.length - (intOf (ρ 32)).toNat) (by kernel_rfl) ?_ ?_
          · exact ⟨r0, r3, r4, r23, r24, r25, rfl, rfl, rfl, 0, ix, rfl, by omega, f5, F5, hix, fun p hp => by simp at hp⟩
          · clear r0 r3 r4 r23 r24 r25 hix F5 f5 f35 z5 ci
            clear ix
            rintro ρ h6 ⟨r0, r3, r4, r23, r24, r25, r5, r30, r31, k, ix, r32, hk, f6, F6, hix, hixk⟩
            have z6 := f6.size
            have f36 : Fr (fun _ => False) h3 h6 := f4.trans' f6 fun x hx k => by omega
            by_cases hkl : k < l.length
            · obtain ⟨q, hq⟩ : ∃ q, l[k]? = some q := ⟨_, List.getElem?_eq_getElem hkl⟩
              have hqm := List.mem_of_getElem? hq
              have hqn := P3.lt q ⟨l, hlm, hqm⟩
              have ck := (f36.cell (hcell_lt (hcB k _ (nts_at hq))) id).trans (hcB k _ (nts_at hq))
              have cq := F6.at' q hqn
              have wq := F6.fz
              simp -implicitDefEqProofs (disch := omega) [go_sem, r0, r3, r4, r23, r24, r25, r5, r30, r31, r32, ck, cq, wq]
              refine ⟨⟨k + 1, by omega, by omega, f6.set rfl, Gr.upd ix q i, ?_, fun j l' hj hl' p hp => ?_, fun p hp => ?_⟩, by omega⟩
              · refine (F6.set (.int .i64 (i : Int)) hqn).cong fun j _ => ?_
                by_cases e : j = q
                · rw [if_pos e, e, Gr.upd_same]
                · rw [if_neg e, Gr.upd_ne e]
              · have hpq : p ≠ q := fun e => by
                  have h1 := List.getElem?_eq_some_iff.1 hl
                  have h2 := List.getElem?_eq_some_iff.1 hl'
                  have h3 := List.pairwise_iff_getElem.1 P3.dis j i h2.1 h1.1 hj
                  rw [h1.2, h2.2] at h3
                  exact h3 p hp (e ▸ hqm)
                rw [Gr.upd_ne hpq]; exact hix j l' hj hl' p hp
              · rw [List.take_add_one, hq] at hp
                by_cases e : p = q
                · rw [e, Gr.upd_same]
                · rw [Gr.upd_ne e]
                  rcases List.mem_append.1 hp with h | h
                  · exact hixk p h
                  · simp at h; exact absurd h e
            · have ek : k = l.length := by omega
              rw [ek, List.take_length] at hixk
              simp -implicitDefEqProofs (disch := omega) [go_sem, r0, r3, r4, r23, r24, r25, r5, r30, r31, r32]
              refine ⟨⟨i + 1, by omega, by omega, f6, ix, F6, fun j l' hj hl' p hp => ?_⟩, by omega⟩
              by_cases e : j = i
              · rw [e] at hl' ⊢
                rw [hl] at hl'; cases hl'
                exact hixk p hp
              · exact hix j l' (by omega) hl' p hp
        · have e : i = L.length := by omega
          subst e
          simp -implicitDefEqProofs (disch := omega) [go_sem, r0, r3, r4, r23, r24, r25]
          obtain ⟨h6, e6⟩ : ∃ h6, h6 = h5.push (.cells (zerosOf #[Value.bool false] L.length) 4) := ⟨_, rfl⟩
          rw [← e6]
          have f6 : Fr (fun _ => False) h5 h6 := by rw [e6]; exact (Fr.refl _ _).push
          have z6 : h6.size = h5.size + 1 := by rw [e6, push_size]
          have T6 : FnB h6 h5.size L.length (fun j => .bool ((fun _ => false) j)) := FnB.ofPush (e := 4) (by rw [e6, push_new])
          have f36 := f35.trans f6
          have X6 : GFix h6 (fun x => x < h1.size) (fun x => C1 x ∧ x < h3.size) A RR rc m ofb vs L (EG m gs) ix :=
            ⟨(M.fr0 fr13).fr0 f36, S3.fr f36 fun _ _ k => k, V3'.fr f36 fun _ k => k.elim, P3, hs3, F5.fr f6 id, fun j l hj => hix j l (List.getElem?_eq_some_iff.1 hj).1 hj⟩
          refine ⟨m, h6, fun x => C1 x ∧ x < h3.size, RR, rc, ofb, h5.size, vs, L, ix, none, 0, [], [], fun _ => false, ?_, ?_, ?_, ?_, ?_, ?_⟩
          · simp -implicitDefEqProofs (disch := omega) [go_sem, r0, r3, r4, r23, r24, r25]
          · simp -implicitDefEqProofs (disch := omega) [go_sem, r0, r3, r4, r23, r24, r25]
          · simp -implicitDefEqProofs (disch := omega) [go_sem, r0, r3, r4, r23, r24, r25]
          · simp -implicitDefEqProofs (disch := omega) [go_sem, r0, r3, r4, r23, r24, r25]
          · simp -implicitDefEqProofs (disch := omega) [go_sem, r0, r3, r4, r23, r24, r25]
          · exact {
              good := hG, fix := X6, tb0 := by omega, tb1 := by omega
              tbC := fun k => by have := k.2; omega
              tbR := fun k => by have := S3.blk_lt k; omega
              tbo := by omega
              c1 := fun x k => ⟨(hC1 x k.1).1, by have := k.2; omega⟩
              f0 := fr13.trans f36
              f1 := Fr.refl _ _
              T := T6, S := SlAt.nil _
              own := fun x k => by obtain ⟨a, ha, _⟩ := k; cases ha
              V := ⟨rfl, fun i l hl => by simp at hl⟩
              gl := .nil
              t := fun j l _ => ⟨fun k => (by cases k), fun ⟨l, hl, _⟩ => (by cases hl)⟩
              mm := by
                have : cntP (Tk []) m ≤ cntP (fun _ => False) m := cntP_le fun x _ ⟨l, hl, _⟩ => by cases hl
                have h0 : cntP (fun _ => False) m = 0 := by
                  unfold cntP
                  simp only [if_false]
                  have : ∀ k, sumR (fun _ => 0) k = 0 := fun k => by
                    induction k with
                    | zero => rfl
                    | succ k ih => rw [sumR, ih]
                  exact this m
                omega }
  · intro mm ρ h2 hJ
    obtain ⟨h1, C1, RR, rc, ofb, tb, vs, L, ix, O, oc, ovs, out, tk, r0, r3, r4, r9, r10, J⟩ := hJ
    have hG := J.good
    have hm := hG.1
    have X := J.fix
    have hLl := X.P.len
    have hvL := X.V.len
    have X2 : GFix h2 (fun x => x < h.size) C1 A RR rc m ofb vs L (EG m gs) ix := X.fr J.f1 fun x hx => by
      subst hx
      exact ⟨by have := J.tb0; omega, J.tbC, J.tbR, J.tbo⟩
    have T2 := J.T
    simp -implicitDefEqProofs (disch := omega) [go_sem, r0, r3, r4, r9, r10]
    refine loopK (fun ρ h' => ρ 0 = .slice A m c ∧ ρ 3 = .slice RR L.length rc ∧ ρ 4 = .slice (some ⟨ofb, 0, none⟩) m m ∧ ρ 9 = .slice (some ⟨tb, 0, none⟩) L.length L.length ∧ ρ 10 = .slice O ovs.length oc ∧ ρ 45 = .slice RR L.length rc ∧ ρ 46 = .int .i64 L.length ∧ Fr (fun _ => False) h2 h' ∧
      ∃ i : Nat, ρ 47 = .int .i64 i ∧ i ≤ L.length ∧ ∀ (j : Nat) (l : List Nat), j < i → L[j]? = some l → Tk out (hd l) ∨ ∃ p ∈ l, ∃ q ∈ EG m gs p, q ∉ l ∧ ¬ Tk out q) (fun ρ _ => L.length - (intOf (ρ 47)).toNat) (by kernel_rfl) ?_ ?_
    · exact ⟨r0, r3, r4, r9, r10, rfl, rfl, Fr.refl _ _, 0, rfl, by omega, fun j l hj => by omega⟩
    · clear r0 r3 r4 r9 r10
      rintro ρ h3 ⟨r0, r3, r4, r9, r10, r45, r46, f3, i, r47, hi, hmin⟩
      by_cases hil : i < L.length
      · obtain ⟨l, hl⟩ : ∃ l, L[i]? = some l := ⟨_, List.getElem?_eq_getElem hil⟩
        have hlm := List.mem_of_getElem? hl
        obtain ⟨B, d, e1, e2, e3⟩ := X2.V.at' i l hl
        have hlg := X2.P.g l hlm
        have hlhd := hd_mem hlg
        have hll : l.length ≤ m := by
          have := Tp.nodup_le (a := l) (b := List.range m) hlg.1.nd fun x hx => List.mem_range.2 (X2.P.lt x ⟨l, hlm, hx⟩)
          rwa [List.length_range] at this
        obtain ⟨rk, hRR, _, _, hcR⟩ := X2.S.base (by omega)
        subst hRR
        have ci := (f3.cell (hcell_lt (hcR i _ e1)) id).trans (hcR i _ e1)
        have T3 := T2.fr f3 id
        have ct := T3.at' i hil
        have wt := T3.fz
        cases hti : tk i with
        | true =>
          rw [hti] at ct
          simp -implicitDefEqProofs (disch := omega) [go_sem, r0, r3, r4, r9, r10, r45, r46, r47, ci, ct]
          refine ⟨⟨f3, i + 1, by omega, by omega, fun j l' hj hl' => ?_⟩, by omega⟩
          by_cases e : j = i
          · rw [e, hl] at hl'; cases hl'
            exact .inl ((J.t i l hl).1 hti)
          · exact hmin j l' (by omega) hl'
        | false =>
          rw [hti] at ct
          simp -implicitDefEqProofs (disch := omega) [go_sem, r0, r3, r4, r9, r10, r45, r46, r47, ci, ct]
          refine useC (ready_ok (i := i) (c := d) (X2.M.fr0 f3) (EG_gd hG) (EG_deg hG) hm (X2.F.fr f3 id) T3 (fun q hq => X2.lt hq) (e2.fr0 f3) (fun p hp => X2.P.lt p ⟨l, hlm, hp⟩) (by omega)) ?_
          rintro _ h4 ⟨rfl, f4⟩
          have f24 := f3.trans f4
          have hnt : ¬ Tk out (hd l) := fun k => by have := (J.t i l hl).2 k; rw [hti] at this; cases this
          cases hany : (l.any fun p => (EG m gs p).any (offB ix tk i)) with
          | true =>
            simp -implicitDefEqProofs (disch := omega) [go_sem, r0, r3, r4, r9, r10, r45, r46, r47]
            refine ⟨⟨f24, i + 1, by omega, by omega, fun j l' hj hl' => ?_⟩, by omega⟩
            by_cases e : j = i
            · rw [e, hl] at hl'; cases hl'
              rw [List.any_eq_true] at hany
              obtain ⟨p, hp, hany⟩ := hany
              rw [List.any_eq_true] at hany
              obtain ⟨q, hq, hoff⟩ := hany
              have := (X2.off J.gl J.t hl (EG_gd hG p (X2.P.lt p ⟨l, hlm, hp⟩) q hq)).1 hoff
              exact .inr ⟨p, hp, q, hq, this.1, this.2⟩
            · exact hmin j l' (by omega) hl'
          | false =>
            have hrdy : ∀ p ∈ l, ∀ q ∈ EG m gs p, q ∈ l ∨ Tk out q := fun p hp q hq => by
              by_cases c : q ∈ l ∨ Tk out q
              · exact c
              · exfalso
                have h1 : q ∉ l := fun k => c (.inl k)
                have h2 : ¬ Tk out q := fun k => c (.inr k)
                have h3 := (X2.off J.gl J.t hl (EG_gd hG p (X2.P.lt p ⟨l, hlm, hp⟩) q hq)).2 ⟨h1, h2⟩
                have h4 : (l.any fun p => (EG m gs p).any (offB ix tk i)) = true := by
                  rw [List.any_eq_true]
                  refine ⟨p, hp, ?_⟩
                  rw [List.any_eq_true]
                  exact ⟨q, hq, h3⟩
                rw [hany] at h4; cases h4
            have hN := X2.P.nxt X2.hs J.gl hl hnt hrdy hmin
            have T4 := T3.fr f4 id
            have ct4 := T4.at' i hil
            have wt4 := T4.fz
            simp -implicitDefEqProofs (disch := omega) [go_sem, r0, r3, r4, r9, r10, r45, r46, r47, ct4, wt4]
            obtain ⟨h5, e5⟩ : ∃ h5, h5 = hset h4 ⟨tb, i, none⟩ (.bool true) := ⟨_, rfl⟩
            rw [← e5]
            have f5 : Fr (fun x => x = tb) h4 h5 := by rw [e5]; exact (Fr.refl _ _).set rfl
            have T5 := T4.set (.bool true) hil
            rw [← e5] at T5
            have z2 := J.f1.size
            have z4 := f24.size
            have z5 := f5.size
            have nO : ∀ x, blk O x → x ≠ tb := fun x k e => by have := J.own x k; have := J.tb1; omega
            have S5 : SlAt h5 O oc ovs := (J.S.fr f24 fun _ _ k => k).fr f5 nO
            refine build1 rfl rfl ?_
            obtain ⟨h6, e6⟩ : ∃ h6, h6 = h5.push (.cells #[.slice B l.length d] 32) := ⟨_, rfl⟩
            rw [← e6]
            have f6 : Fr (fun _ => False) h5 h6 := by rw [e6]; exact (Fr.refl _ _).push
            have z6 : h6.size = h5.size + 1 := by rw [e6, push_size]
            have hol : ovs.length ≤ 4096 := by
              have h1 := J.V.len
              have h2 := J.gl.len (EG_gd hG)
              omega
            simp -implicitDefEqProofs (disch := omega) [go_sem, r0, r3, r4, r9, r10, r45, r46, r47]
            refine append1 (v := .slice B l.length d) (S5.fr f6 fun _ _ k => k) rfl (by rw [e6, hcell_push_new]; rfl) rfl (by omega) (by omega) ?_
            intro O' oc' h7 S7 f7 own7
            simp -implicitDefEqProofs (disch := omega) [go_sem, r0, r3, r4, r9, r10, r45, r46, r47]
            have z6' := f6.size
            have z7 := f7.size
            have n1 := J.tb1
            have n0 := J.tb0
            have nOt : ¬ blk O tb := fun k => nO tb k rfl
            have f57 : Fr (fun x => x = tb ∨ blk O x) h2 h7 := by
              have g3 := (f24.mono (T := fun x => x = tb ∨ blk O x) fun _ _ k => k.elim).trans' f5 (fun x _ k => .inl k)
              exact (g3.trans' f6 (fun x _ k => k.elim)).trans' f7 (fun x _ k => .inr k)
            have hcnt := cntP_lt (S := Tk out) (T := Tk (out ++ [l])) (n := m) (k := hd l) (fun x _ k => Tk_snoc.2 (.inl k)) (X2.P.lt _ ⟨l, hlm, hlhd.1⟩) hnt (Tk_snoc.2 (.inr hlhd.1))
            have hcm := cntP_max (Tk (out ++ [l])) m
            have hmm := J.mm
            refine ⟨m - cntP (Tk (out ++ [l])) m, by omega, h1, C1, some ⟨rk, 0, none⟩, rc, ofb, tb, vs, L, ix, O', oc', ovs ++ [.slice B l.length d], out ++ [l], fun j => if j = i then true else tk j, ?_, ?_, ?_, ?_, ?_, ?_⟩
            · simp -implicitDefEqProofs (disch := omega) [go_sem, r0, r3, r4, r9, r10]
            · simp -implicitDefEqProofs (disch := omega) [go_sem, r0, r3, r4, r9, r10]
            · simp -implicitDefEqProofs (disch := omega) [go_sem, r0, r3, r4, r9, r10]
            · simp -implicitDefEqProofs (disch := omega) [go_sem, r0, r3, r4, r9, r10]
            · simp -implicitDefEqProofs (disch := omega) [go_sem, r0, r3, r4, r9, r10]
            · exact {
                good := hG, fix := X, tb0 := J.tb0, tb1 := J.tb1, tbC := J.tbC, tbR := J.tbR, tbo := J.tbo, c1 := J.c1, f0 := J.f0
                f1 := J.f1.trans' f57 fun x hx k => k.elim id fun k => by have := J.own x k; omega
                T := by
                  refine ((T5.fr f6 id).fr f7 nOt).cong fun j _ => ?_
                  by_cases e : j = i
                  · simp [e]
                  · simp [e]
                S := S7
                own := fun x k => (own7 x k).elim (J.own x) fun k => by omega
                V := by
                  have h9 : ∀ x, (x = tb ∨ blk O x) → ¬ C1 x := fun x k k' => by
                    rcases k with rfl | k
                    · exact J.tbC k'
                    · have := J.own x k; have := (J.c1 x k').2; omega
                  exact (J.V.fr f57 h9).snoc (e2.fr f57 fun x hx k => h9 x k (e3 x hx)) e3
                gl := J.gl.snoc hN
                t := fun j l' hj => by
                  rw [Tk_snoc]
                  by_cases e : j = i
                  · rw [e, hl] at hj; cases hj
                    simp only [e, if_true, true_iff]
                    exact .inr hlhd.1
                  · simp only [e, if_false]
                    rw [J.t j l' hj]
                    constructor
                    · exact .inl
                    · rintro (k | k)
                      · exact k
                      · exfalso
                        have h1 := X2.x i l hl _ k
                        have h2 := X2.x j l' hj _ (hd_mem (X2.P.g l' (List.mem_of_getElem? hj))).1
                        omega
                mm := by omega }
      · have e : i = L.length := by omega
        subst e
        have hfull := X2.P.full (EG_gd hG) J.gl fun l hl => by
          obtain ⟨j, hj⟩ := List.getElem?_of_mem hl
          exact hmin j l (List.getElem?_eq_some_iff.1 hj).1 hj
        simp -implicitDefEqProofs (disch := omega) [go_sem, r0, r3, r4, r9, r10, r45, r46, r47]
        have n0 := J.tb0
        exact ⟨J.f0.trans' (J.f1.trans' f3 fun _ _ k => k.elim) fun x hx k => by omega, .inr ⟨hG, O, oc, ovs, ⟨rfl, rfl, rfl⟩, J.S.fr f3 fun _ _ k => k, out, C1, J.V.fr f3 fun _ k => k.elim, fun x k => (J.c1 x k).1, J.gl, hfull⟩⟩
end
end Xe
