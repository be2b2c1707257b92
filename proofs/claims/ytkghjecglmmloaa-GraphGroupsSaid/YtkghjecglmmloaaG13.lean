/- Layer 30: the document's Reach. -/
import Derived.Test.YtkghjecglmmloaaG12
namespace Xe
open Go Go.Proofs Gr
set_option maxRecDepth 16000
set_option maxHeartbeats 1000000

def Clo (E : Nat → List Nat) (m : Nat) (S : Nat → Prop) : Prop := ∀ p, p < m → S p → ∀ q ∈ E p, S q
def tr (sn : Nat → Bool) (p : Nat) : Prop := sn p = true
def sset (sn : Nat → Bool) (q : Nat) : Nat → Bool := fun p => if p = q then true else sn p
theorem sset_le {sn : Nat → Bool} {q p : Nat} (h : sn p = true) : sset sn q p = true := by unfold sset; split <;> simp [h]
theorem sset_self {sn : Nat → Bool} {q : Nat} : sset sn q q = true := by unfold sset; simp
theorem sset_or {sn : Nat → Bool} {q p : Nat} (h : sset sn q p = true) : p = q ∨ sn p = true := by
  unfold sset at h
  split at h
  · rename_i e; exact .inl e
  · exact .inr h
theorem fnb_sset {h : Heap} {ib m q : Nat} {sn : Nat → Bool} (T : FnB h ib m (fun p => .bool (sn p))) (hq : q < m) : FnB (hset h ⟨ib, q, none⟩ (.bool true)) ib m (fun p => .bool (sset sn q p)) :=
  (T.set (.bool true) hq).cong fun j _ => by
    unfold sset
    by_cases e : j = q
    · rw [if_pos e, if_pos e]
    · rw [if_neg e, if_neg e]
/-- within a turn: what was there at its beginning, and what is there now -/
structure TInv (E : Nat → List Nat) (m : Nat) (fl : List Int) (S0 sn : Nat → Bool) (p : Nat) : Prop where
  sub : ∀ x, S0 x = true → sn x = true
  snd : ∀ x, x < m → sn x = true → RS E m fl x
  done : ∀ x, x < p → x < m → S0 x = true → ∀ y ∈ E x, sn y = true
  same : Clo E m (tr S0) → ∀ x, x < m → sn x = true → S0 x = true
theorem TInv.start {E : Nat → List Nat} {m : Nat} {fl : List Int} {S0 : Nat → Bool} (h : ∀ x, x < m → S0 x = true → RS E m fl x) : TInv E m fl S0 S0 0 := ⟨fun _ h => h, h, fun x hx => by omega, fun _ _ _ h => h⟩
theorem TInv.add {E : Nat → List Nat} {m : Nat} {fl : List Int} {S0 sn : Nat → Bool} {p q : Nat} (I : TInv E m fl S0 sn p) (hp : p < m) (hs : sn p = true) (hq : q ∈ E p) (hqm : q < m) : TInv E m fl S0 (sset sn q) p where
  sub x h := sset_le (I.sub x h)
  snd x hx h := (sset_or h).elim (fun e => by
    obtain ⟨y, h1, h2, h3⟩ := I.snd p hp hs
    exact ⟨y, h1, h2, e ▸ .step h3 hq⟩) (I.snd x hx)
  done x h1 h2 h3 y hy := sset_le (I.done x h1 h2 h3 y hy)
  same hc x hx h := (sset_or h).elim (fun e => e ▸ hc p hp (I.same hc p hp hs) q hq) (I.same hc x hx)
theorem TInv.next {E : Nat → List Nat} {m : Nat} {fl : List Int} {S0 sn : Nat → Bool} {p : Nat} (I : TInv E m fl S0 sn p) (h : sn p = true → ∀ y ∈ E p, sn y = true) : TInv E m fl S0 sn (p + 1) where
  sub := I.sub
  snd := I.snd
  done x h1 h2 h3 y hy := by
    by_cases e : x = p
    · subst e; exact h (I.sub x h3) y hy
    · exact I.done x (by omega) h2 h3 y hy
  same := I.same
/-- what a turn brings: nothing is left, or something more is there -/
theorem TInv.turn {E : Nat → List Nat} {m : Nat} {fl : List Int} {S0 sn : Nat → Bool} {t : Nat} (I : TInv E m fl S0 sn m) (G : Gd E m) (h : Clo E m (tr S0) ∨ t < cntP (tr S0) m) : Clo E m (tr sn) ∨ t + 1 < cntP (tr sn) m := by
  by_cases hc : Clo E m (tr S0)
  · exact .inl fun p hp hs q hq => I.sub q (hc p hp (I.same hc p hp hs) q hq)
  · have ht := h.resolve_left hc
    have : ∃ p q, p < m ∧ S0 p = true ∧ q ∈ E p ∧ ¬ S0 q = true := by
      by_cases hx : ∃ p q, p < m ∧ S0 p = true ∧ q ∈ E p ∧ ¬ S0 q = true
      · exact hx
      · exact absurd (fun p hp hs q hq => by
          by_cases c : S0 q = true
          · exact c
          · exact absurd ⟨p, q, hp, hs, hq, c⟩ hx) hc
    obtain ⟨p, q, hp, hs, hq, hn⟩ := this
    have := cntP_lt (S := tr S0) (T := tr sn) (n := m) (k := q) (fun x _ k => I.sub x k) (G p hp q hq) hn (I.done p hp hp hs q hq)
    exact .inr (by omega)

section
variable {h : Heap} {A F : Option Addr} {m c fc : Nat} {E : Nat → List Nat} {C : Nat → Prop} {fl : List Int}
theorem rreach_ok (M : GrM h C A m E) (hm : m ≤ 4096) (hdeg : ∀ i, i < m → (E i).length ≤ 4096) (hgd : Gd E m) (RF : RowAt h F (ints fl)) (hfl : fl.length ≤ 4096) (hr : ∀ x ∈ fl, -9223372036854775808 ≤ x ∧ x ≤ 9223372036854775807) :
    CallsH Try.prog 70 [.slice A m c, .slice F fl.length fc] h fun r h' => Fr (fun _ => False) h h' ∧ ∃ K kc, r = .slice K (those (RS E m fl) m).length kc ∧ SlAt h' K kc (nts (those (RS E m fl) m)) ∧ ∀ x, blk K x → h.size ≤ x := by
  refine calls_of 92 [.tmp 4] Go.Proofs.Try.func70 rfl rfl rfl (by kernel_rfl) (Nat.le_of_ble_eq_true rfl) ?_
  simp -implicitDefEqProofs (disch := omega) [go_sem]
  obtain ⟨h2, e2⟩ : ∃ h2, h2 = h.push (.cells (zerosOf (Value.bool false).cells ((m : Int).toNat * 1)) 4) := ⟨_, rfl⟩
  rw [← e2]
  have f2 : Fr (fun _ => False) h h2 := by rw [e2]; exact (Fr.refl _ _).push
  have z2 : h2.size = h.size + 1 := by rw [e2, push_size]
  have T2 : FnB h2 h.size m (fun p => .bool ((fun _ => false) p)) := FnB.ofPush (e := 4) (by rw [e2, push_new]; simp [Value.cells])
  obtain ⟨ib, eb⟩ : ∃ ib, ib = h.size := ⟨_, rfl⟩
  rw [← eb] at T2 ⊢
  have M2 := M.fr0 f2
  have RF2 := RF.fr0 f2
  have hCib : ∀ x, C x → ¬ x = ib := fun x k => by have := M.lt x k; omega
  clear e2
  refine loopK (fun ρ h' => ρ 0 = .slice A m c ∧ ρ 1 = .slice F fl.length fc ∧ ρ 5 = .slice (some ⟨ib, 0, none⟩) m m ∧ ∃ (i : Nat) (sn : Nat → Bool), ρ 6 = .int .i64 i ∧ i ≤ fl.length ∧ FnB h' ib m (fun p => .bool (sn p)) ∧ Fr (fun x => x = ib) h2 h' ∧
    ∀ p, p < m → (sn p = true ↔ (p : Int) ∈ fl.take i)) (fun ρ _ => fl.length - (intOf (ρ 6)).toNat) (by kernel_rfl) ?_ ?_
  · exact ⟨rfl, rfl, by simp -implicitDefEqProofs [go_sem], 0, fun _ => false, rfl, by omega, T2, Fr.refl _ _, fun p hp => by simp⟩
  · rintro ρ h3 ⟨r0, r1, r5, i, sn, r6, hi, T3, f3, hsn⟩
    have hmu : (intOf (ρ 6)).toNat = i := by rw [r6]; rfl
    by_cases hil : i < fl.length
    · obtain ⟨x, hx⟩ : ∃ x, fl[i]? = some x := ⟨_, List.getElem?_eq_getElem hil⟩
      have hxm := List.mem_of_getElem? hx
      have hxr := hr x hxm
      obtain ⟨fk, fo, hF, hcF⟩ := RF2.get (by rw [ints_len]; omega)
      have cx0 := hcF i _ (ints_at hx)
      have hfk : ¬ fk = ib := fun e => by
        rw [hF] at RF
        obtain ⟨fk', fo', hF', hcF'⟩ := RF.get (by rw [ints_len]; omega)
        cases hF'
        have := hcell_lt (hcF' i _ (ints_at hx))
        omega
      have cx := (f3.cell (hcell_lt cx0) hfk).trans cx0
      have et : fl.take (i + 1) = fl.take i ++ [x] := by rw [List.take_add_one, hx]; rfl
      rw [hF] at r1
      have same : (∀ p : Nat, p < m → ¬ (p : Int) = x) → ∀ p, p < m → (sn p = true ↔ (p : Int) ∈ fl.take (i + 1)) := fun k p hp => by
        rw [et, List.mem_append, List.mem_singleton, hsn p hp]
        exact ⟨.inl, fun h => h.elim id fun e => absurd e (k p hp)⟩
      by_cases hx0 : 0 ≤ x
      · by_cases hxl : x < m
        · obtain ⟨q, rfl⟩ : ∃ q : Nat, x = q := ⟨x.toNat, by omega⟩
          have hqm : q < m := by omega
          have ct := T3.at' q hqm
          have wt := T3.fz
          simp -implicitDefEqProofs (disch := omega) [go_sem, r0, r1, r5, r6, cx, ct, wt]
          refine ⟨⟨hF.symm, i + 1, by omega, by omega, ⟨_, fnb_sset T3 hqm, f3.set rfl, fun p hp => ?_⟩⟩, by omega⟩
          rw [et, List.mem_append, List.mem_singleton]
          constructor
          · intro h
            rcases sset_or h with e | h
            · exact .inr (by omega)
            · exact .inl ((hsn p hp).1 h)
          · rintro (h | h)
            · exact sset_le ((hsn p hp).2 h)
            · have : p = q := by omega
              rw [this]; exact sset_self
        · simp -implicitDefEqProofs (disch := omega) [go_sem, r0, r1, r5, r6, cx, hx0, hxl]
          exact ⟨⟨hF.symm, i + 1, by omega, by omega, sn, T3, f3, same fun p hp e => by omega⟩, by omega⟩
      · simp -implicitDefEqProofs (disch := omega) [go_sem, r0, r1, r5, r6, cx, hx0]
        exact ⟨⟨hF.symm, i + 1, by omega, by omega, sn, T3, f3, same fun p hp e => by omega⟩, by omega⟩
    · have e : i = fl.length := by omega
      subst e
      rw [List.take_length] at hsn
      have snd0 : ∀ x, x < m → sn x = true → RS E m fl x := fun x hx h => ⟨x, (hsn x hx).1 h, hx, .refl _⟩
      have st0 : Clo E m (tr sn) ∨ 0 < cntP (tr sn) m := by
        by_cases hx : ∃ p, p < m ∧ sn p = true
        · obtain ⟨p, h1, h2⟩ := hx
          exact .inr (cntP_pos h1 h2)
        · exact .inl fun p hp hs => absurd ⟨p, hp, hs⟩ hx
      have fr0 : ∀ p, p < m → (p : Int) ∈ fl → sn p = true := fun p hp h => (hsn p hp).2 h
      simp -implicitDefEqProofs (disch := omega) [go_sem, r0, r1, r5, r6]
      refine loopK (fun ρ h' => ρ 0 = .slice A m c ∧ ρ 5 = .slice (some ⟨ib, 0, none⟩) m m ∧ ∃ (t : Nat) (sn : Nat → Bool), ρ 7 = .int .i64 t ∧ t ≤ m ∧ FnB h' ib m (fun p => .bool (sn p)) ∧ Fr (fun x => x = ib) h2 h' ∧
        (∀ x, x < m → sn x = true → RS E m fl x) ∧ (∀ p, p < m → (p : Int) ∈ fl → sn p = true) ∧ (Clo E m (tr sn) ∨ t < cntP (tr sn) m)) (fun ρ _ => m - (intOf (ρ 7)).toNat) (by kernel_rfl) ?_ ?_
      · exact ⟨r0, r5, 0, sn, rfl, by omega, T3, f3, snd0, fr0, st0⟩
      · clear r0 r1 r5 r6 T3 f3 snd0 st0 fr0 hsn hmu
        clear sn
        rintro ρ h4 ⟨r0, r5, t, S0, r7, ht, T4, f4, snd0, fr0, st0⟩
        have hmu : (intOf (ρ 7)).toNat = t := by rw [r7]; rfl
        by_cases htm : t < m
        · simp -implicitDefEqProofs (disch := omega) [go_sem, r0, r5, r7]
          refine loopK (fun ρ h' => ρ 0 = .slice A m c ∧ ρ 5 = .slice (some ⟨ib, 0, none⟩) m m ∧ ρ 7 = .int .i64 t ∧ ∃ (p : Nat) (sn : Nat → Bool), ρ 8 = .int .i64 p ∧ p ≤ m ∧ FnB h' ib m (fun p => .bool (sn p)) ∧ Fr (fun x => x = ib) h2 h' ∧ TInv E m fl S0 sn p) (fun ρ _ => m - (intOf (ρ 8)).toNat) (by kernel_rfl) ?_ ?_
          · exact ⟨r0, r5, r7, 0, S0, rfl, by omega, T4, f4, TInv.start snd0⟩
          · clear r0 r5 r7 T4 f4
            rintro ρ h5 ⟨r0, r5, r7, p, sn, r8, hp, T5, f5, I5⟩
            have hmu2 : (intOf (ρ 8)).toNat = p := by rw [r8]; rfl
            by_cases hpm : p < m
            · obtain ⟨gk, off, D, d, hA, g0, gR, hgk, hgD⟩ := M2.at' p hpm
              have hdp := hdeg p hpm
              rw [hA] at r0
              simp -implicitDefEqProofs (disch := omega) [go_sem, r0, r5, r7, r8]
              refine loopK (fun ρ h' => ρ 0 = .slice (some ⟨gk, off, none⟩) m c ∧ ρ 5 = .slice (some ⟨ib, 0, none⟩) m m ∧ ρ 7 = .int .i64 t ∧ ρ 8 = .int .i64 p ∧ ∃ (k : Nat) (sn : Nat → Bool), ρ 9 = .int .i64 k ∧ k ≤ (E p).length ∧ FnB h' ib m (fun p => .bool (sn p)) ∧ Fr (fun x => x = ib) h2 h' ∧ TInv E m fl S0 sn p ∧ ∀ y ∈ (E p).take k, sn y = true)
                (fun ρ _ => (E p).length - (intOf (ρ 9)).toNat) (by kernel_rfl) ?_ ?_
              · exact ⟨r0, r5, r7, r8, 0, sn, rfl, by omega, T5, f5, I5, fun y hy => by simp at hy⟩
              · clear r0 r5 r7 r8 T5 f5 I5
                clear sn
                rintro ρ h6 ⟨r0, r5, r7, r8, k, sn, r9, hk, T6, f6, I6, hk6⟩
                have g6 := (f6.cell (hcell_lt g0) (hCib gk hgk)).trans g0
                have cp := T6.at' p hpm
                by_cases hkl : k < (E p).length
                · cases hs : sn p with
                  | false =>
                    rw [hs] at cp
                    simp -implicitDefEqProofs (disch := omega) [go_sem, r0, r5, r7, r8, r9, g6, cp]
                    exact ⟨⟨hA.symm, p + 1, by omega, by omega, sn, T6, f6, I6.next fun h => by rw [hs] at h; cases h⟩, by omega⟩
                  | true =>
                    rw [hs] at cp
                    have hne : E p ≠ [] := fun e => by rw [e] at hkl; simp at hkl
                    obtain ⟨rk, ro, hD, hcr⟩ := (gR.fr f6 fun x hx k => hCib x (hgD hne x hx) k).get (by rw [nts_len]; omega)
                    obtain ⟨q, hq⟩ : ∃ q, (E p)[k]? = some q := ⟨_, List.getElem?_eq_getElem hkl⟩
                    have hqm := List.mem_of_getElem? hq
                    have hqn := hgd p hpm q hqm
                    have cq := hcr k _ (nts_at hq)
                    have ct := T6.at' q hqn
                    have wt := T6.fz
                    rw [hD] at g6
                    simp -implicitDefEqProofs (disch := omega) [go_sem, r0, r5, r7, r8, r9, g6, cp, cq, ct, wt]
                    refine ⟨⟨k + 1, by omega, by omega, ⟨_, fnb_sset T6 hqn, f6.set rfl, I6.add hpm hs hqm hqn, fun y hy => ?_⟩⟩, by omega⟩
                    rw [List.take_add_one, hq] at hy
                    rcases List.mem_append.1 hy with h | h
                    · exact sset_le (hk6 y h)
                    · simp at h; rw [h]; exact sset_self
                · have ek : k = (E p).length := by omega
                  rw [ek, List.take_length] at hk6
                  simp -implicitDefEqProofs (disch := omega) [go_sem, r0, r5, r7, r8, r9, g6]
                  exact ⟨⟨hA.symm, p + 1, by omega, by omega, sn, T6, f6, I6.next fun _ => hk6⟩, by omega⟩
            · have e : p = m := by omega
              subst e
              simp -implicitDefEqProofs (disch := omega) [go_sem, r0, r5, r7, r8]
              exact ⟨⟨t + 1, by omega, by omega, sn, T5, f5, I5.snd, fun q hq hf => I5.sub q (fr0 q hq hf), I5.turn hgd st0⟩, by omega⟩
        · have e : t = m := by omega
          subst e
          have hcl : Clo E t (tr S0) := st0.resolve_right fun h => by have := cntP_max (tr S0) t; omega
          have hfin : ∀ p, p < t → (S0 p = true ↔ RS E t fl p) := fun p hp => ⟨snd0 p hp, fun ⟨y, h1, h2, h3⟩ =>
            (h3.stay (S := fun x => x < t ∧ S0 x = true) ⟨h2, fr0 y h2 h1⟩ fun x hx z hz => ⟨hgd x hx.1 z hz, hcl x hx.1 hx.2 z hz⟩).2⟩
          simp -implicitDefEqProofs (disch := omega) [go_sem, r0, r5, r7]
          refine loopK (fun ρ h' => ρ 0 = .slice A t c ∧ ρ 5 = .slice (some ⟨ib, 0, none⟩) t t ∧ ∃ (i : Nat) (O : Option Addr) (oc : Nat), ρ 10 = .slice O (fR S0 i).length oc ∧ ρ 11 = .int .i64 i ∧ i ≤ t ∧ SlAt h' O oc (nts (fR S0 i)) ∧ (∀ x, blk O x → h4.size ≤ x) ∧ Fr (fun _ => False) h4 h')
            (fun ρ _ => t - (intOf (ρ 11)).toNat) (by kernel_rfl) ?_ ?_
          · exact ⟨r0, r5, 0, none, 0, rfl, rfl, by omega, SlAt.nil _, fun x ⟨a, ha, _⟩ => (by cases ha), Fr.refl _ _⟩
          · clear r0 r5 r7
            rintro ρ h5 ⟨r0, r5, i, O, oc, r10, r11, hi, S5, own5, f5⟩
            have hmu3 : (intOf (ρ 11)).toNat = i := by rw [r11]; rfl
            have hll := filt_len S0 i
            have hfs := filt_succ S0 i
            have z4 := f4.size
            by_cases him : i < t
            · have ci := (T4.fr f5 id).at' i him
              cases hs : S0 i with
              | true =>
                rw [hs] at ci
                rw [hs, if_pos rfl] at hfs
                simp -implicitDefEqProofs (disch := omega) [go_sem, r0, r5, r10, r11, ci]
                refine build1 rfl rfl ?_
                obtain ⟨h6, e6⟩ : ∃ h6, h6 = h5.push (.cells #[.int .i64 (i : Int)] 3) := ⟨_, rfl⟩
                rw [← e6]
                have f6 : Fr (fun _ => False) h5 h6 := by rw [e6]; exact (Fr.refl _ _).push
                have z6 := f6.size
                have z5 := f5.size
                simp -implicitDefEqProofs (disch := omega) [go_sem, r0, r5, r10, r11]
                refine append1 (v := .int .i64 (i : Int)) (S5.fr f6 fun _ _ k => k) (by rw [nts_len]) (by rw [e6, hcell_push_new]; rfl) rfl (by omega) (by omega) ?_
                intro O' oc' h7 S7 f7 own7
                rw [nts_snoc, ← hfs] at S7
                have hlen : (fR S0 i).length + 1 = (fR S0 (i + 1)).length := by rw [hfs, List.length_append]; rfl
                rw [hlen]
                simp -implicitDefEqProofs (disch := omega) [go_sem, r0, r5, r10, r11]
                exact ⟨⟨i + 1, O', oc', ⟨rfl, rfl, rfl⟩, by omega, by omega, S7, fun x hx => (own7 x hx).elim (own5 x) fun k => by omega, (f5.trans f6).trans' f7 fun x hx k => by have := own5 x k; omega⟩, by omega⟩
              | false =>
                rw [hs] at ci
                rw [hs] at hfs
                simp only [Bool.false_eq_true, if_false, List.append_nil] at hfs
                simp -implicitDefEqProofs (disch := omega) [go_sem, r0, r5, r10, r11, ci]
                exact ⟨⟨i + 1, O, oc, ⟨rfl, by rw [hfs], rfl⟩, by omega, by omega, by rw [hfs]; exact S5, own5, f5⟩, by omega⟩
            · have e : i = t := by omega
              subst e
              have et := those_filter hfin
              rw [et] at r10 S5
              simp -implicitDefEqProofs (disch := omega) [go_sem, r0, r5, r10, r11]
              exact ⟨(f2.trans' f4 fun x hx k => by omega).trans f5, O, oc, ⟨rfl, rfl⟩, S5, fun x hx => by have := own5 x hx; omega⟩
end
end Xe
