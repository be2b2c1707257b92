/- GraphSingles, walked. -/
import Derived.Test.YtkghjecglmmloaaG8
namespace Xe
open Go Go.Proofs Gr
set_option maxRecDepth 16000
set_option maxHeartbeats 1000000

/-- an argument: rows of bytes -/
structure ArgsU (h : Heap) (A : Option Addr) (m : Nat) (gs : Nat → List Int) : Prop where
  small : m < 2 ^ 63
  at' : ∀ i, i < m → ∃ bk off B c, A = some ⟨bk, off, none⟩ ∧ hcell h ⟨bk, off + i, none⟩ = some (.slice B (gs i).length c) ∧ RowAt h B ((gs i).map (.int .u8)) ∧ (gs i).length < 2 ^ 63 ∧ (∀ x ∈ gs i, 0 ≤ x ∧ x ≤ 255)
theorem ArgsU.fr {h : Heap} {A : Option Addr} {m : Nat} {gs : Nat → List Int} (R : ArgsU h A m gs) {h' : Heap} (f : Fr (fun _ => False) h h') : ArgsU h' A m gs :=
  ⟨R.small, fun i hi => by
    obtain ⟨bk, off, B, c, h1, h2, h3, h4⟩ := R.at' i hi
    exact ⟨bk, off, B, c, h1, (f.cell (hcell_lt h2) id).trans h2, h3.fr0 f, h4⟩⟩
/-- what a point needs: of the first twenty numbers, those below it -/
def hasU (l : List Int) (q : Nat) : Bool := (l.take 20).any fun x => decide (x = (q : Int))
def ebP (l : List Int) (q : Nat) : List Nat := (List.range q).filter (hasU l)
theorem ebP_succ (l : List Int) (q : Nat) : ebP l (q + 1) = ebP l q ++ if hasU l q then [q] else [] := by
  unfold ebP
  rw [List.range_succ, List.filter_append]
  by_cases h : hasU l q <;> simp [h]
theorem ebP_inc (l : List Int) (q : Nat) : Inc (ebP l q) := (inc_range q).filter _
theorem ebP_lt {l : List Int} {q x : Nat} (h : x ∈ ebP l q) : x < q := List.mem_range.1 (List.mem_filter.1 h).1
theorem ebP_len (l : List Int) (q : Nat) : (ebP l q).length ≤ q := by
  have := List.length_filter_le (hasU l) (List.range q)
  rw [List.length_range] at this
  exact this
theorem hasU_no {l : List Int} {q : Nat} (h : ∀ j, j < l.length → j < 20 → gi l j ≠ q) : hasU l q = false := by
  unfold hasU
  rw [List.any_eq_false]
  intro x hx
  obtain ⟨j, hj⟩ := List.getElem?_of_mem hx
  rw [List.getElem?_take] at hj
  split at hj
  · have hl := (List.getElem?_eq_some_iff.1 hj).1
    rw [gi_at hl] at hj
    cases hj
    simpa using h j hl (by assumption)
  · cases hj
theorem hasU_yes {l : List Int} {q j : Nat} (hj : j < l.length) (h20 : j < 20) (h : gi l j = q) : hasU l q = true := by
  unfold hasU
  rw [List.any_eq_true]
  refine ⟨gi l j, List.mem_of_getElem? (i := j) ?_, by simp [h]⟩
  rw [List.getElem?_take, if_pos h20]
  exact gi_at hj

/-- each point alone -/
def sing (k : Nat) : List (List Nat) := (List.range k).map fun p => [p]
theorem sing_succ (k : Nat) : sing (k + 1) = sing k ++ [[k]] := by unfold sing; rw [List.range_succ]; simp
theorem sing_tk {k x : Nat} : Tk (sing k) x ↔ x < k := by
  unfold Tk sing
  constructor
  · rintro ⟨l, hl, hx⟩
    obtain ⟨p, hp, rfl⟩ := List.mem_map.1 hl
    simp at hx
    subst hx
    exact List.mem_range.1 hp
  · exact fun h => ⟨[x], List.mem_map.2 ⟨x, List.mem_range.2 h, rfl⟩, by simp⟩
theorem sing_gl {E : Nat → List Nat} {n : Nat} (hE : ∀ p, ∀ q ∈ E p, q < p) : ∀ k, k ≤ n → GL E n (sing k)
  | 0, _ => .nil
  | k + 1, hk => by
    rw [sing_succ]
    have le : ∀ {p x}, Rch E p x → x ≤ p := fun {p x} h => h.stay (S := fun x => x ≤ p) (Nat.le_refl _) fun x hx y hy => by have := hE x y hy; omega
    refine .snoc (sing_gl hE k (by omega)) ⟨k, by omega, fun h => by rw [sing_tk] at h; omega, fun x hx => ?_, fun q hq hn => absurd (sing_tk.2 hq) hn, List.pairwise_singleton .., fun x => ?_⟩
    · have := le hx
      by_cases e : x = k
      · rw [e]; exact .inl (.refl _)
      · exact .inr (sing_tk.2 (by omega))
    · constructor
      · intro hx
        simp at hx
        subst hx
        exact ⟨.refl _, .refl _⟩
      · rintro ⟨h1, h2⟩
        have := le h1
        have := le h2
        simp; omega

section
variable {h : Heap}
theorem singles_walk (A : Option Addr) (m c : Nat) (gs : Nat → List Int) (R : ArgsU h A m gs) :
    CallsH Try.prog 11 [.slice A m c] h fun r h' => r = .bool true ∧ Fr (fun _ => False) h h' := by
  have hms := R.small
  refine calls_of 86 [.tmp 2] Go.Proofs.Try.func11 rfl rfl rfl (by kernel_rfl) (Nat.le_of_ble_eq_true rfl) ?_
  simp -implicitDefEqProofs (disch := omega) [go_sem]
  refine useC awake30 ?_
  rintro _ h1 ⟨rfl, fr1⟩
  have R1 := R.fr fr1
  by_cases h14 : 14 < m
  · have h14' : (14 : Int) < m := by omega
    simp -implicitDefEqProofs (disch := omega) [go_sem, h14']
    exact fr1
  have h14' : ¬ (14 : Int) < m := by omega
  simp -implicitDefEqProofs (disch := omega) [go_sem, h14']
  refine loopK (fun ρ h' => ρ 0 = .slice A m c ∧ ∃ (p : Nat) (G : Option Addr) (gc : Nat) (ovs : List Value) (C : Nat → Prop), ρ 3 = .slice G p gc ∧ ρ 4 = .int .i64 p ∧ p ≤ m ∧ ovs.length = p ∧ SlAt h' G gc ovs ∧ RowsN h' C ovs ((List.range p).map fun i => ebP (gs i) i) ∧
    (∀ x, blk G x → h1.size ≤ x) ∧ (∀ x, C x → x < h'.size ∧ ¬ blk G x) ∧ Fr (fun _ => False) h1 h') (fun ρ _ => m - (intOf (ρ 4)).toNat) (by kernel_rfl) ?_ ?_
  · exact ⟨rfl, 0, none, 0, [], fun _ => False, rfl, rfl, by omega, rfl, SlAt.nil _, ⟨rfl, fun i l hl => by simp at hl⟩, fun x ⟨a, ha, _⟩ => (by cases ha), fun _ h => h.elim, Fr.refl _ _⟩
  · rintro ρ h2 ⟨r0, p, G, gc, ovs, C, r3, r4, hp, hov, S2, V2, own2, hC2, fr2⟩
    have hmu : (intOf (ρ 4)).toNat = p := by rw [r4]; rfl
    have z2 := fr2.size
    by_cases hpm : p < m
    · have R2 := R1.fr fr2
      simp -implicitDefEqProofs (disch := omega) [go_sem, r0, r3, r4]
      refine loopK (fun ρ h' => ρ 0 = .slice A m c ∧ ρ 3 = .slice G p gc ∧ ρ 4 = .int .i64 p ∧ ∃ (q : Nat) (I : Option Addr) (ic : Nat), ρ 5 = .slice I (ebP (gs p) q).length ic ∧ ρ 6 = .int .i64 q ∧ q ≤ p ∧ SlAt h' I ic (nts (ebP (gs p) q)) ∧ (∀ x, blk I x → h2.size ≤ x) ∧ Fr (fun _ => False) h2 h')
        (fun ρ _ => p - (intOf (ρ 6)).toNat) (by kernel_rfl) ?_ ?_
      · exact ⟨r0, r3, r4, 0, none, 0, rfl, rfl, by omega, SlAt.nil _, fun x ⟨a, ha, _⟩ => (by cases ha), Fr.refl _ _⟩
      · clear r0 r3 r4
        rintro ρ h3 ⟨r0, r3, r4, q, I, ic, r5, r6, hq, S3, own3, f3⟩
        have hmu2 : (intOf (ρ 6)).toNat = q := by rw [r6]; rfl
        have hel := ebP_len (gs p) q
        have z3 := f3.size
        by_cases hqp : q < p
        · have R3 := R2.fr f3
          obtain ⟨bk, off, B, d, rfl, e0, RB, hl63, hrg⟩ := R3.at' p hpm
          simp -implicitDefEqProofs (disch := omega) [go_sem, r0, r3, r4, r5, r6]
          refine loopK (fun ρ h' => ρ 0 = .slice (some ⟨bk, off, none⟩) m c ∧ ρ 3 = .slice G p gc ∧ ρ 4 = .int .i64 p ∧ ρ 5 = .slice I (ebP (gs p) q).length ic ∧ ρ 6 = .int .i64 q ∧ h' = h3 ∧ ∃ k : Nat, ρ 7 = .int .i64 k ∧ k ≤ (gs p).length ∧ ∀ j, j < k → gi (gs p) j ≠ q)
            (fun ρ _ => (gs p).length - (intOf (ρ 7)).toNat) (by kernel_rfl) ?_ ?_
          · exact ⟨r0, r3, r4, r5, r6, rfl, 0, rfl, by omega, fun j hj => by omega⟩
          · clear r0 r3 r4 r5 r6
            rintro ρ h4 ⟨r0, r3, r4, r5, r6, rfl, k, r7, hk, hno⟩
            by_cases hkl : k < (gs p).length ∧ k < 20
            · obtain ⟨hkl, hk20⟩ := hkl
              obtain ⟨rk, ro, rfl, hc⟩ := RB.get (by rw [List.length_map]; omega)
              have ck := hc k (.int .u8 (gi (gs p) k)) (by rw [List.getElem?_map, gi_at hkl]; rfl)
              have hx := hrg _ (gi_mem hkl)
              obtain ⟨x, ex⟩ : ∃ x, x = gi (gs p) k := ⟨_, rfl⟩
              rw [← ex] at ck hx
              by_cases hxq : x = q
              · have hu := hasU_yes hkl hk20 (ex.symm.trans hxq)
                have es : ebP (gs p) (q + 1) = ebP (gs p) q ++ [q] := by rw [ebP_succ, hu]; rfl
                simp -implicitDefEqProofs (disch := omega) [go_sem, r0, r3, r4, r5, r6, r7, e0, ck, hxq]
                refine build1 rfl rfl ?_
                simp -implicitDefEqProofs (disch := omega) [go_sem, r0, r3, r4, r5, r6, r7]
                have f5 : Fr (fun _ => False) h4 (h4.push (.cells #[.int .i64 (q : Int)] 3)) := (Fr.refl _ _).push
                refine append1 (v := .int .i64 (q : Int)) (S3.fr f5 fun _ _ k => k) (by rw [nts_len]) (by rw [hcell_push_new]; rfl) rfl (by omega) (by omega) ?_
                intro I' ic' h6 S6 f6 own6
                rw [nts_snoc, ← es] at S6
                have z5 : (h4.push (.cells #[.int .i64 (q : Int)] 3)).size = h4.size + 1 := push_size
                simp -implicitDefEqProofs (disch := omega) [go_sem, r0, r3, r4, r5, r6, r7]
                refine ⟨⟨q + 1, I', ic', ⟨rfl, by rw [es]; simp, rfl⟩, by omega, by omega, S6, fun x hx => (own6 x hx).elim (own3 x) fun h => by omega, (f3.trans f5).trans' f6 fun x hx k => by have := own3 x k; omega⟩, by omega⟩
              · simp -implicitDefEqProofs (disch := omega) [go_sem, r0, r3, r4, r5, r6, r7, e0, ck, hxq]
                refine ⟨⟨k + 1, by omega, by omega, fun j hj => ?_⟩, by omega⟩
                by_cases e : j = k
                · rw [e, ← ex]; exact hxq
                · exact hno j (by omega)
            · have hu : hasU (gs p) q = false := hasU_no fun j hj h20 => hno j (by omega)
              have es : ebP (gs p) (q + 1) = ebP (gs p) q := by rw [ebP_succ, hu]; simp
              have hcond : ¬ k < (gs p).length ∨ (k < (gs p).length ∧ 20 ≤ k) := by omega
              rcases hcond with hcd | ⟨hcd, hcd2⟩
              all_goals
                simp -implicitDefEqProofs (disch := omega) [go_sem, r0, r3, r4, r5, r6, r7, e0]
                exact ⟨⟨q + 1, I, ic, ⟨rfl, by rw [es], rfl⟩, by omega, by omega, by rw [es]; exact S3, own3, f3⟩, by omega⟩
        · have e : q = p := by omega
          subst e
          simp -implicitDefEqProofs (disch := omega) [go_sem, r0, r3, r4, r5, r6]
          refine build1 rfl rfl ?_
          simp -implicitDefEqProofs (disch := omega) [go_sem, r0, r3, r4, r5, r6]
          have f5 : Fr (fun _ => False) h3 (h3.push (.cells #[.slice I (ebP (gs q) q).length ic] 32)) := (Fr.refl _ _).push
          have f25 := f3.trans f5
          refine append1 (v := .slice I (ebP (gs q) q).length ic) (S2.fr f25 fun _ _ k => k) hov.symm (by rw [hcell_push_new]; rfl) rfl (by omega) (by omega) ?_
          intro G' gc' h6 S6 f6 own6
          have z5 : (h3.push (.cells #[.slice I (ebP (gs q) q).length ic] 32)).size = h3.size + 1 := push_size
          have z6 := f6.size
          have nI : ∀ x, blk I x → ¬ blk G x := fun x k k' => by have := own3 x k; have := S2.blk_lt k'; omega
          have nC : ∀ x, blk G x → ¬ C x := fun x k k' => (hC2 x k').2 k
          simp -implicitDefEqProofs (disch := omega) [go_sem, r0, r3, r4, r5, r6]
          refine ⟨⟨q + 1, G', gc', ⟨rfl, rfl, rfl⟩, by omega, by omega, ovs ++ [.slice I (ebP (gs q) q).length ic], by simp [hov], S6, fun x => C x ∨ blk I x, ?_, fun x hx => (own6 x hx).elim (own2 x) fun h => by omega, fun x hx => ?_, (fr2.trans f25).trans' f6 fun x hx k => by have := own2 x k; omega⟩, by omega⟩
          · rw [List.range_succ, List.map_append]
            exact (((V2.fr f25 fun _ k => k.elim).fr f6 nC).ext fun x k => .inl k).snoc (((S3.row.fr0 f5).fr f6 fun x hx k => nI x hx k)) fun x k => .inr k
          · rcases hx with hx | hx
            · have h9 := hC2 x hx
              exact ⟨by omega, fun k => (own6 x k).elim h9.2 fun k => by omega⟩
            · have h9 := S3.blk_lt hx
              exact ⟨by omega, fun k => (own6 x k).elim (nI x hx) fun k => by omega⟩
    · have e : p = m := by omega
      subst e
      have hLl : ((List.range p).map fun i => ebP (gs i) i).length = p := by rw [List.length_map, List.length_range]
      have hLm : ∀ l ∈ (List.range p).map fun i => ebP (gs i) i, ∃ i, i < p ∧ l = ebP (gs i) i := fun l hl => by
        obtain ⟨i, hi, rfl⟩ := List.mem_map.1 hl
        exact ⟨i, List.mem_range.1 hi, rfl⟩
      have Rw : RwN h2 G ((List.range p).map fun i => ebP (gs i) i) := RwN.of S2 V2 ⟨by rw [hLl]; omega, fun l hl => by
        obtain ⟨i, hi, rfl⟩ := hLm l hl
        have := ebP_len (gs i) i
        exact ⟨by omega, fun x hx => by have := ebP_lt hx; omega⟩⟩
      have GG := good_args (L := (List.range p).map fun i => ebP (gs i) i) (by rw [hLl]; omega) fun l hl => by
        obtain ⟨i, hi, rfl⟩ := hLm l hl
        exact ⟨ebP_inc _ _, fun x hx => by have := ebP_lt hx; rw [hLl]; omega⟩
      have RA := Rw.args
      obtain ⟨gl2, hgl2⟩ : ∃ gl2, gl2 = fun i => toI (((List.range p).map fun i => ebP (gs i) i).getD i []) := ⟨_, rfl⟩
      rw [← hgl2, hLl] at RA GG
      simp -implicitDefEqProofs (disch := omega) [go_sem, r0, r3, r4]
      refine useC (groups_ok RA) ?_
      rintro _ h3 ⟨f3, (⟨hn, _⟩ | ⟨_, O, oc, ovs2, out, C1, rfl, S5, V5, _, gl, full⟩)⟩
      · exact absurd GG hn
      have hE : ∀ i, ∀ q ∈ EG p gl2 i, q < i := fun i q hq => by
        by_cases hi : i < p
        · have he : ((List.range p).map fun i => ebP (gs i) i)[i]? = some (ebP (gs i) i) := by rw [List.getElem?_map, List.getElem?_range hi]; rfl
          have := EG_args he
          rw [hLl, ← hgl2] at this
          rw [this] at hq
          exact ebP_lt hq
        · unfold EG at hq
          rw [if_neg hi] at hq
          cases hq
      have ho : out = sing p := gl.uniq (EG_gd GG) (sing_gl hE p (Nat.le_refl _)) full fun x hx => sing_tk.2 hx
      subst ho
      have e5 := V5.len
      have es : (sing p).length = p := by unfold sing; rw [List.length_map, List.length_range]
      rw [es] at e5
      rw [e5]
      simp -implicitDefEqProofs (disch := omega) [go_sem, r0, r3, r4]
      refine loopK (fun ρ h' => ρ 8 = .slice O p oc ∧ h' = h3 ∧ ∃ i : Nat, ρ 9 = .int .i64 i ∧ i ≤ p) (fun ρ _ => p - (intOf (ρ 9)).toNat) (by kernel_rfl) ?_ ?_
      · exact ⟨rfl, rfl, 0, rfl, by omega⟩
      · clear r0 r3 r4
        rintro ρ h4 ⟨r8, rfl, i, r9, hi⟩
        by_cases hip : i < p
        · have hl : (sing p)[i]? = some [i] := by unfold sing; rw [List.getElem?_map, List.getElem?_range hip]; rfl
          obtain ⟨B, d, e1, e2, _⟩ := V5.at' i _ hl
          obtain ⟨bk, rfl, _, _, hc⟩ := S5.base (by omega)
          have ci := hc i _ e1
          obtain ⟨rk, ro, rfl, hcr⟩ := e2.get (by rw [nts_len]; simp)
          have c0 := hcr 0 _ (nts_at rfl)
          rw [Nat.add_zero] at c0
          simp -implicitDefEqProofs (disch := omega) [go_sem, r8, r9, ci, c0]
          exact ⟨⟨i + 1, by omega, by omega⟩, by omega⟩
        · simp -implicitDefEqProofs (disch := omega) [go_sem, r8, r9]
          exact (fr1.trans fr2).trans f3
end
end Xe
