/- Layer 30: few points; the document's Good; the graph turned about. -/
import Derived.Test.YtkghjecglmmloaaG9
import Derived.Test.YtkghjecglmmloaaT17c
namespace Xe
open Go Go.Proofs Gr
set_option maxRecDepth 16000
set_option maxHeartbeats 1000000

section
variable {h : Heap} {A : Option Addr} {m c : Nat} {gs : Nat → List Int}
theorem small30_ok (R : ArgsG h A m gs) : CallsH Try.prog 63 [.slice A m c] h fun r h' => ∃ b, r = .bool b ∧ (b = true ↔ m ≤ 14 ∧ ∀ i, i < m → (gs i).length ≤ 20) ∧ h' = h := by
  have hms := R.small
  refine calls_of 19 [.tmp 2] Go.Proofs.Try.func63 rfl rfl rfl (by kernel_rfl) (Nat.le_of_ble_eq_true rfl) ?_
  by_cases hm : 14 < m
  · have hm' : (14 : Int) < m := by omega
    simp -implicitDefEqProofs (disch := omega) [go_sem, hm']
    exact fun h => by omega
  · have hm' : ¬ (14 : Int) < m := by omega
    simp -implicitDefEqProofs (disch := omega) [go_sem, hm']
    refine loopK (fun ρ h' => ρ 0 = .slice A m c ∧ h' = h ∧ ∃ i : Nat, ρ 3 = .int .i64 i ∧ i ≤ m ∧ ∀ j, j < i → (gs j).length ≤ 20) (fun ρ _ => m - (intOf (ρ 3)).toNat) (by kernel_rfl) ?_ ?_
    · exact ⟨rfl, rfl, 0, rfl, by omega, fun j hj => by omega⟩
    · rintro ρ h' ⟨r0, rfl, i, r3, hi, hall⟩
      by_cases him : i < m
      · obtain ⟨bk, off, B, d, rfl, e0, RB, hl63, hrg⟩ := R.at' i him
        by_cases hl : 20 < (gs i).length
        · have hl' : (20 : Int) < (gs i).length := by omega
          simp -implicitDefEqProofs (disch := omega) [go_sem, r0, r3, e0, hl']
          exact fun _ => ⟨i, him, hl⟩
        · have hl' : ¬ (20 : Int) < (gs i).length := by omega
          simp -implicitDefEqProofs (disch := omega) [go_sem, r0, r3, e0, hl']
          refine ⟨⟨i + 1, by omega, by omega, fun j hj => ?_⟩, by omega⟩
          by_cases e : j = i
          · rw [e]; omega
          · exact hall j (by omega)
      · have e : i = m := by omega
        subst e
        simp -implicitDefEqProofs (disch := omega) [go_sem, r0, r3]
        exact ⟨by omega, hall⟩
theorem refGood_ok (R : ArgsG h A m gs) : CallsH Try.prog 64 [.slice A m c] h fun r h' => ∃ b, r = .bool b ∧ (b = true ↔ GoodG m gs) ∧ h' = h := by
  have hms := R.small
  refine calls_of 65 [.tmp 2] Go.Proofs.Try.func64 rfl rfl rfl (by kernel_rfl) (Nat.le_of_ble_eq_true rfl) ?_
  by_cases hm : 4096 < m
  · have hm' : (4096 : Int) < m := by omega
    simp -implicitDefEqProofs (disch := omega) [go_sem, hm']
    exact fun h => absurd h.1 (by omega)
  · have hm' : ¬ (4096 : Int) < m := by omega
    simp -implicitDefEqProofs (disch := omega) [go_sem, hm']
    refine loopK (fun ρ h' => ρ 0 = .slice A m c ∧ h' = h ∧ ∃ i : Nat, ρ 3 = .int .i64 i ∧ i ≤ m ∧ ∀ j, j < i → ∀ k, k < (gs j).length → OkG m (gs j) k) (fun ρ _ => m - (intOf (ρ 3)).toNat) (by kernel_rfl) ?_ ?_
    · exact ⟨rfl, rfl, 0, rfl, by omega, fun j hj => by omega⟩
    · rintro ρ h' ⟨r0, rfl, i, r3, hi, hall⟩
      have hmu : (intOf (ρ 3)).toNat = i := by rw [r3]; rfl
      by_cases him : i < m
      · obtain ⟨bk, off, B, d, rfl, e0, RB, hl63, hrg⟩ := R.at' i him
        simp -implicitDefEqProofs (disch := omega) [go_sem, r0, r3]
        refine loopK (fun ρ h1 => ρ 0 = .slice (some ⟨bk, off, none⟩) m c ∧ ρ 3 = .int .i64 i ∧ h1 = h' ∧ ∃ k : Nat, ρ 4 = .int .i64 k ∧ k ≤ (gs i).length ∧ ∀ j, j < k → OkG m (gs i) j) (fun ρ _ => (gs i).length - (intOf (ρ 4)).toNat) (by kernel_rfl) ?_ ?_
        · exact ⟨r0, r3, rfl, 0, rfl, by omega, fun j hj => by omega⟩
        · clear r0 r3
          rintro ρ h1 ⟨r0, r3, rfl, k, r4, hk, hok⟩
          by_cases hkl : k < (gs i).length
          · obtain ⟨rk, ro, rfl, hc⟩ := RB.get (by rw [ints_len]; omega)
            have ck := hc k _ (ints_at (gi_at hkl))
            have hx := hrg _ (gi_mem hkl)
            obtain ⟨x, ex⟩ : ∃ x, x = gi (gs i) k := ⟨_, rfl⟩
            rw [← ex] at ck hx
            have bad : ∀ (P : ¬ OkG m (gs i) k), ¬ GoodG m gs := fun P G => P (G.2 i him k hkl)
            have unf : OkG m (gs i) k ↔ 0 ≤ x ∧ x < m ∧ (0 < k → gi (gs i) (k - 1) < x) := by unfold OkG; rw [← ex]
            have next : OkG m (gs i) k → ∀ j, j < k + 1 → OkG m (gs i) j := fun hO j hj => by
              by_cases e : j = k
              · rw [e]; exact hO
              · exact hok j (by omega)
            simp -implicitDefEqProofs (disch := omega) [go_sem, r0, r3, r4, e0]
            refine drawK [(0, 0), (1, 0), (2, 0), (3, 1), (4, 0), (5, 0), (6, 1), (7, 0), (8, 0), (9, 0), (10, 0), (11, 0), (12, 1), (13, 0), (14, 0), (15, 1), (16, 0), (17, 0), (18, 0), (19, 0), (20, 0), (21, 0), (22, 0), (23, 0), (24, 0), (25, 0), (26, 0), (27, 1), (28, 0), (29, 0), (30, 1), (31, 0), (32, 0), (33, 0), (34, 1), (35, 0), (36, 0), (37, 0), (38, 1), (39, 0), (40, 0), (41, 0)] mixed (by kernel_rfl) ?_
            by_cases h1 : x < 0
            · simp -implicitDefEqProofs (disch := omega) [go_sem, r0, r3, r4, e0, ck, h1]
              exact bad (by rw [unf]; omega)
            · by_cases h2 : (m : Int) ≤ x
              · simp -implicitDefEqProofs (disch := omega) [go_sem, r0, r3, r4, e0, ck, h1, h2]
                exact bad (by rw [unf]; omega)
              · by_cases h0 : k = 0
                · subst h0
                  simp only [Nat.add_zero] at ck
                  simp -implicitDefEqProofs (disch := omega) [go_sem, r0, r3, r4, e0, ck, h1, h2]
                  exact ⟨⟨1, by omega, by omega, next (unf.2 ⟨by omega, by omega, fun h => by omega⟩)⟩, by omega⟩
                · have hk0 : (0 : Int) < k := by omega
                  have hkm : k - 1 < (gs i).length := by omega
                  have cp := hc (k - 1) _ (ints_at (gi_at hkm))
                  have hy := hrg _ (gi_mem hkm)
                  obtain ⟨y, ey⟩ : ∃ y, y = gi (gs i) (k - 1) := ⟨_, rfl⟩
                  rw [← ey] at cp hy unf
                  have ekk : ((k : Int) - 1).toNat = k - 1 := by omega
                  by_cases h3 : x ≤ y
                  · simp -implicitDefEqProofs (disch := omega) [go_sem, r0, r3, r4, e0, ck, cp, ekk, h1, h2, h3, hk0]
                    exact bad (by rw [unf]; omega)
                  · simp -implicitDefEqProofs (disch := omega) [go_sem, r0, r3, r4, e0, ck, cp, ekk, h1, h2, h3, hk0]
                    exact ⟨⟨k + 1, by omega, by omega, next (unf.2 ⟨by omega, by omega, fun h => by omega⟩)⟩, by omega⟩
          · simp -implicitDefEqProofs (disch := omega) [go_sem, r0, r3, r4, e0]
            refine ⟨⟨i + 1, by omega, by omega, fun j hj k' hk' => ?_⟩, by omega⟩
            by_cases e : j = i
            · rw [e] at hk' ⊢; exact hok k' (by omega)
            · exact hall j (by omega) k' hk'
      · simp -implicitDefEqProofs (disch := omega) [go_sem, r0, r3]
        exact ⟨by omega, fun j hj => hall j (by omega)⟩

/-- who needs a point, of the first so many -/
def who (E : Nat → List Nat) (q p : Nat) : List Nat := (List.range p).filter fun x => decide (q ∈ E x)
def trn (E : Nat → List Nat) (m : Nat) : List (List Nat) := (List.range m).map fun q => who E q m
theorem who_succ (E : Nat → List Nat) (q p : Nat) : who E q (p + 1) = who E q p ++ if q ∈ E p then [p] else [] := by
  unfold who
  rw [List.range_succ, List.filter_append]
  by_cases h : q ∈ E p <;> simp [h]
theorem who_len (E : Nat → List Nat) (q p : Nat) : (who E q p).length ≤ p := by
  have := List.length_filter_le (fun x => decide (q ∈ E x)) (List.range p)
  rw [List.length_range] at this
  exact this
theorem who_lt {E : Nat → List Nat} {q p x : Nat} (h : x ∈ who E q p) : x < p := List.mem_range.1 (List.mem_filter.1 h).1
theorem who_inc (E : Nat → List Nat) (q p : Nat) : Inc (who E q p) := (inc_range p).filter _
theorem trn_len (E : Nat → List Nat) (m : Nat) : (trn E m).length = m := by unfold trn; rw [List.length_map, List.length_range]
theorem trn_at {E : Nat → List Nat} {m q : Nat} (h : q < m) : (trn E m)[q]? = some (who E q m) := by unfold trn; rw [List.getElem?_map, List.getElem?_range h]; rfl

/-- rows that grow, each on its own -/
structure GrowM (h0 h : Heap) (tb m : Nat) (c : Nat → Option Nat) (B : Nat → Option Addr) (cp : Nat → Nat) (rw' : Nat → List Nat) : Prop where
  T : FnB h tb m (fun q => .slice (B q) (rw' q).length (cp q))
  S : ∀ q, q < m → SlAt h (B q) (cp q) (nts (rw' q))
  cB : ∀ q, q < m → ∀ x, blk (B q) x → c x = some q
  low : ∀ x q, c x = some q → h0.size ≤ x ∧ x < h.size ∧ x ≠ tb
theorem GrowM.row {h0 h : Heap} {tb m : Nat} {c : Nat → Option Nat} {B : Nat → Option Addr} {cp : Nat → Nat} {rw' : Nat → List Nat} (M : GrowM h0 h tb m c B cp rw') : RowsN h (fun _ => True) ((List.range m).map fun q => .slice (B q) (rw' q).length (cp q)) ((List.range m).map rw') where
  len := by simp
  at' i l hl := by
    have hi := (List.getElem?_eq_some_iff.1 hl).1
    rw [List.length_map, List.length_range] at hi
    rw [List.getElem?_map, List.getElem?_range hi] at hl
    cases hl
    exact ⟨B i, cp i, by rw [List.getElem?_map, List.getElem?_range hi]; rfl, (M.S i hi).row, fun _ _ => trivial⟩
theorem turned_ok (R : ArgsG h A m gs) : CallsH Try.prog 67 [.slice A m c] h fun r h' => Fr (fun _ => False) h h' ∧ ((¬ GoodG m gs ∧ r = .slice none 0 0) ∨ (GoodG m gs ∧ ∃ T, r = .slice T m m ∧ RwN h' T (trn (EG m gs) m))) := by
  have hms := R.small
  refine calls_of 40 [.tmp 2] Go.Proofs.Try.func67 rfl rfl rfl (by kernel_rfl) (Nat.le_of_ble_eq_true rfl) ?_
  simp -implicitDefEqProofs (disch := omega) [go_sem]
  refine useC (goodG_ok R) ?_
  rintro _ h1 ⟨b, rfl, hb, rfl⟩
  cases b with
  | false =>
    simp -implicitDefEqProofs (disch := omega) [go_sem]
    exact ⟨Fr.refl _ _, .inl fun k => by have := hb.2 k; cases this⟩
  | true =>
    have hG := hb.1 rfl
    have hm := hG.1
    have M := R.gr hG
    have hdeg := EG_deg hG
    have hgd := EG_gd hG
    obtain ⟨E, hE⟩ : ∃ E, E = EG m gs := ⟨_, rfl⟩
    have hinc : ∀ i, Inc (E i) := fun i => by rw [hE]; exact EG_inc hG i
    rw [← hE] at M hdeg hgd ⊢
    simp -implicitDefEqProofs (disch := omega) [go_sem]
    obtain ⟨h2, e2⟩ : ∃ h2, h2 = h1.push (.cells (zerosOf (Value.slice none 0 0).cells ((m : Int).toNat * 1)) 32) := ⟨_, rfl⟩
    rw [← e2]
    have f2 : Fr (fun _ => False) h1 h2 := by rw [e2]; exact (Fr.refl _ _).push
    have z2 : h2.size = h1.size + 1 := by rw [e2, push_size]
    have T2 : FnB h2 h1.size m (fun _ => .slice none 0 0) := FnB.ofPush (e := 32) (by rw [e2, push_new]; simp [Value.cells])
    obtain ⟨tb, et⟩ : ∃ tb, tb = h1.size := ⟨_, rfl⟩
    rw [← et] at T2 ⊢
    have M2 := M.fr0 f2
    have G2 : GrowM h1 h2 tb m (fun _ => none) (fun _ => none) (fun _ => 0) (fun _ => []) := ⟨T2, fun q _ => SlAt.nil _, fun q _ x ⟨a, ha, _⟩ => (by cases ha), fun x q hx => by cases hx⟩
    clear e2
    refine loopK (fun ρ h' => ρ 3 = .slice (some ⟨tb, 0, none⟩) m m ∧ ρ 14 = .slice A m c ∧ ρ 15 = .int .i64 m ∧ ∃ (p : Nat) (cc : Nat → Option Nat) (B : Nat → Option Addr) (cp : Nat → Nat), ρ 16 = .int .i64 p ∧ p ≤ m ∧ GrowM h1 h' tb m cc B cp (fun q => who E q p) ∧ Fr (fun x => x = tb) h2 h') (fun ρ _ => m - (intOf (ρ 16)).toNat) (by kernel_rfl) ?_ ?_
    · exact ⟨by simp -implicitDefEqProofs [go_sem], rfl, rfl, 0, _, _, _, rfl, by omega, G2, Fr.refl _ _⟩
    · rintro ρ h3 ⟨r3, r14, r15, p, cc, B, cp, r16, hp, G3, f3⟩
      have hmu : (intOf (ρ 16)).toNat = p := by rw [r16]; rfl
      by_cases hpm : p < m
      · obtain ⟨gk, off, D, d, rfl, g00, gR, hgk, hgD⟩ := M2.at' p hpm
        have g0 := (f3.cell (hcell_lt g00) (by omega)).trans g00
        have hdp := hdeg p hpm
        simp -implicitDefEqProofs (disch := omega) [go_sem, r3, r14, r15, r16, g0]
        refine loopK (fun ρ h' => ρ 3 = .slice (some ⟨tb, 0, none⟩) m m ∧ ρ 14 = .slice (some ⟨gk, off, none⟩) m c ∧ ρ 15 = .int .i64 m ∧ ρ 16 = .int .i64 p ∧ ρ 4 = .int .i64 p ∧ ρ 21 = .slice D (E p).length d ∧ ρ 22 = .int .i64 (E p).length ∧ ∃ (k : Nat) (cc : Nat → Option Nat) (B : Nat → Option Addr) (cp : Nat → Nat), ρ 23 = .int .i64 k ∧ k ≤ (E p).length ∧
          GrowM h1 h' tb m cc B cp (fun q => who E q p ++ if q ∈ (E p).take k then [p] else []) ∧ Fr (fun x => x = tb) h2 h') (fun ρ _ => (E p).length - (intOf (ρ 23)).toNat) (by kernel_rfl) ?_ ?_
        · exact ⟨r3, r14, r15, r16, rfl, rfl, rfl, 0, cc, B, cp, rfl, by omega, by simpa using G3, f3⟩
        · clear r3 r14 r15 r16 G3 f3 g0
          clear cc B cp
          rintro ρ h4 ⟨r3, r14, r15, r16, r4, r21, r22, k, cc, B, cp, r23, hk, G4, f4⟩
          by_cases hkl : k < (E p).length
          · have hne : E p ≠ [] := fun e => by rw [e] at hkl; simp at hkl
            obtain ⟨rk, ro, hD, hcr⟩ := (gR.fr f4 fun x hx k => by have := hgD hne x hx; omega).get (by rw [nts_len]; omega)
            subst hD
            obtain ⟨qq, hqq⟩ : ∃ qq, (E p)[k]? = some qq := ⟨_, List.getElem?_eq_getElem hkl⟩
            have hqm := List.mem_of_getElem? hqq
            have hqn := hgd p hpm qq hqm
            have ck := hcr k _ (nts_at hqq)
            have nq : qq ∉ (E p).take k := fun hm => by
              have hn := (hinc p).nd
              obtain ⟨j, hj⟩ := List.getElem?_of_mem hm
              rw [List.getElem?_take] at hj
              split at hj
              · have h1 := List.getElem?_eq_some_iff.1 hj
                have h2 := List.getElem?_eq_some_iff.1 hqq
                have := List.pairwise_iff_getElem.1 (hinc p) j k h1.1 h2.1 (by assumption)
                rw [h1.2, h2.2] at this
                omega
              · cases hj
            have tq := G4.T.at' qq hqn
            have wq := G4.T.fz
            have eqq : (who E qq p ++ if qq ∈ (E p).take k then [p] else []) = who E qq p := by rw [if_neg nq, List.append_nil]
            have S4 := G4.S qq hqn
            rw [eqq] at tq S4
            have hwl := who_len E qq p
            have z4 := f4.size
            simp -implicitDefEqProofs (disch := omega) [go_sem, r3, r14, r15, r16, r4, r21, r22, r23, ck, tq, wq]
            refine build1 rfl rfl ?_
            obtain ⟨h5, e5⟩ : ∃ h5, h5 = h4.push (.cells #[.int .i64 (p : Int)] 3) := ⟨_, rfl⟩
            rw [← e5]
            have f5 : Fr (fun _ => False) h4 h5 := by rw [e5]; exact (Fr.refl _ _).push
            have z5 : h5.size = h4.size + 1 := by rw [e5, push_size]
            simp -implicitDefEqProofs (disch := omega) [go_sem, r3, r14, r15, r16, r4, r21, r22, r23]
            refine append1 (v := .int .i64 (p : Int)) (S4.fr f5 fun _ _ k => k) (by rw [nts_len]) (by rw [e5, hcell_push_new]; rfl) rfl (by omega) (by omega) ?_
            intro B' cp' h6 S6 f6 own6
            rw [nts_snoc] at S6
            have z6 := f6.size
            have nBt : ∀ q, q < m → ∀ x, blk (B q) x → x ≠ tb := fun q hq x hx => (G4.low x q (G4.cB q hq x hx)).2.2
            have T6 := (G4.T.fr f5 id).fr f6 fun k => nBt qq hqn tb k rfl
            have t6 := T6.at' qq hqn
            have w6 := T6.fz
            simp -implicitDefEqProofs (disch := omega) [go_sem, r3, r14, r15, r16, r4, r21, r22, r23, t6, w6]
            obtain ⟨h7, e7⟩ : ∃ h7, h7 = hset h6 ⟨tb, qq, none⟩ (.slice B' ((who E qq p).length + 1) cp') := ⟨_, rfl⟩
            rw [← e7]
            have f7 : Fr (fun x => x = tb) h6 h7 := by rw [e7]; exact (Fr.refl _ _).set rfl
            have z7 := f7.size
            have T7 := T6.set (.slice B' ((who E qq p).length + 1) cp') hqn
            rw [← e7] at T7
            obtain ⟨cc', k1, k2, k3⟩ := recoG (c := cc) (sz := h4.size) (blk B') qq (fun x hx => (own6 x hx).imp (fun k => G4.cB qq hqn x k) fun k => by omega) (fun x u hx => (G4.low x u hx).2.1)
            have htb4 := G4.T.lt
            have nB' : ∀ x, blk B' x → x ≠ tb := fun x hx => by
              rcases own6 x hx with k | k
              · exact nBt qq hqn x k
              · omega
            have old : ∀ q, q < m → q ≠ qq → ∀ x, blk (B q) x → ¬ blk (B qq) x := fun q hq hne x hx hx2 => by
              have h1 := G4.cB q hq x hx
              rw [G4.cB qq hqn x hx2] at h1
              cases h1; exact hne rfl
            refine ⟨⟨k + 1, by omega, by omega, ⟨cc', fun q => if q = qq then B' else B q, fun q => if q = qq then cp' else cp q, ?_⟩, ?_⟩, by omega⟩
            · have ern : ∀ q, q ≠ qq → (if q ∈ (E p).take (k + 1) then [p] else []) = (if q ∈ (E p).take k then [p] else ([] : List Nat)) := fun q hne => by
                rw [List.take_add_one, hqq]
                simp [hne]
              have erq : (who E qq p ++ if qq ∈ (E p).take (k + 1) then [p] else []) = who E qq p ++ [p] := by
                rw [if_pos]
                rw [List.take_add_one, hqq]; simp
              exact {
                T := T7.cong fun q _ => by
                  by_cases e : q = qq
                  · rw [if_pos e, if_pos e, if_pos e, e, erq, List.length_append]; rfl
                  · rw [if_neg e, if_neg e, if_neg e, ern q e]
                S := fun q hq => by
                  by_cases e : q = qq
                  · rw [if_pos e, if_pos e, e, erq]
                    exact S6.fr f7 nB'
                  · rw [if_neg e, if_neg e, ern q e]
                    exact (((G4.S q hq).fr f5 fun _ _ k => k).fr f6 (old q hq e)).fr f7 (nBt q hq)
                cB := fun q hq x hx => by
                  by_cases e : q = qq
                  · rw [if_pos e] at hx; rw [e]; exact k1 x hx
                  · rw [if_neg e] at hx; exact k2 x _ (G4.cB q hq x hx)
                low := fun x q hx => by
                  rcases k3 x q hx with k | k
                  · have := G4.low x q k
                    exact ⟨this.1, by omega, this.2.2⟩
                  · have := S6.blk_lt k.1
                    exact ⟨by have := k.2.1; omega, by omega, nB' x k.1⟩ }
            · have g5 := f4.trans' f5 fun x _ k => k.elim
              have g6 := g5.trans' f6 fun x hx k => by have := (G4.low x qq (G4.cB qq hqn x k)); omega
              exact g6.trans f7
          · have ek : k = (E p).length := by omega
            rw [ek, List.take_length] at G4
            simp -implicitDefEqProofs (disch := omega) [go_sem, r3, r14, r15, r16, r4, r21, r22, r23]
            refine ⟨⟨p + 1, by omega, by omega, ⟨cc, B, cp, ?_⟩, f4⟩, by omega⟩
            have : (fun q => who E q (p + 1)) = fun q => who E q p ++ if q ∈ E p then [p] else [] := by funext q; exact who_succ E q p
            rw [this]; exact G4
      · have e : p = m := by omega
        subst e
        simp -implicitDefEqProofs (disch := omega) [go_sem, r3, r14, r15, r16]
        have f13 : Fr (fun _ => False) h1 h3 := f2.trans' f3 fun x hx k => by omega
        refine ⟨f13, hG, ⟨fun i l hl => ?_, by rw [trn_len]; omega, fun l hl => ?_⟩⟩
        · have hi := (List.getElem?_eq_some_iff.1 hl).1
          rw [trn_len] at hi
          rw [trn_at hi] at hl
          cases hl
          exact ⟨tb, 0, B i, cp i, rfl, by rw [Nat.zero_add]; exact G3.T.at' i hi, (G3.S i hi).row⟩
        · obtain ⟨q, hq, rfl⟩ := List.mem_map.1 hl
          have := who_len E q p
          exact ⟨by omega, fun x hx => by have := who_lt hx; omega⟩
end
end Xe
