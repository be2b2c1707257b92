/- The reference's own functions, walked: at, rest, last. -/
import Derived.Test.YtkghjecglmmloaaGreatRowL
import Derived.Test.YtkghjecglmmloaaGreatL12
namespace Xe
open Go Tp Go.Proofs
set_option maxRecDepth 16000
set_option maxHeartbeats 1000000

section
variable {h : Heap} {T A : Option Addr} {n c m d : Nat} {l : List St} {vars : Nat}
theorem at19_ok (R : RowAt h T (stVs l)) (hn : n = l.length) (hsm : n < 2 ^ 40) (G : Good vars l) (hv : vars ≤ 16777216) {x : Int} (hx : x.natAbs ≤ 16777216) :
    CallsH Tryz.prog 77 [.slice T n c, .int .i64 x] h fun r h' => r = .int .i64 (plx l x) ∧ h' = h := by
  have ev : var12 x = x.natAbs := if_pos hx
  refine calls_of 9 [.tmp 4] Go.Proofs.Tryz.func77 rfl rfl rfl (by kernel_rfl) (Nat.le_of_ble_eq_true rfl) ?_
  simp -implicitDefEqProofs (disch := omega) [go_sem]
  refine useC (var12_ok (x := x) (by omega) (by omega)) ?_
  rintro _ h2 ⟨rfl, rfl⟩
  rw [ev]
  simp -implicitDefEqProofs (disch := omega) [go_sem]
  refine useC (find16_ok R hn hsm (fun s hs => by have := G.rng s hs; omega) x.natAbs hx) ?_
  rintro _ h2 ⟨rfl, rfl⟩
  simp -implicitDefEqProofs (disch := omega) [go_sem]
  rfl

theorem rest19_ok {k : List Int} (R : RowAt h A (ints k)) (hn : n = k.length) (hs : n < 2 ^ 40) (x : Int) :
    CallsH Tryz.prog 81 [.slice A n c, .int .i64 x] h fun r h' => Fr (fun _ => False) h h' ∧ ∃ B e, r = .slice B (k.filter fun y => decide (y ≠ x)).length e ∧ SlAt h' B e (ints (k.filter fun y => decide (y ≠ x))) ∧ ∀ y, blk B y → h.size ≤ y := by
  subst hn
  obtain ⟨G, hG⟩ : ∃ G : Nat → List Int, G = fun i => (k.take i).filter fun y => decide (y ≠ x) := ⟨_, rfl⟩
  have G0 : G 0 = [] := by rw [hG]; rfl
  have Ge : G k.length = k.filter fun y => decide (y ≠ x) := by rw [hG]; simp only [List.take_length]
  have Gl : ∀ i, (G i).length ≤ i := fun i => by rw [hG]; exact Nat.le_trans (List.length_filter_le _ _) (by rw [List.length_take]; omega)
  have Gs : ∀ {i : Nat} {y : Int}, k[i]? = some y → G (i + 1) = if y = x then G i else G i ++ [y] := fun hy => by
    rw [hG]; simp only []
    rw [take_at hy, List.filter_append, List.filter_cons]
    split
    · rename_i h; rw [if_neg (by simpa using h), List.filter_nil]
    · rename_i h; rw [if_pos (by simpa using h), List.filter_nil, List.append_nil]
  rw [← Ge]
  clear hG
  refine calls_of 27 [.tmp 4] Go.Proofs.Tryz.func81 rfl rfl rfl (by kernel_rfl) (Nat.le_of_ble_eq_true rfl) ?_
  simp -implicitDefEqProofs (disch := omega) [go_sem]
  refine loopK (fun ρ h' => ρ 0 = .slice A k.length c ∧ ρ 1 = .int .i64 x ∧ ∃ (i : Nat) (B : Option Addr) (e : Nat), ρ 6 = .int .i64 i ∧ i ≤ k.length ∧ ρ 5 = .slice B (G i).length e ∧ SlAt h' B e (ints (G i)) ∧ (∀ y, blk B y → h.size ≤ y) ∧ Fr (fun _ => False) h h')
    (fun ρ _ => k.length - (intOf (ρ 6)).toNat) (by kernel_rfl) ?_ ?_
  · exact ⟨rfl, rfl, 0, none, 0, rfl, by omega, by rw [G0]; rfl, by rw [G0]; exact SlAt.nil _, fun y ⟨_, h, _⟩ => (nomatch h), Fr.refl _ _⟩
  · rintro ρ h1 ⟨r0, r1, i, B, e, r6, hi, r5, S, own, f⟩
    have hgl := Gl i
    by_cases hin : i < k.length
    · obtain ⟨bk, off, rfl, hc⟩ := (R.fr0 f).get (by rw [ints_len]; omega)
      obtain ⟨y, hy⟩ := some_at hin
      have c0 := hc _ _ (ints_at hy)
      have gs := Gs hy
      by_cases hyx : y = x
      · rw [if_pos hyx] at gs
        simp -implicitDefEqProofs (disch := omega) [go_sem, r0, r1, r5, r6, c0, hyx]
        exact ⟨⟨i + 1, by omega, by omega, B, e, ⟨rfl, by rw [gs], rfl⟩, by rw [gs]; exact S, own, f⟩, by omega⟩
      · rw [if_neg hyx] at gs
        simp -implicitDefEqProofs (disch := omega) [go_sem, r0, r1, r5, r6, c0, hyx]
        refine build1 rfl rfl ?_
        simp -implicitDefEqProofs (disch := omega) [go_sem, r0, r1, r5, r6]
        refine appendO (cap := e) (ws := [.int .i64 y]) (by rw [Nat.mul_one]; exact S) own f (by rw [ints_len]; omega) rfl (by omega) (by simp [Value.oneCell']) (by omega) (by omega) ?_
        intro A5 c5 h6 S5 own5 f5 _
        have e3 : ints (G i) ++ [.int .i64 y] = ints (G (i + 1)) := by rw [gs, ints_append]; rfl
        rw [e3, Nat.mul_one] at S5
        simp -implicitDefEqProofs (disch := omega) [go_sem, r0, r1, r5, r6]
        exact ⟨⟨i + 1, by omega, by omega, A5, c5, ⟨rfl, by rw [gs]; simp, rfl⟩, S5, own5, f5⟩, by omega⟩
    · have e1 : i = k.length := by omega
      subst e1
      simp -implicitDefEqProofs (disch := omega) [go_sem, r0, r1, r5, r6]
      exact ⟨f, B, e, ⟨rfl, rfl⟩, S, own⟩

/-- a false literal's step, in memory -/
theorem step_cells (G : Good vars l) {bk off : Nat} (hc : ∀ i v, (stVs l)[i]? = some v → hcell h ⟨bk, off + i, none⟩ = some v) {x : Int} (hx : trI l x = -1) :
    ∃ (k : Nat) (t : St), k < l.length ∧ plx l x = k ∧ lvx l x = t.lv ∧ RS l x.natAbs = t.rs ∧ t.lit = -x ∧ l[k]? = some t ∧ hcell h ⟨bk, off + k * 3, none⟩ = some (.int .i64 t.lit) ∧ hcell h ⟨bk, off + k * 3 + 1, none⟩ = some (.int .i64 t.rs) ∧ hcell h ⟨bk, off + k * 3 + 2, none⟩ = some (.int .i64 (t.lv : Int)) := by
  obtain ⟨k, t, h1, h2, h3, h4, h5⟩ := false_at G hx
  obtain ⟨q0, q1, q2⟩ := stVs_at h1
  exact ⟨k, t, (List.getElem?_eq_some_iff.1 h1).1, h3, h4, h5, h2, h1, hc _ _ q0, by have := hc _ _ q1; rwa [← Nat.add_assoc] at this, by have := hc _ _ q2; rwa [← Nat.add_assoc] at this⟩

theorem last19_ok (R : RowAt h T (stVs l)) (hn : n = l.length) (hsm : n < 2 ^ 40) (G : Good vars l) (hv : vars ≤ 16777216) {k : List Int} (Rk : RowAt h A (ints k)) (hm : m = k.length) (hs2 : m < 2 ^ 40) (hk : FailAt l k) (hk0 : k ≠ []) (hkr : ∀ x ∈ k, x.natAbs ≤ 16777216) :
    CallsH Tryz.prog 79 [.slice T n c, .slice A m d] h fun r h' => h' = h ∧ ∃ x : Int, r = .tuple #[.int .i64 x, .int .i64 (cntL l k (lvx l x) : Nat)] ∧ Lat l k x := by
  subst hn hm
  have hkl : 0 < k.length := List.length_pos_iff.2 hk0
  obtain ⟨y0, hy0⟩ := some_at hkl
  obtain ⟨bkA, offA, rfl, hcA⟩ := Rk.get (by rw [ints_len]; omega)
  have ca := hcA _ _ (ints_at hy0)
  rw [Nat.add_zero] at ca
  have hln : 0 < l.length := by
    obtain ⟨q, t, h1, _⟩ := false_at G (hk y0 (List.mem_of_getElem? hy0))
    have := (List.getElem?_eq_some_iff.1 h1).1; omega
  have R' := R
  obtain ⟨bk, off, rfl, hc⟩ := R.get (by rw [stVs_len]; omega)
  refine calls_of 61 [.tmp 4, .tmp 5] Go.Proofs.Tryz.func79 rfl rfl rfl (by kernel_rfl) (Nat.le_of_ble_eq_true rfl) ?_
  simp -implicitDefEqProofs (disch := omega) [go_sem, ca]
  refine loopK (fun ρ h' => ρ 0 = .slice (some ⟨bk, off, none⟩) l.length c ∧ ρ 1 = .slice (some ⟨bkA, offA, none⟩) k.length d ∧ h' = h ∧ ∃ (i : Nat) (x : Int), ρ 7 = .int .i64 i ∧ i ≤ k.length ∧ ρ 6 = .int .i64 x ∧ x ∈ k ∧ ∀ y ∈ k.take i, plx l y ≤ plx l x)
    (fun ρ _ => k.length - (intOf (ρ 7)).toNat) (by kernel_rfl) ?_ ?_
  · exact ⟨rfl, rfl, rfl, 0, y0, rfl, by omega, rfl, List.mem_of_getElem? hy0, fun y hy => by cases hy⟩
  · rintro ρ h1 ⟨r0, r1, rfl, i, x, r7, hi, r6, hx, hlat⟩
    by_cases hin : i < k.length
    · obtain ⟨y, hy⟩ := some_at hin
      have c0 := hcA _ _ (ints_at hy)
      have hym := List.mem_of_getElem? hy
      simp -implicitDefEqProofs (disch := omega) [go_sem, r0, r1, r6, r7, c0]
      refine useC (at19_ok R' rfl (by omega) G hv (hkr y hym)) ?_
      rintro _ h2 ⟨rfl, rfl⟩
      simp -implicitDefEqProofs (disch := omega) [go_sem, r0, r1, r6, r7, c0]
      refine useC (at19_ok R' rfl (by omega) G hv (hkr x hx)) ?_
      rintro _ h2 ⟨rfl, rfl⟩
      by_cases hgt : plx l x < plx l y
      · simp -implicitDefEqProofs (disch := omega) [go_sem, r0, r1, r6, r7, c0, hgt]
        refine ⟨⟨i + 1, by omega, by omega, hym, fun z hz => ?_⟩, by omega⟩
        rw [take_at hy] at hz
        rcases List.mem_append.1 hz with hz | hz
        · have := hlat z hz; omega
        · rw [List.mem_singleton] at hz; rw [hz]; exact Int.le_refl _
      · simp -implicitDefEqProofs (disch := omega) [go_sem, r0, r1, r6, r7, c0, hgt]
        refine ⟨⟨i + 1, by omega, by omega, hx, fun z hz => ?_⟩, by omega⟩
        rw [take_at hy] at hz
        rcases List.mem_append.1 hz with hz | hz
        · exact hlat z hz
        · rw [List.mem_singleton] at hz; rw [hz]; omega
    · have e1 : i = k.length := by omega
      subst e1
      rw [List.take_length] at hlat
      obtain ⟨q, t, hql, hp, hlv, _, _, _, _, _, t2⟩ := step_cells G hc (hk x hx)
      simp -implicitDefEqProofs (disch := omega) [go_sem, r0, r1, r6, r7]
      refine loopK (fun ρ h' => ρ 0 = .slice (some ⟨bk, off, none⟩) l.length c ∧ ρ 1 = .slice (some ⟨bkA, offA, none⟩) k.length d ∧ ρ 6 = .int .i64 x ∧ h' = h1 ∧ ∃ i : Nat, ρ 9 = .int .i64 i ∧ i ≤ k.length ∧ ρ 8 = .int .i64 (cntL l (k.take i) (lvx l x) : Nat))
        (fun ρ _ => k.length - (intOf (ρ 9)).toNat) (by kernel_rfl) ?_ ?_
      · exact ⟨r0, r1, r6, rfl, 0, rfl, by omega, rfl⟩
      · clear r0 r1 r6 r7
        rintro ρ h3 ⟨r0, r1, r6, rfl, i, r9, hi, r8⟩
        have hle : cntL l (k.take i) (lvx l x) ≤ i := Nat.le_trans (List.length_filter_le _ _) (by rw [List.length_take]; omega)
        by_cases hin : i < k.length
        · obtain ⟨y, hy⟩ := some_at hin
          have c0 := hcA _ _ (ints_at hy)
          have hym := List.mem_of_getElem? hy
          obtain ⟨q2, u, hq2, hp2, hlv2, _, _, _, _, _, u2⟩ := step_cells G hc (hk y hym)
          simp -implicitDefEqProofs (disch := omega) [go_sem, r0, r1, r6, r8, r9]
          refine drawC [(0, 0), (1, 0), (2, 0), (3, 0), (4, 0), (5, 1), (10, 0), (11, 0), (12, 0), (6, 3), (7, 0), (8, 0), (9, 2), (13, 3), (14, 0), (15, 0), (16, 1), (17, 0)] (Eq _) mixed (by kernel_rfl) rfl ?_
          simp -implicitDefEqProofs (disch := omega) [go_sem, r0, r1, r6, r8, r9, c0]
          refine useC (at19_ok R' rfl (by omega) G hv (hkr y hym)) ?_
          rintro _ h4 ⟨rfl, rfl⟩
          rw [hp2]
          simp -implicitDefEqProofs (disch := omega) [go_sem, r0, r1, r6, r8, r9, c0, u2]
          refine useC (at19_ok R' rfl (by omega) G hv (hkr x hx)) ?_
          rintro _ h4 ⟨rfl, rfl⟩
          rw [hp]
          by_cases he : lvx l y = lvx l x
          · have e2 : cntL l (k.take (i + 1)) (lvx l x) = cntL l (k.take i) (lvx l x) + 1 := by
              unfold cntL; rw [take_at hy, List.filter_append, List.length_append, List.filter_cons, if_pos (decide_eq_true he)]; rfl
            have he2 : u.lv = t.lv := by omega
            simp -implicitDefEqProofs (disch := omega) [go_sem, r0, r1, r6, r8, r9, t2, he2]
            exact ⟨⟨i + 1, by omega, by omega, by rw [e2]; simp⟩, by omega⟩
          · have e2 : cntL l (k.take (i + 1)) (lvx l x) = cntL l (k.take i) (lvx l x) := by
              unfold cntL; rw [take_at hy, List.filter_append, List.length_append, List.filter_cons, if_neg (by simpa using he)]; rfl
            have he2 : ¬ (u.lv : Int) = t.lv := by omega
            simp -implicitDefEqProofs (disch := omega) [go_sem, r0, r1, r6, r8, r9, t2, he2]
            exact ⟨⟨i + 1, by omega, by omega, by rw [e2]⟩, by omega⟩
        · have e1 : i = k.length := by omega
          subst e1
          rw [List.take_length] at r8
          simp -implicitDefEqProofs (disch := omega) [go_sem, r0, r1, r6, r8, r9]
          exact ⟨x, ⟨rfl, rfl⟩, hx, hlat⟩
end
end Xe

/- The reference's own functions, walked: vars, needless. -/
namespace Xe
open Go Tp Go.Proofs
set_option maxRecDepth 16000
set_option maxHeartbeats 1000000

/-- a number put at its place in a rising row -/
theorem inc_insert {O : List Int} {x : Int} {j : Nat} (hr : O.Pairwise (· < ·)) (hj : j ≤ O.length) (h1 : ∀ (q : Nat) y, q < j → O[q]? = some y → y < x) (h2 : ∀ y, O[j]? = some y → x < y) : (O.take j ++ [x] ++ O.drop j).Pairwise (· < ·) := by
  have hO : O = O.take j ++ O.drop j := (List.take_append_drop j O).symm
  have hp := hr
  rw [hO, List.pairwise_append] at hp
  have hx1 : ∀ a ∈ O.take j, a < x := fun a ha => by
    obtain ⟨q, hq⟩ := List.getElem?_of_mem ha
    rw [List.getElem?_take] at hq
    split at hq
    · exact h1 q a (by assumption) hq
    · cases hq
  have hx2 : ∀ b ∈ O.drop j, x < b := fun b hb => by
    cases hd : O.drop j with
    | nil => rw [hd] at hb; cases hb
    | cons w r =>
      have hw : O[j]? = some w := by
        have := congrArg List.head? hd
        rw [List.head?_drop] at this
        exact this
      have hxw := h2 w hw
      rw [hd] at hb
      rcases List.mem_cons.1 hb with rfl | hb
      · exact hxw
      · have hp2 := hp.2.1
        rw [hd] at hp2
        have := (List.pairwise_cons.1 hp2).1 b hb
        omega
  rw [List.append_assoc, List.pairwise_append]
  refine ⟨hp.1, ?_, fun a ha b hb => ?_⟩
  · rw [List.singleton_append, List.pairwise_cons]
    exact ⟨hx2, hp.2.1⟩
  · rcases List.mem_append.1 hb with hb | hb
    · rw [List.mem_singleton] at hb; rw [hb]; exact hx1 a ha
    · exact hp.2.2 a ha b hb
theorem ins_mem {O : List Int} {x : Int} {j : Nat} (y : Int) : y ∈ O.take j ++ [x] ++ O.drop j ↔ y ∈ O ∨ y = x := by
  rw [List.mem_append, List.mem_append, List.mem_singleton]
  conv => rhs; rw [← List.take_append_drop j O, List.mem_append]
  constructor
  · rintro ((h | h) | h)
    · exact .inl (.inl h)
    · exact .inr h
    · exact .inl (.inr h)
  · rintro ((h | h) | h)
    · exact .inl (.inl h)
    · exact .inr h
    · exact .inl (.inr h)

section
variable {h : Heap} {T A B : Option Addr} {n c m d : Nat}
theorem vars19_ok {u k : List Int} (Ru : RowAt h A (ints u)) (hn : n = u.length) (hs : n < 2 ^ 40) (Rk : RowAt h B (ints k)) (hm : m = k.length) (hs2 : m < 2 ^ 40) (hk : ∀ x ∈ k, x.natAbs ≤ 16777216) (hu : u.Pairwise (· < ·)) :
    CallsH Tryz.prog 78 [.slice A n c, .slice B m d] h fun r h' => Fr (fun _ => False) h h' ∧ ∃ w X e, r = .slice X (w : List Int).length e ∧ SlAt h' X e (ints w) ∧ (∀ y, blk X y → h.size ≤ y) ∧ w.Pairwise (· < ·) ∧ w.length ≤ u.length + k.length ∧ ∀ v, v ∈ w ↔ v ∈ u ∨ v ∈ varsL k := by
  subst hn hm
  refine calls_of 62 [.tmp 4] Go.Proofs.Tryz.func78 rfl rfl rfl (by kernel_rfl) (Nat.le_of_ble_eq_true rfl) ?_
  simp -implicitDefEqProofs (disch := omega) [go_sem]
  refine buildA ?_
  intro X0 g0 S0 o0 f0
  simp -implicitDefEqProofs (disch := omega) [go_sem]
  refine appendB (vs := []) S0 rfl (Ru.fr0 f0) (by rw [ints_len]) ints_one (by omega) (by omega) ?_
  intro X1 e1 g1 S1 f1 h1
  rw [List.nil_append] at S1
  have F1 : Fr (fun _ => False) h g1 := f0.trans' f1 fun y hy hb => by have := (o0 y hb).1; omega
  have own1 : ∀ y, blk X1 y → h.size ≤ y := fun y hy => (h1 y hy).elim (fun h => (o0 y h).1) fun h => by have := f0.size; omega
  simp -implicitDefEqProofs (disch := omega) [go_sem]
  refine loopK (fun ρ h' => ρ 1 = .slice B k.length d ∧ ∃ (i : Nat) (w : List Int) (X : Option Addr) (e : Nat), ρ 6 = .int .i64 i ∧ i ≤ k.length ∧ ρ 5 = .slice X w.length e ∧ SlAt h' X e (ints w) ∧ (∀ y, blk X y → h.size ≤ y) ∧ Fr (fun _ => False) h h' ∧ w.Pairwise (· < ·) ∧ w.length ≤ u.length + i ∧ ∀ v, v ∈ w ↔ v ∈ u ∨ v ∈ varsL (k.take i))
    (fun ρ _ => k.length - (intOf (ρ 6)).toNat) (by kernel_rfl) ?_ ?_
  · refine ⟨rfl, 0, u, X1, e1, rfl, by omega, ?_, S1, own1, F1, hu, by omega, fun v => by simp [varsL]⟩
    simp -implicitDefEqProofs [go_sem]
  · clear S0 o0 f0 S1 f1 h1 F1 own1
    rintro ρ h1 ⟨r1, i, w, X, e, r6, hi, r5, S1, own1, f1, hw, hwl, hwm⟩
    by_cases hin : i < k.length
    · obtain ⟨bk, off, rfl, hc⟩ := (Rk.fr0 f1).get (by rw [ints_len]; omega)
      obtain ⟨x, hx⟩ := some_at hin
      have c0 := hc _ _ (ints_at hx)
      have hxr := hk x (List.mem_of_getElem? hx)
      have ev : var12 x = x.natAbs := if_pos hxr
      have hvt : ∀ v, v ∈ varsL (k.take (i + 1)) ↔ v ∈ varsL (k.take i) ∨ v = (x.natAbs : Int) := fun v => by
        unfold varsL; rw [take_at hx, List.map_append, List.mem_append]; simp
      simp -implicitDefEqProofs (disch := omega) [go_sem, r1, r5, r6, c0]
      refine useC (var12_ok (x := x) (by omega) (by omega)) ?_
      rintro _ h2 ⟨rfl, rfl⟩
      rw [ev]
      have hr6 : (intOf (ρ 6)).toNat = i := by rw [r6]; rfl
      simp -implicitDefEqProofs (disch := omega) [↓ stop_block (id := 2), go_sem, r1, r5, r6]
      refine cutK (fun ρ h' => ρ 1 = .slice (some ⟨bk, off, none⟩) k.length d ∧ h' = h2 ∧ ρ 5 = .slice X w.length e ∧ ρ 6 = .int .i64 i ∧ ρ 7 = .int .i64 (x.natAbs : Int) ∧ ∃ j : Nat, ρ 8 = .int .i64 j ∧ j ≤ w.length ∧ (∀ (q : Nat) y, q < j → w[q]? = some y → y < (x.natAbs : Int)) ∧ ∀ y, w[j]? = some y → (x.natAbs : Int) ≤ y) ?_ ?_
      · simp -implicitDefEqProofs (disch := omega) [go_sem]
        refine loopK (fun ρ h' => ρ 1 = .slice (some ⟨bk, off, none⟩) k.length d ∧ h' = h2 ∧ ρ 5 = .slice X w.length e ∧ ρ 6 = .int .i64 i ∧ ρ 7 = .int .i64 (x.natAbs : Int) ∧ ∃ j : Nat, ρ 8 = .int .i64 j ∧ j ≤ w.length ∧ ∀ (q : Nat) y, q < j → w[q]? = some y → y < (x.natAbs : Int))
          (fun ρ _ => w.length - (intOf (ρ 8)).toNat) (by kernel_rfl) ?_ ?_
        · exact ⟨by simp [put, r1], rfl, by simp [put, r5], by simp [put, r6], rfl, 0, rfl, by omega, fun q y hq => by omega⟩
        · clear r1 r5 r6
          rintro ρ h3 ⟨r1, rfl, r5, r6, r7, j, r8, hj, hlt⟩
          by_cases hjw : j < w.length
          · obtain ⟨bk2, rfl, _, _, hcw⟩ := S1.base (by rw [ints_len]; omega)
            obtain ⟨y, hy⟩ := some_at hjw
            have cy := hcw _ _ (ints_at hy)
            by_cases hyx : y < (x.natAbs : Int)
            · simp -implicitDefEqProofs (disch := omega) [go_sem, r1, r5, r6, r7, r8, cy, hyx]
              refine ⟨⟨j + 1, by omega, by omega, fun q z hq hz => ?_⟩, by omega⟩
              by_cases e : q = j
              · subst e; rw [hy] at hz; cases hz; exact hyx
              · exact hlt q z (by omega) hz
            · simp -implicitDefEqProofs (disch := omega) [go_sem, r1, r5, r6, r7, r8, cy, hyx]
              exact ⟨j, rfl, hj, hlt, fun z hz => by rw [hy] at hz; cases hz; omega⟩
          · simp -implicitDefEqProofs (disch := omega) [go_sem, r1, r5, r6, r7, r8]
            exact ⟨j, rfl, hj, hlt, fun y hy => by rw [List.getElem?_eq_none (by omega)] at hy; cases hy⟩
      · clear r1 r5 r6
        rintro ρ h' ⟨r1, rfl, r5, r6, r7, j, r8, hj, hlt, hge⟩
        by_cases hex : ∃ y, w[j]? = some y ∧ y = (x.natAbs : Int)
        · obtain ⟨y, hy, hyx⟩ := hex
          have hjw := (List.getElem?_eq_some_iff.1 hy).1
          obtain ⟨bk2, rfl, _, _, hcw⟩ := S1.base (by rw [ints_len]; omega)
          have cy := hcw _ _ (ints_at hy)
          simp -implicitDefEqProofs (disch := omega) [go_sem, r1, r5, r6, r7, r8, cy, hyx]
          refine ⟨⟨i + 1, by omega, by omega, w, some ⟨bk2, 0, none⟩, e, ⟨rfl, rfl, rfl⟩, S1, own1, f1, hw, by omega, fun v => ?_⟩, by omega⟩
          rw [hwm v, hvt v]
          constructor
          · rintro (h | h)
            · exact .inl h
            · exact .inr (.inl h)
          · rintro (h | h | rfl)
            · exact .inl h
            · exact .inr h
            · rw [← hwm, ← hyx]; exact List.mem_of_getElem? hy
        · have hge2 : ∀ y, w[j]? = some y → (x.natAbs : Int) < y := fun y hy => by
            have := hge y hy
            by_cases e : y = (x.natAbs : Int)
            · exact absurd ⟨y, hy, e⟩ hex
            · omega
          have hins := inc_insert hw hj hlt hge2
          have hdl := S1.len
          rw [ints_len] at hdl
          obtain ⟨B', d', hsl, RD, hBB⟩ := slice_fromR (kd := .i64) S1 (j := j) (by rw [ints_len]; exact hj)
          rw [ints_len] at hsl
          have RT := S1.row.take j
          rw [ints_take] at RT
          have nB : ∀ y, blk X y → ¬ h'.size ≤ y := fun y hy => by have := S1.blk_lt hy; omega
          have nB' : ∀ y, blk B' y → ¬ h'.size ≤ y := fun y hy => nB y (hBB y hy)
          have hOd : (ints w).drop j = ints (w.drop j) := by unfold ints; rw [List.map_drop]
          rw [hOd] at RD
          have own1' : ∀ y, blk X y → y < h'.size := fun y hy => S1.blk_lt hy
          by_cases hjw : j < w.length
          case' pos =>
            obtain ⟨bk2, rfl, _, _, hcw⟩ := S1.base (by rw [ints_len]; omega)
            obtain ⟨y, hy⟩ := some_at hjw
            have cy := hcw _ _ (ints_at hy)
            have hyx : ¬ y = (x.natAbs : Int) := fun e => hex ⟨y, hy, e⟩
            simp -implicitDefEqProofs (disch := omega) [go_sem, r1, r5, r6, r7, r8, cy, hyx]
          case' neg =>
            simp -implicitDefEqProofs (disch := omega) [go_sem, r1, r5, r6, r7, r8]
          all_goals
            refine drawT (.br2 [(1, 0), (2, 0), (3, 0), (5, 0), (8, 0), (9, 0), (10, 0)] 0 (.br2 [] 4 (.fin [(6, 3), (7, 3), (11, 3), (12, 0)]) 6 (.fin [(4, 3), (7, 3), (11, 3), (12, 0)])) 6 (.fin [(0, 3), (4, 3), (7, 3), (11, 3), (12, 0)])) mixed (by kernel_rfl) ?_
            simp -implicitDefEqProofs (disch := omega) [go_sem, r1, r5, r6, r7, r8, hsl]
            have hlt10 : (w.take j).length = j := by rw [List.length_take]; omega
            refine ⟨?_, ?_⟩
            · have zz : h'.size ≤ h'.size := Nat.le_refl _
              refine buildA ?_
              intro X0 g0 S0 o0 f0
              have Fg0 : Fr (fun y => h'.size ≤ y) h' g0 := f0.mono fun _ _ h => h.elim
              have zg0 := Fg0.size
              simp -implicitDefEqProofs (disch := omega) [go_sem, r1, r5, r6, r7, r8, hsl]
              refine ⟨?_, ?_⟩
              · refine appendB (vs := []) (ws := ints (w.take j)) S0 rfl (RT.fr Fg0 nB) (by rw [ints_len, List.length_take]; omega) ints_one (by omega) (by omega) ?_
                intro A4 c4 g1 S4 f4 h4
                rw [List.nil_append] at S4
                have Fg1 := Fg0.trans (f4.mono fun y _ hy => Nat.le_trans zz (o0 y hy).1)
                have o4 : ∀ y, blk A4 y → h'.size ≤ y := fun y hy => (h4 y hy).elim (fun h => Nat.le_trans zz (o0 y h).1) fun h => Nat.le_trans zg0 h
                have zg1 := Fg1.size
                simp -implicitDefEqProofs (disch := omega) [go_sem, r1, r5, r6, r7, r8, hsl]
                refine buildB rfl rfl ?_
                intro X9 g S9 o9 f9
                have Fg := Fg1.trans (f9.mono fun _ _ h => h.elim)
                have zg := Fg.size
                replace S4 := S4.fr f9 (fun _ _ h => h)
                have RX := S9.row
                simp -implicitDefEqProofs (disch := omega) [go_sem, r1, r5, r6, r7, r8, hsl]
                refine appendB (vs := ints (w.take j)) (ws := [.int .i64 (x.natAbs : Int)]) S4 (by rw [ints_len, hlt10]) RX rfl (by simp [Value.oneCell']) (by omega) (by omega) ?_
                intro A10 c10 k1 S10 f10 h10
                have Fk1 := Fg.trans (f10.mono fun y _ hy => o4 y hy)
                have zk1 := Fk1.size
                have o10 : ∀ y, blk A10 y → h'.size ≤ y := fun y hy => (h10 y hy).elim (o4 y) fun h => Nat.le_trans zg h
                simp -implicitDefEqProofs (disch := omega) [go_sem, r1, r5, r6, r7, r8, hsl]
                refine appendB (vs := ints (w.take j) ++ [.int .i64 (x.natAbs : Int)]) (ws := ints (w.drop j)) S10 (by rw [List.length_append, ints_len, hlt10]; rfl) (RD.fr Fk1 nB') (by rw [ints_len, List.length_drop]; try omega) ints_one (by omega) (by omega) ?_
                intro A14 c14 k2 S14 f14 h14
                have Fk2 := Fk1.trans (f14.mono fun y _ hy => o10 y hy)
                have o14 : ∀ y, blk A14 y → h.size ≤ y := fun y hy => Nat.le_trans f1.size ((h14 y hy).elim (o10 y) fun h => Nat.le_trans zk1 h)
                have ei : ints (w.take j) ++ [.int .i64 (x.natAbs : Int)] ++ ints (w.drop j) = ints (w.take j ++ [(x.natAbs : Int)] ++ w.drop j) := by simp [ints]
                rw [ei] at S14
                have hnl : j + 1 + (w.length - j) = (w.take j ++ [(x.natAbs : Int)] ++ w.drop j).length := by rw [List.length_append, List.length_append, hlt10, List.length_drop]; rfl
                simp -implicitDefEqProofs (disch := omega) [go_sem, r1, r5, r6, r7, r8]
                refine ⟨⟨i + 1, by omega, by omega, w.take j ++ [(x.natAbs : Int)] ++ w.drop j, A14, c14, ⟨rfl, by first | exact hnl | (rw [← hnl]; omega), rfl⟩, S14, o14, f1.trans (Fk2.of_new (Nat.le_refl _)), hins, by rw [← hnl]; omega, fun v => ?_⟩, by omega⟩
                rw [ins_mem, hwm v, hvt v]
                constructor
                · rintro ((h | h) | h)
                  · exact .inl h
                  · exact .inr (.inl h)
                  · exact .inr (.inr h)
                · rintro (h | h | h)
                  · exact .inl (.inl h)
                  · exact .inl (.inr h)
                  · exact .inr h
              · refine buildB rfl rfl ?_
                intro X9 g1 S9 o9 f9
                have Fg1 := Fg0.trans (f9.mono fun _ _ h => h.elim)
                have zg1 := Fg1.size
                simp -implicitDefEqProofs (disch := omega) [go_sem, r1, r5, r6, r7, r8, hsl]
                replace S0 := S0.fr f9 (fun _ _ h => h)
                refine appendB (vs := []) (ws := ints (w.take j)) S0 rfl (RT.fr Fg1 nB) (by rw [ints_len, List.length_take]; omega) ints_one (by omega) (by omega) ?_
                intro A4 c4 g S4 f4 h4
                rw [List.nil_append] at S4
                have Fg := Fg1.trans (f4.mono fun y _ hy => Nat.le_trans zz (o0 y hy).1)
                have o4 : ∀ y, blk A4 y → h'.size ≤ y := fun y hy => (h4 y hy).elim (fun h => Nat.le_trans zz (o0 y h).1) fun h => Nat.le_trans zg1 h
                have zg := Fg.size
                have RX := S9.row.fr f4 (fun y hy h => by have := (o9 y hy).1; have := (o0 y h).2; omega)
                simp -implicitDefEqProofs (disch := omega) [go_sem, r1, r5, r6, r7, r8, hsl]
                refine appendB (vs := ints (w.take j)) (ws := [.int .i64 (x.natAbs : Int)]) S4 (by rw [ints_len, hlt10]) RX rfl (by simp [Value.oneCell']) (by omega) (by omega) ?_
                intro A10 c10 k1 S10 f10 h10
                have Fk1 := Fg.trans (f10.mono fun y _ hy => o4 y hy)
                have zk1 := Fk1.size
                have o10 : ∀ y, blk A10 y → h'.size ≤ y := fun y hy => (h10 y hy).elim (o4 y) fun h => Nat.le_trans zg h
                simp -implicitDefEqProofs (disch := omega) [go_sem, r1, r5, r6, r7, r8, hsl]
                refine appendB (vs := ints (w.take j) ++ [.int .i64 (x.natAbs : Int)]) (ws := ints (w.drop j)) S10 (by rw [List.length_append, ints_len, hlt10]; rfl) (RD.fr Fk1 nB') (by rw [ints_len, List.length_drop]; try omega) ints_one (by omega) (by omega) ?_
                intro A14 c14 k2 S14 f14 h14
                have Fk2 := Fk1.trans (f14.mono fun y _ hy => o10 y hy)
                have o14 : ∀ y, blk A14 y → h.size ≤ y := fun y hy => Nat.le_trans f1.size ((h14 y hy).elim (o10 y) fun h => Nat.le_trans zk1 h)
                have ei : ints (w.take j) ++ [.int .i64 (x.natAbs : Int)] ++ ints (w.drop j) = ints (w.take j ++ [(x.natAbs : Int)] ++ w.drop j) := by simp [ints]
                rw [ei] at S14
                have hnl : j + 1 + (w.length - j) = (w.take j ++ [(x.natAbs : Int)] ++ w.drop j).length := by rw [List.length_append, List.length_append, hlt10, List.length_drop]; rfl
                simp -implicitDefEqProofs (disch := omega) [go_sem, r1, r5, r6, r7, r8]
                refine ⟨⟨i + 1, by omega, by omega, w.take j ++ [(x.natAbs : Int)] ++ w.drop j, A14, c14, ⟨rfl, by first | exact hnl | (rw [← hnl]; omega), rfl⟩, S14, o14, f1.trans (Fk2.of_new (Nat.le_refl _)), hins, by rw [← hnl]; omega, fun v => ?_⟩, by omega⟩
                rw [ins_mem, hwm v, hvt v]
                constructor
                · rintro ((h | h) | h)
                  · exact .inl h
                  · exact .inr (.inl h)
                  · exact .inr (.inr h)
                · rintro (h | h | h)
                  · exact .inl (.inl h)
                  · exact .inl (.inr h)
                  · exact .inr h
            · refine buildB rfl rfl ?_
              intro X9 g0 S9 o9 f9
              have Fg0 : Fr (fun y => h'.size ≤ y) h' g0 := f9.mono fun _ _ h => h.elim
              have zg0 := Fg0.size
              simp -implicitDefEqProofs (disch := omega) [go_sem, r1, r5, r6, r7, r8, hsl]
              have zz := zg0
              refine buildA ?_
              intro X0 g1 S0 o0 f0
              have Fg1 := Fg0.trans (f0.mono fun _ _ h => h.elim)
              have zg1 := Fg1.size
              simp -implicitDefEqProofs (disch := omega) [go_sem, r1, r5, r6, r7, r8, hsl]
              refine appendB (vs := []) (ws := ints (w.take j)) S0 rfl (RT.fr Fg1 nB) (by rw [ints_len, List.length_take]; omega) ints_one (by omega) (by omega) ?_
              intro A4 c4 g S4 f4 h4
              rw [List.nil_append] at S4
              have Fg := Fg1.trans (f4.mono fun y _ hy => Nat.le_trans zz (o0 y hy).1)
              have o4 : ∀ y, blk A4 y → h'.size ≤ y := fun y hy => (h4 y hy).elim (fun h => Nat.le_trans zz (o0 y h).1) fun h => Nat.le_trans zg1 h
              have zg := Fg.size
              have RX := (S9.row.fr0 f0).fr f4 (fun y hy h => by have := (o9 y hy).2; have := (o0 y h).1; omega)
              simp -implicitDefEqProofs (disch := omega) [go_sem, r1, r5, r6, r7, r8, hsl]
              refine appendB (vs := ints (w.take j)) (ws := [.int .i64 (x.natAbs : Int)]) S4 (by rw [ints_len, hlt10]) RX rfl (by simp [Value.oneCell']) (by omega) (by omega) ?_
              intro A10 c10 k1 S10 f10 h10
              have Fk1 := Fg.trans (f10.mono fun y _ hy => o4 y hy)
              have zk1 := Fk1.size
              have o10 : ∀ y, blk A10 y → h'.size ≤ y := fun y hy => (h10 y hy).elim (o4 y) fun h => Nat.le_trans zg h
              simp -implicitDefEqProofs (disch := omega) [go_sem, r1, r5, r6, r7, r8, hsl]
              refine appendB (vs := ints (w.take j) ++ [.int .i64 (x.natAbs : Int)]) (ws := ints (w.drop j)) S10 (by rw [List.length_append, ints_len, hlt10]; rfl) (RD.fr Fk1 nB') (by rw [ints_len, List.length_drop]; try omega) ints_one (by omega) (by omega) ?_
              intro A14 c14 k2 S14 f14 h14
              have Fk2 := Fk1.trans (f14.mono fun y _ hy => o10 y hy)
              have o14 : ∀ y, blk A14 y → h.size ≤ y := fun y hy => Nat.le_trans f1.size ((h14 y hy).elim (o10 y) fun h => Nat.le_trans zk1 h)
              have ei : ints (w.take j) ++ [.int .i64 (x.natAbs : Int)] ++ ints (w.drop j) = ints (w.take j ++ [(x.natAbs : Int)] ++ w.drop j) := by simp [ints]
              rw [ei] at S14
              have hnl : j + 1 + (w.length - j) = (w.take j ++ [(x.natAbs : Int)] ++ w.drop j).length := by rw [List.length_append, List.length_append, hlt10, List.length_drop]; rfl
              simp -implicitDefEqProofs (disch := omega) [go_sem, r1, r5, r6, r7, r8]
              refine ⟨⟨i + 1, by omega, by omega, w.take j ++ [(x.natAbs : Int)] ++ w.drop j, A14, c14, ⟨rfl, by first | exact hnl | (rw [← hnl]; omega), rfl⟩, S14, o14, f1.trans (Fk2.of_new (Nat.le_refl _)), hins, by rw [← hnl]; omega, fun v => ?_⟩, by omega⟩
              rw [ins_mem, hwm v, hvt v]
              constructor
              · rintro ((h | h) | h)
                · exact .inl h
                · exact .inr (.inl h)
                · exact .inr (.inr h)
              · rintro (h | h | h)
                · exact .inl (.inl h)
                · exact .inl (.inr h)
                · exact .inr h
    · have e1 : i = k.length := by omega
      subst e1
      rw [List.take_length] at hwm
      simp -implicitDefEqProofs (disch := omega) [go_sem, r1, r5, r6]
      exact ⟨f1, w, X, e, ⟨rfl, rfl, rfl⟩, S1, own1, hw, hwl, hwm⟩
end
end Xe

/- The reference's own functions, walked: needless. -/
namespace Xe
open Go Tp Go.Proofs
set_option maxRecDepth 16000
set_option maxHeartbeats 1000000

/-- why a literal may not be left out -/
def NdR (s : WS) (b : Bool) (w k : List Int) : Prop := b = false ↔ ∃ y ∈ w, 0 < lvx s.l y ∧ y ∉ k
section
variable {h : Heap} {T A CS : Option Addr} {n c m d q e : Nat} {s : WS}
/-- a false literal's reason: what it holds -/
theorem reason_false (I : WInv s) {x : Int} (hx : trI s.l x = -1) (h0 : 0 ≤ RS s.l x.natAbs) : ∃ (k : Nat) (e : Ent), RS s.l x.natAbs = k ∧ s.cs[k]? = some e ∧ -x ∈ e.lits ∧ ∀ y ∈ e.lits, y ≠ -x → trI s.l y = -1 := by
  obtain ⟨i, t, hi, ht, _, _, hr⟩ := false_at I.good hx
  rw [hr] at h0
  obtain ⟨e, he, hg, hu1, hu2, hu3⟩ := I.rs i t hi h0
  have hcl := I.cl e (List.mem_of_getElem? he)
  refine ⟨t.rs.toNat, e, by omega, he, by rw [← ht]; exact hu1, fun y hy hyx => ?_⟩
  have h1 := (tr_m1.1 (hu3 y hy (by rw [ht]; exact hyx))).2
  obtain ⟨w, hw, ew⟩ := List.mem_map.1 h1
  obtain ⟨q, hq⟩ := List.getElem?_of_mem hw
  rw [List.getElem?_take] at hq
  split at hq
  · rw [tr_at I.good hq (x := y) (by rw [ew]; omega), if_neg]
    have := (hcl.2 y hy).1
    rw [ew]; omega
  · cases hq
theorem needless19_ok (R : RowAt h T (stVs s.l)) (hn : n = s.l.length) (I : WInv s) (hsm : n < 2 ^ 40) (RC : RowsA h CS (s.cs.map (·.lits))) (hq : q = s.cs.length) (hqs : q < 2 ^ 40) {k : List Int} (Rk : RowAt h A (ints k)) (hm : m = k.length) (hs2 : m < 2 ^ 40) {x : Int} (hx : trI s.l x = -1) (hxr : x.natAbs ≤ 16777216) :
    CallsH Tryz.prog 82 [.slice T n c, .slice CS q e, .slice A m d, .int .i64 x] h fun r h' => r = .bool (ndl s k x) ∧ Fr (fun _ => False) h h' := by
  subst hn hm hq
  have G := I.good
  have hv := I.hv
  have R' := R
  have hln : 0 < s.l.length := by
    obtain ⟨i, t, h1, _⟩ := false_at G hx
    have := (List.getElem?_eq_some_iff.1 h1).1; omega
  obtain ⟨bk, off, rfl, hc⟩ := R.get (by rw [stVs_len]; omega)
  obtain ⟨i, t, hil, hp, hlv, hrs, htl, hti, t0, t1, t2⟩ := step_cells G hc hx
  refine calls_of 54 [.tmp 8] Go.Proofs.Tryz.func82 rfl rfl rfl (by kernel_rfl) (Nat.le_of_ble_eq_true rfl) ?_
  simp -implicitDefEqProofs (disch := omega) [go_sem]
  refine useC (at19_ok R' rfl (by omega) G hv hxr) ?_
  rintro _ h2 ⟨rfl, rfl⟩
  rw [hp]
  by_cases h0 : t.rs < 0
  · have hnd : ndl s k x = false := by unfold ndl; rw [hrs, decide_eq_false (by omega)]; rfl
    simp -implicitDefEqProofs (disch := omega) [go_sem, t1, h0, hnd]
    exact Fr.refl _ _
  obtain ⟨j, en, hj, hen, hxe, hre⟩ := reason_false I hx (by omega)
  have hj2 : t.rs = (j : Int) := by omega
  have hjl := (List.getElem?_eq_some_iff.1 hen).1
  have hcl := I.cl en (List.mem_of_getElem? hen)
  have hel := rise_length (a := 0) (n := s.vars) hcl.1 fun x hx => ⟨(hcl.2 x hx).1, (hcl.2 x hx).2⟩
  obtain ⟨bkC, offC, Bc, dc, rfl, cc, RB⟩ := RC j en.lits (by rw [List.getElem?_map, hen]; rfl)
  have hndl : ndl s k x = !((en.lits.filter fun y => decide (y ≠ -x)).any fun y => decide (0 < lvx s.l y) && decide (y ∉ k)) := by
    unfold ndl
    rw [hj, decide_eq_true (by omega), Int.toNat_natCast, hen, Bool.true_and]
    simp only
    congr 1
    rw [Bool.eq_iff_iff, List.any_eq_true, List.any_eq_true]
    unfold ndP
    constructor
    · rintro ⟨y, hy, hh⟩
      rw [Bool.and_assoc, Bool.and_eq_true] at hh
      exact ⟨y, List.mem_filter.2 ⟨hy, hh.1⟩, hh.2⟩
    · rintro ⟨y, hy, hh⟩
      obtain ⟨hy1, hy2⟩ := List.mem_filter.1 hy
      exact ⟨y, hy1, by rw [Bool.and_assoc, Bool.and_eq_true]; exact ⟨hy2, hh⟩⟩
  have h0' : ¬ (j : Int) < 0 := by omega
  simp -implicitDefEqProofs (disch := omega) [go_sem, t1, hj2, h0', cc]
  refine useC (rest19_ok RB rfl (by omega) (-x)) ?_
  rintro _ h3 ⟨f3, X, xe, rfl, SX, ownX⟩
  obtain ⟨w, hw⟩ : ∃ w, w = en.lits.filter fun y => decide (y ≠ -x) := ⟨_, rfl⟩
  rw [← hw] at SX hndl ⊢
  have hwf : ∀ y ∈ w, trI s.l y = -1 ∧ y.natAbs ≤ 16777216 := fun y hy => by
    rw [hw] at hy
    obtain ⟨h1, h2⟩ := List.mem_filter.1 hy
    exact ⟨hre y h1 (of_decide_eq_true h2), by have := hcl.2 y h1; omega⟩
  have hwl : w.length ≤ en.lits.length := by rw [hw]; exact List.length_filter_le _ _
  have R3 := R'.fr0 f3
  have Rk3 := Rk.fr0 f3
  have hc3 : ∀ i v, (stVs s.l)[i]? = some v → hcell h3 ⟨bk, off + i, none⟩ = some v := fun i v hv => (f3.cell (hcell_lt (hc i v hv)) fun h => h).trans (hc i v hv)
  have hndl2 : NdR s (ndl s k x) w k := by
    unfold NdR
    rw [hndl, Bool.not_eq_false', List.any_eq_true]
    simp
  obtain ⟨b, hb⟩ : ∃ b, b = ndl s k x := ⟨_, rfl⟩
  rw [← hb] at hndl2 ⊢
  simp -implicitDefEqProofs (disch := omega) [go_sem]
  refine loopK (fun ρ h' => ρ 0 = .slice (some ⟨bk, off, none⟩) s.l.length c ∧ ρ 2 = .slice A k.length d ∧ ρ 10 = .slice X w.length xe ∧ h' = h3 ∧ ∃ i : Nat, ρ 11 = .int .i64 i ∧ i ≤ w.length ∧ ∀ (j : Nat) y, j < i → w[j]? = some y → 0 < lvx s.l y → y ∈ k)
    (fun ρ _ => w.length - (intOf (ρ 11)).toNat) (by kernel_rfl) ?_ ?_
  · exact ⟨rfl, rfl, rfl, rfl, 0, rfl, by omega, fun j y hj => by omega⟩
  · rintro ρ h4 ⟨r0, r2, r10, rfl, i, r11, hi, hjj⟩
    by_cases hin : i < w.length
    · obtain ⟨bkX, offX, rfl, hcX⟩ := SX.row.get (by rw [ints_len]; omega)
      obtain ⟨y, hy⟩ := some_at hin
      have c0 := hcX _ _ (ints_at hy)
      obtain ⟨hyf, hyr⟩ := hwf y (List.mem_of_getElem? hy)
      obtain ⟨i2, u, hi2, hp2, hlv2, _, _, _, _, _, u2⟩ := step_cells G hc3 hyf
      simp -implicitDefEqProofs (disch := omega) [go_sem, r0, r2, r10, r11, c0]
      refine useC (at19_ok R3 rfl (by omega) G hv hyr) ?_
      rintro _ h5 ⟨rfl, rfl⟩
      rw [hp2]
      by_cases hl0 : 0 < lvx s.l y
      · have hl0' : (0 : Int) < (u.lv : Int) := by omega
        simp -implicitDefEqProofs (disch := omega) [go_sem, r0, r2, r10, r11, c0, u2, hl0']
        refine useC (has12_ok Rk3 rfl (by omega) y) ?_
        rintro _ h5 ⟨rfl, rfl⟩
        by_cases hyk : y ∈ k
        · simp -implicitDefEqProofs (disch := omega) [go_sem, r0, r2, r10, r11, hyk]
          refine ⟨⟨i + 1, by omega, by omega, fun j z hj hz => ?_⟩, by omega⟩
          by_cases e : j = i
          · subst e; rw [hy] at hz; cases hz; exact fun _ => hyk
          · exact hjj j z (by omega) hz
        · simp -implicitDefEqProofs (disch := omega) [go_sem, r0, r2, r10, r11, hyk]
          exact ⟨hndl2.2 ⟨y, List.mem_of_getElem? hy, hl0, hyk⟩, f3⟩
      · have hl0' : ¬ (0 : Int) < (u.lv : Int) := by omega
        simp -implicitDefEqProofs (disch := omega) [go_sem, r0, r2, r10, r11, c0, u2, hl0']
        refine ⟨⟨i + 1, by omega, by omega, fun j z hj hz => ?_⟩, by omega⟩
        by_cases e : j = i
        · subst e; rw [hy] at hz; cases hz; exact fun h => absurd h hl0
        · exact hjj j z (by omega) hz
    · simp -implicitDefEqProofs (disch := omega) [go_sem, r0, r2, r10, r11]
      refine ⟨?_, f3⟩
      cases hb2 : b with
      | true => rfl
      | false =>
        obtain ⟨y, hy, h1, h2⟩ := hndl2.1 hb2
        obtain ⟨j, hj3⟩ := List.getElem?_of_mem hy
        exact absurd (hjj j y (by have := (List.getElem?_eq_some_iff.1 hj3).1; omega) hj3 h1) h2
end
end Xe

/- What is taught, and what was used, is one; the document's order of leaving out is the program's. -/
namespace Xe
open Tp

theorem fall_uniq {l : List St} : ∀ {S S' : List Int}, (∀ x ∈ S, ∀ y ∈ S, plx l x = plx l y → x = y) → S.Perm S' → Fall l S → Fall l S' → S = S' := by
  intro S
  induction S with
  | nil => intro S' _ hP _ _; exact hP.nil_eq
  | cons a S ih =>
    intro S' inj hP h1 h2
    cases S' with
    | nil => exact absurd hP.length_eq (by simp)
    | cons b S' =>
      unfold Fall at h1 h2
      rw [List.pairwise_cons] at h1 h2
      have e : a = b := by
        have ma : a ∈ b :: S' := hP.mem_iff.1 (List.mem_cons_self ..)
        have mb : b ∈ a :: S := hP.mem_iff.2 (List.mem_cons_self ..)
        rcases List.mem_cons.1 ma with h | h
        · exact h
        · rcases List.mem_cons.1 mb with h' | h'
          · exact h'.symm
          · have g1 := h2.1 a h
            have g2 := h1.1 b h'
            exact inj a (List.mem_cons_self ..) b mb (Int.le_antisymm g1 g2)
      subst e
      rw [ih (fun x hx y hy => inj x (List.mem_cons_of_mem _ hx) y (List.mem_cons_of_mem _ hy)) hP.cons_inv h1.2 h2.2]

section
variable {s : WS} {id : Int}
theorem there_not {k : Nat} {e : Ent} (h1 : id = k) (h2 : s.cs[k]? = some e) (h3 : e.gone = false) (hn : NotThere s id) : False := by
  subst h1
  have := hn (by omega) e (by rw [Int.toNat_natCast]; exact h2)
  rw [h3] at this; cases this
theorem there_one {k k' : Nat} {e e' : Ent} (h1 : id = k) (h2 : s.cs[k]? = some e) (h1' : id = k') (h2' : s.cs[k']? = some e') : e = e' := by
  have : k = k' := by omega
  subst this
  rw [h2] at h2'; exact Option.some.inj h2'
theorem FromR.uniq (I : WInv s) (D : Dcs s.l) {cl cl' : List Int} {lv lv' e e' : Int} (h : FromR s id cl lv e) (h' : FromR s id cl' lv' e') : cl = cl' ∧ lv = lv' ∧ e = e' := by
  cases h with
  | none hn =>
    cases h' with
    | none => exact ⟨rfl, rfl, rfl⟩
    | nofail g1 g2 g3 => exact (there_not g1 g2 g3 hn).elim
    | ground g1 g2 g3 => exact (there_not g1 g2 g3 hn).elim
    | taught g1 g2 g3 => exact (there_not g1 g2 g3 hn).elim
  | nofail a1 a2 a3 a4 =>
    cases h' with
    | none hn => exact (there_not a1 a2 a3 hn).elim
    | nofail => exact ⟨rfl, rfl, rfl⟩
    | ground g1 g2 g3 g4 => rw [there_one a1 a2 g1 g2] at a4; exact absurd g4 a4
    | taught g1 g2 g3 g4 => rw [there_one a1 a2 g1 g2] at a4; exact absurd g4 a4
  | @ground k en rs c a1 a2 a3 a4 a5 a6 a7 =>
    have hcl := I.cl en (List.mem_of_getElem? a2)
    have F0 : Cf s.vars s.l en.lits := ⟨hcl.1, hcl.2, a4⟩
    cases h' with
    | none hn => exact (there_not a1 a2 a3 hn).elim
    | nofail g1 g2 g3 g4 => rw [← there_one a1 a2 g1 g2] at g4; exact absurd a4 g4
    | ground => exact ⟨rfl, rfl, rfl⟩
    | taught g1 g2 g3 g4 g5 g6 g7 g8 =>
      rw [← there_one a1 a2 g1 g2] at g5
      obtain ⟨_, rfl⟩ := a5.uniq I D F0 g5 a6 g6
      rcases a7 with rfl | ⟨x, b1, b2⟩
      · cases g7.1
      · have := b1.uniq I.good (a5.cf I D F0).fail g7
        subst this
        omega
  | @taught k en rs c S x a1 a2 a3 a4 a5 a6 a7 a8 a9 a10 =>
    have hcl := I.cl en (List.mem_of_getElem? a2)
    have F0 : Cf s.vars s.l en.lits := ⟨hcl.1, hcl.2, a4⟩
    have F := a5.cf I D F0
    cases h' with
    | none hn => exact (there_not a1 a2 a3 hn).elim
    | nofail g1 g2 g3 g4 => rw [← there_one a1 a2 g1 g2] at g4; exact absurd a4 g4
    | ground g1 g2 g3 g4 g5 g6 g7 =>
      rw [← there_one a1 a2 g1 g2] at g5
      obtain ⟨_, rfl⟩ := a5.uniq I D F0 g5 a6 g6
      rcases g7 with rfl | ⟨x, b1, b2⟩
      · cases a7.1
      · have := b1.uniq I.good F.fail a7
        subst this
        omega
    | taught g1 g2 g3 g4 g5 g6 g7 g8 g9 g10 =>
      rw [← there_one a1 a2 g1 g2] at g5
      obtain ⟨_, rfl⟩ := a5.uniq I D F0 g5 a6 g6
      have hx := a7.uniq I.good F.fail g7
      subst hx
      have hS := fall_uniq (fun x hx y hy he => plx_inj I.good (F.fail x (a9.mem_iff.1 hx)) (F.fail y (a9.mem_iff.1 hy)) he) (a9.trans g9.symm) a10 g10
      subst hS
      exact ⟨rfl, rfl, rfl⟩
theorem inc_uniq : ∀ {a b : List Int}, a.Pairwise (· < ·) → b.Pairwise (· < ·) → (∀ x, x ∈ a ↔ x ∈ b) → a = b := by
  intro a
  induction a with
  | nil =>
    intro b _ _ h
    cases b with
    | nil => rfl
    | cons y b => exact absurd ((h y).2 (List.mem_cons_self ..)) (by simp)
  | cons x a ih =>
    intro b ha hb h
    cases b with
    | nil => exact absurd ((h x).1 (List.mem_cons_self ..)) (by simp)
    | cons y b =>
      rw [List.pairwise_cons] at ha hb
      have e : x = y := by
        rcases List.mem_cons.1 ((h x).1 (List.mem_cons_self ..)) with h1 | h1
        · exact h1
        · rcases List.mem_cons.1 ((h y).2 (List.mem_cons_self ..)) with h2 | h2
          · exact h2.symm
          · have := ha.1 y h2
            have := hb.1 x h1
            omega
      subst e
      rw [ih ha.2 hb.2 fun z => ?_]
      constructor
      · intro hz
        rcases List.mem_cons.1 ((h z).1 (List.mem_cons_of_mem _ hz)) with h1 | h1
        · have := ha.1 z hz; omega
        · exact h1
      · intro hz
        rcases List.mem_cons.1 ((h z).2 (List.mem_cons_of_mem _ hz)) with h1 | h1
        · have := hb.1 z hz; omega
        · exact h1
theorem UsedR.uniq (I : WInv s) (D : Dcs s.l) {ul ul' : List Int} (h : UsedR s id ul) (h' : UsedR s id ul') : ul = ul' := by
  cases h with
  | none hn =>
    cases h' with
    | none => rfl
    | nofail => rfl
    | used g1 g2 g3 => exact (there_not g1 g2 g3 hn).elim
  | nofail a1 a2 a3 a4 =>
    cases h' with
    | none => rfl
    | nofail => rfl
    | used g1 g2 g3 g4 => rw [there_one a1 a2 g1 g2] at a4; exact absurd g4 a4
  | @used k en rs c _ a1 a2 a3 a4 a5 a6 a7 a8 =>
    have hcl := I.cl en (List.mem_of_getElem? a2)
    have F0 : Cf s.vars s.l en.lits := ⟨hcl.1, hcl.2, a4⟩
    cases h' with
    | none hn => exact (there_not a1 a2 a3 hn).elim
    | nofail g1 g2 g3 g4 => rw [← there_one a1 a2 g1 g2] at g4; exact absurd a4 g4
    | used g1 g2 g3 g4 g5 g6 g7 g8 =>
      have he := there_one a1 a2 g1 g2
      rw [← he] at g5 g8
      obtain ⟨rfl, _⟩ := a5.uniq I D F0 g5 a6 g6
      exact inc_uniq a7 g7 fun v => (a8 v).trans (g8 v).symm

/-! ### The document's order -/
theorem shr_mem {keep x : Int} : ∀ {L c : List Int}, x ∈ c → x ∉ L → x ∈ shr s keep c L := by
  intro L
  induction L with
  | nil => intro c h _; exact h
  | cons y L ih =>
    intro c h hn
    refine ih (c := shr1 s keep c y) ?_ (fun h => hn (List.mem_cons_of_mem _ h))
    unfold shr1
    split
    · exact List.mem_filter.2 ⟨h, by simpa using fun e => hn (by rw [e]; exact List.mem_cons_self ..)⟩
    · exact h
/-- the trail's false literals, from behind, so many -/
def backL (l : List St) (j : Nat) : List Int := ((lits l).reverse.take j).map fun x => -x
def backC (l : List St) (c : List Int) (j : Nat) : List Int := (backL l j).filter fun x => decide (x ∈ c)
theorem backL_succ {l : List St} {j : Nat} {t : St} (h : l[l.length - 1 - j]? = some t) (hj : j < l.length) : backL l (j + 1) = backL l j ++ [-t.lit] := by
  unfold backL
  have : (lits l).reverse[j]? = some t.lit := by
    rw [List.getElem?_reverse (by unfold lits; rw [List.length_map]; exact hj)]
    unfold lits
    rw [List.getElem?_map, List.length_map, h]; rfl
  rw [List.take_add_one, this]
  simp
theorem backC_succ {l : List St} {c : List Int} {j : Nat} {t : St} (h : l[l.length - 1 - j]? = some t) (hj : j < l.length) : backC l c (j + 1) = if -t.lit ∈ c then backC l c j ++ [-t.lit] else backC l c j := by
  unfold backC
  rw [backL_succ h hj, List.filter_append, List.filter_cons]
  split
  · rename_i hc; rw [if_pos (of_decide_eq_true hc), List.filter_nil]
  · rename_i hc; rw [if_neg (by simpa using hc), List.filter_nil, List.append_nil]
theorem backL_pw {l : List St} {vars : Nat} (G : Good vars l) : (backL l l.length).Pairwise fun x y => plx l y < plx l x := by
  have hlen : (lits l).reverse.length = l.length := by unfold lits; rw [List.length_reverse, List.length_map]
  unfold backL
  rw [List.take_of_length_le (by omega), List.pairwise_map, List.pairwise_iff_getElem]
  intro i j hi hj hij
  rw [hlen] at hi hj
  rw [List.getElem_reverse, List.getElem_reverse]
  have key : ∀ q (hq : q < l.length), plx l (-(lits l)[q]'(by unfold lits; rw [List.length_map]; exact hq)) = q := fun q hq => by
    have e : (lits l)[q]'(by unfold lits; rw [List.length_map]; exact hq) = l[q].lit := by simp [lits]
    rw [e]
    unfold plx
    rw [Int.natAbs_neg]
    exact G.pl (List.getElem?_eq_getElem hq)
  have hl : (lits l).length = l.length := by unfold lits; rw [List.length_map]
  rw [key _ (by omega), key _ (by omega)]
  omega
theorem backC_all {l : List St} {vars : Nat} {c : List Int} (G : Good vars l) (hr : Rise c) (hf : FailAt l c) : (backC l c l.length).Perm c ∧ Fall l (backC l c l.length) := by
  have hpw := backL_pw G
  have hnd : (backL l l.length).Nodup := hpw.imp fun {a b} h e => by rw [e] at h; omega
  have hm : ∀ x ∈ c, x ∈ backL l l.length := fun x hx => by
    have h1 := (tr_m1.1 (hf x hx)).2
    unfold backL
    rw [List.take_of_length_le (by unfold lits; rw [List.length_reverse, List.length_map]; exact Nat.le_refl _)]
    exact List.mem_map.2 ⟨-x, List.mem_reverse.2 h1, Int.neg_neg x⟩
  refine ⟨(List.perm_ext_iff_of_nodup (hnd.sublist List.filter_sublist) (rise_nodup hr)).2 fun x => ?_, List.Pairwise.imp (fun {a b} h => Int.le_of_lt h) (hpw.sublist List.filter_sublist)⟩
  rw [List.mem_filter, decide_eq_true_eq]
  exact ⟨fun h => h.2, fun h => ⟨hm x h, h⟩⟩
theorem backL_nd {l : List St} {vars : Nat} (G : Good vars l) {j : Nat} {t : St} (h : l[l.length - 1 - j]? = some t) (hj : j < l.length) : -t.lit ∉ backL l j := fun hm => by
  have hpw := backL_pw G
  have h2 : (backL l (j + 1)).Pairwise fun x y => plx l y < plx l x := by
    have : backL l (j + 1) = (backL l l.length).take (j + 1) := by
      unfold backL
      rw [← List.map_take, List.take_take, Nat.min_eq_left (by omega)]
    rw [this]
    exact hpw.sublist (List.take_sublist _ _)
  rw [backL_succ h hj, List.pairwise_append] at h2
  have := h2.2.2 _ hm _ (List.mem_singleton.2 rfl)
  omega
end
end Xe

/- The document's From, walked: its first half. -/
namespace Xe
open Go Tp Go.Proofs
set_option maxRecDepth 16000
set_option maxHeartbeats 2000000

theorem true_at {vars : Nat} {l : List St} (G : Good vars l) {x : Int} (h : trI l x = 1) : ∃ (k : Nat) (t : St), l[k]? = some t ∧ t.lit = x ∧ plx l x = k := by
  have h1 := tr_one.1 h
  obtain ⟨t, ht, e⟩ := List.mem_map.1 h1
  obtain ⟨k, hk⟩ := List.getElem?_of_mem ht
  exact ⟨k, t, hk, e, by unfold plx; rw [← e]; exact G.pl hk⟩
theorem zero_at {l : List St} {x : Int} (h : trI l x = 0) : plx l x = -1 := by
  have h1 := tr_zero.1 h
  unfold plx PL
  cases hf : find l x.natAbs with
  | none => rfl
  | some k =>
    exfalso
    unfold find at hf
    obtain ⟨hk, hp, _⟩ := List.findIdx?_eq_some_iff_getElem.1 hf
    have e : l[k].lit.natAbs = x.natAbs := by simpa using hp
    have hm : l[k].lit ∈ lits l := List.mem_map.2 ⟨_, List.getElem_mem hk, rfl⟩
    by_cases e2 : l[k].lit = x
    · rw [e2] at hm; exact h1.1 hm
    · rw [show l[k].lit = -x by omega] at hm; exact h1.2 hm

theorem row_st4 {h' : Heap} {b : Nat} {x y z w : Value} {U : Option Addr} {vs : List Value} (R : RowAt h' U vs) (hU : ∀ v, blk U v → v ≠ b) : RowAt (hset (hset (hset (hset h' ⟨b, 0, none⟩ x) ⟨b, 1, none⟩ y) ⟨b, 2, none⟩ z) ⟨b, 3, none⟩ w) U vs := by
  have f1 : Fr (fun v => v = b) h' (hset h' ⟨b, 0, none⟩ x) := (Fr.refl _ _).set (show b = b from rfl)
  have f2 := f1.set (ad := ⟨b, 1, none⟩) (v := y) (show b = b from rfl)
  have f3 := f2.set (ad := ⟨b, 2, none⟩) (v := z) (show b = b from rfl)
  have f4 := f3.set (ad := ⟨b, 3, none⟩) (v := w) (show b = b from rfl)
  exact R.fr f4 hU
/-- what the document's From gives -/
def GotR (N : Nat) (h' : Heap) (r : Value) (s : WS) (id : Int) : Prop := ∃ CA ca cl UA ua ul lv er, r = .agg #[.slice CA (cl : List Int).length ca, .slice UA (ul : List Int).length ua, .int .i64 lv, .int .i64 er] ∧ RowAt h' CA (ints cl) ∧ RowAt h' UA (ints ul) ∧ (∀ y, blk CA y → N ≤ y) ∧ (∀ y, blk UA y → N ≤ y) ∧ cl.length < 2 ^ 40 ∧ ul.length < 2 ^ 40 ∧ FromR s id cl lv er ∧ UsedR s id ul

/-- what stands in the loop of resolving -/
structure RfJ (h : Heap) (s : WS) (b8 : Nat) (T CS : Option Addr) (n c q e0 : Nat) (en : Ent) (lv0 : Int) (ρ : Env) (h' : Heap) : Prop where
  r0 : ρ 0 = .slice CS q e0
  r2 : ρ 2 = .slice T n c
  r8 : ρ 8 = .pointer (some ⟨b8, 0, none⟩)
  r15 : ρ 15 = .int .i64 lv0
  fr : Fr (fun _ => False) h h'
  ex : ∃ (k : List Int) (rs : List (List Int)) (w : List Int) (x : Int) (A U : Option Addr) (ka ua : Nat), ρ 9 = .slice A k.length ka ∧ ρ 12 = .slice U w.length ua ∧ ρ 13 = .int .i64 x ∧ ρ 14 = .int .i64 (cntL s.l k (lvx s.l x) : Nat) ∧ Lat s.l k x ∧ lvx s.l x = lv0 ∧
    Ch s.cs s.l en.lits rs k ∧ w.Pairwise (· < ·) ∧ (∀ v, v ∈ w ↔ v ∈ varsL en.lits ∨ v ∈ varsL rs.flatten) ∧ RowAt h' A (ints k) ∧ RowAt h' U (ints w) ∧ (∀ y, blk U y → h.size < y) ∧ ListB h' b8 [.slice none 0 0, .slice none 0 0, .int .i64 0, .int .i64 0]
/-- the literals above level 0 -/
def flL (s : WS) (k : List Int) : List Int := k.filter fun y => !decide (lvx s.l y = 0)
theorem flL_snoc (s : WS) (k : List Int) (y : Int) : flL s (k ++ [y]) = if lvx s.l y = 0 then flL s k else flL s k ++ [y] := by
  unfold flL
  rw [List.filter_append, List.filter_cons]
  by_cases h : lvx s.l y = 0 <;> simp [h]
theorem flL_le (s : WS) (k : List Int) : (flL s k).length ≤ k.length := List.length_filter_le _ _
/-- what stands in the loop that gives what is taught -/
structure GvJ (h8 : Heap) (b8 : Nat) (s : WS) (kf : List Int) (x1 : Int) (A2 T U : Option Addr) (ka2 n c ul ua : Nat) (ρ : Env) (h' : Heap) : Prop where
  r2 : ρ 2 = .slice T n c
  r8 : ρ 8 = .pointer (some ⟨b8, 0, none⟩)
  r9 : ρ 9 = .slice A2 kf.length ka2
  r13 : ρ 13 = .int .i64 x1
  r19 : ρ 19 = .pointer (some ⟨h8.size, 0, none⟩)
  fr : Fr (fun _ => False) h8 h'
  ex : ∃ (i : Nat) (C : Option Addr) (cc : Nat), ρ 20 = .int .i64 i ∧ i ≤ kf.length ∧ ListB h' h8.size [.slice C (flL s (kf.take i)).length cc, .slice U ul ua, .int .i64 (mxL s.l x1 (flL s (kf.take i))), .int .i64 0] ∧ SlAt h' C cc (ints (flL s (kf.take i))) ∧ ∀ y, blk C y → h8.size < y
end Xe
