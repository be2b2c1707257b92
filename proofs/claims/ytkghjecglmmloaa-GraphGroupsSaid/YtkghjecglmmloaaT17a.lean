/- Go's library, walked: IndexFunc, ContainsFunc, Index, Compare, Or, the insertion sort, Compact. -/
import Derived.Test.YtkghjecglmmloaaT16d
namespace Xe
open Go Tp Go.Proofs
set_option maxRecDepth 16000

/-- the first place where it holds; -1: none -/
def idxF (p : Int → Bool) (l : List Int) : Int := match l.findIdx? p with
  | some i => (i : Int)
  | none => -1
theorem idxF_at {p : Int → Bool} {l : List Int} {i : Nat} {x : Int} (hx : l[i]? = some x) (hp : p x = true) (hj : ∀ (j : Nat) y, j < i → l[j]? = some y → p y = false) : idxF p l = i := by
  unfold idxF
  obtain ⟨hk, rfl⟩ := List.getElem?_eq_some_iff.1 hx
  have : l.findIdx? p = some i := by
    rw [List.findIdx?_eq_some_iff_getElem]
    exact ⟨hk, hp, fun j hj2 => by simp [hj j _ hj2 (List.getElem?_eq_getElem (by omega))]⟩
  rw [this]
theorem idxF_no {p : Int → Bool} {l : List Int} (hj : ∀ (j : Nat) y, l[j]? = some y → p y = false) : idxF p l = -1 := by
  unfold idxF
  have : l.findIdx? p = none := by
    rw [List.findIdx?_eq_none_iff]
    intro x hx
    obtain ⟨j, h, rfl⟩ := List.getElem_of_mem hx
    exact hj j _ (List.getElem?_eq_getElem h)
  rw [this]
theorem idxF_any (p : Int → Bool) (l : List Int) : decide (0 ≤ idxF p l) = l.any p := by
  unfold idxF
  cases h : l.findIdx? p with
  | some i =>
    obtain ⟨hk, hp, _⟩ := List.findIdx?_eq_some_iff_getElem.1 h
    rw [List.any_eq_true.2 ⟨l[i], List.getElem_mem hk, hp⟩]
    exact decide_eq_true (by simp only; omega)
  | none =>
    rw [List.findIdx?_eq_none_iff] at h
    rw [List.any_eq_false.2 (fun x hx => by simp [h x hx])]
    rfl

section
variable {h : Heap} {A : Option Addr} {l : List Int} {n c fn : Nat} {cs : List Value}

theorem indexFunc_ok (R : RowAt h A (ints l)) (hn : n = l.length) (hs : n < 2 ^ 40) (p : Int → Bool)
    (hf : ∀ x ∈ l, CallsH Try.prog fn ([.int .i64 x] ++ cs) h fun r h' => r = .bool (p x) ∧ h' = h) :
    CallsH Try.prog 111 [.slice A n c, .func (.func fn) #[] cs.toArray] h fun r h' => r = .int .i64 (idxF p l) ∧ h' = h := by
  subst hn
  refine calls_of 19 [.tmp 4] Go.Proofs.Try.func111 rfl rfl rfl (by kernel_rfl) (Nat.le_of_ble_eq_true rfl) ?_
  simp -implicitDefEqProofs (disch := omega) [go_sem]
  refine loopK (fun ρ h' => ρ 0 = .slice A l.length c ∧ ρ 1 = .func (.func fn) #[] cs.toArray ∧ ρ 7 = .int .i64 l.length ∧ h' = h ∧ ∃ i : Nat, ρ 8 = .int .i64 i ∧ i ≤ l.length ∧ ∀ (j : Nat) y, j < i → l[j]? = some y → p y = false)
    (fun ρ _ => l.length - (intOf (ρ 8)).toNat) (by kernel_rfl) ?_ ?_
  · exact ⟨rfl, rfl, rfl, rfl, 0, rfl, by omega, fun j y hj => by omega⟩
  · rintro ρ h' ⟨r0, r1, r7, rfl, i, r8, hi, hj⟩
    by_cases hin : i < l.length
    · obtain ⟨bk, off, rfl, hc⟩ := R.get (by rw [ints_len]; omega)
      obtain ⟨x, hx⟩ : ∃ x, l[i]? = some x := ⟨_, List.getElem?_eq_getElem hin⟩
      have c0 := hc _ _ (ints_at hx)
      simp -implicitDefEqProofs (disch := omega) [go_sem, r0, r1, r7, r8, c0]
      refine useC (hf x (List.mem_of_getElem? hx)) ?_
      rintro _ h2 ⟨rfl, rfl⟩
      cases hp : p x with
      | true =>
        have e := idxF_at hx hp hj
        simp -implicitDefEqProofs (disch := omega) [go_sem, r0, r1, r7, r8, e]
      | false =>
        simp -implicitDefEqProofs (disch := omega) [go_sem, r0, r1, r7, r8]
        refine ⟨⟨i + 1, by omega, by omega, fun j y hj2 hy => ?_⟩, by omega⟩
        by_cases ej : j = i
        · subst ej; rw [hx] at hy; cases hy; exact hp
        · exact hj j y (by omega) hy
    · have e : idxF p l = -1 := idxF_no fun j y hy => hj j y (by have := (List.getElem?_eq_some_iff.1 hy).1; omega) hy
      simp -implicitDefEqProofs (disch := omega) [go_sem, r0, r1, r7, r8, e]

theorem containsFunc_ok (R : RowAt h A (ints l)) (hn : n = l.length) (hs : n < 2 ^ 40) (p : Int → Bool)
    (hf : ∀ x ∈ l, CallsH Try.prog fn ([.int .i64 x] ++ cs) h fun r h' => r = .bool (p x) ∧ h' = h) :
    CallsH Try.prog 89 [.slice A n c, .func (.func fn) #[] cs.toArray] h fun r h' => r = .bool (l.any p) ∧ h' = h := by
  refine calls_of 9 [.tmp 4] Go.Proofs.Try.func89 rfl rfl rfl (by kernel_rfl) (Nat.le_of_ble_eq_true rfl) ?_
  simp -implicitDefEqProofs (disch := omega) [go_sem]
  refine useC (indexFunc_ok R hn hs p hf) ?_
  rintro _ h2 ⟨rfl, rfl⟩
  have e := idxF_any p l
  simp -implicitDefEqProofs [go_sem, ← e]

theorem index_ok (R : RowAt h A (ints l)) (hn : n = l.length) (hs : n < 2 ^ 40) (x : Int) :
    CallsH Try.prog 110 [.slice A n c, .int .i64 x] h fun r h' => r = .int .i64 (idxF (fun y => decide (x = y)) l) ∧ h' = h := by
  subst hn
  refine calls_of 19 [.tmp 4] Go.Proofs.Try.func110 rfl rfl rfl (by kernel_rfl) (Nat.le_of_ble_eq_true rfl) ?_
  simp -implicitDefEqProofs (disch := omega) [go_sem]
  refine loopK (fun ρ h' => ρ 0 = .slice A l.length c ∧ ρ 1 = .int .i64 x ∧ ρ 7 = .int .i64 l.length ∧ h' = h ∧ ∃ i : Nat, ρ 8 = .int .i64 i ∧ i ≤ l.length ∧ ∀ (j : Nat) y, j < i → l[j]? = some y → decide (x = y) = false)
    (fun ρ _ => l.length - (intOf (ρ 8)).toNat) (by kernel_rfl) ?_ ?_
  · exact ⟨rfl, rfl, rfl, rfl, 0, rfl, by omega, fun j y hj => by omega⟩
  · rintro ρ h' ⟨r0, r1, r7, rfl, i, r8, hi, hj⟩
    by_cases hin : i < l.length
    · obtain ⟨bk, off, rfl, hc⟩ := R.get (by rw [ints_len]; omega)
      obtain ⟨y, hy⟩ : ∃ x, l[i]? = some x := ⟨_, List.getElem?_eq_getElem hin⟩
      have c0 := hc _ _ (ints_at hy)
      by_cases e : x = y
      · have ei := idxF_at (p := fun y => decide (x = y)) hy (decide_eq_true e) hj
        simp -implicitDefEqProofs (disch := omega) [go_sem, r0, r1, r7, r8, c0, ei]
      · simp -implicitDefEqProofs (disch := omega) [go_sem, r0, r1, r7, r8, c0, e]
        refine ⟨⟨i + 1, by omega, by omega, fun j z hj2 hz => ?_⟩, by omega⟩
        by_cases ej : j = i
        · subst ej; rw [hy] at hz; cases hz; exact e
        · simpa using hj j z (by omega) hz
    · have e : idxF (fun y => decide (x = y)) l = -1 := idxF_no fun j y hy => hj j y (by have := (List.getElem?_eq_some_iff.1 hy).1; omega) hy
      simp -implicitDefEqProofs (disch := omega) [go_sem, r0, r1, r7, r8, e]

/-- of two numbers which is the lesser -/
def cmpI (x y : Int) : Int := if x < y then -1 else if y < x then 1 else 0
theorem nan_ok (x : Int) : CallsH Try.prog 121 [.int .i64 x] h fun r h' => r = .bool false ∧ h' = h := by
  refine calls_of 6 [.tmp 2] Go.Proofs.Try.func121 rfl rfl rfl (by kernel_rfl) (Nat.le_of_ble_eq_true rfl) ?_
  simp -implicitDefEqProofs (disch := omega) [go_sem]
theorem compare_ok (x y : Int) : CallsH Try.prog 107 [.int .i64 x, .int .i64 y] h fun r h' => r = .int .i64 (cmpI x y) ∧ h' = h := by
  refine calls_of 20 [.tmp 4] Go.Proofs.Try.func107 rfl rfl rfl (by kernel_rfl) (Nat.le_of_ble_eq_true rfl) ?_
  simp -implicitDefEqProofs (disch := omega) [go_sem]
  refine useC (nan_ok x) ?_
  rintro _ h' ⟨rfl, rfl⟩
  simp -implicitDefEqProofs (disch := omega) [go_sem]
  refine useC (nan_ok y) ?_
  rintro _ h2 ⟨rfl, rfl⟩
  unfold cmpI
  by_cases h1 : x < y
  · simp -implicitDefEqProofs (disch := omega) [go_sem, h1]
  · by_cases h3 : y < x
    · simp -implicitDefEqProofs (disch := omega) [go_sem, h1, h3]
    · simp -implicitDefEqProofs (disch := omega) [go_sem, h1, h3]

/-- the first that isn't 0 -/
theorem or_ok {x y : Int} (R : RowAt h A (ints [x, y])) : CallsH Try.prog 106 [.slice A 2 c] h fun r h' => r = .int .i64 (if x ≠ 0 then x else y) ∧ h' = h := by
  refine calls_of 18 [.tmp 2] Go.Proofs.Try.func106 rfl rfl rfl (by kernel_rfl) (Nat.le_of_ble_eq_true rfl) ?_
  obtain ⟨bk, off, rfl, hc⟩ := R.get (by rw [ints_len]; exact Nat.succ_pos 1)
  have c0 := hc 0 _ rfl
  have c1 := hc 1 _ rfl
  rw [Nat.add_zero] at c0
  simp -implicitDefEqProofs (disch := omega) [go_sem]
  refine loopK (fun ρ h' => ρ 3 = .int .i64 0 ∧ ρ 6 = .slice (some ⟨bk, off, none⟩) 2 c ∧ ρ 7 = .int .i64 2 ∧ h' = h ∧ ∃ i : Nat, ρ 8 = .int .i64 i ∧ i ≤ 2 ∧ (1 ≤ i → x = 0) ∧ (2 ≤ i → y = 0))
    (fun ρ _ => 2 - (intOf (ρ 8)).toNat) (by kernel_rfl) ?_ ?_
  · exact ⟨rfl, rfl, rfl, rfl, 0, rfl, by omega, by omega, by omega⟩
  · rintro ρ h' ⟨r3, r6, r7, rfl, i, r8, hi, hx, hy⟩
    have : i = 0 ∨ i = 1 ∨ i = 2 := by omega
    rcases this with rfl | rfl | rfl
    · by_cases e : x = 0
      · simp -implicitDefEqProofs (disch := omega) [go_sem, r3, r6, r7, r8, c0, e]
        exact ⟨1, rfl, by omega, by omega⟩
      · simp -implicitDefEqProofs (disch := omega) [go_sem, r3, r6, r7, r8, c0, e]
    · have hx0 := hx (by omega)
      by_cases e : y = 0
      · simp -implicitDefEqProofs (disch := omega) [go_sem, r3, r6, r7, r8, c1, e, hx0]
        exact ⟨2, rfl, by omega⟩
      · simp -implicitDefEqProofs (disch := omega) [go_sem, r3, r6, r7, r8, c1, e, hx0]
    · have hx0 := hx (by omega)
      have hy0 := hy (by omega)
      simp -implicitDefEqProofs (disch := omega) [go_sem, r3, r6, r7, r8, hx0, hy0]

/-! ### The insertion sort -/
def gt (L : List Int) (p : Nat) : Int := L.getD p 0
theorem gt_at {L : List Int} {p : Nat} (h : p < L.length) : L[p]? = some (gt L p) := by unfold gt; rw [List.getD_eq_getElem?_getD, List.getElem?_eq_getElem h]; rfl
theorem gt_set {L : List Int} {i p : Nat} {v : Int} (hi : i < L.length) : gt (L.set i v) p = if p = i then v else gt L p := by
  unfold gt
  rw [List.getD_eq_getElem?_getD, List.getD_eq_getElem?_getD, List.getElem?_set]
  by_cases e : p = i
  · subst e; rw [if_pos rfl, if_pos hi, if_pos rfl]; rfl
  · rw [if_neg (Ne.symm e), if_neg e]
theorem swap_perm {L : List Int} {i j : Nat} (hi : i < L.length) (hj : j < L.length) : ((L.set i (gt L j)).set j (gt L i)).Perm L := by
  have := @List.set_set_perm _ L i j hi hj
  unfold gt
  rw [List.getD_eq_getElem?_getD, List.getD_eq_getElem?_getD, List.getElem?_eq_getElem hi, List.getElem?_eq_getElem hj]
  exact this

structure CmpOk (cf : Int → Int → Int) (ok : Int → Prop) : Prop where
  le : ∀ x y, ok x → ok y → cf x y < 0 → 0 ≤ cf y x
  tr : ∀ x y z, ok x → ok y → ok z → 0 ≤ cf y x → 0 ≤ cf z y → 0 ≤ cf z x

theorem insertion_ok {cap : Nat} {cf : Int → Int → Int} {ok : Int → Prop} (C : CmpOk cf ok) (S : SlAt h A cap (ints l)) (hl : ∀ x ∈ l, ok x) (hn : n = l.length) (hs : n < 2 ^ 40)
    (hf : ∀ h x y, ok x → ok y → CallsH Try.prog fn ([.int .i64 x, .int .i64 y] ++ cs) h fun r h' => r = .int .i64 (cf x y) ∧ Fr (fun _ => False) h h') :
    CallsH Try.prog 136 [.slice A n cap, .int .i64 0, .int .i64 n, .func (.func fn) #[] cs.toArray] h fun _ h' =>
      ∃ L, L.Perm l ∧ (∀ p q, p < q → q < n → 0 ≤ cf (gt L q) (gt L p)) ∧ SlAt h' A cap (ints L) ∧ Fr (blk A) h h' := by
  subst hn
  refine calls_of 53 [] Go.Proofs.Try.func136 rfl rfl rfl (by kernel_rfl) (Nat.le_of_ble_eq_true rfl) ?_
  simp -implicitDefEqProofs (disch := omega) [go_sem]
  refine loopK (fun ρ h' => ρ 0 = .slice A l.length cap ∧ ρ 1 = .int .i64 0 ∧ ρ 2 = .int .i64 l.length ∧ ρ 3 = .func (.func fn) #[] cs.toArray ∧
      ∃ (i : Nat) (L : List Int), ρ 8 = .int .i64 i ∧ 1 ≤ i ∧ L.Perm l ∧ (∀ p q, p < q → q < i → q < l.length → 0 ≤ cf (gt L q) (gt L p)) ∧ SlAt h' A cap (ints L) ∧ Fr (blk A) h h')
    (fun ρ _ => l.length - (intOf (ρ 8)).toNat) (by kernel_rfl) ?_ ?_
  · exact ⟨rfl, rfl, rfl, rfl, 1, l, rfl, by omega, List.Perm.refl _, fun p q h1 h2 => by omega, S, Fr.refl _ _⟩
  · rintro ρ h1 ⟨r0, r1, r2, r3, i, L, r8, hi, hP, hO, SL, fr⟩
    have hlen := hP.length_eq
    by_cases hin : i < l.length
    · simp -implicitDefEqProofs (disch := omega) [go_sem, r0, r1, r2, r3, r8]
      refine loopK (fun ρ h' => ρ 0 = .slice A l.length cap ∧ ρ 1 = .int .i64 0 ∧ ρ 2 = .int .i64 l.length ∧ ρ 3 = .func (.func fn) #[] cs.toArray ∧ ρ 8 = .int .i64 i ∧
          ∃ (j : Nat) (L : List Int), ρ 9 = .int .i64 j ∧ j ≤ i ∧ L.Perm l ∧ (∀ p q, p < q → q ≤ i → q ≠ j → 0 ≤ cf (gt L q) (gt L p)) ∧ SlAt h' A cap (ints L) ∧ Fr (blk A) h h')
        (fun ρ _ => (intOf (ρ 9)).toNat) (by kernel_rfl) ?_ ?_
      · exact ⟨r0, r1, r2, r3, r8, i, L, rfl, by omega, hP, fun p q h1 h2 h3 => hO p q h1 (by omega) (by omega), SL, fr⟩
      · have hr8 : (intOf (ρ 8)).toNat = i := by rw [r8]; rfl
        clear r0 r1 r2 r3 r8 hP hO SL fr hlen
        rintro ρ h2 ⟨r0, r1, r2, r3, r8, j, L, r9, hj, hP, hO, SL, fr⟩
        have hlen := hP.length_eq
        by_cases hj0 : j = 0
        · subst hj0
          simp -implicitDefEqProofs (disch := omega) [go_sem, r0, r1, r2, r3, r8, r9]
          refine drawK [(0, 0), (1, 0), (2, 0), (3, 0), (4, 0), (5, 0), (6, 0), (7, 0), (8, 1), (9, 0), (10, 0), (11, 0), (12, 0), (13, 1), (14, 3), (15, 0), (16, 0)] mixed (by kernel_rfl) ?_
          simp -implicitDefEqProofs (disch := omega) [go_sem, r0, r1, r2, r3, r8, r9]
          exact ⟨⟨i + 1, by omega, by omega, L, hP, fun p q h1 h2 h3 => hO p q h1 (by omega) (by omega), SL, fr⟩, by omega⟩
        · obtain ⟨bk, rfl, hbk, hfz, hc⟩ := SL.base (by rw [ints_len]; omega)
          have c0 := hc j _ (ints_at (gt_at (by omega)))
          have c1 := hc (j - 1) _ (ints_at (gt_at (by omega)))
          have ej : ((j : Int) - 1).toNat = j - 1 := by omega
          have o0 : ok (gt L j) := hl _ (hP.mem_iff.1 (List.mem_of_getElem? (gt_at (by omega))))
          have o1 : ok (gt L (j - 1)) := hl _ (hP.mem_iff.1 (List.mem_of_getElem? (gt_at (by omega))))
          simp -implicitDefEqProofs (disch := omega) [go_sem, r0, r1, r2, r3, r8, r9]
          refine drawK [(0, 0), (1, 0), (2, 0), (3, 0), (4, 0), (5, 0), (6, 0), (7, 0), (8, 1), (9, 0), (10, 0), (11, 0), (12, 0), (13, 1), (14, 3), (15, 0), (16, 0)] mixed (by kernel_rfl) ?_
          simp -implicitDefEqProofs (disch := omega) [go_sem, r0, r1, r2, r3, r8, r9, c0, c1, ej]
          refine useC (hf h2 _ _ o0 o1) ?_
          rintro _ h3 ⟨rfl, f3⟩
          have SL3 := SL.fr f3 (fun _ _ => id)
          have c03 := (f3.cell (o := j) hbk id).trans c0
          have c13 := (f3.cell (o := j - 1) hbk id).trans c1
          have hfz3 : ∀ o, hfrz h3 ⟨bk, o, none⟩ = false := fun o => (f3.frz hbk id).trans (hfz o)
          have fr3 : Fr (blk (some ⟨bk, 0, none⟩)) h h3 := fr.trans (f3.mono fun _ _ h => h.elim)
          by_cases hlt : cf (gt L j) (gt L (j - 1)) < 0
          · simp -implicitDefEqProofs (disch := omega) [go_sem, r0, r1, r2, r3, r8, r9]
            refine drawK [(0, 0), (1, 0), (2, 0), (3, 0), (4, 0), (5, 0), (6, 0), (7, 0), (8, 0), (9, 1), (10, 0), (11, 0), (12, 0), (13, 1), (14, 0), (15, 3), (16, 0), (17, 3)] mixed (by kernel_rfl) ?_
            have ne1 : ¬ j - 1 = j := by omega
            simp -implicitDefEqProofs (disch := omega) [go_sem, r0, r1, r2, r3, r8, r9, c03, c13, ej, hfz3, ne1]
            have S4 := (SL3.set (i := j) (by rw [ints_len]; omega) (.int .i64 (gt L (j - 1)))).set (i := j - 1) (by rw [List.length_set, ints_len]; omega) (.int .i64 (gt L j))
            have e4 : ((ints L).set j (.int .i64 (gt L (j - 1)))).set (j - 1) (.int .i64 (gt L j)) = ints ((L.set j (gt L (j - 1))).set (j - 1) (gt L j)) := by
              unfold ints; rw [List.map_set, List.map_set]
            rw [e4] at S4
            refine ⟨⟨j - 1, by omega, by omega, _, (swap_perm (by omega) (by omega)).trans hP, fun p q h1 h2 h3 => ?_, S4, ?_⟩, by omega⟩
            rotate_left
            · exact (fr3.set (ad := ⟨bk, j, none⟩) ⟨⟨bk, 0, none⟩, rfl, rfl⟩).set (ad := ⟨bk, j - 1, none⟩) ⟨⟨bk, 0, none⟩, rfl, rfl⟩
            have hg : ∀ p, gt ((L.set j (gt L (j - 1))).set (j - 1) (gt L j)) p = if p = j - 1 then gt L j else if p = j then gt L (j - 1) else gt L p := by
              intro p
              rw [gt_set (by rw [List.length_set]; omega), gt_set (by omega)]
            rw [hg, hg]
            by_cases eq : q = j
            · subst eq
              rw [if_neg (by omega), if_pos rfl]
              by_cases ep : p = q - 1
              · rw [if_pos ep]; exact C.le _ _ o0 o1 hlt
              · rw [if_neg ep, if_neg (by omega)]; exact hO p (q - 1) (by omega) (by omega) (by omega)
            · rw [if_neg h3, if_neg eq]
              by_cases ep : p = j - 1
              · rw [if_pos ep]; exact hO j q (by omega) h2 eq
              · rw [if_neg ep]
                by_cases ep2 : p = j
                · rw [if_pos ep2]; exact hO (j - 1) q (by omega) h2 eq
                · rw [if_neg ep2]; exact hO p q h1 h2 eq
          · have hge : 0 ≤ cf (gt L j) (gt L (j - 1)) := by omega
            simp -implicitDefEqProofs (disch := omega) [go_sem, r0, r1, r2, r3, r8, r9]
            refine ⟨⟨i + 1, by omega, by omega, L, hP, fun p q h1 h2 h3 => ?_, SL3, fr3⟩, by omega⟩
            by_cases eq : q = j
            · subst eq
              by_cases ep : p = q - 1
              · subst ep; exact hge
              · have op : ok (gt L p) := hl _ (hP.mem_iff.1 (List.mem_of_getElem? (gt_at (by omega))))
                exact C.tr _ _ _ op o1 o0 (hO p (q - 1) (by omega) (by omega) (by omega)) hge
            · exact hO p q h1 (by omega) eq
    · simp -implicitDefEqProofs (disch := omega) [go_sem, r0, r1, r2, r3, r8]
      exact ⟨L, hP, fun p q h1 h2 => hO p q h1 (by omega) h2, SL, fr⟩
end
end Xe
