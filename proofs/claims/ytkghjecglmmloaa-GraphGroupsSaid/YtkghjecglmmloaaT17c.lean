/- Package clause, walked: Good, Clean; the document's Has, Good. -/
import Derived.Test.YtkghjecglmmloaaT17b
import Derived.Test.YtkghjecglmmloaaT16f
namespace Xe
open Go Tp Go.Proofs
set_option maxRecDepth 16000

def goodC (vars : Nat) (l : List Int) : Bool := l.all fun x => decide (1 ≤ x.natAbs ∧ x.natAbs ≤ vars)
def cleanCf (x y : Int) : Int := if cmpI (var12 x) (var12 y) ≠ 0 then cmpI (var12 x) (var12 y) else cmpI x y
theorem cleanCf_ok : CmpOk cleanCf okL where
  le x y hx hy h := by unfold cleanCf cmpI var12 at *; unfold okL at hx hy; simp only [if_pos hx.2, if_pos hy.2] at *; split at h <;> split <;> omega
  tr x y z hx hy hz h1 h2 := by
    unfold cleanCf cmpI var12 at *; unfold okL at hx hy hz; simp only [if_pos hx.2, if_pos hy.2, if_pos hz.2] at *
    split at h1 <;> split at h2 <;> split <;> omega
theorem cleanCf_lex {x y : Int} (hx : okL x) (hy : okL y) (h : 0 ≤ cleanCf y x) : ¬ lexLt y x := by
  unfold cleanCf cmpI var12 at h; unfold okL at hx hy; unfold lexLt; simp only [if_pos hx.2, if_pos hy.2] at h
  split at h <;> omega

/-- a slice of two numbers, fresh -/
theorem build2 {h : Heap} {e : TypeId} {bt : Nat} {w x y : Int} {k : Value → Heap → Prop}
    (hk : k (.slice (some ⟨h.size, 0, none⟩) 2 2) (h.push (.cells #[.int .i64 x, .int .i64 y] e))) : @buildSliceK (some (e, 1, bt, .int .i64 w)) 2 [(0, .int .i64 x), (1, .int .i64 y)] ⟨h⟩ ⟨k⟩ := by
  refine ⟨by omega, #[.int .i64 x, .int .i64 y], ?_, hk⟩
  have hz : (zerosOf (Value.int .i64 w).cells (2 * 1)).size = 2 := by simp [zerosOf]
  obtain ⟨L, hL⟩ : ∃ L, zerosOf (Value.int .i64 w).cells (2 * 1) = ⟨L⟩ := ⟨_, rfl⟩
  rw [hL] at hz ⊢
  match L, hz with
  | [p, q], _ => simp [Instr.fill, Value.cells, List.zipIdx]

section
variable {h : Heap} {A : Option Addr} {l : List Int} {n c vars : Nat}

theorem abs12_ok {x : Int} (h0 : -9223372036854775808 ≤ x) (h1 : x ≤ 9223372036854775807) : CallsH Try.prog 103 [.int .i64 x] h fun r h' => r = .int .i64 (var12 x : Nat) ∧ h' = h := by
  refine calls_of 13 [.tmp 2] Go.Proofs.Try.func103 rfl rfl rfl (by kernel_rfl) (Nat.le_of_ble_eq_true rfl) ?_
  by_cases e1 : x < -16777216
  · have ev : var12 x = 0 := if_neg (by omega)
    simp -implicitDefEqProofs (disch := omega) [go_sem, ev]
  · by_cases e2 : 16777216 < x
    · have ev : var12 x = 0 := if_neg (by omega)
      simp -implicitDefEqProofs (disch := omega) [go_sem, ev]
    · have ev : var12 x = x.natAbs := if_pos (by omega)
      simp -implicitDefEqProofs (disch := omega) [go_sem, ev]
      omega

theorem cleanCmp_ok {x y : Int} (hx : okL x) (hy : okL y) : CallsH Try.prog 105 ([.int .i64 x, .int .i64 y] ++ []) h fun r h' => r = .int .i64 (cleanCf x y) ∧ Fr (fun _ => False) h h' := by
  unfold okL at hx hy
  refine calls_of 15 [.tmp 4] Go.Proofs.Try.func105 rfl rfl rfl (by kernel_rfl) (Nat.le_of_ble_eq_true rfl) ?_
  simp -implicitDefEqProofs (disch := omega) [go_sem]
  refine useC (abs12_ok (x := x) (by omega) (by omega)) ?_
  rintro _ h1 ⟨rfl, rfl⟩
  simp -implicitDefEqProofs (disch := omega) [go_sem]
  refine useC (abs12_ok (x := y) (by omega) (by omega)) ?_
  rintro _ h1 ⟨rfl, rfl⟩
  simp -implicitDefEqProofs (disch := omega) [go_sem]
  refine useC (compare_ok _ _) ?_
  rintro _ h1 ⟨rfl, rfl⟩
  simp -implicitDefEqProofs (disch := omega) [go_sem]
  refine useC (compare_ok _ _) ?_
  rintro _ h1 ⟨rfl, rfl⟩
  simp -implicitDefEqProofs (disch := omega) [go_sem]
  refine build2 ?_
  simp -implicitDefEqProofs (disch := omega) [go_sem]
  have co := or_ok (h := h1.push (.cells #[.int .i64 (cmpI (var12 x) (var12 y)), .int .i64 (cmpI x y)] 3)) (A := some ⟨h1.size, 0, none⟩) (c := 2) (SlAt.new (h := h1) (vs := ints [cmpI (var12 x) (var12 y), cmpI x y]) (e := 3)).row
  refine useC co ?_
  rintro _ h2 ⟨rfl, rfl⟩
  simp -implicitDefEqProofs (disch := omega) [go_sem]
  refine ⟨?_, (Fr.refl _ _).push⟩
  unfold cleanCf
  by_cases e : cmpI (var12 x) (var12 y) = 0 <;> simp [e]

/-- what cleaning a clause tells -/
def CleanR (l : List Int) : Option (List Int) → Prop
  | none => ∃ x ∈ l, okL x ∧ -x ∈ l
  | some L => Rise L ∧ ∀ x, x ∈ L ↔ x ∈ l ∧ okL x
theorem CleanR.uniq {l : List Int} {a b : Option (List Int)} (h1 : CleanR l a) (h2 : CleanR l b) : a = b := by
  have key : ∀ L, CleanR l none → CleanR l (some L) → False := by
    rintro L ⟨x, hx, hok, hnx⟩ ⟨hr, hm⟩
    have m1 := (hm x).2 ⟨hx, hok⟩
    have m2 := (hm (-x)).2 ⟨hnx, by unfold okL at hok ⊢; omega⟩
    obtain ⟨i, hi, ei⟩ := List.getElem_of_mem m1
    obtain ⟨j, hj, ej⟩ := List.getElem_of_mem m2
    unfold okL at hok
    have hp := List.pairwise_iff_getElem.1 hr
    rcases Nat.lt_trichotomy i j with h | h | h
    · have := hp i j hi hj h; rw [ei, ej] at this; omega
    · subst h; rw [ei] at ej; omega
    · have := hp j i hj hi h; rw [ei, ej] at this; omega
  cases a with
  | none => cases b with
    | none => rfl
    | some L => exact (key L h1 h2).elim
  | some L => cases b with
    | none => exact (key L h2 h1).elim
    | some M => rw [rise_uniq h1.1 h2.1 fun x => (h1.2 x).trans (h2.2 x).symm]
theorem mem_gt {L : List Int} {x : Int} : x ∈ L ↔ ∃ j, j < L.length ∧ gt L j = x := by
  constructor
  · intro h
    obtain ⟨j, hj, rfl⟩ := List.getElem_of_mem h
    have := gt_at hj
    rw [List.getElem?_eq_getElem hj, Option.some.injEq] at this
    exact ⟨j, hj, this.symm⟩
  · rintro ⟨j, hj, rfl⟩
    exact List.mem_of_getElem? (gt_at hj)

theorem clean_ok (R : RowAt h A (ints l)) (hn : n = l.length) (hs : n ≤ 12) (hr : ∀ x ∈ l, -9223372036854775808 ≤ x ∧ x ≤ 9223372036854775807) :
    CallsH Try.prog 85 [.slice A n c] h fun r h' => (∃ o, CleanR l o ∧ match o with
      | none => r = .tuple #[.slice none 0 0, .bool true]
      | some L => ∃ A' c', r = .tuple #[.slice A' L.length c', .bool false] ∧ SlAt h' A' c' (ints L) ∧ ∀ y, blk A' y → h.size ≤ y) ∧ Fr (fun _ => False) h h' := by
  subst hn
  refine calls_of 43 [.tmp 2, .tmp 3] Go.Proofs.Try.func85 rfl rfl rfl (by kernel_rfl) (Nat.le_of_ble_eq_true rfl) ?_
  simp -implicitDefEqProofs (disch := omega) [go_sem]
  refine scopeM 0 (fun ρ h' => ∃ (M : List Int) (B : Option Addr) (d i : Nat), ρ 2 = .slice B M.length d ∧ ρ 6 = .int .i64 i ∧ 1 ≤ i ∧ i ≤ 13 ∧ (∀ j, 1 ≤ j → j < i → j < M.length → gt M (j - 1) ≠ -gt M j) ∧ M.Pairwise lexLt ∧ (∀ x, x ∈ M ↔ x ∈ l ∧ okL x) ∧
      M.length ≤ 12 ∧ SlAt h' B d (ints M) ∧ (∀ y, blk B y → h.size ≤ y) ∧ Fr (fun _ => False) h h') (fun ρ _ => 14 - (intOf (ρ 6)).toNat) rfl rfl (by kernel_rfl) ?_ ?_
  · simp -implicitDefEqProofs (disch := omega) [go_sem]
    refine loopK (fun ρ h' => ρ 7 = .slice A l.length c ∧ ρ 8 = .int .i64 l.length ∧ ∃ (i : Nat) (B : Option Addr) (d : Nat), ρ 9 = .int .i64 i ∧ i ≤ l.length ∧ ρ 2 = .slice B ((l.take i).filter fun x => decide (okL x)).length d ∧
        SlAt h' B d (ints ((l.take i).filter fun x => decide (okL x))) ∧ (∀ y, blk B y → h.size ≤ y) ∧ Fr (fun _ => False) h h') (fun ρ _ => l.length - (intOf (ρ 9)).toNat) (by kernel_rfl) ?_ ?_
    · exact ⟨rfl, rfl, 0, none, 0, rfl, by omega, rfl, SlAt.nil _, fun y ⟨_, h, _⟩ => (nomatch h), Fr.refl _ _⟩
    · rintro ρ h1 ⟨r7, r8, i, B, d, r9, hi, r2, S, own, fr⟩
      by_cases hin : i < l.length
      · have R1 := R.fr0 fr
        obtain ⟨bk, off, rfl, hc⟩ := R1.get (by rw [ints_len]; omega)
        obtain ⟨x, hx⟩ : ∃ x, l[i]? = some x := ⟨_, List.getElem?_eq_getElem hin⟩
        have c0 := hc _ _ (ints_at hx)
        have htk : l.take (i + 1) = l.take i ++ [x] := by rw [List.take_add_one, hx]; rfl
        have hfl : ((l.take i).filter fun x => decide (okL x)).length ≤ i := Nat.le_trans (List.length_filter_le _ _) (by rw [List.length_take]; omega)
        have hxr := hr x (List.mem_of_getElem? hx)
        simp -implicitDefEqProofs (disch := omega) [go_sem, r2, r7, r8, r9, c0]
        refine useC (abs12_ok hxr.1 hxr.2) ?_
        rintro _ h2 ⟨rfl, rfl⟩
        by_cases hk : okL x
        · have e2 : (l.take (i + 1)).filter (fun x => decide (okL x)) = (l.take i).filter (fun x => decide (okL x)) ++ [x] := by rw [htk, List.filter_append, List.filter_cons, if_pos (decide_eq_true hk)]; rfl
          have ev : var12 x = x.natAbs := if_pos hk.2
          have hk1 := hk.1
          simp -implicitDefEqProofs (disch := omega) [go_sem, r2, r7, r8, r9, ev]
          refine build1 rfl rfl ?_
          simp -implicitDefEqProofs (disch := omega) [go_sem, r2, r7, r8, r9]
          refine appendO (cap := d) (ws := [.int .i64 x]) (by rw [Nat.mul_one]; exact S) own fr (by rw [ints_len]; omega) rfl (by omega) (by simp [Value.oneCell']) (by omega) (by omega) ?_
          intro A' c' h4 S' own' fr' _
          have e3 : ints ((l.take i).filter fun x => decide (okL x)) ++ [.int .i64 x] = ints ((l.take (i + 1)).filter fun x => decide (okL x)) := by rw [e2, ints_append]; rfl
          rw [e3, Nat.mul_one] at S'
          simp -implicitDefEqProofs (disch := omega) [go_sem, r2, r7, r8, r9]
          exact ⟨⟨i + 1, by omega, by omega, A', c', ⟨rfl, by rw [e2]; simp, rfl⟩, S', own', fr'⟩, by omega⟩
        · have e2 : (l.take (i + 1)).filter (fun x => decide (okL x)) = (l.take i).filter (fun x => decide (okL x)) := by rw [htk, List.filter_append, List.filter_cons, if_neg (by simpa using hk), List.filter_nil, List.append_nil]
          have ev : var12 x = 0 := by unfold okL at hk; unfold var12; split <;> omega
          simp -implicitDefEqProofs (disch := omega) [go_sem, r2, r7, r8, r9, ev]
          exact ⟨⟨i + 1, by omega, by omega, B, d, ⟨rfl, by rw [e2], rfl⟩, by rw [e2]; exact S, own, fr⟩, by omega⟩
      · have e : i = l.length := by omega
        subst e
        rw [List.take_length] at r2 S
        obtain ⟨F, hF⟩ : ∃ F, F = l.filter fun x => decide (okL x) := ⟨_, rfl⟩
        rw [← hF] at r2 S
        have hFm : ∀ x, x ∈ F ↔ x ∈ l ∧ okL x := fun x => by rw [hF, List.mem_filter, decide_eq_true_eq]
        have hFl : F.length ≤ l.length := by rw [hF]; exact List.length_filter_le _ _
        simp -implicitDefEqProofs (disch := omega) [go_sem, r2, r7, r8, r9]
        refine useC (sortFunc_ok (cs := []) cleanCf_ok S (fun x hx => ((hFm x).1 hx).2) rfl (by omega) (fun h x y hx hy => cleanCmp_ok hx hy)) ?_
        rintro r1 h2 ⟨L, hP, hO, S2, f2⟩
        have hLl := hP.length_eq
        have fr2 : Fr (fun _ => False) h h2 := fr.trans' f2 fun x hx hb => by have := own x hb; omega
        simp -implicitDefEqProofs (disch := omega) [go_sem, r2, r7, r8, r9]
        have cc := compact_ok (n := F.length) S2 hLl.symm (by omega)
        refine useC cc ?_
        rintro _ h3 ⟨rfl, S3, f3⟩
        have fr3 : Fr (fun _ => False) h h3 := fr2.trans' f3 fun x hx hb => by have := own x hb; omega
        rw [← hLl] at S3 ⊢
        have hspec := cN_spec (l := L) (fun p q h1 h2 => cleanCf_lex ((hFm _).1 (hP.mem_iff.1 (List.mem_of_getElem? (gt_at (by omega))))).2 ((hFm _).1 (hP.mem_iff.1 (List.mem_of_getElem? (gt_at h2)))).2 (hO p q h1 (by omega))) L.length (Nat.le_refl _)
        have hcl := cN_le L L.length
        simp -implicitDefEqProofs (disch := omega) [go_sem, r2, r7, r8, r9]
        refine ⟨cN L L.length, B, d, ⟨rfl, rfl, rfl⟩, 1, rfl, by omega, by omega, fun j h1 h2 => by omega, hspec.2, fun x => ?_, by omega, S3, own, fr3⟩
        rw [hspec.1 x, ← mem_gt, hP.mem_iff]
        exact hFm x
  · rintro ρ h1 ⟨M, B, d, i, r2, r6, hi1, hi2, hj, hP, hm, hM, S, own, fr⟩
    by_cases hin : i < M.length
    · obtain ⟨bk, rfl, _, _, hc⟩ := S.base (by rw [ints_len]; omega)
      have c0 := hc i _ (ints_at (gt_at hin))
      have c1 := hc (i - 1) _ (ints_at (gt_at (by omega)))
      have ei : ((i : Int) - 1).toNat = i - 1 := by omega
      have m0 := (hm _).1 (List.mem_of_getElem? (gt_at hin))
      have m1 := (hm _).1 (List.mem_of_getElem? (gt_at (show i - 1 < M.length by omega)))
      have k0 := m0.2
      unfold okL at k0
      simp -implicitDefEqProofs (disch := omega) [go_sem, r2, r6]
      refine drawK [(0, 0), (1, 0), (2, 0), (3, 0), (4, 1), (5, 0), (6, 0), (7, 0), (8, 1), (9, 0), (10, 0)] mixed (by kernel_rfl) ?_
      by_cases he : gt M (i - 1) = -gt M i
      · simp -implicitDefEqProofs (disch := omega) [go_sem, r2, r6, c0, c1, ei, he]
        refine ⟨⟨none, ⟨gt M i, m0.1, m0.2, by rw [← he]; exact m1.1⟩, trivial⟩, fr⟩
      · simp -implicitDefEqProofs (disch := omega) [go_sem, r2, r6, c0, c1, ei, he]
        refine ⟨⟨M, some ⟨bk, 0, none⟩, d, ⟨rfl, rfl, rfl⟩, i + 1, by omega, by omega, by omega, fun j h1 h2 h3 => ?_, hP, hm, hM, S, own, fr⟩, by omega⟩
        by_cases e : j = i
        · subst e; exact he
        · exact hj j h1 (by omega) h3
    · simp -implicitDefEqProofs (disch := omega) [go_sem, r2, r6]
      refine ⟨⟨some M, ⟨?_, hm⟩, B, d, ⟨rfl, rfl, rfl⟩, S, own⟩, fr⟩
      refine pairwise_adj (fun a b c h1 h2 => by omega) fun j hj2 => ?_
      have g1 := hj (j + 1) (by omega) (by omega) hj2
      have e1 := gt_at (show j < M.length by omega)
      have e2 := gt_at hj2
      have g2 := List.pairwise_iff_getElem.1 hP j (j + 1) (by omega) hj2 (by omega)
      rw [List.getElem?_eq_getElem (by omega), Option.some.injEq] at e1
      rw [List.getElem?_eq_getElem hj2, Option.some.injEq] at e2
      rw [e1, e2] at g2
      rw [Nat.add_sub_cancel] at g1
      unfold lexLt at g2
      omega

theorem cgoodF_ok {b : Nat} (hb : hcell h ⟨b, 0, none⟩ = some (.int .i64 vars)) {x : Int} (hv : vars ≤ 16777216) (h0 : -9223372036854775808 ≤ x) (h1 : x ≤ 9223372036854775807) :
    CallsH Try.prog 102 ([.int .i64 x] ++ [.pointer (some ⟨b, 0, none⟩)]) h fun r h' => r = .bool (!decide (1 ≤ x.natAbs ∧ x.natAbs ≤ vars)) ∧ h' = h := by
  refine calls_of 13 [.tmp 3] Go.Proofs.Try.func102 rfl rfl rfl (by kernel_rfl) (Nat.le_of_ble_eq_true rfl) ?_
  simp -implicitDefEqProofs (disch := omega) [go_sem]
  refine drawC [(0, 0), (1, 3), (2, 0), (3, 0), (4, 0), (6, 2), (5, 3), (7, 0), (8, 0), (9, 0)] (Eq _) mixed (by kernel_rfl) rfl ?_
  simp -implicitDefEqProofs (disch := omega) [go_sem]
  refine useC (abs12_ok h0 h1) ?_
  rintro _ h2 ⟨rfl, rfl⟩
  by_cases e : var12 x = 0
  · have e2 : ¬ (1 ≤ x.natAbs ∧ x.natAbs ≤ vars) := by unfold var12 at e; split at e <;> omega
    rw [decide_eq_false e2]
    simp -implicitDefEqProofs (disch := omega) [go_sem, hb, e]
  · have hx : x.natAbs ≤ 16777216 := by unfold var12 at e; split at e <;> omega
    have ev : var12 x = x.natAbs := if_pos hx
    rw [ev] at e ⊢
    simp -implicitDefEqProofs (disch := omega) [go_sem, hb]
    refine useC (abs12_ok h0 h1) ?_
    rintro _ h3 ⟨rfl, rfl⟩
    rw [ev]
    simp -implicitDefEqProofs (disch := omega) [go_sem, hb]
    rw [Bool.eq_iff_iff]; simp

theorem cgood_ok (R : RowAt h A (ints l)) (hn : n = l.length) (hs : n < 2 ^ 40) (hv : vars ≤ 16777216) (hr : ∀ x ∈ l, -9223372036854775808 ≤ x ∧ x ≤ 9223372036854775807) :
    CallsH Try.prog 84 [.slice A n c, .int .i64 vars] h fun r h' => r = .bool (goodC vars l) ∧ Fr (fun _ => False) h h' := by
  refine calls_of 9 [.tmp 4] Go.Proofs.Try.func84 rfl rfl rfl (by kernel_rfl) (Nat.le_of_ble_eq_true rfl) ?_
  simp -implicitDefEqProofs (disch := omega) [go_sem]
  have f1 : Fr (fun _ => False) h (h.push (.cells #[.int .i64 vars] 3)) := (Fr.refl _ _).push
  have cc := containsFunc_ok (cs := [.pointer (some ⟨h.size, 0, none⟩)]) (c := c) (R.fr0 f1) hn hs (fun x => !decide (1 ≤ x.natAbs ∧ x.natAbs ≤ vars)) (fun x hx => cgoodF_ok (by rw [hcell_push_new]; rfl) hv (hr x hx).1 (hr x hx).2)
  refine useC cc ?_
  rintro _ h2 ⟨rfl, rfl⟩
  simp -implicitDefEqProofs (disch := omega) [go_sem]
  refine ⟨?_, f1⟩
  unfold goodC
  rw [List.all_eq_not_any_not, Bool.not_not]
  congr 1
  funext x
  simp

theorem has12_ok (R : RowAt h A (ints l)) (hn : n = l.length) (hs : n < 2 ^ 40) (x : Int) : CallsH Try.prog 65 [.slice A n c, .int .i64 x] h fun r h' => r = .bool (decide (x ∈ l)) ∧ h' = h := by
  subst hn
  refine calls_of 18 [.tmp 4] Go.Proofs.Try.func65 rfl rfl rfl (by kernel_rfl) (Nat.le_of_ble_eq_true rfl) ?_
  simp -implicitDefEqProofs (disch := omega) [go_sem]
  refine loopK (fun ρ h' => ρ 0 = .slice A l.length c ∧ ρ 1 = .int .i64 x ∧ h' = h ∧ ∃ i : Nat, ρ 5 = .int .i64 i ∧ i ≤ l.length ∧ ∀ (j : Nat) y, j < i → l[j]? = some y → y ≠ x)
    (fun ρ _ => l.length - (intOf (ρ 5)).toNat) (by kernel_rfl) ?_ ?_
  · exact ⟨rfl, rfl, rfl, 0, rfl, by omega, fun j y hj => by omega⟩
  · rintro ρ h' ⟨r0, r1, rfl, i, r5, hi, hj⟩
    by_cases hin : i < l.length
    · obtain ⟨bk, off, rfl, hc⟩ := R.get (by rw [ints_len]; omega)
      obtain ⟨y, hy⟩ : ∃ x, l[i]? = some x := ⟨_, List.getElem?_eq_getElem hin⟩
      have c0 := hc _ _ (ints_at hy)
      by_cases e : y = x
      · have hm : x ∈ l := by rw [← e]; exact List.mem_of_getElem? hy
        simp -implicitDefEqProofs (disch := omega) [go_sem, r0, r1, r5, c0, e, hm]
      · simp -implicitDefEqProofs (disch := omega) [go_sem, r0, r1, r5, c0, e]
        refine ⟨⟨i + 1, by omega, by omega, fun j z hj2 hz => ?_⟩, by omega⟩
        by_cases ej : j = i
        · subst ej; rw [hy] at hz; cases hz; exact e
        · exact hj j z (by omega) hz
    · have hm : ¬ x ∈ l := fun hx => by
        obtain ⟨j, h, e⟩ := List.getElem_of_mem hx
        exact hj j _ (by omega) (List.getElem?_eq_getElem h) e
      simp -implicitDefEqProofs (disch := omega) [go_sem, r0, r1, r5, hm]

theorem rgood12_ok (R : RowAt h A (ints l)) (hn : n = l.length) (hs : n < 2 ^ 40) (hv : vars ≤ 16777216) (hr : ∀ x ∈ l, -9223372036854775808 ≤ x ∧ x ≤ 9223372036854775807) :
    CallsH Try.prog 55 [.slice A n c, .int .i64 vars] h fun r h' => r = .bool (goodC vars l) ∧ h' = h := by
  subst hn
  refine calls_of 27 [.tmp 4] Go.Proofs.Try.func55 rfl rfl rfl (by kernel_rfl) (Nat.le_of_ble_eq_true rfl) ?_
  simp -implicitDefEqProofs (disch := omega) [go_sem]
  refine loopK (fun ρ h' => ρ 0 = .slice A l.length c ∧ ρ 1 = .int .i64 vars ∧ h' = h ∧ ∃ i : Nat, ρ 5 = .int .i64 i ∧ i ≤ l.length ∧ ∀ (j : Nat) y, j < i → l[j]? = some y → 1 ≤ y.natAbs ∧ y.natAbs ≤ vars)
    (fun ρ _ => l.length - (intOf (ρ 5)).toNat) (by kernel_rfl) ?_ ?_
  · exact ⟨rfl, rfl, rfl, 0, rfl, by omega, fun j y hj => by omega⟩
  · rintro ρ h' ⟨r0, r1, rfl, i, r5, hi, hj⟩
    by_cases hin : i < l.length
    · obtain ⟨bk, off, rfl, hc⟩ := R.get (by rw [ints_len]; omega)
      obtain ⟨y, hy⟩ : ∃ x, l[i]? = some x := ⟨_, List.getElem?_eq_getElem hin⟩
      have c0 := hc _ _ (ints_at hy)
      have hyr := hr y (List.mem_of_getElem? hy)
      simp -implicitDefEqProofs (disch := omega) [go_sem, r0, r1, r5, c0]
      refine useC (var12_ok hyr.1 hyr.2) ?_
      rintro _ h2 ⟨rfl, rfl⟩
      by_cases e : var12 y = 0
      · have hg : goodC vars l = false := by
          unfold goodC; rw [List.all_eq_false]
          exact ⟨y, List.mem_of_getElem? hy, by unfold var12 at e; split at e <;> (simp; omega)⟩
        simp -implicitDefEqProofs (disch := omega) [go_sem, r0, r1, r5, c0, e, hg]
      · have hx : y.natAbs ≤ 16777216 := by unfold var12 at e; split at e <;> omega
        have ev : var12 y = y.natAbs := if_pos hx
        rw [ev] at e
        rw [ev]
        simp -implicitDefEqProofs (disch := omega) [go_sem, r0, r1, r5, c0]
        refine useC (var12_ok hyr.1 hyr.2) ?_
        rintro _ h2 ⟨rfl, rfl⟩
        rw [ev]
        by_cases e2 : vars < y.natAbs
        · have hg : goodC vars l = false := by
            unfold goodC; rw [List.all_eq_false]
            exact ⟨y, List.mem_of_getElem? hy, by simp; omega⟩
          simp -implicitDefEqProofs (disch := omega) [go_sem, r0, r1, r5, hg]
        · simp -implicitDefEqProofs (disch := omega) [go_sem, r0, r1, r5]
          refine ⟨⟨i + 1, by omega, by omega, fun j z hj2 hz => ?_⟩, by omega⟩
          by_cases ej : j = i
          · subst ej; rw [hy] at hz; cases hz; omega
          · exact hj j z (by omega) hz
    · have hg : goodC vars l = true := by
        unfold goodC; rw [List.all_eq_true]
        intro x hx
        obtain ⟨j, h, rfl⟩ := List.getElem_of_mem hx
        exact decide_eq_true (hj j _ (by omega) (List.getElem?_eq_getElem h))
      simp -implicitDefEqProofs (disch := omega) [go_sem, r0, r1, r5, hg]
end
end Xe
