/- Package clause, walked: Good, Clean; the document's Has, Good. -/
import Derived.Test.YtgebeiaffjpcaaaGreatDoorAO
import Derived.Test.YtgebeiaffjpcaaaGreatDoorSOb
namespace Xe
open Go Tp Go.Proofs
set_option maxRecDepth 16000

def cleanCf (x y : Int) : Int := if cmpI (var12 x) (var12 y) ≠ 0 then cmpI (var12 x) (var12 y) else cmpI x y
theorem cleanCf_ok : CmpOk cleanCf okL where
  le x y hx hy h := by unfold cleanCf cmpI var12 at *; unfold okL at hx hy; simp only [if_pos hx.2, if_pos hy.2] at *; split at h <;> split <;> omega
  tr x y z hx hy hz h1 h2 := by
    unfold cleanCf cmpI var12 at *; unfold okL at hx hy hz; simp only [if_pos hx.2, if_pos hy.2, if_pos hz.2] at *
    split at h1 <;> split at h2 <;> split <;> omega
theorem cleanCf_lex {x y : Int} (hx : okL x) (hy : okL y) (h : 0 ≤ cleanCf y x) : ¬ lexLt y x := by
  unfold cleanCf cmpI var12 at h; unfold okL at hx hy; unfold lexLt; simp only [if_pos hx.2, if_pos hy.2] at h
  split at h <;> omega

/-- a slice of two numbers, fresh -/
theorem build2 {h : Heap} {e : TypeId} {bt : Nat} {w x y : Int} {k : Value → Heap → Prop}
    (hk : k (.slice (some ⟨h.size, 0, none⟩) 2 2) (h.push (.cells #[.int .i64 x, .int .i64 y] e))) : @buildSliceK (some (e, 1, bt, .int .i64 w)) 2 [(0, .int .i64 x), (1, .int .i64 y)] ⟨h⟩ ⟨k⟩ := by
  refine ⟨by omega, #[.int .i64 x, .int .i64 y], ?_, hk⟩
  have hz : (zerosOf (Value.int .i64 w).cells (2 * 1)).size = 2 := by simp [zerosOf]
  obtain ⟨L, hL⟩ : ∃ L, zerosOf (Value.int .i64 w).cells (2 * 1) = ⟨L⟩ := ⟨_, rfl⟩
  rw [hL] at hz ⊢
  match L, hz with
  | [p, q], _ => simp [Instr.fill, Value.cells, List.zipIdx]

section
variable {h : Heap} {A : Option Addr} {l : List Int} {n c vars : Nat}

theorem abs12_ok {x : Int} (h0 : -9223372036854775808 ≤ x) (h1 : x ≤ 9223372036854775807) : CallsH Tryz.prog 130 [.int .i64 x] h fun r h' => r = .int .i64 (var12 x : Nat) ∧ h' = h := by
  refine calls_of 13 [.tmp 2] Go.Proofs.Tryz.func130 rfl rfl rfl ?_
  by_cases e1 : x < -16777216
  · have ev : var12 x = 0 := if_neg (by omega)
    simp -implicitDefEqProofs (disch := omega) [go_sem, ev]
  · by_cases e2 : 16777216 < x
    · have ev : var12 x = 0 := if_neg (by omega)
      simp -implicitDefEqProofs (disch := omega) [go_sem, ev]
    · have ev : var12 x = x.natAbs := if_pos (by omega)
      simp -implicitDefEqProofs (disch := omega) [go_sem, ev]
      omega

theorem cleanCmp_ok {x y : Int} (hx : okL x) (hy : okL y) : CallsH Tryz.prog 132 ([.int .i64 x, .int .i64 y] ++ []) h fun r h' => r = .int .i64 (cleanCf x y) ∧ Fr (fun _ => False) h h' := by
  unfold okL at hx hy
  refine calls_of 15 [.tmp 4] Go.Proofs.Tryz.func132 rfl rfl rfl ?_
  simp -implicitDefEqProofs (disch := omega) [go_sem]
  refine useC (abs12_ok (x := x) (by omega) (by omega)) ?_
  rintro _ h1 ⟨rfl, rfl⟩
  simp -implicitDefEqProofs (disch := omega) [go_sem]
  refine useC (abs12_ok (x := y) (by omega) (by omega)) ?_
  rintro _ h1 ⟨rfl, rfl⟩
  simp -implicitDefEqProofs (disch := omega) [go_sem]
  refine useC (compare_ok _ _) ?_
  rintro _ h1 ⟨rfl, rfl⟩
  simp -implicitDefEqProofs (disch := omega) [go_sem]
  refine useC (compare_ok _ _) ?_
  rintro _ h1 ⟨rfl, rfl⟩
  simp -implicitDefEqProofs (disch := omega) [go_sem]
  refine build2 ?_
  simp -implicitDefEqProofs (disch := omega) [go_sem]
  have co := or_ok (h := h1.push (.cells #[.int .i64 (cmpI (var12 x) (var12 y)), .int .i64 (cmpI x y)] 3)) (A := some ⟨h1.size, 0, none⟩) (c := 2) (SlAt.new (h := h1) (vs := ints [cmpI (var12 x) (var12 y), cmpI x y]) (e := 3)).row
  refine useC co ?_
  rintro _ h2 ⟨rfl, rfl⟩
  simp -implicitDefEqProofs (disch := omega) [go_sem]
  refine ⟨?_, (Fr.refl _ _).push⟩
  unfold cleanCf
  by_cases e : cmpI (var12 x) (var12 y) = 0 <;> simp [e]

/-- what cleaning a clause tells -/
def CleanR (l : List Int) : Option (List Int) → Prop
  | none => ∃ x ∈ l, okL x ∧ -x ∈ l
  | some L => Rise L ∧ ∀ x, x ∈ L ↔ x ∈ l ∧ okL x
theorem CleanR.uniq {l : List Int} {a b : Option (List Int)} (h1 : CleanR l a) (h2 : CleanR l b) : a = b := by
  have key : ∀ L, CleanR l none → CleanR l (some L) → False := by
    rintro L ⟨x, hx, hok, hnx⟩ ⟨hr, hm⟩
    have m1 := (hm x).2 ⟨hx, hok⟩
    have m2 := (hm (-x)).2 ⟨hnx, by unfold okL at hok ⊢; omega⟩
    obtain ⟨i, hi, ei⟩ := List.getElem_of_mem m1
    obtain ⟨j, hj, ej⟩ := List.getElem_of_mem m2
    unfold okL at hok
    have hp := List.pairwise_iff_getElem.1 hr
    rcases Nat.lt_trichotomy i j with h | h | h
    · have := hp i j hi hj h; rw [ei, ej] at this; omega
    · subst h; rw [ei] at ej; omega
    · have := hp j i hj hi h; rw [ei, ej] at this; omega
  cases a with
  | none => cases b with
    | none => rfl
    | some L => exact (key L h1 h2).elim
  | some L => cases b with
    | none => exact (key L h2 h1).elim
    | some M => rw [rise_uniq h1.1 h2.1 fun x => (h1.2 x).trans (h2.2 x).symm]
theorem mem_gt {L : List Int} {x : Int} : x ∈ L ↔ ∃ j, j < L.length ∧ gt L j = x := by
  constructor
  · intro h
    obtain ⟨j, hj, rfl⟩ := List.getElem_of_mem h
    have := gt_at hj
    rw [List.getElem?_eq_getElem hj, Option.some.injEq] at this
    exact ⟨j, hj, this.symm⟩
  · rintro ⟨j, hj, rfl⟩
    exact List.mem_of_getElem? (gt_at hj)

theorem has12_ok (R : RowAt h A (ints l)) (hn : n = l.length) (hs : n < 2 ^ 40) (x : Int) : CallsH Tryz.prog 82 [.slice A n c, .int .i64 x] h fun r h' => r = .bool (decide (x ∈ l)) ∧ h' = h := by
  subst hn
  refine calls_of 18 [.tmp 4] Go.Proofs.Tryz.func82 rfl rfl rfl ?_
  simp -implicitDefEqProofs (disch := omega) [go_sem]
  refine loopK (fun ρ h' => ρ 0 = .slice A l.length c ∧ ρ 1 = .int .i64 x ∧ h' = h ∧ ∃ i : Nat, ρ 5 = .int .i64 i ∧ i ≤ l.length ∧ ∀ (j : Nat) y, j < i → l[j]? = some y → y ≠ x)
    (fun ρ _ => l.length - (intOf (ρ 5)).toNat) (by kernel_rfl) ?_ ?_
  · exact ⟨rfl, rfl, rfl, 0, rfl, by omega, fun j y hj => by omega⟩
  · rintro ρ h' ⟨r0, r1, rfl, i, r5, hi, hj⟩
    by_cases hin : i < l.length
    · obtain ⟨bk, off, rfl, hc⟩ := R.get (by rw [ints_len]; omega)
      obtain ⟨y, hy⟩ : ∃ x, l[i]? = some x := ⟨_, List.getElem?_eq_getElem hin⟩
      have c0 := hc _ _ (ints_at hy)
      by_cases e : y = x
      · have hm : x ∈ l := by rw [← e]; exact List.mem_of_getElem? hy
        simp -implicitDefEqProofs (disch := omega) [go_sem, r0, r1, r5, c0, e, hm]
      · simp -implicitDefEqProofs (disch := omega) [go_sem, r0, r1, r5, c0, e]
        refine ⟨⟨i + 1, by omega, by omega, fun j z hj2 hz => ?_⟩, by omega⟩
        by_cases ej : j = i
        · subst ej; rw [hy] at hz; cases hz; exact e
        · exact hj j z (by omega) hz
    · have hm : ¬ x ∈ l := fun hx => by
        obtain ⟨j, h, e⟩ := List.getElem_of_mem hx
        exact hj j _ (by omega) (List.getElem?_eq_getElem h) e
      simp -implicitDefEqProofs (disch := omega) [go_sem, r0, r1, r5, hm]

end
end Xe

/- Rows of ints, sorted: by slices.Sort, by slices.SortFunc, of any length. -/
namespace Xe
open Go Go.Proofs
set_option maxRecDepth 16000
set_option maxHeartbeats 1000000

section
variable {h : Heap} {A : Option Addr} {cap n : Nat}

/-- what is a row of ints in another order is one -/
theorem perm_ints {l : List Int} {L' : List Value} (h : L'.Perm (ints l)) : ∃ g : List Int, L' = ints g ∧ g.Perm l := by
  have hall : ∀ w ∈ L', ∃ x : Int, w = .int .i64 x := fun w hw => by
    obtain ⟨x, _, hx⟩ := List.mem_map.1 (h.mem_iff.1 hw)
    exact ⟨x, hx.symm⟩
  have e1 : ints (L'.map intOf) = L' := by
    unfold ints
    rw [List.map_map]
    refine (List.map_congr_left (g := id) fun w hw => ?_).trans (List.map_id _)
    obtain ⟨x, rfl⟩ := hall w hw
    rfl
  have e2 : (ints l).map intOf = l := by
    unfold ints
    rw [List.map_map]
    exact (List.map_congr_left (g := id) fun w _ => rfl).trans (List.map_id _)
  have := h.map intOf
  rw [e2] at this
  exact ⟨_, e1.symm, this⟩
theorem gv_ints {g : List Int} {p : Nat} (h : p < g.length) : gv (ints g) p = .int .i64 (gt g p) := by
  unfold gv gt ints
  rw [List.getD_eq_getElem?_getD, List.getD_eq_getElem?_getD, List.getElem?_map, List.getElem?_eq_getElem h]
  rfl
/-- a comparer of ints, as one of cells -/
def cfV (cf : Int → Int → Int) (x y : Value) : Int := cf (intOf x) (intOf y)
def okV (ok : Int → Prop) (x : Value) : Prop := ∃ i : Int, x = .int .i64 i ∧ ok i
theorem cfV_ok {cf : Int → Int → Int} {ok : Int → Prop} (C : CmpOk cf ok) : COk (cfV cf) (okV ok) where
  asy x y hx hy h := by
    obtain ⟨a, rfl, ha⟩ := hx
    obtain ⟨b, rfl, hb⟩ := hy
    exact C.le a b ha hb h
  tr x y z hx hy hz h1 h2 := by
    obtain ⟨a, rfl, ha⟩ := hx
    obtain ⟨b, rfl, hb⟩ := hy
    obtain ⟨c, rfl, hc⟩ := hz
    exact C.tr a b c ha hb hc h1 h2
theorem sortC_ok {fn : FuncId} {cs : List Value} {cf : Int → Int → Int} {ok : Int → Prop} {l : List Int} (C : CmpOk cf ok) (S : SlAt h A cap (ints l)) (hl : ∀ x ∈ l, ok x) (hn : n = l.length) (hs : n < 2 ^ 40)
    (hf : ∀ h', Fr (blk A) h h' → ∀ x y, ok x → ok y → CallsH Tryz.prog fn ([.int .i64 x, .int .i64 y] ++ cs) h' fun r h'' => r = .int .i64 (cf x y) ∧ Fr (fun _ => False) h' h'') :
    CallsH Tryz.prog 131 [.slice A n cap, .func (.func fn) #[] cs.toArray] h fun _ h' =>
      ∃ L, L.Perm l ∧ (∀ p q, p < q → q < n → 0 ≤ cf (gt L q) (gt L p)) ∧ SlAt h' A cap (ints L) ∧ Fr (blk A) h h' := by
  have hone : ∀ w ∈ ints l, w.oneCell' = true := ints_one
  have hok : OkR (okV ok) (ints l) := fun p hp => by
    rw [ints_len] at hp
    exact ⟨gt l p, gv_ints hp, hl _ (List.mem_of_getElem? (gt_at hp))⟩
  have C' : Cmp Tryz.prog h A fn cs (cfV cf) (okV ok) := ⟨fun h' f x y hx hy => by
    obtain ⟨a, rfl, ha⟩ := hx
    obtain ⟨b, rfl, hb⟩ := hy
    exact hf h' f a b ha hb, cfV_ok C⟩
  refine (sort_ok hs C' S (by rw [ints_len]; exact hn) hone hok).mono ?_
  rintro r h' ⟨L', D, hS⟩
  obtain ⟨g, rfl, hP⟩ := perm_ints D.R.perm
  have hl := hP.length_eq
  refine ⟨g, hP, fun p q h1 h2 => ?_, D.S, D.f⟩
  have := hS p q (by omega) h1 h2
  unfold Le cfV at this
  rw [gv_ints (by omega), gv_ints (by omega)] at this
  exact this
end
end Xe

/- Clean, walked: of a clause of any length. -/
namespace Xe
open Go Tp Go.Proofs
set_option maxRecDepth 16000
set_option maxHeartbeats 1000000

section
variable {h : Heap} {A : Option Addr} {l : List Int} {n c vars : Nat}
theorem cleanG_ok (R : RowAt h A (ints l)) (hn : n = l.length) (hs : n < 2 ^ 40) (hr : ∀ x ∈ l, -9223372036854775808 ≤ x ∧ x ≤ 9223372036854775807) :
    CallsH Tryz.prog 91 [.slice A n c] h fun r h' => (∃ o, CleanR l o ∧ match o with
      | none => r = .tuple #[.slice none 0 0, .bool true]
      | some L => ∃ A' c', r = .tuple #[.slice A' L.length c', .bool false] ∧ SlAt h' A' c' (ints L) ∧ ∀ y, blk A' y → h.size ≤ y) ∧ Fr (fun _ => False) h h' := by
  subst hn
  refine calls_of 43 [.tmp 2, .tmp 3] Go.Proofs.Tryz.func91 rfl rfl rfl ?_
  simp -implicitDefEqProofs (disch := omega) [go_sem]
  refine scopeM 0 (fun ρ h' => ∃ (M : List Int) (B : Option Addr) (d i : Nat), ρ 2 = .slice B M.length d ∧ ρ 6 = .int .i64 i ∧ 1 ≤ i ∧ i ≤ l.length + 1 ∧ (∀ j, 1 ≤ j → j < i → j < M.length → gt M (j - 1) ≠ -gt M j) ∧ M.Pairwise lexLt ∧ (∀ x, x ∈ M ↔ x ∈ l ∧ okL x) ∧
      M.length ≤ l.length ∧ SlAt h' B d (ints M) ∧ (∀ y, blk B y → h.size ≤ y) ∧ Fr (fun _ => False) h h') (fun ρ _ => l.length + 2 - (intOf (ρ 6)).toNat) rfl rfl (by kernel_rfl) ?_ ?_
  · simp -implicitDefEqProofs (disch := omega) [go_sem]
    refine loopK (fun ρ h' => ρ 7 = .slice A l.length c ∧ ρ 8 = .int .i64 l.length ∧ ∃ (i : Nat) (B : Option Addr) (d : Nat), ρ 9 = .int .i64 i ∧ i ≤ l.length ∧ ρ 2 = .slice B ((l.take i).filter fun x => decide (okL x)).length d ∧
        SlAt h' B d (ints ((l.take i).filter fun x => decide (okL x))) ∧ (∀ y, blk B y → h.size ≤ y) ∧ Fr (fun _ => False) h h') (fun ρ _ => l.length - (intOf (ρ 9)).toNat) (by kernel_rfl) ?_ ?_
    · exact ⟨rfl, rfl, 0, none, 0, rfl, by omega, rfl, SlAt.nil _, fun y ⟨_, h, _⟩ => (nomatch h), Fr.refl _ _⟩
    · rintro ρ h1 ⟨r7, r8, i, B, d, r9, hi, r2, S, own, fr⟩
      by_cases hin : i < l.length
      · have R1 := R.fr0 fr
        obtain ⟨bk, off, rfl, hc⟩ := R1.get (by rw [ints_len]; omega)
        obtain ⟨x, hx⟩ : ∃ x, l[i]? = some x := ⟨_, List.getElem?_eq_getElem hin⟩
        have c0 := hc _ _ (ints_at hx)
        have htk : l.take (i + 1) = l.take i ++ [x] := by rw [List.take_add_one, hx]; rfl
        have hfl : ((l.take i).filter fun x => decide (okL x)).length ≤ i := Nat.le_trans (List.length_filter_le _ _) (by rw [List.length_take]; omega)
        have hxr := hr x (List.mem_of_getElem? hx)
        simp -implicitDefEqProofs (disch := omega) [go_sem, r2, r7, r8, r9, c0]
        refine useC (abs12_ok hxr.1 hxr.2) ?_
        rintro _ h2 ⟨rfl, rfl⟩
        by_cases hk : okL x
        · have e2 : (l.take (i + 1)).filter (fun x => decide (okL x)) = (l.take i).filter (fun x => decide (okL x)) ++ [x] := by rw [htk, List.filter_append, List.filter_cons, if_pos (decide_eq_true hk)]; rfl
          have ev : var12 x = x.natAbs := if_pos hk.2
          have hk1 := hk.1
          simp -implicitDefEqProofs (disch := omega) [go_sem, r2, r7, r8, r9, ev]
          refine build1 rfl rfl ?_
          simp -implicitDefEqProofs (disch := omega) [go_sem, r2, r7, r8, r9]
          refine appendO (cap := d) (ws := [.int .i64 x]) (by rw [Nat.mul_one]; exact S) own fr (by rw [ints_len]; omega) rfl (by omega) (by simp [Value.oneCell']) (by omega) (by omega) ?_
          intro A' c' h4 S' own' fr' _
          have e3 : ints ((l.take i).filter fun x => decide (okL x)) ++ [.int .i64 x] = ints ((l.take (i + 1)).filter fun x => decide (okL x)) := by rw [e2, ints_append]; rfl
          rw [e3, Nat.mul_one] at S'
          simp -implicitDefEqProofs (disch := omega) [go_sem, r2, r7, r8, r9]
          exact ⟨⟨i + 1, by omega, by omega, A', c', ⟨rfl, by rw [e2]; simp, rfl⟩, S', own', fr'⟩, by omega⟩
        · have e2 : (l.take (i + 1)).filter (fun x => decide (okL x)) = (l.take i).filter (fun x => decide (okL x)) := by rw [htk, List.filter_append, List.filter_cons, if_neg (by simpa using hk), List.filter_nil, List.append_nil]
          have ev : var12 x = 0 := by unfold okL at hk; unfold var12; split <;> omega
          simp -implicitDefEqProofs (disch := omega) [go_sem, r2, r7, r8, r9, ev]
          exact ⟨⟨i + 1, by omega, by omega, B, d, ⟨rfl, by rw [e2], rfl⟩, by rw [e2]; exact S, own, fr⟩, by omega⟩
      · have e : i = l.length := by omega
        subst e
        rw [List.take_length] at r2 S
        obtain ⟨F, hF⟩ : ∃ F, F = l.filter fun x => decide (okL x) := ⟨_, rfl⟩
        rw [← hF] at r2 S
        have hFm : ∀ x, x ∈ F ↔ x ∈ l ∧ okL x := fun x => by rw [hF, List.mem_filter, decide_eq_true_eq]
        have hFl : F.length ≤ l.length := by rw [hF]; exact List.length_filter_le _ _
        simp -implicitDefEqProofs (disch := omega) [go_sem, r2, r7, r8, r9]
        refine useC (sortC_ok (cs := []) cleanCf_ok S (fun x hx => ((hFm x).1 hx).2) rfl (by omega) (fun h _ x y hx hy => cleanCmp_ok hx hy)) ?_
        rintro r1 h2 ⟨L, hP, hO, S2, f2⟩
        have hLl := hP.length_eq
        have fr2 : Fr (fun _ => False) h h2 := fr.trans' f2 fun x hx hb => by have := own x hb; omega
        simp -implicitDefEqProofs (disch := omega) [go_sem, r2, r7, r8, r9]
        have cc := compact_ok (n := F.length) S2 hLl.symm (by omega)
        refine useC cc ?_
        rintro _ h3 ⟨rfl, S3, f3⟩
        have fr3 : Fr (fun _ => False) h h3 := fr2.trans' f3 fun x hx hb => by have := own x hb; omega
        rw [← hLl] at S3 ⊢
        have hspec := cN_spec (l := L) (fun p q h1 h2 => cleanCf_lex ((hFm _).1 (hP.mem_iff.1 (List.mem_of_getElem? (gt_at (by omega))))).2 ((hFm _).1 (hP.mem_iff.1 (List.mem_of_getElem? (gt_at h2)))).2 (hO p q h1 (by omega))) L.length (Nat.le_refl _)
        have hcl := cN_le L L.length
        simp -implicitDefEqProofs (disch := omega) [go_sem, r2, r7, r8, r9]
        refine ⟨cN L L.length, B, d, ⟨rfl, rfl, rfl⟩, 1, rfl, by omega, by omega, fun j h1 h2 => by omega, hspec.2, fun x => ?_, by omega, S3, own, fr3⟩
        rw [hspec.1 x, ← mem_gt, hP.mem_iff]
        exact hFm x
  · rintro ρ h1 ⟨M, B, d, i, r2, r6, hi1, hi2, hj, hP, hm, hM, S, own, fr⟩
    by_cases hin : i < M.length
    · obtain ⟨bk, rfl, _, _, hc⟩ := S.base (by rw [ints_len]; omega)
      have c0 := hc i _ (ints_at (gt_at hin))
      have c1 := hc (i - 1) _ (ints_at (gt_at (by omega)))
      have ei : ((i : Int) - 1).toNat = i - 1 := by omega
      have m0 := (hm _).1 (List.mem_of_getElem? (gt_at hin))
      have m1 := (hm _).1 (List.mem_of_getElem? (gt_at (show i - 1 < M.length by omega)))
      have k0 := m0.2
      unfold okL at k0
      simp -implicitDefEqProofs (disch := omega) [go_sem, r2, r6]
      refine drawK [(0, 0), (1, 0), (2, 0), (3, 0), (4, 1), (5, 0), (6, 0), (7, 0), (8, 1), (9, 0), (10, 0)] ?_
      by_cases he : gt M (i - 1) = -gt M i
      · simp -implicitDefEqProofs (disch := omega) [go_sem, r2, r6, c0, c1, ei, he]
        refine ⟨⟨none, ⟨gt M i, m0.1, m0.2, by rw [← he]; exact m1.1⟩, trivial⟩, fr⟩
      · simp -implicitDefEqProofs (disch := omega) [go_sem, r2, r6, c0, c1, ei, he]
        refine ⟨⟨M, some ⟨bk, 0, none⟩, d, ⟨rfl, rfl, rfl⟩, i + 1, by omega, by omega, by omega, fun j h1 h2 h3 => ?_, hP, hm, hM, S, own, fr⟩, by omega⟩
        by_cases e : j = i
        · subst e; exact he
        · exact hj j h1 (by omega) h3
    · simp -implicitDefEqProofs (disch := omega) [go_sem, r2, r6]
      refine ⟨⟨some M, ⟨?_, hm⟩, B, d, ⟨rfl, rfl, rfl⟩, S, own⟩, fr⟩
      refine pairwise_adj (fun a b c h1 h2 => by omega) fun j hj2 => ?_
      have g1 := hj (j + 1) (by omega) (by omega) hj2
      have e1 := gt_at (show j < M.length by omega)
      have e2 := gt_at hj2
      have g2 := List.pairwise_iff_getElem.1 hP j (j + 1) (by omega) hj2 (by omega)
      rw [List.getElem?_eq_getElem (by omega), Option.some.injEq] at e1
      rw [List.getElem?_eq_getElem hj2, Option.some.injEq] at e2
      rw [e1, e2] at g2
      rw [Nat.add_sub_cancel] at g1
      unfold lexLt at g2
      omega

end
end Xe

/- The reference's own Clean. -/
namespace Xe
open Go Tp Go.Proofs
set_option maxRecDepth 16000
set_option maxHeartbeats 1000000

theorem rise_insert {O : List Int} {x : Int} {j : Nat} (hr : Rise O) (hj : j ≤ O.length) (h1 : ∀ (q : Nat) y, q < j → O[q]? = some y → y.natAbs < x.natAbs) (h2 : ∀ y, O[j]? = some y → x.natAbs ≤ y.natAbs) (hx : ∀ y ∈ O, y.natAbs ≠ x.natAbs) :
    Rise (O.take j ++ [x] ++ O.drop j) := by
  have hO : O.take j ++ O.drop j = O := List.take_append_drop ..
  have hr' : (O.take j ++ O.drop j).Pairwise fun a b => a.natAbs < b.natAbs := by rw [hO]; exact hr
  rw [List.pairwise_append] at hr'
  unfold Rise
  rw [List.append_assoc, List.pairwise_append]
  have hd : ∀ b ∈ O.drop j, x.natAbs < b.natAbs := fun b hb => by
    have hbO : b ∈ O := List.mem_of_mem_drop hb
    have hne := hx b hbO
    obtain ⟨q, hq⟩ := List.getElem?_of_mem hb
    rw [List.getElem?_drop] at hq
    by_cases e : q = 0
    · subst e; have := h2 b hq; omega
    · have hl := (List.getElem?_eq_some_iff.1 hq).1
      obtain ⟨y, hy⟩ : ∃ y, O[j]? = some y := ⟨_, List.getElem?_eq_getElem (by omega)⟩
      have h3 := h2 y hy
      obtain ⟨g1, e1⟩ := List.getElem?_eq_some_iff.1 hy
      obtain ⟨g2, e2⟩ := List.getElem?_eq_some_iff.1 hq
      have := List.pairwise_iff_getElem.1 hr j (j + q) g1 g2 (by omega)
      rw [e1, e2] at this; omega
  refine ⟨hr'.1, ?_, fun a ha b hb => ?_⟩
  · show ([x] ++ O.drop j).Pairwise _
    rw [List.singleton_append, List.pairwise_cons]
    exact ⟨hd, hr'.2.1⟩
  · rw [List.mem_append, List.mem_singleton] at hb
    rcases hb with rfl | hb
    · obtain ⟨q, hq⟩ := List.getElem?_of_mem ha
      rw [List.getElem?_take] at hq
      split at hq
      · exact h1 q a (by assumption) hq
      · cases hq
    · exact hr'.2.2 a ha b hb
theorem ints_take (l : List Int) (n : Nat) : (ints l).take n = ints (l.take n) := by unfold ints; rw [List.map_take]
section
variable {h : Heap}
theorem slice_from2 {m len cap b o : Nat} {kd : IntKind} {i : Int} (h0 : 0 ≤ i) (h1 : i ≤ len) (h2 : len ≤ cap) : sliceV (some (m, none)) (.slice (some ⟨b, o, none⟩) len cap) (some (.int kd i)) none =
    some (.slice (some ⟨b, if cap = i.toNat then o else o + i.toNat * m, none⟩) (len - i.toNat) (cap - i.toNat)) := by
  unfold sliceV boundV
  simp only [Option.bind_some, if_pos (And.intro h0 h1), Option.map_some]
  by_cases e : cap = i.toNat
  · simp [e]
  · simp [e, add_n]

theorem RowAt.drop {bk off cap i : Nat} {vs : List Value} (R : RowAt h (some ⟨bk, off, none⟩) vs) (hc : vs.length ≤ cap) : RowAt h (some ⟨bk, if cap = i then off else off + i * 1, none⟩) (vs.drop i) := by
  rcases R with rfl | ⟨bk', off', e, hcell⟩
  · exact .inl (by simp)
  · cases e
    by_cases hci : cap = i
    · exact .inl (List.drop_eq_nil_of_le (by omega))
    · rw [if_neg hci]
      refine .inr ⟨bk, off + i * 1, rfl, fun j v hv => ?_⟩
      rw [List.getElem?_drop] at hv
      have := hcell _ _ hv
      rwa [show off + i * 1 + j = off + (i + j) by omega]

theorem slice_fromR {B : Option Addr} {d j : Nat} {vs : List Value} {kd : IntKind} (S : SlAt h B d vs) (hj : j ≤ vs.length) : ∃ B' d', sliceV (some (1, none)) (.slice B vs.length d) (some (.int kd (j : Int))) none = some (Value.slice B' (vs.length - j) d') ∧ RowAt h B' (vs.drop j) ∧ ∀ y, blk B' y → blk B y := by
  have hl := S.len
  rcases S.at' with ⟨rfl, rfl⟩ | ⟨bk, rfl, h2, h3, h4, h5⟩
  · have hv : vs = [] := List.eq_nil_of_length_eq_zero (by omega)
    subst hv
    have hj0 : j = 0 := by simpa using hj
    subst hj0
    refine ⟨none, 0, ?_, .inl rfl, fun _ h => h⟩
    unfold sliceV boundV
    simp
  · refine ⟨some ⟨bk, if d = j then 0 else 0 + j * 1, none⟩, d - j, ?_, RowAt.drop (i := j) (S.row) hl, fun y ⟨a, ha, hb⟩ => by cases ha; exact ⟨_, rfl, hb⟩⟩
    rw [slice_from2 (by omega) (by omega) hl, Int.toNat_natCast]
theorem Fr.of_new {N : Nat} {h h' : Heap} (f : Fr (fun y => N ≤ y) h h') (hn : h.size ≤ N) : Fr (fun _ => False) h h' := ⟨f.size, fun x hx _ => f.same x hx (by omega)⟩
theorem buildA {e : TypeId} {s b : Nat} {z : Value} {k : Value → Heap → Prop} (hk : ∀ X h', SlAt h' X 0 [] → (∀ y, blk X y → h.size ≤ y ∧ y < h'.size) → Fr (fun _ => False) h h' → k (.slice X 0 0) h') : @buildSliceK (some (e, s, b, z)) 0 [] ⟨h⟩ ⟨k⟩ :=
  build0 (hk _ _ (SlAt.new (vs := [])) (fun y ⟨a, ha, hb⟩ => by cases ha; subst hb; exact ⟨Nat.le_refl _, by rw [push_size]; exact Nat.lt_succ_self _⟩) ((Fr.refl _ _).push))
theorem buildB {e : TypeId} {b : Nat} {z v : Value} {k : Value → Heap → Prop} (hv : v.cells = #[v]) (hz : z.cells.size = 1) (hk : ∀ X h', SlAt h' X 1 [v] → (∀ y, blk X y → h.size ≤ y ∧ y < h'.size) → Fr (fun _ => False) h h' → k (.slice X 1 1) h') :
    @buildSliceK (some (e, 1, b, z)) 1 [(0, v)] ⟨h⟩ ⟨k⟩ :=
  build1 hv hz (hk _ _ (SlAt.new (vs := [v])) (fun y ⟨a, ha, hb⟩ => by cases ha; subst hb; exact ⟨Nat.le_refl _, by rw [push_size]; exact Nat.lt_succ_self _⟩) ((Fr.refl _ _).push))
theorem appendB {e : TypeId} {bt n m xc cap : Nat} {z : Value} {A xb : Option Addr} {vs ws : List Value} {k : Value → Heap → Prop} (S : SlAt h A cap vs) (hn : n = vs.length)
    (hw : RowAt h xb ws) (hm : m = ws.length) (hone : ∀ w ∈ ws, w.oneCell' = true) (hlen : (n + m) * bt ≤ 2 ^ 47) (hlm : n + m < 2 ^ 50)
    (hk : ∀ A' cap' h', SlAt h' A' cap' (vs ++ ws) → Fr (blk A) h h' → (∀ x, blk A' x → blk A x ∨ h.size ≤ x) → k (.slice A' (n + m) cap') h') :
    @appendK (some (e, 1, bt, z)) (.slice A n cap) (.slice xb m xc) ⟨h⟩ ⟨k⟩ :=
  appendN (sz := 1) (by rw [Nat.mul_one]; exact S) (by rw [Nat.mul_one]; exact hn) hw (by rw [Nat.mul_one]; exact hm) (by omega) hone hlen hlm (fun A' c' h' S' => hk A' c' h' (by rw [Nat.mul_one] at S'; exact S'))
theorem clean12_ok {A : Option Addr} {n c : Nat} {l : List Int} (R : RowAt h A (ints l)) (hn : n = l.length) (hs : n < 2 ^ 40) (hr : ∀ x ∈ l, -9223372036854775808 ≤ x ∧ x ≤ 9223372036854775807) (hcap : n ≤ c) :
    CallsH Tryz.prog 45 [.slice A n c] h fun r h' => (∃ o, CleanR l o ∧ match o with
      | none => r = .tuple #[.slice none 0 0, .bool true]
      | some L => ∃ A' c', r = .tuple #[.slice A' L.length c', .bool false] ∧ SlAt h' A' c' (ints L) ∧ ∀ y, blk A' y → h.size ≤ y) ∧ Fr (fun _ => False) h h' := by
  subst hn
  refine calls_of 71 [.tmp 2, .tmp 3] Go.Proofs.Tryz.func45 rfl rfl rfl ?_
  simp -implicitDefEqProofs (disch := omega) [go_sem]
  refine loopK (fun ρ h' => ρ 0 = .slice A l.length c ∧ Fr (fun _ => False) h h' ∧ ∃ (i : Nat) (O : List Int) (B : Option Addr) (d : Nat), ρ 5 = .int .i64 i ∧ i ≤ l.length ∧ ρ 4 = .slice B O.length d ∧ SlAt h' B d (ints O) ∧ (∀ y, blk B y → h.size ≤ y) ∧
      Rise O ∧ (∀ x, x ∈ O ↔ x ∈ l.take i ∧ okL x) ∧ (∀ x ∈ O, -x ∉ l) ∧ O.length ≤ i) (fun ρ _ => l.length - (intOf (ρ 5)).toNat) (by kernel_rfl) ?_ ?_
  · exact ⟨rfl, Fr.refl _ _, 0, [], none, 0, rfl, by omega, rfl, SlAt.nil h, fun y ⟨a, ha, _⟩ => (nomatch ha), List.Pairwise.nil, fun x => by simp, fun x hx => (nomatch hx), Nat.le_refl _⟩
  · rintro ρ h1 ⟨r0, f1, i, O, B, d, r5, hi, r4, S1, own1, hrise, hmem, hneg, hOl⟩
    have R1 := R.fr0 f1
    by_cases hil : i < l.length
    · obtain ⟨x, hx⟩ : ∃ x, l[i]? = some x := ⟨_, List.getElem?_eq_getElem hil⟩
      have hxm := List.mem_of_getElem? hx
      have hxr := hr x hxm
      obtain ⟨bk, off, hA, hc⟩ := R1.get (by rw [ints_len]; omega)
      have c0 := hc _ _ (ints_at hx)
      have etk : l.take (i + 1) = l.take i ++ [x] := by rw [List.take_add_one, hx]; rfl
      have htl : (l.take i).length = i := by rw [List.length_take]; omega
      subst hA
      simp -implicitDefEqProofs (disch := omega) [go_sem, r0, r4, r5, c0]
      refine drawK [(0, 0), (1, 0), (2, 0), (3, 1), (4, 3), (5, 0), (6, 0), (7, 0), (8, 0), (9, 0), (10, 0), (11, 0), (12, 0), (13, 1), (14, 3), (15, 0)] ?_
      simp -implicitDefEqProofs (disch := omega) [go_sem, r0, r4, r5, c0]
      refine useC (var12_ok hxr.1 hxr.2) ?_
      rintro _ h2 ⟨rfl, rfl⟩
      have hok : var12 x = 0 ↔ ¬ okL x := by unfold var12 okL; split <;> omega
      by_cases hv : var12 x = 0
      · simp -implicitDefEqProofs (disch := omega) [go_sem, r0, r4, r5, hv]
        refine ⟨⟨f1, i + 1, by omega, by omega, O, B, d, ⟨rfl, rfl, rfl⟩, S1, own1, hrise, fun y => ?_, hneg, by omega⟩, by omega⟩
        rw [hmem, etk, List.mem_append, List.mem_singleton]
        refine ⟨fun h => ⟨.inl h.1, h.2⟩, fun h => ⟨h.1.resolve_right fun e => ?_, h.2⟩⟩
        rw [e] at h; exact hok.1 hv h.2
      · have hxo : okL x := Classical.byContradiction fun h => hv (hok.2 h)
        have hxo' := hxo
        unfold okL at hxo'
        simp -implicitDefEqProofs (disch := omega) [go_sem, r0, r4, r5, c0, hv]
        have Rt := R1.take i
        have eti : (ints l).take i = ints (l.take i) := by unfold ints; rw [List.map_take]
        rw [eti] at Rt
        refine useC (has12_ok Rt htl.symm (by omega) x) ?_
        rintro _ h2 ⟨rfl, rfl⟩
        by_cases hin : x ∈ l.take i
        · simp -implicitDefEqProofs (disch := omega) [go_sem, r0, r4, r5, hin]
          refine ⟨⟨f1, i + 1, by omega, by omega, O, B, d, ⟨rfl, rfl, rfl⟩, S1, own1, hrise, fun y => ?_, hneg, by omega⟩, by omega⟩
          rw [hmem, etk, List.mem_append, List.mem_singleton]
          refine ⟨fun h => ⟨.inl h.1, h.2⟩, fun h => ⟨h.1.elim (fun h => h) fun e => ?_, h.2⟩⟩
          rw [e]; exact hin
        · simp -implicitDefEqProofs (disch := omega) [go_sem, r0, r4, r5, c0, hin]
          refine useC (has12_ok R1 rfl (by omega) (-x)) ?_
          rintro _ h2 ⟨rfl, rfl⟩
          by_cases hng : -x ∈ l
          · simp -implicitDefEqProofs (disch := omega) [go_sem, r0, r4, r5, hng]
            exact ⟨⟨none, ⟨x, hxm, hxo, hng⟩, trivial⟩, f1⟩
          · have hne : ∀ y ∈ O, y.natAbs ≠ x.natAbs := fun y hy e => by
              by_cases e2 : y = x
              · exact hin (e2 ▸ ((hmem y).1 hy).1)
              · have e3 : -x = y := by omega
                exact hng (e3 ▸ List.mem_of_mem_take ((hmem y).1 hy).1)
            have hr5 : (intOf (ρ 5)).toNat = i := by rw [r5]; rfl
            simp -implicitDefEqProofs (disch := omega) [↓ stop_block (id := 2), go_sem, r0, r4, r5, hng]
            refine cutK (fun ρ h' => ρ 0 = .slice (some ⟨bk, off, none⟩) l.length c ∧ h' = h2 ∧ ρ 5 = .int .i64 i ∧ ρ 4 = .slice B O.length d ∧ ∃ j : Nat, ρ 6 = .int .i64 j ∧ j ≤ O.length ∧ (∀ (q : Nat) y, q < j → O[q]? = some y → y.natAbs < x.natAbs) ∧ ∀ y, O[j]? = some y → x.natAbs ≤ y.natAbs) ?_ ?_
            · simp -implicitDefEqProofs (disch := omega) [go_sem]
              refine loopK (fun ρ h' => ρ 0 = .slice (some ⟨bk, off, none⟩) l.length c ∧ h' = h2 ∧ ρ 5 = .int .i64 i ∧ ρ 4 = .slice B O.length d ∧ ∃ j : Nat, ρ 6 = .int .i64 j ∧ j ≤ O.length ∧ ∀ (q : Nat) y, q < j → O[q]? = some y → y.natAbs < x.natAbs)
                (fun ρ _ => O.length - (intOf (ρ 6)).toNat) (by kernel_rfl) ?_ ?_
              · exact ⟨by simp [put, r0], rfl, by simp [put, r5], by simp [put, r4], 0, rfl, by omega, fun q y hq => by omega⟩
              · clear r0 r4 r5
                rintro ρ h' ⟨r0, rfl, r5, r4, j, r6, hj, hlt⟩
                have hdl := S1.len
                rw [ints_len] at hdl
                simp -implicitDefEqProofs (disch := omega) [go_sem, r0, r4, r5, r6, c0]
                refine drawC [(0, 0), (1, 0), (2, 0), (3, 0), (4, 0), (5, 0), (6, 0), (7, 0), (8, 1), (10, 0), (11, 0), (12, 0), (13, 2), (9, 3), (14, 3), (15, 0), (16, 0)] (Eq h') rfl ?_
                by_cases hjl : j < O.length
                · obtain ⟨y, hy⟩ : ∃ y, O[j]? = some y := ⟨_, List.getElem?_eq_getElem hjl⟩
                  have hyo := ((hmem y).1 (List.mem_of_getElem? hy)).2
                  unfold okL at hyo
                  have hvx : var12 x = x.natAbs := if_pos hxo'.2
                  have hvy : var12 y = y.natAbs := if_pos hyo.2
                  obtain ⟨bb, hB, _, _, hcB⟩ := S1.base (by rw [ints_len]; omega)
                  have cy := hcB _ _ (ints_at hy)
                  subst hB
                  simp -implicitDefEqProofs (disch := omega) [go_sem, r0, r4, r5, r6, c0, cy]
                  refine useC (var12_ok (by omega) (by omega)) ?_
                  rintro _ h2 ⟨rfl, rfl⟩
                  rw [hvy]
                  simp -implicitDefEqProofs (disch := omega) [go_sem, r0, r4, r5, r6, c0, cy]
                  refine useC (var12_ok (by omega) (by omega)) ?_
                  rintro _ h2 ⟨rfl, rfl⟩
                  rw [hvx]
                  by_cases hyx : y.natAbs < x.natAbs
                  · simp -implicitDefEqProofs (disch := omega) [go_sem, r0, r4, r5, r6, hyx]
                    refine ⟨⟨j + 1, by omega, by omega, fun q z hq hz => ?_⟩, by omega⟩
                    by_cases e : q = j
                    · rw [e, hy] at hz; cases hz; exact hyx
                    · exact hlt q z (by omega) hz
                  · simp -implicitDefEqProofs (disch := omega) [go_sem, r0, r4, r5, r6, hyx]
                    exact ⟨j, rfl, hj, hlt, fun z hz => by rw [hy] at hz; cases hz; omega⟩
                · simp -implicitDefEqProofs (disch := omega) [go_sem, r0, r4, r5, r6]
                  exact ⟨j, rfl, hj, hlt, fun y hy => by rw [List.getElem?_eq_none (by omega)] at hy; cases hy⟩
            · clear r0 r4 r5
              rintro ρ h' ⟨r0, rfl, r5, r4, j, r6, hj, hlt, hge⟩
              have hdl := S1.len
              rw [ints_len] at hdl
              simp -implicitDefEqProofs (disch := omega) [go_sem, r0, r4, r5, r6]
              obtain ⟨B', d', hsl, RD, hBB⟩ := slice_fromR (kd := .i64) S1 (j := j) (by rw [ints_len]; exact hj)
              rw [ints_len] at hsl
              refine drawT (.br2 [(1, 0), (2, 0), (3, 0), (5, 0), (6, 0), (7, 0), (11, 0), (12, 0), (13, 0)] 0 (.br2 [] 4 (.fin [(8, 3), (9, 3), (10, 3), (14, 3), (15, 0)]) 8 (.br2 [] 4 (.fin [(9, 3), (10, 3), (14, 3), (15, 0)]) 9 (.fin [(4, 3), (10, 3), (14, 3), (15, 0)]))) 8 (.br2 [] 0 (.br2 [] 4 (.fin [(9, 3), (10, 3), (14, 3), (15, 0)]) 9 (.fin [(4, 3), (10, 3), (14, 3), (15, 0)])) 9 (.fin [(0, 3), (4, 3), (10, 3), (14, 3), (15, 0)]))) ?_
              simp -implicitDefEqProofs (disch := omega) [go_sem, r0, r4, r5, r6, c0, hsl]
              have RT := S1.row.take j
              rw [ints_take] at RT
              have nB : ∀ y, blk B y → ¬ h'.size ≤ y := fun y hy => by have := S1.blk_lt hy; omega
              have nB' : ∀ y, blk B' y → ¬ h'.size ≤ y := fun y hy => nB y (hBB y hy)
              have hOd : (ints O).drop j = ints (O.drop j) := by unfold ints; rw [List.map_drop]
              rw [hOd] at RD
              have hbk := hcell_lt c0
              refine ⟨?way0, ?way1, ?way2⟩
              case' way0 =>
                have zz : h'.size ≤ h'.size := Nat.le_refl _
                refine buildA ?_
                intro X0 g0 S0 o0 f0
                have Fg0 : Fr (fun y => h'.size ≤ y) h' g0 := f0.mono fun _ _ h => h.elim
                have cg0 := (Fg0.cell hbk (by omega)).trans c0
                have zg0 := Fg0.size
                simp -implicitDefEqProofs (disch := omega) [go_sem, r0, r4, r5, r6, hsl, cg0]
                refine ⟨?way3, ?way4, ?way5⟩
              case' way1 =>
                have zz : h'.size ≤ h'.size := Nat.le_refl _
                refine buildA ?_
                intro X0 g0 S0 o0 f0
                have Fg0 : Fr (fun y => h'.size ≤ y) h' g0 := f0.mono fun _ _ h => h.elim
                have cg0 := (Fg0.cell hbk (by omega)).trans c0
                have zg0 := Fg0.size
                simp -implicitDefEqProofs (disch := omega) [go_sem, r0, r4, r5, r6, hsl, cg0]
                refine ⟨?way6, ?way7⟩
              case' way3 =>
                refine appendB (vs := []) (ws := ints (O.take j)) S0 rfl (RT.fr Fg0 nB) (by rw [ints_len, List.length_take]; omega) ints_one (by omega) (by omega) ?_
                intro A4 c4 g1 S4 f4 h4
                rw [List.nil_append] at S4
                have Fg1 := Fg0.trans (f4.mono fun y _ hy => Nat.le_trans zz (o0 y hy).1)
                have o4 : ∀ y, blk A4 y → h'.size ≤ y := fun y hy => (h4 y hy).elim (fun h => Nat.le_trans zz (o0 y h).1) fun h => Nat.le_trans zg0 h
                have cg1 := (Fg1.cell hbk (by omega)).trans c0
                have zg1 := Fg1.size
                simp -implicitDefEqProofs (disch := omega) [go_sem, r0, r4, r5, r6, hsl, cg1]
                refine buildB rfl rfl ?_
                intro X9 g S9 o9 f9
                have Fg := Fg1.trans (f9.mono fun _ _ h => h.elim)
                have cg := (Fg.cell hbk (by omega)).trans c0
                have zg := Fg.size
                replace S4 := S4.fr f9 (fun _ _ h => h)
                have RX := S9.row
                simp -implicitDefEqProofs (disch := omega) [go_sem, r0, r4, r5, r6, hsl]
              case' way4 =>
                refine appendB (vs := []) (ws := ints (O.take j)) S0 rfl (RT.fr Fg0 nB) (by rw [ints_len, List.length_take]; omega) ints_one (by omega) (by omega) ?_
                intro A4 c4 g1 S4 f4 h4
                rw [List.nil_append] at S4
                have Fg1 := Fg0.trans (f4.mono fun y _ hy => Nat.le_trans zz (o0 y hy).1)
                have o4 : ∀ y, blk A4 y → h'.size ≤ y := fun y hy => (h4 y hy).elim (fun h => Nat.le_trans zz (o0 y h).1) fun h => Nat.le_trans zg0 h
                have cg1 := (Fg1.cell hbk (by omega)).trans c0
                have zg1 := Fg1.size
                simp -implicitDefEqProofs (disch := omega) [go_sem, r0, r4, r5, r6, hsl, cg1]
                refine buildB rfl rfl ?_
                intro X9 g S9 o9 f9
                have Fg := Fg1.trans (f9.mono fun _ _ h => h.elim)
                have cg := (Fg.cell hbk (by omega)).trans c0
                have zg := Fg.size
                replace S4 := S4.fr f9 (fun _ _ h => h)
                have RX := S9.row
                simp -implicitDefEqProofs (disch := omega) [go_sem, r0, r4, r5, r6, hsl]
              case' way6 =>
                refine appendB (vs := []) (ws := ints (O.take j)) S0 rfl (RT.fr Fg0 nB) (by rw [ints_len, List.length_take]; omega) ints_one (by omega) (by omega) ?_
                intro A4 c4 g1 S4 f4 h4
                rw [List.nil_append] at S4
                have Fg1 := Fg0.trans (f4.mono fun y _ hy => Nat.le_trans zz (o0 y hy).1)
                have o4 : ∀ y, blk A4 y → h'.size ≤ y := fun y hy => (h4 y hy).elim (fun h => Nat.le_trans zz (o0 y h).1) fun h => Nat.le_trans zg0 h
                have cg1 := (Fg1.cell hbk (by omega)).trans c0
                have zg1 := Fg1.size
                simp -implicitDefEqProofs (disch := omega) [go_sem, r0, r4, r5, r6, hsl, cg1]
                refine buildB rfl rfl ?_
                intro X9 g S9 o9 f9
                have Fg := Fg1.trans (f9.mono fun _ _ h => h.elim)
                have cg := (Fg.cell hbk (by omega)).trans c0
                have zg := Fg.size
                replace S4 := S4.fr f9 (fun _ _ h => h)
                have RX := S9.row
                simp -implicitDefEqProofs (disch := omega) [go_sem, r0, r4, r5, r6, hsl]
              case' way5 =>
                refine buildB rfl rfl ?_
                intro X9 g1 S9 o9 f9
                have Fg1 := Fg0.trans (f9.mono fun _ _ h => h.elim)
                have cg1 := (Fg1.cell hbk (by omega)).trans c0
                have zg1 := Fg1.size
                simp -implicitDefEqProofs (disch := omega) [go_sem, r0, r4, r5, r6, hsl, cg1]
                replace S0 := S0.fr f9 (fun _ _ h => h)
                refine appendB (vs := []) (ws := ints (O.take j)) S0 rfl (RT.fr Fg1 nB) (by rw [ints_len, List.length_take]; omega) ints_one (by omega) (by omega) ?_
                intro A4 c4 g S4 f4 h4
                rw [List.nil_append] at S4
                have Fg := Fg1.trans (f4.mono fun y _ hy => Nat.le_trans zz (o0 y hy).1)
                have o4 : ∀ y, blk A4 y → h'.size ≤ y := fun y hy => (h4 y hy).elim (fun h => Nat.le_trans zz (o0 y h).1) fun h => Nat.le_trans zg1 h
                have cg := (Fg.cell hbk (by omega)).trans c0
                have zg := Fg.size
                have RX := S9.row.fr f4 (fun y hy h => by have := (o9 y hy).1; have := (o0 y h).2; omega)
                simp -implicitDefEqProofs (disch := omega) [go_sem, r0, r4, r5, r6, hsl]
              case' way7 =>
                refine buildB rfl rfl ?_
                intro X9 g1 S9 o9 f9
                have Fg1 := Fg0.trans (f9.mono fun _ _ h => h.elim)
                have cg1 := (Fg1.cell hbk (by omega)).trans c0
                have zg1 := Fg1.size
                simp -implicitDefEqProofs (disch := omega) [go_sem, r0, r4, r5, r6, hsl, cg1]
                replace S0 := S0.fr f9 (fun _ _ h => h)
                refine appendB (vs := []) (ws := ints (O.take j)) S0 rfl (RT.fr Fg1 nB) (by rw [ints_len, List.length_take]; omega) ints_one (by omega) (by omega) ?_
                intro A4 c4 g S4 f4 h4
                rw [List.nil_append] at S4
                have Fg := Fg1.trans (f4.mono fun y _ hy => Nat.le_trans zz (o0 y hy).1)
                have o4 : ∀ y, blk A4 y → h'.size ≤ y := fun y hy => (h4 y hy).elim (fun h => Nat.le_trans zz (o0 y h).1) fun h => Nat.le_trans zg1 h
                have cg := (Fg.cell hbk (by omega)).trans c0
                have zg := Fg.size
                have RX := S9.row.fr f4 (fun y hy h => by have := (o9 y hy).1; have := (o0 y h).2; omega)
                simp -implicitDefEqProofs (disch := omega) [go_sem, r0, r4, r5, r6, hsl]
              case' way2 =>
                refine buildB rfl rfl ?_
                intro X9 g0 S9 o9 f9
                have Fg0 : Fr (fun y => h'.size ≤ y) h' g0 := f9.mono fun _ _ h => h.elim
                have cg0 := (Fg0.cell hbk (by omega)).trans c0
                have zg0 := Fg0.size
                simp -implicitDefEqProofs (disch := omega) [go_sem, r0, r4, r5, r6, hsl, cg0]
                have zz := zg0
                refine buildA ?_
                intro X0 g1 S0 o0 f0
                have Fg1 := Fg0.trans (f0.mono fun _ _ h => h.elim)
                have cg1 := (Fg1.cell hbk (by omega)).trans c0
                have zg1 := Fg1.size
                simp -implicitDefEqProofs (disch := omega) [go_sem, r0, r4, r5, r6, hsl, cg1]
                refine appendB (vs := []) (ws := ints (O.take j)) S0 rfl (RT.fr Fg1 nB) (by rw [ints_len, List.length_take]; omega) ints_one (by omega) (by omega) ?_
                intro A4 c4 g S4 f4 h4
                rw [List.nil_append] at S4
                have Fg := Fg1.trans (f4.mono fun y _ hy => Nat.le_trans zz (o0 y hy).1)
                have o4 : ∀ y, blk A4 y → h'.size ≤ y := fun y hy => (h4 y hy).elim (fun h => Nat.le_trans zz (o0 y h).1) fun h => Nat.le_trans zg1 h
                have cg := (Fg.cell hbk (by omega)).trans c0
                have zg := Fg.size
                have RX := (S9.row.fr0 f0).fr f4 (fun y hy h => by have := (o9 y hy).2; have := (o0 y h).1; omega)
                simp -implicitDefEqProofs (disch := omega) [go_sem, r0, r4, r5, r6, hsl]
              all_goals
                have hlt10 : (O.take j).length = j := by rw [List.length_take]; omega
                refine appendB (vs := ints (O.take j)) (ws := [.int .i64 x]) S4 (by rw [ints_len, hlt10]) RX rfl (by simp [Value.oneCell']) (by omega) (by omega) ?_
                intro A10 c10 k1 S10 f10 h10
                have Fk1 := Fg.trans (f10.mono fun y _ hy => o4 y hy)
                have zk1 := Fk1.size
                have o10 : ∀ y, blk A10 y → h'.size ≤ y := fun y hy => (h10 y hy).elim (o4 y) fun h => Nat.le_trans zg h
                simp -implicitDefEqProofs (disch := omega) [go_sem, r0, r4, r5, r6, hsl]
                refine appendB (vs := ints (O.take j) ++ [.int .i64 x]) (ws := ints (O.drop j)) S10 (by rw [List.length_append, ints_len, hlt10]; rfl) (RD.fr Fk1 nB') (by rw [ints_len, List.length_drop]) ints_one (by omega) (by omega) ?_
                intro A14 c14 k2 S14 f14 h14
                have Fk2 := Fk1.trans (f14.mono fun y _ hy => o10 y hy)
                have o14 : ∀ y, blk A14 y → h.size ≤ y := fun y hy => Nat.le_trans f1.size ((h14 y hy).elim (o10 y) fun h => Nat.le_trans zk1 h)
                have ei : ints (O.take j) ++ [.int .i64 x] ++ ints (O.drop j) = ints (O.take j ++ [x] ++ O.drop j) := by simp [ints]
                rw [ei] at S14
                have hnl : j + 1 + (O.length - j) = (O.take j ++ [x] ++ O.drop j).length := by rw [List.length_append, List.length_append, hlt10, List.length_drop]; rfl
                have hmO : ∀ y, y ∈ O.take j ++ [x] ++ O.drop j ↔ y ∈ O ∨ y = x := fun y => by
                  rw [List.mem_append, List.mem_append, List.mem_singleton]
                  conv => rhs; rw [← List.take_append_drop j O, List.mem_append]
                  constructor
                  · rintro ((h | h) | h)
                    · exact .inl (.inl h)
                    · exact .inr h
                    · exact .inl (.inr h)
                  · rintro ((h | h) | h)
                    · exact .inl (.inl h)
                    · exact .inr h
                    · exact .inl (.inr h)
                simp -implicitDefEqProofs (disch := omega) [go_sem, r0, r4, r5, r6]
                refine ⟨⟨f1.trans (Fk2.of_new (Nat.le_refl _)), i + 1, by omega, by omega, O.take j ++ [x] ++ O.drop j, A14, c14, ⟨rfl, hnl, rfl⟩, S14, o14, rise_insert hrise hj hlt hge hne, fun y => ?_, fun y hy => ?_, by rw [← hnl]; omega⟩, by omega⟩
                · rw [hmO, hmem, etk, List.mem_append, List.mem_singleton]
                  constructor
                  · rintro (h | rfl)
                    · exact ⟨.inl h.1, h.2⟩
                    · exact ⟨.inr rfl, hxo⟩
                  · rintro ⟨h | rfl, h2⟩
                    · exact .inl ⟨h, h2⟩
                    · exact .inr rfl
                · rcases (hmO y).1 hy with h | rfl
                  · exact hneg y h
                  · exact hng
    · have e : i = l.length := by omega
      subst e
      rw [List.take_length] at hmem
      simp -implicitDefEqProofs (disch := omega) [go_sem, r0, r4, r5]
      exact ⟨⟨some O, ⟨hrise, hmem⟩, B, d, ⟨rfl, rfl, rfl⟩, S1, own1⟩, f1⟩
end
end Xe

/- Rows of identifiers; names. -/
namespace Xe
open Go Go.Proofs
set_option maxRecDepth 16000
set_option maxHeartbeats 1000000

section
variable {h : Heap} {A : Option Addr} {n cp : Nat}
theorem strs_at {l : List (List UInt8)} {i : Nat} {a : List UInt8} (h : l[i]? = some a) : (strs l)[i]? = some (S a) := by simp [strs, h]
theorem ids_step {pre : Bool} {l : List (List UInt8)} {i : Nat} {a : List UInt8} (h : l[i]? = some a) : idsFrom pre i (l.drop i) = (decide (wrongI a i pre = 0) && a.all idB && idsFrom pre (i + 1) (l.drop (i + 1))) := by
  obtain ⟨hi, rfl⟩ := List.getElem?_eq_some_iff.1 h
  rw [List.drop_eq_getElem_cons hi]; rfl
/-- up to a place all is right -/
def IdsTo (pre : Bool) (l : List (List UInt8)) (i : Nat) : Prop := idsFrom pre 0 l = idsFrom pre i (l.drop i)
theorem IdsTo.zero {pre : Bool} {l : List (List UInt8)} : IdsTo pre l 0 := rfl
theorem IdsTo.next {pre : Bool} {l : List (List UInt8)} {i : Nat} {a : List UInt8} (I : IdsTo pre l i) (h : l[i]? = some a) (h1 : wrongI a i pre = 0) (h2 : a.all idB = true) : IdsTo pre l (i + 1) := by
  unfold IdsTo at I ⊢
  rw [I, ids_step h, h1, h2]; rfl
theorem IdsTo.bad1 {pre : Bool} {l : List (List UInt8)} {i : Nat} {a : List UInt8} (I : IdsTo pre l i) (h : l[i]? = some a) (h1 : wrongI a i pre ≠ 0) : idsFrom pre 0 l = false := by
  unfold IdsTo at I
  rw [I, ids_step h, decide_eq_false h1]; rfl
theorem IdsTo.bad2 {pre : Bool} {l : List (List UInt8)} {i : Nat} {a : List UInt8} (I : IdsTo pre l i) (h : l[i]? = some a) (h1 : a.all idB = false) : idsFrom pre 0 l = false := by
  unfold IdsTo at I
  rw [I, ids_step h, h1, Bool.and_false]; rfl
theorem IdsTo.fin {pre : Bool} {l : List (List UInt8)} (I : IdsTo pre l l.length) : idsFrom pre 0 l = true := by
  unfold IdsTo at I
  rw [I, List.drop_length]; rfl

theorem good02_ok {l : List (List UInt8)} (R : RowAt h A (strs l)) (hn : n = l.length) (hl : n < 2 ^ 40) (pre : Bool) :
    CallsH Tryz.prog 80 [.slice A n cp, .bool pre] h fun r h' => r = .bool (idsFrom pre 0 l) ∧ h' = h := by
  subst hn
  refine calls_of 38 [.tmp 4] Go.Proofs.Tryz.func80 rfl rfl rfl ?_
  simp -implicitDefEqProofs (disch := omega) [go_sem]
  refine loopK (fun ρ h' => ρ 0 = .slice A l.length cp ∧ ρ 1 = .bool pre ∧ h' = h ∧ ∃ i : Nat, ρ 5 = .int .i64 i ∧ i ≤ l.length ∧ IdsTo pre l i) (fun ρ _ => l.length - (intOf (ρ 5)).toNat) (by kernel_rfl) ?_ ?_
  · exact ⟨rfl, rfl, rfl, 0, rfl, by omega, .zero⟩
  · rintro ρ h' ⟨r0, r1, rfl, i, r5, hi, I⟩
    by_cases hil : i < l.length
    · obtain ⟨a, ha⟩ : ∃ a, l[i]? = some a := ⟨_, List.getElem?_eq_getElem hil⟩
      obtain ⟨bk, off, rfl, hc⟩ := R.get (by rw [strs_len]; omega)
      have c0 := hc _ _ (strs_at ha)
      simp -implicitDefEqProofs (disch := omega) [go_sem, r0, r1, r5, c0]
      refine useC (wrong02_ok a i pre (by omega)) ?_
      rintro _ h2 ⟨rfl, rfl⟩
      by_cases hw : wrongI a i pre = 0
      · have hal : a.length ≤ 255 := by
          unfold wrongI at hw
          split at hw
          · cases hw
          · split at hw
            · cases hw
            · omega
        simp -implicitDefEqProofs (disch := omega) [go_sem, r0, r1, r5, hw]
        refine loopK (fun ρ h' => ρ 0 = .slice (some ⟨bk, off, none⟩) l.length cp ∧ ρ 1 = .bool pre ∧ h' = h2 ∧ ρ 5 = .int .i64 i ∧ ∃ j : Nat, ρ 6 = .int .i64 j ∧ j ≤ a.length ∧ AllT idB (a.take j)) (fun ρ _ => a.length - (intOf (ρ 6)).toNat) (by kernel_rfl) ?_ ?_
        · exact ⟨by simp [put, r0], by simp [put, r1], rfl, by simp [put, r5], 0, rfl, by omega, .zero⟩
        · rintro ρ' h' ⟨s0, s1, rfl, s5, j, s6, hj, hA⟩
          by_cases hjl : j < a.length
          · obtain ⟨c, hcc⟩ : ∃ c, a[j]? = some c := ⟨_, List.getElem?_eq_getElem hjl⟩
            have ec := strIx_at (kd := .i64) hcc
            simp -implicitDefEqProofs (disch := omega) [go_sem, s0, s1, s5, s6, c0, ec]
            refine useC (byte02_ok c) ?_
            rintro _ h3 ⟨rfl, rfl⟩
            cases hb : idB c with
            | true =>
              simp -implicitDefEqProofs (disch := omega) [go_sem, s0, s1, s5, s6, c0, ec]
              exact ⟨⟨j + 1, by omega, by omega, all_take hA hcc hb⟩, by omega⟩
            | false =>
              simp -implicitDefEqProofs (disch := omega) [go_sem, s0, s1, s5, s6, c0, ec]
              exact I.bad2 ha (all_no hcc hb)
          · have e : j = a.length := by omega
            subst e
            simp -implicitDefEqProofs (disch := omega) [go_sem, r5, s0, s1, s5, s6, c0]
            exact ⟨⟨i + 1, by omega, by omega, I.next ha hw (all_end hA)⟩, by omega⟩
      · simp -implicitDefEqProofs (disch := omega) [go_sem, r0, r1, r5, hw]
        exact I.bad1 ha hw
    · have e : i = l.length := by omega
      subst e
      simp -implicitDefEqProofs (disch := omega) [go_sem, r0, r1, r5]
      exact I.fin

theorem goodP_ok {l : List (List UInt8)} (R : RowAt h A (strs l)) (hn : n = l.length) (hl : n < 2 ^ 40) (pre : Bool) :
    CallsH Tryz.prog 89 [.slice A n cp, .bool pre] h fun r h' => r = .bool (idsFrom pre 0 l) ∧ Gr h h' := by
  subst hn
  refine calls_of 32 [.tmp 4] Go.Proofs.Tryz.func89 rfl rfl rfl ?_
  simp -implicitDefEqProofs (disch := omega) [go_sem]
  refine loopK (fun ρ h' => ρ 8 = .slice A l.length cp ∧ ρ 9 = .int .i64 l.length ∧ ρ 1 = .bool pre ∧ Gr h h' ∧ ∃ i : Nat, ρ 10 = .int .i64 i ∧ i ≤ l.length ∧ IdsTo pre l i) (fun ρ _ => l.length - (intOf (ρ 10)).toNat) (by kernel_rfl) ?_ ?_
  · exact ⟨rfl, rfl, rfl, Fr.refl _ _, 0, rfl, by omega, .zero⟩
  · rintro ρ h1 ⟨r8, r9, r1, f, i, r10, hi, I⟩
    by_cases hil : i < l.length
    · obtain ⟨a, ha⟩ : ∃ a, l[i]? = some a := ⟨_, List.getElem?_eq_getElem hil⟩
      obtain ⟨bk, off, rfl, hc⟩ := (R.fr0 f).get (by rw [strs_len]; omega)
      have c0 := hc _ _ (strs_at ha)
      simp -implicitDefEqProofs (disch := omega) [go_sem, r1, r8, r9, r10, c0]
      refine useC (check_ok a i pre (by omega)) ?_
      rintro _ h2 ⟨rfl, f2⟩
      by_cases hw : wrongI a i pre = 0
      · have hal : a.length ≤ 255 := by
          unfold wrongI at hw
          split at hw
          · cases hw
          · split at hw
            · cases hw
            · omega
        simp -implicitDefEqProofs (disch := omega) [go_sem, r1, r8, r9, r10, hw]
        refine loopK (fun ρ h' => ρ 8 = .slice (some ⟨bk, off, none⟩) l.length cp ∧ ρ 9 = .int .i64 l.length ∧ ρ 1 = .bool pre ∧ h' = h2 ∧ ρ 10 = .int .i64 i ∧ ρ 6 = S a ∧ ρ 21 = .int .i64 a.length ∧ ∃ j : Nat, ρ 22 = .int .i64 j ∧ j ≤ a.length ∧ AllT idB (a.take j)) (fun ρ _ => a.length - (intOf (ρ 22)).toNat) (by kernel_rfl) ?_ ?_
        · exact ⟨by simp [put, r8], by simp [put, r9], by simp [put, r1], rfl, by simp [put, r10], rfl, rfl, 0, rfl, by omega, .zero⟩
        · rintro ρ' h' ⟨s8, s9, s1, rfl, s10, s6, s21, j, s22, hj, hA⟩
          by_cases hjl : j < a.length
          · obtain ⟨c, hcc⟩ : ∃ c, a[j]? = some c := ⟨_, List.getElem?_eq_getElem hjl⟩
            have ec := strIx_at (kd := .i64) hcc
            simp -implicitDefEqProofs (disch := omega) [go_sem, s8, s9, s1, s10, s6, s21, s22, ec]
            refine useC (isByte_ok c) ?_
            rintro _ h3 ⟨rfl, rfl⟩
            cases hb : idB c with
            | true =>
              simp -implicitDefEqProofs (disch := omega) [go_sem, s8, s9, s1, s10, s6, s21, s22, ec]
              exact ⟨⟨j + 1, by omega, by omega, all_take hA hcc hb⟩, by omega⟩
            | false =>
              simp -implicitDefEqProofs (disch := omega) [go_sem, s8, s9, s1, s10, s6, s21, s22, ec]
              exact ⟨I.bad2 ha (all_no hcc hb), f.trans f2⟩
          · have e : j = a.length := by omega
            subst e
            simp -implicitDefEqProofs (disch := omega) [go_sem, r10, s8, s9, s1, s10, s6, s21, s22]
            exact ⟨⟨f.trans f2, i + 1, by omega, by omega, I.next ha hw (all_end hA)⟩, by omega⟩
      · simp -implicitDefEqProofs (disch := omega) [go_sem, r1, r8, r9, r10, hw]
        exact ⟨I.bad1 ha hw, f.trans f2⟩
    · have e : i = l.length := by omega
      subst e
      simp -implicitDefEqProofs (disch := omega) [go_sem, r1, r8, r9, r10]
      exact ⟨I.fin, f⟩

theorem same02_ok {B : Option Addr} {m d : Nat} {a b : List (List UInt8)} (R : RowAt h A (strs a)) (R' : RowAt h B (strs b)) (hn : n = a.length) (hm : m = b.length) (hl : n < 2 ^ 40) (hl' : m < 2 ^ 40) :
    CallsH Tryz.prog 101 [.slice A n cp, .slice B m d] h fun r h' => r = .bool (decide (a = b)) ∧ h' = h := by
  subst hn hm
  refine calls_of 26 [.tmp 4] Go.Proofs.Tryz.func101 rfl rfl rfl ?_
  by_cases hne : a.length = b.length
  · simp -implicitDefEqProofs (disch := omega) [go_sem]
    refine loopK (fun ρ h' => ρ 0 = .slice A a.length cp ∧ ρ 1 = .slice B b.length d ∧ h' = h ∧ ∃ i : Nat, ρ 5 = .int .i64 i ∧ i ≤ a.length ∧ ∀ j, j < i → a[j]? = b[j]?) (fun ρ _ => a.length - (intOf (ρ 5)).toNat) (by kernel_rfl) ?_ ?_
    · exact ⟨rfl, rfl, rfl, 0, rfl, by omega, fun j hj => by omega⟩
    · rintro ρ h' ⟨r0, r1, rfl, i, r5, hi, hs⟩
      by_cases hil : i < a.length
      · obtain ⟨x, hx⟩ : ∃ x, a[i]? = some x := ⟨_, List.getElem?_eq_getElem hil⟩
        obtain ⟨y, hy⟩ : ∃ y, b[i]? = some y := ⟨_, List.getElem?_eq_getElem (by omega)⟩
        obtain ⟨bk, off, rfl, hc⟩ := R.get (by rw [strs_len]; omega)
        obtain ⟨bk', off', rfl, hc'⟩ := R'.get (by rw [strs_len]; omega)
        have c0 := hc _ _ (strs_at hx)
        have c1 := hc' _ _ (strs_at hy)
        simp -implicitDefEqProofs (disch := omega) [go_sem, r0, r1, r5, c0, c1]
        refine drawC [(0, 0), (1, 0), (2, 0), (3, 1), (4, 0), (5, 0), (6, 0), (7, 1), (8, 0)] (Eq h') rfl ?_
        by_cases e : x = y
        · simp -implicitDefEqProofs (disch := omega) [go_sem, r0, r1, r5, c0, c1, e]
          refine ⟨⟨i + 1, by omega, by omega, fun j hj => ?_⟩, by omega⟩
          by_cases ej : j = i
          · subst ej; rw [hx, hy, e]
          · exact hs j (by omega)
        · simp -implicitDefEqProofs (disch := omega) [go_sem, r0, r1, r5, c0, c1, e]
          exact fun eab => e (by rw [eab] at hx; rw [hx] at hy; exact Option.some.inj hy)
      · have e : i = a.length := by omega
        subst e
        simp -implicitDefEqProofs (disch := omega) [go_sem, r0, r1, r5]
        apply List.ext_getElem?
        intro j
        by_cases hj : j < a.length
        · exact hs j hj
        · rw [List.getElem?_eq_none (by omega), List.getElem?_eq_none (by omega)]
  · simp -implicitDefEqProofs (disch := omega) [go_sem]
    exact fun e => hne (by rw [e])
end
end Xe
