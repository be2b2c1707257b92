/- The laws of layer 30: fresh rows; Same; awake. -/
import Derived.Test.YtkghjecglmmloaaG7
namespace Xe
open Go Go.Proofs Gr
set_option maxRecDepth 16000
set_option maxHeartbeats 1000000

section
variable {h : Heap} {e : TypeId} {b : Nat} {z u v w : Value} {k : Value → Heap → Prop}
theorem buildC1 (hv : v.cells = #[v]) (hz : z.cells.size = 1) (hk : ∀ X h', SlAt h' X 1 [v] → (∀ y, blk X y → h.size ≤ y) → Fr (fun _ => False) h h' → k (.slice X 1 1) h') : @buildSliceK (some (e, 1, b, z)) 1 [(0, v)] ⟨h⟩ ⟨k⟩ :=
  build1 hv hz (hk _ _ (SlAt.new (vs := [v])) (fun y ⟨a, ha, hy⟩ => by cases ha; exact Nat.le_of_eq hy) ((Fr.refl _ _).push))
theorem buildC2 (hv : v.cells = #[v]) (hw : w.cells = #[w]) (hz : z.cells.size = 1) (hk : ∀ X h', SlAt h' X 2 [v, w] → (∀ y, blk X y → h.size ≤ y) → Fr (fun _ => False) h h' → k (.slice X 2 2) h') : @buildSliceK (some (e, 1, b, z)) 2 [(0, v), (1, w)] ⟨h⟩ ⟨k⟩ := by
  refine ⟨by omega, #[v, w], ?_, hk _ _ (SlAt.new (vs := [v, w])) (fun y ⟨a, ha, hy⟩ => by cases ha; exact Nat.le_of_eq hy) ((Fr.refl _ _).push)⟩
  have hs : (zerosOf z.cells (2 * 1)).size = 2 := by simp [zerosOf]
  obtain ⟨L, hL⟩ : ∃ L, zerosOf z.cells (2 * 1) = ⟨L⟩ := ⟨_, rfl⟩
  rw [hL] at hs ⊢
  match L, hs with
  | [p, q], _ =>
    simp [Instr.fill, hv, hw, List.zipIdx]
    rw [hv, hw]
    simp
theorem buildC3 (hu : u.cells = #[u]) (hv : v.cells = #[v]) (hw : w.cells = #[w]) (hz : z.cells.size = 1) (hk : ∀ X h', SlAt h' X 3 [u, v, w] → (∀ y, blk X y → h.size ≤ y) → Fr (fun _ => False) h h' → k (.slice X 3 3) h') :
    @buildSliceK (some (e, 1, b, z)) 3 [(0, u), (1, v), (2, w)] ⟨h⟩ ⟨k⟩ := by
  refine ⟨by omega, #[u, v, w], ?_, hk _ _ (SlAt.new (vs := [u, v, w])) (fun y ⟨a, ha, hy⟩ => by cases ha; exact Nat.le_of_eq hy) ((Fr.refl _ _).push)⟩
  have hs : (zerosOf z.cells (3 * 1)).size = 3 := by simp [zerosOf]
  obtain ⟨L, hL⟩ : ∃ L, zerosOf z.cells (3 * 1) = ⟨L⟩ := ⟨_, rfl⟩
  rw [hL] at hs ⊢
  match L, hs with
  | [p, q, r], _ =>
    simp [Instr.fill, hu, hv, hw, List.zipIdx]
    rw [hu, hv, hw]
    simp
end

/-- a row of rows of numbers, read -/
structure RwN (h : Heap) (A : Option Addr) (L : List (List Nat)) : Prop where
  at' : ∀ (i : Nat) (l : List Nat), L[i]? = some l → ∃ bk off B c, A = some ⟨bk, off, none⟩ ∧ hcell h ⟨bk, off + i, none⟩ = some (Value.slice B l.length c) ∧ RowAt h B (nts l)
  len : L.length < 2 ^ 40 ∧ ∀ l ∈ L, l.length < 2 ^ 40 ∧ ∀ x ∈ l, x < 2 ^ 40
theorem RwN.fr0 {h h' : Heap} {A : Option Addr} {L : List (List Nat)} (R : RwN h A L) (f : Fr (fun _ => False) h h') : RwN h' A L :=
  ⟨fun i l hl => by
    obtain ⟨bk, off, B, c, h1, h2, h3⟩ := R.at' i l hl
    exact ⟨bk, off, B, c, h1, (f.cell (hcell_lt h2) id).trans h2, h3.fr0 f⟩, R.len⟩
theorem RwN.of {h : Heap} {A : Option Addr} {cap : Nat} {C : Nat → Prop} {vs : List Value} {L : List (List Nat)} (S : SlAt h A cap vs) (V : RowsN h C vs L) (hl : L.length < 2 ^ 40 ∧ ∀ l ∈ L, l.length < 2 ^ 40 ∧ ∀ x ∈ l, x < 2 ^ 40) : RwN h A L :=
  ⟨fun i l hi => by
    obtain ⟨B, c, h1, h2, _⟩ := V.at' i l hi
    have hlt := (List.getElem?_eq_some_iff.1 h1).1
    obtain ⟨bk, rfl, _, _, hc⟩ := S.base (by omega)
    exact ⟨bk, 0, B, c, rfl, by rw [Nat.zero_add]; exact hc i _ h1, h2⟩, hl⟩
theorem RwN.args {h : Heap} {A : Option Addr} {L : List (List Nat)} (R : RwN h A L) : ArgsG h A L.length (fun i => toI (L.getD i [])) where
  small := by have := R.len.1; omega
  at' i hi := by
    have hl : L[i]? = some (L.getD i []) := by rw [List.getD_eq_getElem?_getD, List.getElem?_eq_getElem hi]; rfl
    obtain ⟨bk, off, B, c, h1, h2, h3⟩ := R.at' i _ hl
    have h4 := R.len.2 _ (List.mem_of_getElem? hl)
    refine ⟨bk, off, B, c, h1, by rw [toI_len]; exact h2, h3, by rw [toI_len]; omega, fun x hx => ?_⟩
    obtain ⟨y, hy, rfl⟩ := List.mem_map.1 hx
    have := h4.2 y hy
    omega
theorem toI_inj {a b : List Nat} (h : toI a = toI b) : a = b := by
  unfold toI at h
  exact List.map_inj_right (fun x y h => by omega) |>.1 h

section
variable {h : Heap} {A B : Option Addr} {a b : List (List Nat)} {c d : Nat}
theorem same30_ok (R : RwN h A a) (S : RwN h B b) : CallsH Try.prog 66 [.slice A a.length c, .slice B b.length d] h fun r h' => r = .bool (decide (a = b)) ∧ h' = h := by
  have ha := R.len.1
  have hb := S.len.1
  refine calls_of 27 [.tmp 4] Go.Proofs.Try.func66 rfl rfl rfl (by kernel_rfl) (Nat.le_of_ble_eq_true rfl) ?_
  by_cases hne : a.length = b.length
  · have hne' : (a.length : Int) = b.length := by omega
    simp -implicitDefEqProofs (disch := omega) [go_sem]
    refine loopK (fun ρ h' => ρ 0 = .slice A a.length c ∧ ρ 1 = .slice B b.length d ∧ h' = h ∧ ∃ i : Nat, ρ 5 = .int .i64 i ∧ i ≤ a.length ∧ ∀ j, j < i → a[j]? = b[j]?)
      (fun ρ _ => a.length - (intOf (ρ 5)).toNat) (by kernel_rfl) ?_ ?_
    · exact ⟨rfl, rfl, rfl, 0, rfl, by omega, fun j hj => by omega⟩
    · rintro ρ h' ⟨r0, r1, rfl, i, r5, hi, hj⟩
      by_cases hin : i < a.length
      · obtain ⟨x, hx⟩ : ∃ x, a[i]? = some x := ⟨_, List.getElem?_eq_getElem hin⟩
        obtain ⟨y, hy⟩ : ∃ y, b[i]? = some y := ⟨_, List.getElem?_eq_getElem (by omega)⟩
        obtain ⟨bk, off, B1, c1, rfl, e1, R1⟩ := R.at' i x hx
        obtain ⟨bk2, off2, B2, c2, rfl, e2, R2⟩ := S.at' i y hy
        have l1 := R.len.2 x (List.mem_of_getElem? hx)
        have l2 := S.len.2 y (List.mem_of_getElem? hy)
        simp -implicitDefEqProofs (disch := omega) [go_sem, r0, r1, r5]
        refine drawK [(0, 0), (1, 0), (2, 0), (3, 1), (4, 0), (5, 0), (6, 0), (7, 1), (8, 3), (9, 0)] mixed (by kernel_rfl) ?_
        simp -implicitDefEqProofs (disch := omega) [go_sem, r0, r1, r5, e1, e2]
        refine useC (same12_ok (a := toI x) (b := toI y) R1 R2 (by rw [toI_len]) (by rw [toI_len]) l1.1 l2.1) ?_
        rintro _ h2 ⟨rfl, rfl⟩
        by_cases e : x = y
        · simp -implicitDefEqProofs (disch := omega) [go_sem, r0, r1, r5, e]
          refine ⟨⟨i + 1, by omega, by omega, fun j hj2 => ?_⟩, by omega⟩
          by_cases ej : j = i
          · subst ej; rw [hx, hy, e]
          · exact hj j (by omega)
        · have hab : ¬ a = b := fun h => by subst h; rw [hx] at hy; cases hy; exact e rfl
          have e' : ¬ toI x = toI y := fun h => e (toI_inj h)
          simp -implicitDefEqProofs (disch := omega) [go_sem, r0, r1, r5, e', hab]
      · have hab : a = b := by
          apply List.ext_getElem?
          intro j
          by_cases hj2 : j < i
          · exact hj j hj2
          · rw [List.getElem?_eq_none (by omega), List.getElem?_eq_none (by omega)]
        simp -implicitDefEqProofs (disch := omega) [go_sem, r0, r1, r5, hab]
  · have hab : ¬ a = b := fun h => hne (by rw [h])
    have hne' : ¬ (a.length : Int) = b.length := by omega
    simp -implicitDefEqProofs (disch := omega) [go_sem, hab]

theorem EG_args {L : List (List Nat)} {i : Nat} {l : List Nat} (hl : L[i]? = some l) : EG L.length (fun i => toI (L.getD i [])) i = l := by
  have hi := (List.getElem?_eq_some_iff.1 hl).1
  unfold EG
  rw [if_pos hi]
  have e : L.getD i [] = l := by rw [List.getD_eq_getElem?_getD, hl]; rfl
  show (toI (L.getD i [])).map Int.toNat = l
  rw [e]
  unfold toI
  rw [List.map_map]
  exact (List.map_congr_left (g := id) fun w _ => rfl).trans (List.map_id _)
/-- rows that rise below their number are a right graph -/
theorem good_args {L : List (List Nat)} (h1 : L.length ≤ 4096) (h2 : ∀ l ∈ L, Inc l ∧ ∀ x ∈ l, x < L.length) : GoodG L.length (fun i => toI (L.getD i [])) := by
  refine ⟨h1, fun i hi k hk => ?_⟩
  have hl : L[i]? = some (L.getD i []) := by rw [List.getD_eq_getElem?_getD, List.getElem?_eq_getElem hi]; rfl
  have hk : k < (toI (L.getD i [])).length := hk
  show OkG L.length (toI (L.getD i [])) k
  generalize L.getD i [] = l at hl hk ⊢
  obtain ⟨g1, g2⟩ := h2 l (List.mem_of_getElem? hl)
  rw [toI_len] at hk
  have key : ∀ j, j < l.length → gi (toI l) j = ((l.getD j 0 : Nat) : Int) := fun j hj => by
    unfold gi
    rw [List.getD_eq_getElem?_getD, List.getD_eq_getElem?_getD, toI_at (List.getElem?_eq_getElem hj), List.getElem?_eq_getElem hj]; rfl
  have gm : ∀ j (hj : j < l.length), l.getD j 0 = l[j] := fun j hj => by rw [List.getD_eq_getElem?_getD, List.getElem?_eq_getElem hj]; rfl
  unfold OkG
  rw [key k hk, gm k hk]
  have := g2 l[k] (List.getElem_mem hk)
  refine ⟨by omega, by omega, fun h0 => ?_⟩
  rw [key (k - 1) (by omega), gm (k - 1) (by omega)]
  have := List.pairwise_iff_getElem.1 g1 (k - 1) k (by omega) hk (by omega)
  omega

theorem awake30 : CallsH Try.prog 61 [] h fun r h' => r = .bool true ∧ Fr (fun _ => False) h h' := by
  refine calls_of 12 [.tmp 0] Go.Proofs.Try.func61 rfl rfl rfl (by kernel_rfl) (Nat.le_of_ble_eq_true rfl) ?_
  simp -implicitDefEqProofs (disch := omega) [go_sem]
  refine buildC1 rfl rfl ?_
  intro X1 h1 S1 o1 f1
  simp -implicitDefEqProofs (disch := omega) [go_sem]
  refine buildC1 rfl rfl ?_
  intro X2 h2 S2 o2 f2
  simp -implicitDefEqProofs (disch := omega) [go_sem]
  refine buildC1 rfl rfl ?_
  intro X3 h3 S3 o3 f3
  simp -implicitDefEqProofs (disch := omega) [go_sem]
  refine buildC3 rfl rfl rfl rfl ?_
  intro X4 h4 S4 o4 f4
  simp -implicitDefEqProofs (disch := omega) [go_sem]
  have V4 : RowsN h4 (fun _ => True) [.slice X1 1 1, .slice X2 1 1, .slice X3 1 1] [[1], [0], [0]] := by
    refine ⟨rfl, fun i l hl => ?_⟩
    match i, hl with
    | 0, hl => cases hl; exact ⟨X1, 1, rfl, ((S1.row.fr0 f2).fr0 f3).fr0 f4, fun _ _ => trivial⟩
    | 1, hl => cases hl; exact ⟨X2, 1, rfl, (S2.row.fr0 f3).fr0 f4, fun _ _ => trivial⟩
    | 2, hl => cases hl; exact ⟨X3, 1, rfl, S3.row.fr0 f4, fun _ _ => trivial⟩
    | i + 3, hl => cases hl
  have R4 : RwN h4 X4 [[1], [0], [0]] := RwN.of S4 V4 (by decide)
  have G4 : GoodG 3 (fun i => toI ([[1], [0], [0]].getD i [])) := good_args (L := [[1], [0], [0]]) (by decide) (by unfold Inc; decide)
  refine useC (groups_ok R4.args) ?_
  rintro _ h5 ⟨f5, (⟨hn, _⟩ | ⟨_, O, oc, ovs, out, C1, rfl, S5, V5, _, gl, full⟩)⟩
  · exact absurd G4 hn
  have hE0 : EG 3 (fun i => toI ([[1], [0], [0]].getD i [])) 0 = [1] := rfl
  have hE1 : EG 3 (fun i => toI ([[1], [0], [0]].getD i [])) 1 = [0] := rfl
  have hE2 : EG 3 (fun i => toI ([[1], [0], [0]].getD i [])) 2 = [0] := rfl
  have hgd := EG_gd G4
  have hL : out = [[0, 1], [2]] := by
    generalize EG 3 (fun i => toI ([[1], [0], [0]].getD i [])) = E at *
    have st : ∀ {p x}, p < 2 → Rch E p x → x < 2 := fun hp h => h.stay (S := fun x => x < 2) hp fun x hx y hy => by
      match x, hx with
      | 0, _ => rw [hE0] at hy; simp at hy; omega
      | 1, _ => rw [hE1] at hy; simp at hy; omega
    have r01 : Rch E 0 1 := Rch.one (by rw [hE0]; simp)
    have r10 : Rch E 1 0 := Rch.one (by rw [hE1]; simp)
    have r20 : Rch E 2 0 := Rch.one (by rw [hE2]; simp)
    have N1 : Nxt E 3 (Tk []) [0, 1] := ⟨0, by omega, fun ⟨l, hl, _⟩ => (by cases hl), fun x hx => .inl (by
        have := st (by omega) hx
        match x, this with
        | 0, _ => exact .refl _
        | 1, _ => exact r10), fun q hq => by omega, by unfold Inc; decide, fun x => by
        constructor
        · intro hx
          simp at hx
          rcases hx with rfl | rfl
          · exact ⟨.refl _, .refl _⟩
          · exact ⟨r01, r10⟩
        · rintro ⟨hx, _⟩
          have := st (by omega) hx
          simp; omega⟩
    have t2 : ∀ x, Tk ([] ++ [[0, 1]]) x ↔ x < 2 := fun x => by
      unfold Tk
      simp; omega
    have N2 : Nxt E 3 (Tk ([] ++ [[0, 1]])) [2] := ⟨2, by omega, fun k => by rw [t2] at k; omega, fun x hx => by
        have := hx.lt hgd (by omega)
        match x, this with
        | 0, _ => exact .inr ((t2 0).2 (by omega))
        | 1, _ => exact .inr ((t2 1).2 (by omega))
        | 2, _ => exact .inl (.refl _), fun q hq hn => absurd ((t2 q).2 hq) hn, by unfold Inc; decide, fun x => by
        constructor
        · intro hx
          simp at hx
          subst hx
          exact ⟨.refl _, .refl _⟩
        · rintro ⟨hx, hx2⟩
          have h3 := hx.lt hgd (by omega)
          by_cases h2 : x < 2
          · have := st h2 hx2; omega
          · simp; omega⟩
    exact gl.uniq hgd (M := [] ++ [[0, 1]] ++ [[2]]) (.snoc (.snoc .nil N1) N2) full fun p hp => by
      unfold Tk
      simp; omega
  subst hL
  simp -implicitDefEqProofs (disch := omega) [go_sem]
  refine buildC2 rfl rfl rfl ?_
  intro X6 h6 S6 o6 f6
  simp -implicitDefEqProofs (disch := omega) [go_sem]
  refine buildC1 rfl rfl ?_
  intro X7 h7 S7 o7 f7
  simp -implicitDefEqProofs (disch := omega) [go_sem]
  refine buildC2 rfl rfl rfl ?_
  intro X8 h8 S8 o8 f8
  simp -implicitDefEqProofs (disch := omega) [go_sem]
  have V8 : RowsN h8 (fun _ => True) [.slice X6 2 2, .slice X7 1 1] [[0, 1], [2]] := by
    refine ⟨rfl, fun i l hl => ?_⟩
    match i, hl with
    | 0, hl => cases hl; exact ⟨X6, 2, rfl, (S6.row.fr0 f7).fr0 f8, fun _ _ => trivial⟩
    | 1, hl => cases hl; exact ⟨X7, 1, rfl, S7.row.fr0 f8, fun _ _ => trivial⟩
    | i + 2, hl => cases hl
  have f58 := (f6.trans f7).trans f8
  have R8 : RwN h8 X8 [[0, 1], [2]] := RwN.of S8 V8 (by decide)
  have R5 : RwN h8 O [[0, 1], [2]] := (RwN.of S5 V5 (by decide)).fr0 f58
  have e5 := V5.len
  rw [e5]
  refine useC (same30_ok R5 R8) ?_
  rintro _ h9 ⟨rfl, rfl⟩
  simp -implicitDefEqProofs (disch := omega) [go_sem]
  exact ((((f1.trans f2).trans f3).trans f4).trans f5).trans f58
end
end Xe
