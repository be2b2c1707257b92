/- The reference's own Clean. -/
import Derived.Test.YtkghjecglmmloaaGreatRK
import Derived.Test.YtkghjecglmmloaaGreatSP9
namespace Xe
open Go Tp Go.Proofs
set_option maxRecDepth 16000
set_option maxHeartbeats 1000000

theorem rise_insert {O : List Int} {x : Int} {j : Nat} (hr : Rise O) (hj : j ≤ O.length) (h1 : ∀ (q : Nat) y, q < j → O[q]? = some y → y.natAbs < x.natAbs) (h2 : ∀ y, O[j]? = some y → x.natAbs ≤ y.natAbs) (hx : ∀ y ∈ O, y.natAbs ≠ x.natAbs) :
    Rise (O.take j ++ [x] ++ O.drop j) := by
  have hO : O.take j ++ O.drop j = O := List.take_append_drop ..
  have hr' : (O.take j ++ O.drop j).Pairwise fun a b => a.natAbs < b.natAbs := by rw [hO]; exact hr
  rw [List.pairwise_append] at hr'
  unfold Rise
  rw [List.append_assoc, List.pairwise_append]
  have hd : ∀ b ∈ O.drop j, x.natAbs < b.natAbs := fun b hb => by
    have hbO : b ∈ O := List.mem_of_mem_drop hb
    have hne := hx b hbO
    obtain ⟨q, hq⟩ := List.getElem?_of_mem hb
    rw [List.getElem?_drop] at hq
    by_cases e : q = 0
    · subst e; have := h2 b hq; omega
    · have hl := (List.getElem?_eq_some_iff.1 hq).1
      obtain ⟨y, hy⟩ : ∃ y, O[j]? = some y := ⟨_, List.getElem?_eq_getElem (by omega)⟩
      have h3 := h2 y hy
      obtain ⟨g1, e1⟩ := List.getElem?_eq_some_iff.1 hy
      obtain ⟨g2, e2⟩ := List.getElem?_eq_some_iff.1 hq
      have := List.pairwise_iff_getElem.1 hr j (j + q) g1 g2 (by omega)
      rw [e1, e2] at this; omega
  refine ⟨hr'.1, ?_, fun a ha b hb => ?_⟩
  · show ([x] ++ O.drop j).Pairwise _
    rw [List.singleton_append, List.pairwise_cons]
    exact ⟨hd, hr'.2.1⟩
  · rw [List.mem_append, List.mem_singleton] at hb
    rcases hb with rfl | hb
    · obtain ⟨q, hq⟩ := List.getElem?_of_mem ha
      rw [List.getElem?_take] at hq
      split at hq
      · exact h1 q a (by assumption) hq
      · cases hq
    · exact hr'.2.2 a ha b hb
section
variable {h : Heap}
theorem slice_fromR {B : Option Addr} {d j : Nat} {vs : List Value} {kd : IntKind} (S : SlAt h B d vs) (hj : j ≤ vs.length) : ∃ B' d', sliceV (some (1, none)) (.slice B vs.length d) (some (.int kd (j : Int))) none = some (Value.slice B' (vs.length - j) d') ∧ RowAt h B' (vs.drop j) ∧ ∀ y, blk B' y → blk B y := by
  have hl := S.len
  rcases S.at' with ⟨rfl, rfl⟩ | ⟨bk, rfl, h2, h3, h4, h5⟩
  · have hv : vs = [] := List.eq_nil_of_length_eq_zero (by omega)
    subst hv
    have hj0 : j = 0 := by simpa using hj
    subst hj0
    refine ⟨none, 0, ?_, .inl rfl, fun _ h => h⟩
    unfold sliceV boundV
    simp
  · refine ⟨some ⟨bk, if d = j then 0 else 0 + j * 1, none⟩, d - j, ?_, RowAt.drop (i := j) (S.row) hl, fun y ⟨a, ha, hb⟩ => by cases ha; exact ⟨_, rfl, hb⟩⟩
    rw [slice_from2 (by omega) (by omega) hl, Int.toNat_natCast]
theorem Fr.of_new {N : Nat} {h h' : Heap} (f : Fr (fun y => N ≤ y) h h') (hn : h.size ≤ N) : Fr (fun _ => False) h h' := ⟨f.size, fun x hx _ => f.same x hx (by omega)⟩
theorem buildA {e : TypeId} {s b : Nat} {z : Value} {k : Value → Heap → Prop} (hk : ∀ X h', SlAt h' X 0 [] → (∀ y, blk X y → h.size ≤ y ∧ y < h'.size) → Fr (fun _ => False) h h' → k (.slice X 0 0) h') : @buildSliceK (some (e, s, b, z)) 0 [] ⟨h⟩ ⟨k⟩ :=
  build0 (hk _ _ (SlAt.new (vs := [])) (fun y ⟨a, ha, hb⟩ => by cases ha; subst hb; exact ⟨Nat.le_refl _, by rw [push_size]; exact Nat.lt_succ_self _⟩) ((Fr.refl _ _).push))
theorem buildB {e : TypeId} {b : Nat} {z v : Value} {k : Value → Heap → Prop} (hv : v.cells = #[v]) (hz : z.cells.size = 1) (hk : ∀ X h', SlAt h' X 1 [v] → (∀ y, blk X y → h.size ≤ y ∧ y < h'.size) → Fr (fun _ => False) h h' → k (.slice X 1 1) h') :
    @buildSliceK (some (e, 1, b, z)) 1 [(0, v)] ⟨h⟩ ⟨k⟩ :=
  build1 hv hz (hk _ _ (SlAt.new (vs := [v])) (fun y ⟨a, ha, hb⟩ => by cases ha; subst hb; exact ⟨Nat.le_refl _, by rw [push_size]; exact Nat.lt_succ_self _⟩) ((Fr.refl _ _).push))
theorem appendB {e : TypeId} {bt n m xc cap : Nat} {z : Value} {A xb : Option Addr} {vs ws : List Value} {k : Value → Heap → Prop} (S : SlAt h A cap vs) (hn : n = vs.length)
    (hw : RowAt h xb ws) (hm : m = ws.length) (hone : ∀ w ∈ ws, w.oneCell' = true) (hlen : (n + m) * bt ≤ 2 ^ 47) (hlm : n + m < 2 ^ 50)
    (hk : ∀ A' cap' h', SlAt h' A' cap' (vs ++ ws) → Fr (blk A) h h' → (∀ x, blk A' x → blk A x ∨ h.size ≤ x) → k (.slice A' (n + m) cap') h') :
    @appendK (some (e, 1, bt, z)) (.slice A n cap) (.slice xb m xc) ⟨h⟩ ⟨k⟩ :=
  appendN (sz := 1) (by rw [Nat.mul_one]; exact S) (by rw [Nat.mul_one]; exact hn) hw (by rw [Nat.mul_one]; exact hm) (by omega) hone hlen hlm (fun A' c' h' S' => hk A' c' h' (by rw [Nat.mul_one] at S'; exact S'))
theorem clean12_ok {A : Option Addr} {n c : Nat} {l : List Int} (R : RowAt h A (ints l)) (hn : n = l.length) (hs : n < 2 ^ 40) (hr : ∀ x ∈ l, -9223372036854775808 ≤ x ∧ x ≤ 9223372036854775807) (hcap : n ≤ c) :
    CallsH Tryz.prog 80 [.slice A n c] h fun r h' => (∃ o, CleanR l o ∧ match o with
      | none => r = .tuple #[.slice none 0 0, .bool true]
      | some L => ∃ A' c', r = .tuple #[.slice A' L.length c', .bool false] ∧ SlAt h' A' c' (ints L) ∧ ∀ y, blk A' y → h.size ≤ y) ∧ Fr (fun _ => False) h h' := by
  subst hn
  refine calls_of 71 [.tmp 2, .tmp 3] Go.Proofs.Tryz.func80 rfl rfl rfl (by kernel_rfl) (Nat.le_of_ble_eq_true rfl) ?_
  simp -implicitDefEqProofs (disch := omega) [go_sem]
  refine loopK (fun ρ h' => ρ 0 = .slice A l.length c ∧ Fr (fun _ => False) h h' ∧ ∃ (i : Nat) (O : List Int) (B : Option Addr) (d : Nat), ρ 5 = .int .i64 i ∧ i ≤ l.length ∧ ρ 4 = .slice B O.length d ∧ SlAt h' B d (ints O) ∧ (∀ y, blk B y → h.size ≤ y) ∧
      Rise O ∧ (∀ x, x ∈ O ↔ x ∈ l.take i ∧ okL x) ∧ (∀ x ∈ O, -x ∉ l) ∧ O.length ≤ i) (fun ρ _ => l.length - (intOf (ρ 5)).toNat) (by kernel_rfl) ?_ ?_
  · exact ⟨rfl, Fr.refl _ _, 0, [], none, 0, rfl, by omega, rfl, SlAt.nil h, fun y ⟨a, ha, _⟩ => (nomatch ha), List.Pairwise.nil, fun x => by simp, fun x hx => (nomatch hx), Nat.le_refl _⟩
  · rintro ρ h1 ⟨r0, f1, i, O, B, d, r5, hi, r4, S1, own1, hrise, hmem, hneg, hOl⟩
    have R1 := R.fr0 f1
    by_cases hil : i < l.length
    · obtain ⟨x, hx⟩ : ∃ x, l[i]? = some x := ⟨_, List.getElem?_eq_getElem hil⟩
      have hxm := List.mem_of_getElem? hx
      have hxr := hr x hxm
      obtain ⟨bk, off, hA, hc⟩ := R1.get (by rw [ints_len]; omega)
      have c0 := hc _ _ (ints_at hx)
      have etk : l.take (i + 1) = l.take i ++ [x] := by rw [List.take_add_one, hx]; rfl
      have htl : (l.take i).length = i := by rw [List.length_take]; omega
      subst hA
      simp -implicitDefEqProofs (disch := omega) [go_sem, r0, r4, r5, c0]
      refine drawK [(0, 0), (1, 0), (2, 0), (3, 1), (4, 3), (5, 0), (6, 0), (7, 0), (8, 0), (9, 0), (10, 0), (11, 0), (12, 0), (13, 1), (14, 3), (15, 0)] mixed (by kernel_rfl) ?_
      simp -implicitDefEqProofs (disch := omega) [go_sem, r0, r4, r5, c0]
      refine useC (var12_ok hxr.1 hxr.2) ?_
      rintro _ h2 ⟨rfl, rfl⟩
      have hok : var12 x = 0 ↔ ¬ okL x := by unfold var12 okL; split <;> omega
      by_cases hv : var12 x = 0
      · simp -implicitDefEqProofs (disch := omega) [go_sem, r0, r4, r5, hv]
        refine ⟨⟨f1, i + 1, by omega, by omega, O, B, d, ⟨rfl, rfl, rfl⟩, S1, own1, hrise, fun y => ?_, hneg, by omega⟩, by omega⟩
        rw [hmem, etk, List.mem_append, List.mem_singleton]
        refine ⟨fun h => ⟨.inl h.1, h.2⟩, fun h => ⟨h.1.resolve_right fun e => ?_, h.2⟩⟩
        rw [e] at h; exact hok.1 hv h.2
      · have hxo : okL x := Classical.byContradiction fun h => hv (hok.2 h)
        have hxo' := hxo
        unfold okL at hxo'
        simp -implicitDefEqProofs (disch := omega) [go_sem, r0, r4, r5, c0, hv]
        have Rt := R1.take i
        have eti : (ints l).take i = ints (l.take i) := by unfold ints; rw [List.map_take]
        rw [eti] at Rt
        refine useC (has12_ok Rt htl.symm (by omega) x) ?_
        rintro _ h2 ⟨rfl, rfl⟩
        by_cases hin : x ∈ l.take i
        · simp -implicitDefEqProofs (disch := omega) [go_sem, r0, r4, r5, hin]
          refine ⟨⟨f1, i + 1, by omega, by omega, O, B, d, ⟨rfl, rfl, rfl⟩, S1, own1, hrise, fun y => ?_, hneg, by omega⟩, by omega⟩
          rw [hmem, etk, List.mem_append, List.mem_singleton]
          refine ⟨fun h => ⟨.inl h.1, h.2⟩, fun h => ⟨h.1.elim (fun h => h) fun e => ?_, h.2⟩⟩
          rw [e]; exact hin
        · simp -implicitDefEqProofs (disch := omega) [go_sem, r0, r4, r5, c0, hin]
          refine useC (has12_ok R1 rfl (by omega) (-x)) ?_
          rintro _ h2 ⟨rfl, rfl⟩
          by_cases hng : -x ∈ l
          · simp -implicitDefEqProofs (disch := omega) [go_sem, r0, r4, r5, hng]
            exact ⟨⟨none, ⟨x, hxm, hxo, hng⟩, trivial⟩, f1⟩
          · have hne : ∀ y ∈ O, y.natAbs ≠ x.natAbs := fun y hy e => by
              by_cases e2 : y = x
              · exact hin (e2 ▸ ((hmem y).1 hy).1)
              · have e3 : -x = y := by omega
                exact hng (e3 ▸ List.mem_of_mem_take ((hmem y).1 hy).1)
            have hr5 : (intOf (ρ 5)).toNat = i := by rw [r5]; rfl
            simp -implicitDefEqProofs (disch := omega) [↓ stop_block (id := 2), go_sem, r0, r4, r5, hng]
            refine cutK (fun ρ h' => ρ 0 = .slice (some ⟨bk, off, none⟩) l.length c ∧ h' = h2 ∧ ρ 5 = .int .i64 i ∧ ρ 4 = .slice B O.length d ∧ ∃ j : Nat, ρ 6 = .int .i64 j ∧ j ≤ O.length ∧ (∀ (q : Nat) y, q < j → O[q]? = some y → y.natAbs < x.natAbs) ∧ ∀ y, O[j]? = some y → x.natAbs ≤ y.natAbs) ?_ ?_
            · simp -implicitDefEqProofs (disch := omega) [go_sem]
              refine loopK (fun ρ h' => ρ 0 = .slice (some ⟨bk, off, none⟩) l.length c ∧ h' = h2 ∧ ρ 5 = .int .i64 i ∧ ρ 4 = .slice B O.length d ∧ ∃ j : Nat, ρ 6 = .int .i64 j ∧ j ≤ O.length ∧ ∀ (q : Nat) y, q < j → O[q]? = some y → y.natAbs < x.natAbs)
                (fun ρ _ => O.length - (intOf (ρ 6)).toNat) (by kernel_rfl) ?_ ?_
              · exact ⟨by simp [put, r0], rfl, by simp [put, r5], by simp [put, r4], 0, rfl, by omega, fun q y hq => by omega⟩
              · clear r0 r4 r5
                rintro ρ h' ⟨r0, rfl, r5, r4, j, r6, hj, hlt⟩
                have hdl := S1.len
                rw [ints_len] at hdl
                simp -implicitDefEqProofs (disch := omega) [go_sem, r0, r4, r5, r6, c0]
                refine drawC [(0, 0), (1, 0), (2, 0), (3, 0), (4, 0), (5, 0), (6, 0), (7, 0), (8, 1), (10, 0), (11, 0), (12, 0), (13, 2), (9, 3), (14, 3), (15, 0), (16, 0)] (Eq h') mixed (by kernel_rfl) rfl ?_
                by_cases hjl : j < O.length
                · obtain ⟨y, hy⟩ : ∃ y, O[j]? = some y := ⟨_, List.getElem?_eq_getElem hjl⟩
                  have hyo := ((hmem y).1 (List.mem_of_getElem? hy)).2
                  unfold okL at hyo
                  have hvx : var12 x = x.natAbs := if_pos hxo'.2
                  have hvy : var12 y = y.natAbs := if_pos hyo.2
                  obtain ⟨bb, hB, _, _, hcB⟩ := S1.base (by rw [ints_len]; omega)
                  have cy := hcB _ _ (ints_at hy)
                  subst hB
                  simp -implicitDefEqProofs (disch := omega) [go_sem, r0, r4, r5, r6, c0, cy]
                  refine useC (var12_ok (by omega) (by omega)) ?_
                  rintro _ h2 ⟨rfl, rfl⟩
                  rw [hvy]
                  simp -implicitDefEqProofs (disch := omega) [go_sem, r0, r4, r5, r6, c0, cy]
                  refine useC (var12_ok (by omega) (by omega)) ?_
                  rintro _ h2 ⟨rfl, rfl⟩
                  rw [hvx]
                  by_cases hyx : y.natAbs < x.natAbs
                  · simp -implicitDefEqProofs (disch := omega) [go_sem, r0, r4, r5, r6, hyx]
                    refine ⟨⟨j + 1, by omega, by omega, fun q z hq hz => ?_⟩, by omega⟩
                    by_cases e : q = j
                    · rw [e, hy] at hz; cases hz; exact hyx
                    · exact hlt q z (by omega) hz
                  · simp -implicitDefEqProofs (disch := omega) [go_sem, r0, r4, r5, r6, hyx]
                    exact ⟨j, rfl, hj, hlt, fun z hz => by rw [hy] at hz; cases hz; omega⟩
                · simp -implicitDefEqProofs (disch := omega) [go_sem, r0, r4, r5, r6]
                  exact ⟨j, rfl, hj, hlt, fun y hy => by rw [List.getElem?_eq_none (by omega)] at hy; cases hy⟩
            · clear r0 r4 r5
              rintro ρ h' ⟨r0, rfl, r5, r4, j, r6, hj, hlt, hge⟩
              have hdl := S1.len
              rw [ints_len] at hdl
              simp -implicitDefEqProofs (disch := omega) [go_sem, r0, r4, r5, r6]
              obtain ⟨B', d', hsl, RD, hBB⟩ := slice_fromR (kd := .i64) S1 (j := j) (by rw [ints_len]; exact hj)
              rw [ints_len] at hsl
              refine drawT (.br2 [(1, 0), (2, 0), (3, 0), (5, 0), (6, 0), (7, 0), (11, 0), (12, 0), (13, 0)] 0 (.br2 [] 4 (.fin [(8, 3), (9, 3), (10, 3), (14, 3), (15, 0)]) 8 (.br2 [] 4 (.fin [(9, 3), (10, 3), (14, 3), (15, 0)]) 9 (.fin [(4, 3), (10, 3), (14, 3), (15, 0)]))) 8 (.br2 [] 0 (.br2 [] 4 (.fin [(9, 3), (10, 3), (14, 3), (15, 0)]) 9 (.fin [(4, 3), (10, 3), (14, 3), (15, 0)])) 9 (.fin [(0, 3), (4, 3), (10, 3), (14, 3), (15, 0)]))) mixed (by kernel_rfl) ?_
              simp -implicitDefEqProofs (disch := omega) [go_sem, r0, r4, r5, r6, c0, hsl]
              have RT := S1.row.take j
              rw [ints_take] at RT
              have nB : ∀ y, blk B y → ¬ h'.size ≤ y := fun y hy => by have := S1.blk_lt hy; omega
              have nB' : ∀ y, blk B' y → ¬ h'.size ≤ y := fun y hy => nB y (hBB y hy)
              have hOd : (ints O).drop j = ints (O.drop j) := by unfold ints; rw [List.map_drop]
              rw [hOd] at RD
              have hbk := hcell_lt c0
              refine ⟨?way0, ?way1, ?way2⟩
              case' way0 =>
                have zz : h'.size ≤ h'.size := Nat.le_refl _
                refine buildA ?_
                intro X0 g0 S0 o0 f0
                have Fg0 : Fr (fun y => h'.size ≤ y) h' g0 := f0.mono fun _ _ h => h.elim
                have cg0 := (Fg0.cell hbk (by omega)).trans c0
                have zg0 := Fg0.size
                simp -implicitDefEqProofs (disch := omega) [go_sem, r0, r4, r5, r6, hsl, cg0]
                refine ⟨?way3, ?way4, ?way5⟩
              case' way1 =>
                have zz : h'.size ≤ h'.size := Nat.le_refl _
                refine buildA ?_
                intro X0 g0 S0 o0 f0
                have Fg0 : Fr (fun y => h'.size ≤ y) h' g0 := f0.mono fun _ _ h => h.elim
                have cg0 := (Fg0.cell hbk (by omega)).trans c0
                have zg0 := Fg0.size
                simp -implicitDefEqProofs (disch := omega) [go_sem, r0, r4, r5, r6, hsl, cg0]
                refine ⟨?way6, ?way7⟩
              case' way3 =>
                refine appendB (vs := []) (ws := ints (O.take j)) S0 rfl (RT.fr Fg0 nB) (by rw [ints_len, List.length_take]; omega) ints_one (by omega) (by omega) ?_
                intro A4 c4 g1 S4 f4 h4
                rw [List.nil_append] at S4
                have Fg1 := Fg0.trans (f4.mono fun y _ hy => Nat.le_trans zz (o0 y hy).1)
                have o4 : ∀ y, blk A4 y → h'.size ≤ y := fun y hy => (h4 y hy).elim (fun h => Nat.le_trans zz (o0 y h).1) fun h => Nat.le_trans zg0 h
                have cg1 := (Fg1.cell hbk (by omega)).trans c0
                have zg1 := Fg1.size
                simp -implicitDefEqProofs (disch := omega) [go_sem, r0, r4, r5, r6, hsl, cg1]
                refine buildB rfl rfl ?_
                intro X9 g S9 o9 f9
                have Fg := Fg1.trans (f9.mono fun _ _ h => h.elim)
                have cg := (Fg.cell hbk (by omega)).trans c0
                have zg := Fg.size
                replace S4 := S4.fr f9 (fun _ _ h => h)
                have RX := S9.row
                simp -implicitDefEqProofs (disch := omega) [go_sem, r0, r4, r5, r6, hsl]
              case' way4 =>
                refine appendB (vs := []) (ws := ints (O.take j)) S0 rfl (RT.fr Fg0 nB) (by rw [ints_len, List.length_take]; omega) ints_one (by omega) (by omega) ?_
                intro A4 c4 g1 S4 f4 h4
                rw [List.nil_append] at S4
                have Fg1 := Fg0.trans (f4.mono fun y _ hy => Nat.le_trans zz (o0 y hy).1)
                have o4 : ∀ y, blk A4 y → h'.size ≤ y := fun y hy => (h4 y hy).elim (fun h => Nat.le_trans zz (o0 y h).1) fun h => Nat.le_trans zg0 h
                have cg1 := (Fg1.cell hbk (by omega)).trans c0
                have zg1 := Fg1.size
                simp -implicitDefEqProofs (disch := omega) [go_sem, r0, r4, r5, r6, hsl, cg1]
                refine buildB rfl rfl ?_
                intro X9 g S9 o9 f9
                have Fg := Fg1.trans (f9.mono fun _ _ h => h.elim)
                have cg := (Fg.cell hbk (by omega)).trans c0
                have zg := Fg.size
                replace S4 := S4.fr f9 (fun _ _ h => h)
                have RX := S9.row
                simp -implicitDefEqProofs (disch := omega) [go_sem, r0, r4, r5, r6, hsl]
              case' way6 =>
                refine appendB (vs := []) (ws := ints (O.take j)) S0 rfl (RT.fr Fg0 nB) (by rw [ints_len, List.length_take]; omega) ints_one (by omega) (by omega) ?_
                intro A4 c4 g1 S4 f4 h4
                rw [List.nil_append] at S4
                have Fg1 := Fg0.trans (f4.mono fun y _ hy => Nat.le_trans zz (o0 y hy).1)
                have o4 : ∀ y, blk A4 y → h'.size ≤ y := fun y hy => (h4 y hy).elim (fun h => Nat.le_trans zz (o0 y h).1) fun h => Nat.le_trans zg0 h
                have cg1 := (Fg1.cell hbk (by omega)).trans c0
                have zg1 := Fg1.size
                simp -implicitDefEqProofs (disch := omega) [go_sem, r0, r4, r5, r6, hsl, cg1]
                refine buildB rfl rfl ?_
                intro X9 g S9 o9 f9
                have Fg := Fg1.trans (f9.mono fun _ _ h => h.elim)
                have cg := (Fg.cell hbk (by omega)).trans c0
                have zg := Fg.size
                replace S4 := S4.fr f9 (fun _ _ h => h)
                have RX := S9.row
                simp -implicitDefEqProofs (disch := omega) [go_sem, r0, r4, r5, r6, hsl]
              case' way5 =>
                refine buildB rfl rfl ?_
                intro X9 g1 S9 o9 f9
                have Fg1 := Fg0.trans (f9.mono fun _ _ h => h.elim)
                have cg1 := (Fg1.cell hbk (by omega)).trans c0
                have zg1 := Fg1.size
                simp -implicitDefEqProofs (disch := omega) [go_sem, r0, r4, r5, r6, hsl, cg1]
                replace S0 := S0.fr f9 (fun _ _ h => h)
                refine appendB (vs := []) (ws := ints (O.take j)) S0 rfl (RT.fr Fg1 nB) (by rw [ints_len, List.length_take]; omega) ints_one (by omega) (by omega) ?_
                intro A4 c4 g S4 f4 h4
                rw [List.nil_append] at S4
                have Fg := Fg1.trans (f4.mono fun y _ hy => Nat.le_trans zz (o0 y hy).1)
                have o4 : ∀ y, blk A4 y → h'.size ≤ y := fun y hy => (h4 y hy).elim (fun h => Nat.le_trans zz (o0 y h).1) fun h => Nat.le_trans zg1 h
                have cg := (Fg.cell hbk (by omega)).trans c0
                have zg := Fg.size
                have RX := S9.row.fr f4 (fun y hy h => by have := (o9 y hy).1; have := (o0 y h).2; omega)
                simp -implicitDefEqProofs (disch := omega) [go_sem, r0, r4, r5, r6, hsl]
              case' way7 =>
                refine buildB rfl rfl ?_
                intro X9 g1 S9 o9 f9
                have Fg1 := Fg0.trans (f9.mono fun _ _ h => h.elim)
                have cg1 := (Fg1.cell hbk (by omega)).trans c0
                have zg1 := Fg1.size
                simp -implicitDefEqProofs (disch := omega) [go_sem, r0, r4, r5, r6, hsl, cg1]
                replace S0 := S0.fr f9 (fun _ _ h => h)
                refine appendB (vs := []) (ws := ints (O.take j)) S0 rfl (RT.fr Fg1 nB) (by rw [ints_len, List.length_take]; omega) ints_one (by omega) (by omega) ?_
                intro A4 c4 g S4 f4 h4
                rw [List.nil_append] at S4
                have Fg := Fg1.trans (f4.mono fun y _ hy => Nat.le_trans zz (o0 y hy).1)
                have o4 : ∀ y, blk A4 y → h'.size ≤ y := fun y hy => (h4 y hy).elim (fun h => Nat.le_trans zz (o0 y h).1) fun h => Nat.le_trans zg1 h
                have cg := (Fg.cell hbk (by omega)).trans c0
                have zg := Fg.size
                have RX := S9.row.fr f4 (fun y hy h => by have := (o9 y hy).1; have := (o0 y h).2; omega)
                simp -implicitDefEqProofs (disch := omega) [go_sem, r0, r4, r5, r6, hsl]
              case' way2 =>
                refine buildB rfl rfl ?_
                intro X9 g0 S9 o9 f9
                have Fg0 : Fr (fun y => h'.size ≤ y) h' g0 := f9.mono fun _ _ h => h.elim
                have cg0 := (Fg0.cell hbk (by omega)).trans c0
                have zg0 := Fg0.size
                simp -implicitDefEqProofs (disch := omega) [go_sem, r0, r4, r5, r6, hsl, cg0]
                have zz := zg0
                refine buildA ?_
                intro X0 g1 S0 o0 f0
                have Fg1 := Fg0.trans (f0.mono fun _ _ h => h.elim)
                have cg1 := (Fg1.cell hbk (by omega)).trans c0
                have zg1 := Fg1.size
                simp -implicitDefEqProofs (disch := omega) [go_sem, r0, r4, r5, r6, hsl, cg1]
                refine appendB (vs := []) (ws := ints (O.take j)) S0 rfl (RT.fr Fg1 nB) (by rw [ints_len, List.length_take]; omega) ints_one (by omega) (by omega) ?_
                intro A4 c4 g S4 f4 h4
                rw [List.nil_append] at S4
                have Fg := Fg1.trans (f4.mono fun y _ hy => Nat.le_trans zz (o0 y hy).1)
                have o4 : ∀ y, blk A4 y → h'.size ≤ y := fun y hy => (h4 y hy).elim (fun h => Nat.le_trans zz (o0 y h).1) fun h => Nat.le_trans zg1 h
                have cg := (Fg.cell hbk (by omega)).trans c0
                have zg := Fg.size
                have RX := (S9.row.fr0 f0).fr f4 (fun y hy h => by have := (o9 y hy).2; have := (o0 y h).1; omega)
                simp -implicitDefEqProofs (disch := omega) [go_sem, r0, r4, r5, r6, hsl]
              all_goals
                have hlt10 : (O.take j).length = j := by rw [List.length_take]; omega
                refine appendB (vs := ints (O.take j)) (ws := [.int .i64 x]) S4 (by rw [ints_len, hlt10]) RX rfl (by simp [Value.oneCell']) (by omega) (by omega) ?_
                intro A10 c10 k1 S10 f10 h10
                have Fk1 := Fg.trans (f10.mono fun y _ hy => o4 y hy)
                have zk1 := Fk1.size
                have o10 : ∀ y, blk A10 y → h'.size ≤ y := fun y hy => (h10 y hy).elim (o4 y) fun h => Nat.le_trans zg h
                simp -implicitDefEqProofs (disch := omega) [go_sem, r0, r4, r5, r6, hsl]
                refine appendB (vs := ints (O.take j) ++ [.int .i64 x]) (ws := ints (O.drop j)) S10 (by rw [List.length_append, ints_len, hlt10]; rfl) (RD.fr Fk1 nB') (by rw [ints_len, List.length_drop]) ints_one (by omega) (by omega) ?_
                intro A14 c14 k2 S14 f14 h14
                have Fk2 := Fk1.trans (f14.mono fun y _ hy => o10 y hy)
                have o14 : ∀ y, blk A14 y → h.size ≤ y := fun y hy => Nat.le_trans f1.size ((h14 y hy).elim (o10 y) fun h => Nat.le_trans zk1 h)
                have ei : ints (O.take j) ++ [.int .i64 x] ++ ints (O.drop j) = ints (O.take j ++ [x] ++ O.drop j) := by simp [ints]
                rw [ei] at S14
                have hnl : j + 1 + (O.length - j) = (O.take j ++ [x] ++ O.drop j).length := by rw [List.length_append, List.length_append, hlt10, List.length_drop]; rfl
                have hmO : ∀ y, y ∈ O.take j ++ [x] ++ O.drop j ↔ y ∈ O ∨ y = x := fun y => by
                  rw [List.mem_append, List.mem_append, List.mem_singleton]
                  conv => rhs; rw [← List.take_append_drop j O, List.mem_append]
                  constructor
                  · rintro ((h | h) | h)
                    · exact .inl (.inl h)
                    · exact .inr h
                    · exact .inl (.inr h)
                  · rintro ((h | h) | h)
                    · exact .inl (.inl h)
                    · exact .inr h
                    · exact .inl (.inr h)
                simp -implicitDefEqProofs (disch := omega) [go_sem, r0, r4, r5, r6]
                refine ⟨⟨f1.trans (Fk2.of_new (Nat.le_refl _)), i + 1, by omega, by omega, O.take j ++ [x] ++ O.drop j, A14, c14, ⟨rfl, hnl, rfl⟩, S14, o14, rise_insert hrise hj hlt hge hne, fun y => ?_, fun y hy => ?_, by rw [← hnl]; omega⟩, by omega⟩
                · rw [hmO, hmem, etk, List.mem_append, List.mem_singleton]
                  constructor
                  · rintro (h | rfl)
                    · exact ⟨.inl h.1, h.2⟩
                    · exact ⟨.inr rfl, hxo⟩
                  · rintro ⟨h | rfl, h2⟩
                    · exact .inl ⟨h, h2⟩
                    · exact .inr rfl
                · rcases (hmO y).1 hy with h | rfl
                  · exact hneg y h
                  · exact hng
    · have e : i = l.length := by omega
      subst e
      rw [List.take_length] at hmem
      simp -implicitDefEqProofs (disch := omega) [go_sem, r0, r4, r5]
      exact ⟨⟨some O, ⟨hrise, hmem⟩, B, d, ⟨rfl, rfl, rfl⟩, S1, own1⟩, f1⟩
end
end Xe

/- Package learn: a learner's memory; where literals stand; the latest; reasons; what was used. -/
namespace Xe
open Go Tp Go.Proofs
set_option maxRecDepth 16000
set_option maxHeartbeats 1000000

/-- a learner: where it lies, what it holds -/
structure LrM (N : Nat) (h : Heap) (bb : Nat) (p : BP) (s : WS) (xb : Nat) (K U : Option Addr) (c u : List Int) : Prop where
  M : BaseM h bb p s
  ex : ∃ kc uc, ListB h xb [.pointer (some ⟨bb, 0, none⟩), .pointer (some ⟨p.tb, 0, none⟩), .slice K c.length kc, .slice U u.length uc] ∧ SlAt h K kc (ints c) ∧ SlAt h U uc (ints u) ∧
    (∀ y, blk K y → N ≤ y ∧ y ≠ xb) ∧ ∀ y, blk U y → N ≤ y ∧ y ≠ xb ∧ ¬ blk K y
  hx : N ≤ xb
  hN : ∀ x t, p.c x = some t → x < N

section
variable {N : Nat} {h : Heap} {bb : Nat} {p : BP} {s : WS} {xb : Nat} {K U : Option Addr} {c u : List Int}
theorem LrM.fr0 (L : LrM N h bb p s xb K U c u) {h' : Heap} (f : Fr (fun _ => False) h h') : LrM N h' bb p s xb K U c u := by
  obtain ⟨kc, uc, B, SK, SU, hK, hU⟩ := L.ex
  exact ⟨L.M.fr0 f, ⟨kc, uc, B.fr f id, SK.fr f fun _ _ => id, SU.fr f fun _ _ => id, hK, hU⟩, L.hx, L.hN⟩
theorem LrM.baseFr (L : LrM N h bb p s xb K U c u) {h' : Heap} (f : Fr (fun y => N ≤ y) h h') : BaseM h' bb p s := L.M.fr f fun x hx => by
  cases hc : p.c x with
  | none => rfl
  | some t => have := L.hN x t hc; omega

theorem lvi_nat {l : List St} {x : Int} : LVi l (x.natAbs : Int) = lvx l x := by
  unfold LVi lvx
  rw [if_neg (by omega)]; rfl
theorem pli_nat {l : List St} {x : Int} : PLi l (x.natAbs : Int) = plx l x := by
  unfold PLi plx
  rw [if_neg (by omega)]; rfl
theorem rsi_nat {l : List St} {x : Int} : RSi l (x.natAbs : Int) = RS l x.natAbs := by
  unfold RSi
  rw [if_neg (by omega)]; rfl

theorem variable_ok {x : Int} (h0 : -9223372036854775807 ≤ x) (h1 : x ≤ 9223372036854775807) : CallsH Tryz.prog 65 [.int .i64 x] h fun r h' => r = .int .i64 (x.natAbs : Int) ∧ h' = h := by
  refine calls_of 7 [.tmp 2] Go.Proofs.Tryz.func65 rfl rfl rfl (by kernel_rfl) (Nat.le_of_ble_eq_true rfl) ?_
  have e : max x (-x) = (x.natAbs : Int) := by omega
  simp -implicitDefEqProofs (disch := omega) [go_sem, e]

theorem spot_ok (L : LrM N h bb p s xb K U c u) {x : Int} (h0 : -9223372036854775807 ≤ x) (h1 : x ≤ 9223372036854775807) :
    CallsH Tryz.prog 161 [.pointer (some ⟨xb, 0, none⟩), .int .i64 x] h fun r h' => r = .complex .f64 (Fx.enc (lvx s.l x)) (Fx.enc (plx s.l x)) ∧ h' = h := by
  obtain ⟨kc, uc, B, SK, SU, hK, hU⟩ := L.ex
  have b1 := B.at' 1 _ rfl
  have T := L.M.T
  have v1 := LVi_b T (x.natAbs : Int)
  have v2 := PLi_b T (x.natAbs : Int)
  rw [lvi_nat] at v1
  rw [pli_nat] at v2
  have hv := T.hv
  have hl := T.len
  refine calls_of 23 [.tmp 4] Go.Proofs.Tryz.func161 rfl rfl rfl (by kernel_rfl) (Nat.le_of_ble_eq_true rfl) ?_
  simp -implicitDefEqProofs (disch := omega) [go_sem]
  refine useC (variable_ok h0 h1) ?_
  rintro _ h2 ⟨rfl, rfl⟩
  simp -implicitDefEqProofs (disch := omega) [go_sem]
  refine drawC [(0, 0), (1, 0), (2, 0), (3, 1), (4, 0), (7, 0), (8, 0), (9, 0), (10, 2), (11, 0), (5, 3), (6, 0), (12, 3), (13, 0), (14, 0), (15, 0)] (Eq _) mixed (by kernel_rfl) rfl ?_
  simp -implicitDefEqProofs (disch := omega) [go_sem, b1]
  refine useC (tlevelOf_ok T (by omega) (by omega)) ?_
  rintro _ h2 ⟨rfl, rfl⟩
  simp -implicitDefEqProofs (disch := omega) [go_sem, b1]
  refine useC (tplace_ok T (by omega) (by omega)) ?_
  rintro _ h2 ⟨rfl, rfl⟩
  rw [lvi_nat, pli_nat]
  simp -implicitDefEqProofs (disch := omega) [go_sem, b1]
end
end Xe

/- Package learn: the latest literal; a literal's reason; what was used is noted. -/
namespace Xe
open Go Tp Go.Proofs
set_option maxRecDepth 16000
set_option maxHeartbeats 1000000

theorem rise_length : ∀ {c : List Int} {a n : Nat}, Rise c → (∀ x ∈ c, a < x.natAbs ∧ x.natAbs ≤ n) → c.length ≤ n - a := by
  intro c
  induction c with
  | nil => intro a n _ _; simp
  | cons x c ih =>
    intro a n hr hb
    unfold Rise at hr
    rw [List.pairwise_cons] at hr
    have hx := hb x (List.mem_cons_self ..)
    have := ih (a := x.natAbs) (n := n) hr.2 fun y hy => ⟨hr.1 y hy, (hb y (List.mem_cons_of_mem _ hy)).2⟩
    rw [List.length_cons]
    omega
theorem Cf.len {vars : Nat} {l : List St} {c : List Int} (F : Cf vars l c) : c.length ≤ vars := by
  have := rise_length (a := 0) (n := vars) F.rise fun x hx => ⟨(F.rng x hx).1, (F.rng x hx).2⟩
  omega

section
variable {N : Nat} {h : Heap} {bb : Nat} {p : BP} {s : WS} {xb : Nat} {K U : Option Addr} {c u : List Int}
theorem lvx_fail {vars : Nat} {l : List St} (G : Good vars l) {x : Int} (h : trI l x = -1) : 0 ≤ lvx l x := by
  obtain ⟨k, t, _, _, _, h4, _⟩ := false_at G h
  omega
theorem latest_ok (L : LrM N h bb p s xb K U c u) (I : WInv s) (F : Cf s.vars s.l c) :
    CallsH Tryz.prog 115 [.pointer (some ⟨xb, 0, none⟩)] h fun r h' => h' = h ∧ ∃ (x lv : Int) (n : Nat), r = .tuple #[.int .i64 x, .int .i64 lv, .int .i64 n] ∧
      ((c = [] ∧ lv = -1) ∨ (Lat s.l c x ∧ lv = lvx s.l x ∧ n = cntL s.l c (lvx s.l x))) := by
  have L' := L
  obtain ⟨kc, uc, B, SK, SU, hK, hU⟩ := L.ex
  have b1 := B.at' 1 _ rfl
  have b2 := B.at' 2 _ rfl
  have T := L.M.T
  have hv := T.hv
  have hlen := T.len
  have hcl := F.len
  refine calls_of 62 [.tmp 2, .tmp 3, .tmp 4] Go.Proofs.Tryz.func115 rfl rfl rfl (by kernel_rfl) (Nat.le_of_ble_eq_true rfl) ?_
  simp -implicitDefEqProofs (disch := omega) [go_sem, b2]
  refine loopK (fun ρ h' => ρ 0 = .pointer (some ⟨xb, 0, none⟩) ∧ ρ 12 = .slice K c.length kc ∧ ρ 13 = .int .i64 c.length ∧ ρ 4 = .int .i64 0 ∧ h' = h ∧ ∃ (i : Nat) (x lv : Int), ρ 14 = .int .i64 i ∧ i ≤ c.length ∧ ρ 2 = .int .i64 x ∧ ρ 3 = .int .i64 lv ∧
      ((i = 0 ∧ lv = -1) ∨ (0 < i ∧ Lat s.l (c.take i) x ∧ lv = lvx s.l x))) (fun ρ _ => c.length - (intOf (ρ 14)).toNat) (by kernel_rfl) ?_ ?_
  · exact ⟨rfl, rfl, rfl, rfl, rfl, 0, _, _, rfl, by omega, rfl, rfl, .inl ⟨rfl, rfl⟩⟩
  · rintro ρ h1 ⟨r0, r12, r13, r4, rfl, i, x, lv, r14, hi, r2, r3, hor⟩
    by_cases hin : i < c.length
    · obtain ⟨bk, off, rfl, hc⟩ := SK.row.get (by rw [ints_len]; omega)
      obtain ⟨y, hy⟩ := some_at hin
      have c0 := hc _ _ (ints_at hy)
      have htk : c.take (i + 1) = c.take i ++ [y] := take_at hy
      have hym := List.mem_of_getElem? hy
      have hyf := F.fail y hym
      have hyr := F.rng y hym
      have hyl := lvx_fail I.good hyf
      have v1 := LVi_b T (y.natAbs : Int)
      have v2 := PLi_b T (y.natAbs : Int)
      rw [lvi_nat] at v1
      rw [pli_nat] at v2
      rcases hor with ⟨rfl, rfl⟩ | ⟨hi0, hlat, rfl⟩
      · rw [Nat.add_zero] at c0
        simp -implicitDefEqProofs (disch := omega) [go_sem, r0, r2, r3, r4, r12, r13, r14, c0]
        refine useC (spot_ok L' (x := y) (by omega) (by omega)) ?_
        rintro _ h2 ⟨rfl, rfl⟩
        simp -implicitDefEqProofs (disch := omega) [go_sem, r0, r2, r3, r4, r12, r13, r14]
        refine ⟨⟨0 + 1, by omega, by omega, .inr ⟨by omega, ?_⟩⟩, by omega⟩
        rw [htk]
        exact ⟨by simp, fun z hz => by simp at hz; rw [hz]; exact Int.le_refl _⟩
      · have hxm := List.mem_of_mem_take hlat.1
        have hxf := F.fail x hxm
        have hxr := F.rng x hxm
        have hxl := lvx_fail I.good hxf
        have w1 := LVi_b T (x.natAbs : Int)
        have w2 := PLi_b T (x.natAbs : Int)
        rw [lvi_nat] at w1
        rw [pli_nat] at w2
        simp -implicitDefEqProofs (disch := omega) [go_sem, r0, r2, r3, r4, r12, r13, r14, c0]
        refine useC (spot_ok L' (x := y) (by omega) (by omega)) ?_
        rintro _ h2 ⟨rfl, rfl⟩
        simp -implicitDefEqProofs (disch := omega) [go_sem, r0, r2, r3, r4, r12, r13, r14]
        refine useC (spot_ok L' (x := x) (by omega) (by omega)) ?_
        rintro _ h2 ⟨rfl, rfl⟩
        by_cases hgt : plx s.l x < plx s.l y
        · simp -implicitDefEqProofs (disch := omega) [go_sem, r0, r2, r3, r4, r12, r13, r14, hgt]
          refine useC (spot_ok L' (x := y) (by omega) (by omega)) ?_
          rintro _ h2 ⟨rfl, rfl⟩
          simp -implicitDefEqProofs (disch := omega) [go_sem, r0, r2, r3, r4, r12, r13, r14]
          refine ⟨⟨i + 1, by omega, by omega, .inr ⟨by omega, ?_⟩⟩, by omega⟩
          rw [htk]
          refine ⟨by simp, fun z hz => ?_⟩
          rcases List.mem_append.1 hz with hz | hz
          · have := hlat.2 z hz; omega
          · rw [List.mem_singleton] at hz; rw [hz]; exact Int.le_refl _
        · simp -implicitDefEqProofs (disch := omega) [go_sem, r0, r2, r3, r4, r12, r13, r14, hgt]
          refine ⟨⟨i + 1, by omega, by omega, .inr ⟨by omega, ?_⟩⟩, by omega⟩
          rw [htk]
          refine ⟨List.mem_append_left _ hlat.1, fun z hz => ?_⟩
          rcases List.mem_append.1 hz with hz | hz
          · exact hlat.2 z hz
          · rw [List.mem_singleton] at hz; rw [hz]; omega
    · have e : i = c.length := by omega
      subst e
      rw [List.take_length] at hor
      simp -implicitDefEqProofs (disch := omega) [go_sem, r0, r2, r3, r4, r12, r13, r14, b2]
      refine loopK (fun ρ h' => ρ 0 = .pointer (some ⟨xb, 0, none⟩) ∧ ρ 41 = .slice K c.length kc ∧ ρ 42 = .int .i64 c.length ∧ ρ 2 = .int .i64 x ∧ ρ 3 = .int .i64 lv ∧ h' = h1 ∧ ∃ (i : Nat), ρ 43 = .int .i64 i ∧ i ≤ c.length ∧ ρ 4 = .int .i64 (cntL s.l (c.take i) lv))
        (fun ρ _ => c.length - (intOf (ρ 43)).toNat) (by kernel_rfl) ?_ ?_
      · exact ⟨r0, rfl, rfl, r2, r3, rfl, 0, rfl, by omega, r4⟩
      · rintro ρ h1 ⟨r0, r41, r42, r2, r3, rfl, i, r43, hi, r4⟩
        have hle : cntL s.l (c.take i) lv ≤ i := Nat.le_trans (List.length_filter_le _ _) (by rw [List.length_take]; omega)
        by_cases hin : i < c.length
        · obtain ⟨bk, off, rfl, hc⟩ := SK.row.get (by rw [ints_len]; omega)
          obtain ⟨y, hy⟩ := some_at hin
          have c0 := hc _ _ (ints_at hy)
          have htk : c.take (i + 1) = c.take i ++ [y] := take_at hy
          have hym := List.mem_of_getElem? hy
          have hyr := F.rng y hym
          simp -implicitDefEqProofs (disch := omega) [go_sem, r0, r2, r3, r4, r41, r42, r43, c0]
          refine drawC [(0, 0), (1, 0), (2, 0), (3, 2), (4, 0), (7, 0), (5, 3), (6, 3), (8, 0)] (Eq _) mixed (by kernel_rfl) rfl ?_
          simp -implicitDefEqProofs (disch := omega) [go_sem, r0, r2, r3, r4, r41, r42, r43, b1]
          refine useC (variable_ok (x := y) (by omega) (by omega)) ?_
          rintro _ h2 ⟨rfl, rfl⟩
          simp -implicitDefEqProofs (disch := omega) [go_sem, r0, r2, r3, r4, r41, r42, r43, b1]
          refine useC (tlevelOf_ok T (by omega) (by omega)) ?_
          rintro _ h2 ⟨rfl, rfl⟩
          rw [lvi_nat]
          by_cases he : lvx s.l y = lv
          · have e2 : cntL s.l (c.take (i + 1)) lv = cntL s.l (c.take i) lv + 1 := by
              unfold cntL; rw [htk, List.filter_append, List.length_append, List.filter_cons, if_pos (decide_eq_true he)]; rfl
            simp -implicitDefEqProofs (disch := omega) [go_sem, r0, r2, r3, r4, r41, r42, r43, he]
            exact ⟨⟨i + 1, by omega, by omega, by rw [e2]; simp⟩, by omega⟩
          · have e2 : cntL s.l (c.take (i + 1)) lv = cntL s.l (c.take i) lv := by
              unfold cntL; rw [htk, List.filter_append, List.length_append, List.filter_cons, if_neg (by simpa using he)]; rfl
            simp -implicitDefEqProofs (disch := omega) [go_sem, r0, r2, r3, r4, r41, r42, r43, he]
            exact ⟨⟨i + 1, by omega, by omega, by rw [e2]⟩, by omega⟩
        · have e : i = c.length := by omega
          subst e
          rw [List.take_length] at r4
          simp -implicitDefEqProofs (disch := omega) [go_sem, r0, r2, r3, r4, r41, r42, r43]
          rcases hor with ⟨h1, rfl⟩ | ⟨h1, h2, rfl⟩
          · exact ⟨_, _, _, ⟨rfl, rfl, rfl⟩, .inl ⟨List.eq_nil_of_length_eq_zero h1, rfl⟩⟩
          · exact ⟨_, _, _, ⟨rfl, rfl, rfl⟩, .inr ⟨h2, rfl, rfl⟩⟩

/-- a reason is a clause's number, or there is none -/
def Rm (l : List St) : Prop := ∀ t ∈ l, -1 ≤ t.rs ∧ (t.rs < 0 → 0 < t.lv)
theorem Rm.nil : Rm [] := fun t h => by cases h
theorem Rm.push {l : List St} {t : St} (R : Rm l) (h : -1 ≤ t.rs) (h2 : t.rs < 0 → 0 < t.lv) : Rm (l ++ [t]) := fun u hu => by
  rcases List.mem_append.1 hu with hu | hu
  · exact R u hu
  · rw [List.mem_singleton] at hu; rw [hu]; exact ⟨h, h2⟩
theorem Rm.sub {l l' : List St} (R : Rm l) (h : ∀ t ∈ l', t ∈ l) : Rm l' := fun t ht => R t (h t ht)
theorem Rm.us {C : List (List Int × Bool)} {lev : Nat} {l l' : List St} (h : US C lev l l') (R : Rm l) : Rm l' := by
  induction h with
  | refl => exact R
  | step _ _ _ ih => exact ih.push (by simp only; omega) (fun h => by simp only at h; omega)
theorem Rm.rs {l : List St} (R : Rm l) (v : Nat) : -1 ≤ RS l v := by
  unfold RS
  split
  · split
    · rename_i h; exact (R _ (List.mem_of_getElem? h)).1
    · omega
  · omega
theorem rs_entry (I : WInv s) (v : Nat) : RS s.l v < 0 ∨ ∃ (k : Nat) (e : Ent), RS s.l v = k ∧ s.cs[k]? = some e ∧ e.gone = false := by
  by_cases h0 : RS s.l v < 0
  · exact .inl h0
  · right
    unfold RS at h0 ⊢
    cases hf : find s.l v with
    | none => rw [hf] at h0; simp only at h0; omega
    | some i =>
      rw [hf] at h0
      simp only at h0 ⊢
      cases hg : s.l[i]? with
      | none => rw [hg] at h0; simp only at h0; omega
      | some t =>
        rw [hg] at h0
        simp only at h0 ⊢
        obtain ⟨e, h1, h2, _⟩ := I.rs i t hg (by omega)
        exact ⟨t.rs.toNat, e, by omega, h1, h2⟩
theorem reason_ok (L : LrM N h bb p s xb K U c u) (I : WInv s) (Rn : Rm s.l) {x : Int} (hx : 1 ≤ x.natAbs ∧ x.natAbs ≤ 16777216) :
    CallsH Tryz.prog 116 [.pointer (some ⟨xb, 0, none⟩), .int .i64 x] h fun r h' => Fr (fun _ => False) h h' ∧
      ((RS s.l x.natAbs < 0 ∧ r = .tuple #[.slice none 0 0, .bool false]) ∨ ∃ (k : Nat) (e : Ent) (A : Option Addr) (d : Nat), RS s.l x.natAbs = k ∧ s.cs[k]? = some e ∧ e.gone = false ∧ r = .tuple #[.slice A e.lits.length d, .bool true] ∧ SlAt h' A d (ints e.lits) ∧ ∀ y, blk A y → h.size ≤ y) := by
  obtain ⟨kc, uc, B, SK, SU, hK, hU⟩ := L.ex
  have b0 := B.at' 0 _ rfl
  have b1 := B.at' 1 _ rfl
  have M := L.M
  have T := M.T
  have hb := Rn.rs x.natAbs
  refine calls_of 20 [.tmp 4, .tmp 5] Go.Proofs.Tryz.func116 rfl rfl rfl (by kernel_rfl) (Nat.le_of_ble_eq_true rfl) ?_
  simp -implicitDefEqProofs (disch := omega) [go_sem]
  refine drawC [(0, 0), (1, 0), (2, 0), (3, 2), (4, 0), (5, 0), (6, 0), (7, 2), (8, 0), (9, 3), (10, 3), (11, 3), (12, 0), (13, 0), (14, 0), (15, 0)] (fun h' => hcell h' ⟨xb, 0, none⟩ = some (.pointer (some ⟨bb, 0, none⟩)) ∧ hcell h' ⟨xb, 1, none⟩ = some (.pointer (some ⟨p.tb, 0, none⟩))) mixed (by kernel_rfl) ⟨b0, b1⟩ ?_
  simp -implicitDefEqProofs (disch := omega) [go_sem]
  refine float2 (.pointer (some ⟨bb, 0, none⟩)) (fun h' hC => by obtain ⟨q0, q1⟩ := hC; simp -implicitDefEqProofs (disch := omega) [go_sem, q0]) ?_
  simp -implicitDefEqProofs (disch := omega) [go_sem]
  refine float2 (.pointer (some ⟨p.tb, 0, none⟩)) (fun h' hC => by obtain ⟨q0, q1⟩ := hC; simp -implicitDefEqProofs (disch := omega) [go_sem, q1]) ?_
  simp -implicitDefEqProofs (disch := omega) [go_sem]
  refine useC (variable_ok (x := x) (by omega) (by omega)) ?_
  rintro _ h2 ⟨rfl, rfl⟩
  refine ⟨⟨b0, b1⟩, ?_⟩
  simp -implicitDefEqProofs (disch := omega) [go_sem]
  refine useC (treason_ok T (by omega) (by omega)) ?_
  rintro _ h2 ⟨rfl, rfl⟩
  refine ⟨⟨b0, b1⟩, ?_⟩
  rw [rsi_nat]
  simp -implicitDefEqProofs (disch := omega) [go_sem]
  rcases rs_entry I x.natAbs with h0 | ⟨k, e, h1, h2, h3⟩
  · refine useC (clause_none M (id := RS s.l x.natAbs) (by omega) (by omega) (fun h => by omega)) ?_
    rintro _ h3 ⟨rfl, rfl⟩
    refine ⟨⟨b0, b1⟩, ?_⟩
    simp -implicitDefEqProofs (disch := omega) [go_sem]
    exact ⟨Fr.refl _ _, h0⟩
  · rw [h1]
    refine useC (clause_some M h2 h3) ?_
    rintro _ h4 ⟨A, d, rfl, S, own, f⟩
    refine ⟨⟨(f.cell (hcell_lt b0) id).trans b0, (f.cell (hcell_lt b1) id).trans b1⟩, ?_⟩
    simp -implicitDefEqProofs (disch := omega) [go_sem]
    exact ⟨f, k, rfl, e, h2, h3, A, d, ⟨rfl, rfl, rfl⟩, S, own⟩

theorem note_ok (L : LrM N h bb p s xb K U c u) {A : Option Addr} {n d : Nat} {r : List Int} (R : RowAt h A (ints r)) (hA : ∀ y, blk A y → y < h.size ∧ y ≠ xb ∧ ¬ blk U y) (hn : n = r.length) (hr : ∀ x ∈ r, x.natAbs ≤ 16777216) (hs : u.length + r.length < 2 ^ 40) :
    CallsH Tryz.prog 114 [.pointer (some ⟨xb, 0, none⟩), .slice A n d] h fun _ h' => ∃ U', LrM N h' bb p s xb K U' c (u ++ r.map fun x => (x.natAbs : Int)) ∧ Fr (fun y => y = xb ∨ blk U y) h h' ∧ ∀ y, blk U' y → blk U y ∨ h.size ≤ y := by
  subst hn
  have hNx := L.hx
  refine calls_of 24 [] Go.Proofs.Tryz.func114 rfl rfl rfl (by kernel_rfl) (Nat.le_of_ble_eq_true rfl) ?_
  simp -implicitDefEqProofs (disch := omega) [go_sem]
  refine loopK (fun ρ h' => ρ 0 = .pointer (some ⟨xb, 0, none⟩) ∧ ρ 6 = .slice A r.length d ∧ ρ 7 = .int .i64 r.length ∧ ∃ (i : Nat) (U' : Option Addr), ρ 8 = .int .i64 i ∧ i ≤ r.length ∧ LrM N h' bb p s xb K U' c (u ++ (r.take i).map fun x => (x.natAbs : Int)) ∧ Fr (fun y => y = xb ∨ blk U y) h h' ∧ ∀ y, blk U' y → blk U y ∨ h.size ≤ y)
    (fun ρ _ => r.length - (intOf (ρ 8)).toNat) (by kernel_rfl) ?_ ?_
  · exact ⟨rfl, rfl, rfl, 0, U, rfl, by omega, by simpa using L, Fr.refl _ _, fun y h => .inl h⟩
  · rintro ρ h1 ⟨r0, r6, r7, i, U', r8, hi, L1, f1, hU1⟩
    by_cases hin : i < r.length
    · have R1 := R.fr f1 fun y hy hb => (hb.elim (hA y hy).2.1 (hA y hy).2.2)
      obtain ⟨bk, off, rfl, hc⟩ := R1.get (by rw [ints_len]; omega)
      obtain ⟨y, hy⟩ := some_at hin
      have c0 := hc _ _ (ints_at hy)
      have htk : r.take (i + 1) = r.take i ++ [y] := take_at hy
      have hyr := hr y (List.mem_of_getElem? hy)
      obtain ⟨w, hw⟩ : ∃ w, w = u ++ (r.take i).map fun x => (x.natAbs : Int) := ⟨_, rfl⟩
      have hul : w.length = u.length + i := by rw [hw, List.length_append, List.length_map, List.length_take]; omega
      have hw' : w ++ [(y.natAbs : Int)] = u ++ (r.take (i + 1)).map fun x => (x.natAbs : Int) := by rw [htk, List.map_append, ← List.append_assoc, hw]; rfl
      rw [← hw] at L1
      obtain ⟨kc, uc, B, SK, SU, hK, hU⟩ := L1.ex
      have b3 := B.at' 3 _ rfl
      simp -implicitDefEqProofs (disch := omega) [go_sem, r0, r6, r7, r8, c0]
      refine drawC [(0, 0), (1, 0), (2, 0), (3, 0), (4, 2), (5, 0), (6, 3), (7, 3), (8, 3), (9, 0), (10, 0), (11, 4)] (fun h' => hcell h' ⟨xb, 3, none⟩ = some (.slice U' w.length uc)) mixed (by kernel_rfl) b3 ?_
      simp -implicitDefEqProofs (disch := omega) [go_sem, r0, r6, r7, r8]
      refine float2 (.slice U' w.length uc) (fun h' hC => by simp -implicitDefEqProofs (disch := omega) [go_sem, r0, hC]) ?_
      simp -implicitDefEqProofs (disch := omega) [go_sem, r0, r6, r7, r8]
      refine useC (variable_ok (x := y) (by omega) (by omega)) ?_
      rintro _ h2 ⟨rfl, rfl⟩
      refine ⟨b3, ?_⟩
      simp -implicitDefEqProofs (disch := omega) [go_sem, r0, r6, r7, r8]
      refine build1 rfl rfl ?_
      have f2 : Fr (fun _ => False) h2 (h2.push (.cells #[.int .i64 (y.natAbs : Int)] 3)) := (Fr.refl _ _).push
      refine ⟨(f2.cell (hcell_lt b3) id).trans b3, ?_⟩
      simp -implicitDefEqProofs (disch := omega) [go_sem, r0, r6, r7, r8]
      refine appendN (sz := 1) (vs := ints w) (ws := [.int .i64 (y.natAbs : Int)]) (by rw [Nat.mul_one]; exact SU.fr f2 fun _ _ => id) (by rw [ints_len, Nat.mul_one]) (SlAt.new (vs := [.int .i64 (y.natAbs : Int)])).row rfl (by omega) (by simp [Value.oneCell']) (by omega) (by omega) ?_
      intro A4 cap4 h4 S4 f4 hA4
      rw [Nat.mul_one, show ints w ++ [Value.int .i64 (y.natAbs : Int)] = ints (w ++ [(y.natAbs : Int)]) by rw [ints_append]; rfl] at S4
      have f24 : Fr (blk U') h2 h4 := (f2.mono fun _ _ h => h.elim).trans' f4 fun _ _ h => h
      have nx : ¬ blk U' xb := fun h => (hU _ h).2.1 rfl
      have B4 := B.fr f24 nx
      have b34 := B4.at' 3 _ rfl
      have fz4 := B4.fz
      refine ⟨b34, ?_⟩
      simp -implicitDefEqProofs (disch := omega) [go_sem, r0, r6, r7, r8, fz4, b34]
      have hA4' : ∀ z, blk A4 z → blk U' z ∨ h2.size ≤ z := fun z hz => (hA4 z hz).imp_right fun h => by rw [push_size] at h; omega
      have f25 : Fr (fun z => z = xb ∨ blk U' z) h2 (hset h4 ⟨xb, 3, none⟩ (.slice A4 (w.length + 1) cap4)) := (f24.mono fun _ _ h => .inr h).set (.inl rfl)
      have hxlt := B.lt
      refine ⟨⟨i + 1, by omega, by omega, A4, ?_, (f1.trans' f25 fun z hz h => h.imp_right fun h => ?_), fun z hz => ?_⟩, by omega⟩
      · rw [← List.map_take, ← hw']
        refine ⟨L1.M.fr f25 fun z hz => ?_, ⟨kc, cap4, ?_, ?_, ?_, hK, fun z hz => ?_⟩, L1.hx, L1.hN⟩
        · cases hpc : p.c z with
          | none => rfl
          | some t =>
            have h1 := L1.hN z t hpc
            rcases hz with rfl | hz
            · omega
            · have := (hU z hz).1; omega
        · have := B4.set (i := 3) (.slice A4 (w.length + 1) cap4) (by simp)
          simpa using this
        · exact SK.fr f25 fun z hz hb => hb.elim (hK z hz).2 fun h => (hU z h).2.2 hz
        · refine S4.keep (fun z hz => hset_other ?_) (by rw [hset_size]; exact Nat.le_refl _)
          rcases hA4' z hz with h | h
          · exact (hU z h).2.1
          · show z ≠ xb; omega
        · rcases hA4' z hz with h | h
          · exact hU z h
          · exact ⟨by omega, by omega, fun hk => by have := SK.blk_lt hk; omega⟩
      · rcases hU1 z h with h | h
        · exact h
        · omega
      · have hsz := f1.size
        rcases hA4' z hz with h | h
        · exact hU1 z h
        · exact .inr (by omega)
    · have e : i = r.length := by omega
      subst e
      rw [List.take_length] at L1
      simp -implicitDefEqProofs (disch := omega) [go_sem, r0, r6, r7, r8]
      exact ⟨U', L1, f1, hU1⟩
end
end Xe
