/- The reference's own Clean. -/
import Derived.Test.YtkghjecglmmloaaT17p
namespace Xe
open Go Tp Go.Proofs
set_option maxRecDepth 16000
set_option maxHeartbeats 1000000

theorem rise_insert {O : List Int} {x : Int} {j : Nat} (hr : Rise O) (hj : j ≤ O.length) (h1 : ∀ (q : Nat) y, q < j → O[q]? = some y → y.natAbs < x.natAbs) (h2 : ∀ y, O[j]? = some y → x.natAbs ≤ y.natAbs) (hx : ∀ y ∈ O, y.natAbs ≠ x.natAbs) :
    Rise (O.take j ++ [x] ++ O.drop j) := by
  have hO : O.take j ++ O.drop j = O := List.take_append_drop ..
  have hr' : (O.take j ++ O.drop j).Pairwise fun a b => a.natAbs < b.natAbs := by rw [hO]; exact hr
  rw [List.pairwise_append] at hr'
  unfold Rise
  rw [List.append_assoc, List.pairwise_append]
  have hd : ∀ b ∈ O.drop j, x.natAbs < b.natAbs := fun b hb => by
    have hbO : b ∈ O := List.mem_of_mem_drop hb
    have hne := hx b hbO
    obtain ⟨q, hq⟩ := List.getElem?_of_mem hb
    rw [List.getElem?_drop] at hq
    by_cases e : q = 0
    · subst e; have := h2 b hq; omega
    · have hl := (List.getElem?_eq_some_iff.1 hq).1
      obtain ⟨y, hy⟩ : ∃ y, O[j]? = some y := ⟨_, List.getElem?_eq_getElem (by omega)⟩
      have h3 := h2 y hy
      obtain ⟨g1, e1⟩ := List.getElem?_eq_some_iff.1 hy
      obtain ⟨g2, e2⟩ := List.getElem?_eq_some_iff.1 hq
      have := List.pairwise_iff_getElem.1 hr j (j + q) g1 g2 (by omega)
      rw [e1, e2] at this; omega
  refine ⟨hr'.1, ?_, fun a ha b hb => ?_⟩
  · show ([x] ++ O.drop j).Pairwise _
    rw [List.singleton_append, List.pairwise_cons]
    exact ⟨hd, hr'.2.1⟩
  · rw [List.mem_append, List.mem_singleton] at hb
    rcases hb with rfl | hb
    · obtain ⟨q, hq⟩ := List.getElem?_of_mem ha
      rw [List.getElem?_take] at hq
      split at hq
      · exact h1 q a (by assumption) hq
      · cases hq
    · exact hr'.2.2 a ha b hb
section
variable {h : Heap}
theorem slice_fromR {B : Option Addr} {d j : Nat} {vs : List Value} {kd : IntKind} (S : SlAt h B d vs) (hj : j ≤ vs.length) : ∃ B' d', sliceV (some (1, none)) (.slice B vs.length d) (some (.int kd (j : Int))) none = some (Value.slice B' (vs.length - j) d') ∧ RowAt h B' (vs.drop j) ∧ ∀ y, blk B' y → blk B y := by
  have hl := S.len
  rcases S.at' with ⟨rfl, rfl⟩ | ⟨bk, rfl, h2, h3, h4, h5⟩
  · have hv : vs = [] := List.eq_nil_of_length_eq_zero (by omega)
    subst hv
    have hj0 : j = 0 := by simpa using hj
    subst hj0
    refine ⟨none, 0, ?_, .inl rfl, fun _ h => h⟩
    unfold sliceV boundV
    simp
  · refine ⟨some ⟨bk, if d = j then 0 else 0 + j * 1, none⟩, d - j, ?_, RowAt.drop (i := j) (S.row) hl, fun y ⟨a, ha, hb⟩ => by cases ha; exact ⟨_, rfl, hb⟩⟩
    rw [slice_from2 (by omega) (by omega) hl, Int.toNat_natCast]
theorem Fr.of_new {N : Nat} {h h' : Heap} (f : Fr (fun y => N ≤ y) h h') (hn : h.size ≤ N) : Fr (fun _ => False) h h' := ⟨f.size, fun x hx _ => f.same x hx (by omega)⟩
theorem buildA {e : TypeId} {s b : Nat} {z : Value} {k : Value → Heap → Prop} (hk : ∀ X h', SlAt h' X 0 [] → (∀ y, blk X y → h.size ≤ y ∧ y < h'.size) → Fr (fun _ => False) h h' → k (.slice X 0 0) h') : @buildSliceK (some (e, s, b, z)) 0 [] ⟨h⟩ ⟨k⟩ :=
  build0 (hk _ _ (SlAt.new (vs := [])) (fun y ⟨a, ha, hb⟩ => by cases ha; subst hb; exact ⟨Nat.le_refl _, by rw [push_size]; exact Nat.lt_succ_self _⟩) ((Fr.refl _ _).push))
theorem buildB {e : TypeId} {b : Nat} {z v : Value} {k : Value → Heap → Prop} (hv : v.cells = #[v]) (hz : z.cells.size = 1) (hk : ∀ X h', SlAt h' X 1 [v] → (∀ y, blk X y → h.size ≤ y ∧ y < h'.size) → Fr (fun _ => False) h h' → k (.slice X 1 1) h') :
    @buildSliceK (some (e, 1, b, z)) 1 [(0, v)] ⟨h⟩ ⟨k⟩ :=
  build1 hv hz (hk _ _ (SlAt.new (vs := [v])) (fun y ⟨a, ha, hb⟩ => by cases ha; subst hb; exact ⟨Nat.le_refl _, by rw [push_size]; exact Nat.lt_succ_self _⟩) ((Fr.refl _ _).push))
theorem appendB {e : TypeId} {bt n m xc cap : Nat} {z : Value} {A xb : Option Addr} {vs ws : List Value} {k : Value → Heap → Prop} (S : SlAt h A cap vs) (hn : n = vs.length)
    (hw : RowAt h xb ws) (hm : m = ws.length) (hone : ∀ w ∈ ws, w.oneCell' = true) (hlen : (n + m) * bt ≤ 2 ^ 47) (hlm : n + m < 2 ^ 50)
    (hk : ∀ A' cap' h', SlAt h' A' cap' (vs ++ ws) → Fr (blk A) h h' → (∀ x, blk A' x → blk A x ∨ h.size ≤ x) → k (.slice A' (n + m) cap') h') :
    @appendK (some (e, 1, bt, z)) (.slice A n cap) (.slice xb m xc) ⟨h⟩ ⟨k⟩ :=
  appendN (sz := 1) (by rw [Nat.mul_one]; exact S) (by rw [Nat.mul_one]; exact hn) hw (by rw [Nat.mul_one]; exact hm) (by omega) hone hlen hlm (fun A' c' h' S' => hk A' c' h' (by rw [Nat.mul_one] at S'; exact S'))
theorem clean12_ok {A : Option Addr} {n c : Nat} {l : List Int} (R : RowAt h A (ints l)) (hn : n = l.length) (hs : n < 2 ^ 30) (hr : ∀ x ∈ l, -9223372036854775808 ≤ x ∧ x ≤ 9223372036854775807) (hcap : n ≤ c) :
    CallsH Try.prog 54 [.slice A n c] h fun r h' => (∃ o, CleanR l o ∧ match o with
      | none => r = .tuple #[.slice none 0 0, .bool true]
      | some L => ∃ A' c', r = .tuple #[.slice A' L.length c', .bool false] ∧ SlAt h' A' c' (ints L) ∧ ∀ y, blk A' y → h.size ≤ y) ∧ Fr (fun _ => False) h h' := by
  subst hn
  refine calls_of 71 [.tmp 2, .tmp 3] Go.Proofs.Try.func54 rfl rfl rfl (by kernel_rfl) (Nat.le_of_ble_eq_true rfl) ?_
  simp -implicitDefEqProofs (disch := omega) [go_sem]
  refine loopK (fun ρ h' => ρ 0 = .slice A l.length c ∧ Fr (fun _ => False) h h' ∧ ∃ (i : Nat) (O : List Int) (B : Option Addr) (d : Nat), ρ 5 = .int .i64 i ∧ i ≤ l.length ∧ ρ 4 = .slice B O.length d ∧ SlAt h' B d (ints O) ∧ (∀ y, blk B y → h.size ≤ y) ∧
      Rise O ∧ (∀ x, x ∈ O ↔ x ∈ l.take i ∧ okL x) ∧ (∀ x ∈ O, -x ∉ l) ∧ O.length ≤ i) (fun ρ _ => l.length - (intOf (ρ 5)).toNat) (by kernel_rfl) ?_ ?_
  · exact ⟨rfl, Fr.refl _ _, 0, [], none, 0, rfl, by omega, rfl, SlAt.nil h, fun y ⟨a, ha, _⟩ => (nomatch ha), List.Pairwise.nil, fun x => by simp, fun x hx => (nomatch hx), Nat.le_refl _⟩
  · rintro ρ h1 ⟨r0, f1, i, O, B, d, r5, hi, r4, S1, own1, hrise, hmem, hneg, hOl⟩
    have R1 := R.fr0 f1
    by_cases hil : i < l.length
    · obtain ⟨x, hx⟩ : ∃ x, l[i]? = some x := ⟨_, List.getElem?_eq_getElem hil⟩
      have hxm := List.mem_of_getElem? hx
      have hxr := hr x hxm
      obtain ⟨bk, off, hA, hc⟩ := R1.get (by rw [ints_len]; omega)
      have c0 := hc _ _ (ints_at hx)
      have etk : l.take (i + 1) = l.take i ++ [x] := by rw [List.take_add_one, hx]; rfl
      have htl : (l.take i).length = i := by rw [List.length_take]; omega
      subst hA
      simp -implicitDefEqProofs (disch := omega) [go_sem, r0, r4, r5, c0]
      refine drawK [(0, 0), (1, 0), (2, 0), (3, 1), (4, 3), (5, 0), (6, 0), (7, 0), (8, 0), (9, 0), (10, 0), (11, 0), (12, 0), (13, 1), (14, 3), (15, 0)] mixed (by kernel_rfl) ?_
      simp -implicitDefEqProofs (disch := omega) [go_sem, r0, r4, r5, c0]
      refine useC (var12_ok hxr.1 hxr.2) ?_
      rintro _ h2 ⟨rfl, rfl⟩
      have hok : var12 x = 0 ↔ ¬ okL x := by unfold var12 okL; split <;> omega
      by_cases hv : var12 x = 0
      · simp -implicitDefEqProofs (disch := omega) [go_sem, r0, r4, r5, hv]
        refine ⟨⟨f1, i + 1, by omega, by omega, O, B, d, ⟨rfl, rfl, rfl⟩, S1, own1, hrise, fun y => ?_, hneg, by omega⟩, by omega⟩
        rw [hmem, etk, List.mem_append, List.mem_singleton]
        refine ⟨fun h => ⟨.inl h.1, h.2⟩, fun h => ⟨h.1.resolve_right fun e => ?_, h.2⟩⟩
        rw [e] at h; exact hok.1 hv h.2
      · have hxo : okL x := Classical.byContradiction fun h => hv (hok.2 h)
        have hxo' := hxo
        unfold okL at hxo'
        simp -implicitDefEqProofs (disch := omega) [go_sem, r0, r4, r5, c0, hv]
        have Rt := R1.take i
        have eti : (ints l).take i = ints (l.take i) := by unfold ints; rw [List.map_take]
        rw [eti] at Rt
        refine useC (has12_ok Rt htl.symm (by omega) x) ?_
        rintro _ h2 ⟨rfl, rfl⟩
        by_cases hin : x ∈ l.take i
        · simp -implicitDefEqProofs (disch := omega) [go_sem, r0, r4, r5, hin]
          refine ⟨⟨f1, i + 1, by omega, by omega, O, B, d, ⟨rfl, rfl, rfl⟩, S1, own1, hrise, fun y => ?_, hneg, by omega⟩, by omega⟩
          rw [hmem, etk, List.mem_append, List.mem_singleton]
          refine ⟨fun h => ⟨.inl h.1, h.2⟩, fun h => ⟨h.1.elim (fun h => h) fun e => ?_, h.2⟩⟩
          rw [e]; exact hin
        · simp -implicitDefEqProofs (disch := omega) [go_sem, r0, r4, r5, c0, hin]
          refine useC (has12_ok R1 rfl (by omega) (-x)) ?_
          rintro _ h2 ⟨rfl, rfl⟩
          by_cases hng : -x ∈ l
          · simp -implicitDefEqProofs (disch := omega) [go_sem, r0, r4, r5, hng]
            exact ⟨⟨none, ⟨x, hxm, hxo, hng⟩, trivial⟩, f1⟩
          · have hne : ∀ y ∈ O, y.natAbs ≠ x.natAbs := fun y hy e => by
              by_cases e2 : y = x
              · exact hin (e2 ▸ ((hmem y).1 hy).1)
              · have e3 : -x = y := by omega
                exact hng (e3 ▸ List.mem_of_mem_take ((hmem y).1 hy).1)
            have hr5 : (intOf (ρ 5)).toNat = i := by rw [r5]; rfl
            simp -implicitDefEqProofs (disch := omega) [↓ stop_block (id := 2), go_sem, r0, r4, r5, hng]
            refine cutK (fun ρ h' => ρ 0 = .slice (some ⟨bk, off, none⟩) l.length c ∧ h' = h2 ∧ ρ 5 = .int .i64 i ∧ ρ 4 = .slice B O.length d ∧ ∃ j : Nat, ρ 6 = .int .i64 j ∧ j ≤ O.length ∧ (∀ (q : Nat) y, q < j → O[q]? = some y → y.natAbs < x.natAbs) ∧ ∀ y, O[j]? = some y → x.natAbs ≤ y.natAbs) ?_ ?_
            · simp -implicitDefEqProofs (disch := omega) [go_sem]
              refine loopK (fun ρ h' => ρ 0 = .slice (some ⟨bk, off, none⟩) l.length c ∧ h' = h2 ∧ ρ 5 = .int .i64 i ∧ ρ 4 = .slice B O.length d ∧ ∃ j : Nat, ρ 6 = .int .i64 j ∧ j ≤ O.length ∧ ∀ (q : Nat) y, q < j → O[q]? = some y → y.natAbs < x.natAbs)
                (fun ρ _ => O.length - (intOf (ρ 6)).toNat) (by kernel_rfl) ?_ ?_
              · exact ⟨by simp [put, r0], rfl, by simp [put, r5], by simp [put, r4], 0, rfl, by omega, fun q y hq => by omega⟩
              · clear r0 r4 r5
                rintro ρ h' ⟨r0, rfl, r5, r4, j, r6, hj, hlt⟩
                have hdl := S1.len
                rw [ints_len] at hdl
                simp -implicitDefEqProofs (disch := omega) [go_sem, r0, r4, r5, r6, c0]
                refine drawC [(0, 0), (1, 0), (2, 0), (3, 0), (4, 0), (5, 0), (6, 0), (7, 0), (8, 1), (10, 0), (11, 0), (12, 0), (13, 2), (9, 3), (14, 3), (15, 0), (16, 0)] (Eq h') mixed (by kernel_rfl) rfl ?_
                by_cases hjl : j < O.length
                · obtain ⟨y, hy⟩ : ∃ y, O[j]? = some y := ⟨_, List.getElem?_eq_getElem hjl⟩
                  have hyo := ((hmem y).1 (List.mem_of_getElem? hy)).2
                  unfold okL at hyo
                  have hvx : var12 x = x.natAbs := if_pos hxo'.2
                  have hvy : var12 y = y.natAbs := if_pos hyo.2
                  obtain ⟨bb, hB, _, _, hcB⟩ := S1.base (by rw [ints_len]; omega)
                  have cy := hcB _ _ (ints_at hy)
                  subst hB
                  simp -implicitDefEqProofs (disch := omega) [go_sem, r0, r4, r5, r6, c0, cy]
                  refine useC (var12_ok (by omega) (by omega)) ?_
                  rintro _ h2 ⟨rfl, rfl⟩
                  rw [hvy]
                  simp -implicitDefEqProofs (disch := omega) [go_sem, r0, r4, r5, r6, c0, cy]
                  refine useC (var12_ok (by omega) (by omega)) ?_
                  rintro _ h2 ⟨rfl, rfl⟩
                  rw [hvx]
                  by_cases hyx : y.natAbs < x.natAbs
                  · simp -implicitDefEqProofs (disch := omega) [go_sem, r0, r4, r5, r6, hyx]
                    refine ⟨⟨j + 1, by omega, by omega, fun q z hq hz => ?_⟩, by omega⟩
                    by_cases e : q = j
                    · rw [e, hy] at hz; cases hz; exact hyx
                    · exact hlt q z (by omega) hz
                  · simp -implicitDefEqProofs (disch := omega) [go_sem, r0, r4, r5, r6, hyx]
                    exact ⟨j, rfl, hj, hlt, fun z hz => by rw [hy] at hz; cases hz; omega⟩
                · simp -implicitDefEqProofs (disch := omega) [go_sem, r0, r4, r5, r6]
                  exact ⟨j, rfl, hj, hlt, fun y hy => by rw [List.getElem?_eq_none (by omega)] at hy; cases hy⟩
            · clear r0 r4 r5
              rintro ρ h' ⟨r0, rfl, r5, r4, j, r6, hj, hlt, hge⟩
              have hdl := S1.len
              rw [ints_len] at hdl
              simp -implicitDefEqProofs (disch := omega) [go_sem, r0, r4, r5, r6]
              obtain ⟨B', d', hsl, RD, hBB⟩ := slice_fromR (kd := .i64) S1 (j := j) (by rw [ints_len]; exact hj)
              rw [ints_len] at hsl
              refine drawT (.br2 [(1, 0), (2, 0), (3, 0), (5, 0), (6, 0), (7, 0), (11, 0), (12, 0), (13, 0)] 0 (.br2 [] 4 (.fin [(8, 3), (9, 3), (10, 3), (14, 3), (15, 0)]) 8 (.br2 [] 4 (.fin [(9, 3), (10, 3), (14, 3), (15, 0)]) 9 (.fin [(4, 3), (10, 3), (14, 3), (15, 0)]))) 8 (.br2 [] 0 (.br2 [] 4 (.fin [(9, 3), (10, 3), (14, 3), (15, 0)]) 9 (.fin [(4, 3), (10, 3), (14, 3), (15, 0)])) 9 (.fin [(0, 3), (4, 3), (10, 3), (14, 3), (15, 0)]))) mixed (by kernel_rfl) ?_
              simp -implicitDefEqProofs (disch := omega) [go_sem, r0, r4, r5, r6, c0, hsl]
              have RT := S1.row.take j
              rw [ints_take] at RT
              have nB : ∀ y, blk B y → ¬ h'.size ≤ y := fun y hy => by have := S1.blk_lt hy; omega
              have nB' : ∀ y, blk B' y → ¬ h'.size ≤ y := fun y hy => nB y (hBB y hy)
              have hOd : (ints O).drop j = ints (O.drop j) := by unfold ints; rw [List.map_drop]
              rw [hOd] at RD
              have hbk := hcell_lt c0
              refine ⟨?way0, ?way1, ?way2⟩
              case' way0 =>
                have zz : h'.size ≤ h'.size := Nat.le_refl _
                refine buildA ?_
                intro X0 g0 S0 o0 f0
                have Fg0 : Fr (fun y => h'.size ≤ y) h' g0 := f0.mono fun _ _ h => h.elim
                have cg0 := (Fg0.cell hbk (by omega)).trans c0
                have zg0 := Fg0.size
                simp -implicitDefEqProofs (disch := omega) [go_sem, r0, r4, r5, r6, hsl, cg0]
                refine ⟨?way3, ?way4, ?way5⟩
              case' way1 =>
                have zz : h'.size ≤ h'.size := Nat.le_refl _
                refine buildA ?_
                intro X0 g0 S0 o0 f0
                have Fg0 : Fr (fun y => h'.size ≤ y) h' g0 := f0.mono fun _ _ h => h.elim
                have cg0 := (Fg0.cell hbk (by omega)).trans c0
                have zg0 := Fg0.size
                simp -implicitDefEqProofs (disch := omega) [go_sem, r0, r4, r5, r6, hsl, cg0]
                refine ⟨?way6, ?way7⟩
              case' way3 =>
                refine appendB (vs := []) (ws := ints (O.take j)) S0 rfl (RT.fr Fg0 nB) (by rw [ints_len, List.length_take]; omega) ints_one (by omega) (by omega) ?_
                intro A4 c4 g1 S4 f4 h4
                rw [List.nil_append] at S4
                have Fg1 := Fg0.trans (f4.mono fun y _ hy => Nat.le_trans zz (o0 y hy).1)
                have o4 : ∀ y, blk A4 y → h'.size ≤ y := fun y hy => (h4 y hy).elim (fun h => Nat.le_trans zz (o0 y h).1) fun h => Nat.le_trans zg0 h
                have cg1 := (Fg1.cell hbk (by omega)).trans c0
                have zg1 := Fg1.size
                simp -implicitDefEqProofs (disch := omega) [go_sem, r0, r4, r5, r6, hsl, cg1]
                refine buildB rfl rfl ?_
                intro X9 g S9 o9 f9
                have Fg := Fg1.trans (f9.mono fun _ _ h => h.elim)
                have cg := (Fg.cell hbk (by omega)).trans c0
                have zg := Fg.size
                replace S4 := S4.fr f9 (fun _ _ h => h)
                have RX := S9.row
                simp -implicitDefEqProofs (disch := omega) [go_sem, r0, r4, r5, r6, hsl]
              case' way4 =>
                refine appendB (vs := []) (ws := ints (O.take j)) S0 rfl (RT.fr Fg0 nB) (by rw [ints_len, List.length_take]; omega) ints_one (by omega) (by omega) ?_
                intro A4 c4 g1 S4 f4 h4
                rw [List.nil_append] at S4
                have Fg1 := Fg0.trans (f4.mono fun y _ hy => Nat.le_trans zz (o0 y hy).1)
                have o4 : ∀ y, blk A4 y → h'.size ≤ y := fun y hy => (h4 y hy).elim (fun h => Nat.le_trans zz (o0 y h).1) fun h => Nat.le_trans zg0 h
                have cg1 := (Fg1.cell hbk (by omega)).trans c0
                have zg1 := Fg1.size
                simp -implicitDefEqProofs (disch := omega) [go_sem, r0, r4, r5, r6, hsl, cg1]
                refine buildB rfl rfl ?_
                intro X9 g S9 o9 f9
                have Fg := Fg1.trans (f9.mono fun _ _ h => h.elim)
                have cg := (Fg.cell hbk (by omega)).trans c0
                have zg := Fg.size
                replace S4 := S4.fr f9 (fun _ _ h => h)
                have RX := S9.row
                simp -implicitDefEqProofs (disch := omega) [go_sem, r0, r4, r5, r6, hsl]
              case' way6 =>
                refine appendB (vs := []) (ws := ints (O.take j)) S0 rfl (RT.fr Fg0 nB) (by rw [ints_len, List.length_take]; omega) ints_one (by omega) (by omega) ?_
                intro A4 c4 g1 S4 f4 h4
                rw [List.nil_append] at S4
                have Fg1 := Fg0.trans (f4.mono fun y _ hy => Nat.le_trans zz (o0 y hy).1)
                have o4 : ∀ y, blk A4 y → h'.size ≤ y := fun y hy => (h4 y hy).elim (fun h => Nat.le_trans zz (o0 y h).1) fun h => Nat.le_trans zg0 h
                have cg1 := (Fg1.cell hbk (by omega)).trans c0
                have zg1 := Fg1.size
                simp -implicitDefEqProofs (disch := omega) [go_sem, r0, r4, r5, r6, hsl, cg1]
                refine buildB rfl rfl ?_
                intro X9 g S9 o9 f9
                have Fg := Fg1.trans (f9.mono fun _ _ h => h.elim)
                have cg := (Fg.cell hbk (by omega)).trans c0
                have zg := Fg.size
                replace S4 := S4.fr f9 (fun _ _ h => h)
                have RX := S9.row
                simp -implicitDefEqProofs (disch := omega) [go_sem, r0, r4, r5, r6, hsl]
              case' way5 =>
                refine buildB rfl rfl ?_
                intro X9 g1 S9 o9 f9
                have Fg1 := Fg0.trans (f9.mono fun _ _ h => h.elim)
                have cg1 := (Fg1.cell hbk (by omega)).trans c0
                have zg1 := Fg1.size
                simp -implicitDefEqProofs (disch := omega) [go_sem, r0, r4, r5, r6, hsl, cg1]
                replace S0 := S0.fr f9 (fun _ _ h => h)
                refine appendB (vs := []) (ws := ints (O.take j)) S0 rfl (RT.fr Fg1 nB) (by rw [ints_len, List.length_take]; omega) ints_one (by omega) (by omega) ?_
                intro A4 c4 g S4 f4 h4
                rw [List.nil_append] at S4
                have Fg := Fg1.trans (f4.mono fun y _ hy => Nat.le_trans zz (o0 y hy).1)
                have o4 : ∀ y, blk A4 y → h'.size ≤ y := fun y hy => (h4 y hy).elim (fun h => Nat.le_trans zz (o0 y h).1) fun h => Nat.le_trans zg1 h
                have cg := (Fg.cell hbk (by omega)).trans c0
                have zg := Fg.size
                have RX := S9.row.fr f4 (fun y hy h => by have := (o9 y hy).1; have := (o0 y h).2; omega)
                simp -implicitDefEqProofs (disch := omega) [go_sem, r0, r4, r5, r6, hsl]
              case' way7 =>
                refine buildB rfl rfl ?_
                intro X9 g1 S9 o9 f9
                have Fg1 := Fg0.trans (f9.mono fun _ _ h => h.elim)
                have cg1 := (Fg1.cell hbk (by omega)).trans c0
                have zg1 := Fg1.size
                simp -implicitDefEqProofs (disch := omega) [go_sem, r0, r4, r5, r6, hsl, cg1]
                replace S0 := S0.fr f9 (fun _ _ h => h)
                refine appendB (vs := []) (ws := ints (O.take j)) S0 rfl (RT.fr Fg1 nB) (by rw [ints_len, List.length_take]; omega) ints_one (by omega) (by omega) ?_
                intro A4 c4 g S4 f4 h4
                rw [List.nil_append] at S4
                have Fg := Fg1.trans (f4.mono fun y _ hy => Nat.le_trans zz (o0 y hy).1)
                have o4 : ∀ y, blk A4 y → h'.size ≤ y := fun y hy => (h4 y hy).elim (fun h => Nat.le_trans zz (o0 y h).1) fun h => Nat.le_trans zg1 h
                have cg := (Fg.cell hbk (by omega)).trans c0
                have zg := Fg.size
                have RX := S9.row.fr f4 (fun y hy h => by have := (o9 y hy).1; have := (o0 y h).2; omega)
                simp -implicitDefEqProofs (disch := omega) [go_sem, r0, r4, r5, r6, hsl]
              case' way2 =>
                refine buildB rfl rfl ?_
                intro X9 g0 S9 o9 f9
                have Fg0 : Fr (fun y => h'.size ≤ y) h' g0 := f9.mono fun _ _ h => h.elim
                have cg0 := (Fg0.cell hbk (by omega)).trans c0
                have zg0 := Fg0.size
                simp -implicitDefEqProofs (disch := omega) [go_sem, r0, r4, r5, r6, hsl, cg0]
                have zz := zg0
                refine buildA ?_
                intro X0 g1 S0 o0 f0
                have Fg1 := Fg0.trans (f0.mono fun _ _ h => h.elim)
                have cg1 := (Fg1.cell hbk (by omega)).trans c0
                have zg1 := Fg1.size
                simp -implicitDefEqProofs (disch := omega) [go_sem, r0, r4, r5, r6, hsl, cg1]
                refine appendB (vs := []) (ws := ints (O.take j)) S0 rfl (RT.fr Fg1 nB) (by rw [ints_len, List.length_take]; omega) ints_one (by omega) (by omega) ?_
                intro A4 c4 g S4 f4 h4
                rw [List.nil_append] at S4
                have Fg := Fg1.trans (f4.mono fun y _ hy => Nat.le_trans zz (o0 y hy).1)
                have o4 : ∀ y, blk A4 y → h'.size ≤ y := fun y hy => (h4 y hy).elim (fun h => Nat.le_trans zz (o0 y h).1) fun h => Nat.le_trans zg1 h
                have cg := (Fg.cell hbk (by omega)).trans c0
                have zg := Fg.size
                have RX := (S9.row.fr0 f0).fr f4 (fun y hy h => by have := (o9 y hy).2; have := (o0 y h).1; omega)
                simp -implicitDefEqProofs (disch := omega) [go_sem, r0, r4, r5, r6, hsl]
              all_goals
                have hlt10 : (O.take j).length = j := by rw [List.length_take]; omega
                refine appendB (vs := ints (O.take j)) (ws := [.int .i64 x]) S4 (by rw [ints_len, hlt10]) RX rfl (by simp [Value.oneCell']) (by omega) (by omega) ?_
                intro A10 c10 k1 S10 f10 h10
                have Fk1 := Fg.trans (f10.mono fun y _ hy => o4 y hy)
                have zk1 := Fk1.size
                have o10 : ∀ y, blk A10 y → h'.size ≤ y := fun y hy => (h10 y hy).elim (o4 y) fun h => Nat.le_trans zg h
                simp -implicitDefEqProofs (disch := omega) [go_sem, r0, r4, r5, r6, hsl]
                refine appendB (vs := ints (O.take j) ++ [.int .i64 x]) (ws := ints (O.drop j)) S10 (by rw [List.length_append, ints_len, hlt10]; rfl) (RD.fr Fk1 nB') (by rw [ints_len, List.length_drop]) ints_one (by omega) (by omega) ?_
                intro A14 c14 k2 S14 f14 h14
                have Fk2 := Fk1.trans (f14.mono fun y _ hy => o10 y hy)
                have o14 : ∀ y, blk A14 y → h.size ≤ y := fun y hy => Nat.le_trans f1.size ((h14 y hy).elim (o10 y) fun h => Nat.le_trans zk1 h)
                have ei : ints (O.take j) ++ [.int .i64 x] ++ ints (O.drop j) = ints (O.take j ++ [x] ++ O.drop j) := by simp [ints]
                rw [ei] at S14
                have hnl : j + 1 + (O.length - j) = (O.take j ++ [x] ++ O.drop j).length := by rw [List.length_append, List.length_append, hlt10, List.length_drop]; rfl
                have hmO : ∀ y, y ∈ O.take j ++ [x] ++ O.drop j ↔ y ∈ O ∨ y = x := fun y => by
                  rw [List.mem_append, List.mem_append, List.mem_singleton]
                  conv => rhs; rw [← List.take_append_drop j O, List.mem_append]
                  constructor
                  · rintro ((h | h) | h)
                    · exact .inl (.inl h)
                    · exact .inr h
                    · exact .inl (.inr h)
                  · rintro ((h | h) | h)
                    · exact .inl (.inl h)
                    · exact .inr h
                    · exact .inl (.inr h)
                simp -implicitDefEqProofs (disch := omega) [go_sem, r0, r4, r5, r6]
                refine ⟨⟨f1.trans (Fk2.of_new (Nat.le_refl _)), i + 1, by omega, by omega, O.take j ++ [x] ++ O.drop j, A14, c14, ⟨rfl, hnl, rfl⟩, S14, o14, rise_insert hrise hj hlt hge hne, fun y => ?_, fun y hy => ?_, by rw [← hnl]; omega⟩, by omega⟩
                · rw [hmO, hmem, etk, List.mem_append, List.mem_singleton]
                  constructor
                  · rintro (h | rfl)
                    · exact ⟨.inl h.1, h.2⟩
                    · exact ⟨.inr rfl, hxo⟩
                  · rintro ⟨h | rfl, h2⟩
                    · exact .inl ⟨h, h2⟩
                    · exact .inr rfl
                · rcases (hmO y).1 hy with h | rfl
                  · exact hneg y h
                  · exact hng
    · have e : i = l.length := by omega
      subst e
      rw [List.take_length] at hmem
      simp -implicitDefEqProofs (disch := omega) [go_sem, r0, r4, r5]
      exact ⟨⟨some O, ⟨hrise, hmem⟩, B, d, ⟨rfl, rfl, rfl⟩, S1, own1⟩, f1⟩
end
end Xe
