/- Texts of pins; are two rows of pins the same? -/
import Derived.Test.YtgebeiaffjpcaaaGreatDoorE12b
namespace Xe
open Go Go.Proofs
set_option maxRecDepth 16000
set_option maxHeartbeats 1000000

theorem pinsText_step {l : List PinS} {i : Nat} {p : PinS} (hp : l[i]? = some p) : pinsText (l.take (i + 1)) = pinsText (l.take i) ++ (pinLine p ++ [10]) := by
  unfold pinsText
  rw [List.take_add_one, hp, List.map_append, List.flatten_append]
  simp
theorem pinsText_take_le {l : List PinS} {i : Nat} : (pinsText (l.take i)).length ≤ (pinsText l).length := by
  have h : l.take i ++ l.drop i = l := List.take_append_drop i l
  conv => rhs; rw [← h]
  unfold pinsText
  rw [List.map_append, List.flatten_append, List.length_append]
  omega
theorem pinLine_len (p : PinS) : (pinLine p).length = 5 + p.name.length + (verText p.v).length := by
  unfold pinLine
  simp only [List.length_append, List.length_cons, List.length_nil]
  omega
theorem pinsText_len_step {l : List PinS} {i : Nat} {p : PinS} (hp : l[i]? = some p) : (pinsText (l.take i)).length + (6 + p.name.length + (verText p.v).length) ≤ (pinsText l).length := by
  have h := @pinsText_take_le l (i + 1)
  rw [pinsText_step hp] at h
  simp only [List.length_append, List.length_cons, List.length_nil, pinLine_len] at h
  omega

section
variable {h : Heap} {A B : Option Addr} {n m c d : Nat} {ps qs : List PinS}
theorem rpinsText10_ok (R : PinsR h A ps) (hn : n = ps.length) (hl : n < 2 ^ 40) (hg : (pinsText ps).length ≤ 2 ^ 39) : CallsH Tryz.prog 29 [.slice A n c] h fun r h' => r = S (pinsText ps) ∧ Gr h h' := by
  subst hn
  refine calls_of 29 [.tmp 2] Go.Proofs.Tryz.func29 rfl rfl rfl ?_
  simp -implicitDefEqProofs (disch := omega) [go_sem]
  refine loopK (fun ρ h' => ρ 0 = .slice A ps.length c ∧ Gr h h' ∧ ∃ i : Nat, ρ 4 = .int .i64 i ∧ i ≤ ps.length ∧ ρ 3 = S (pinsText (ps.take i))) (fun ρ _ => ps.length - (intOf (ρ 4)).toNat) (by kernel_rfl) ?_ ?_
  · exact ⟨rfl, Fr.refl _ _, 0, rfl, by omega, rfl⟩
  · rintro ρ h1 ⟨r0, f1, i, r4, hi, r3⟩
    by_cases hil : i < ps.length
    · obtain ⟨p, hp⟩ : ∃ p, ps[i]? = some p := ⟨_, List.getElem?_eq_getElem hil⟩
      obtain ⟨bk, off, C, cc, D, dd, rfl, c0, c1, c2, c3, c4, c5, V⟩ := (R.gr f1).at' i p hp
      have hlen := pinsText_len_step hp
      simp -implicitDefEqProofs (disch := omega) [go_sem, r0, r4, r3]
      refine drawC [(0, 0), (1, 0), (2, 0), (3, 0), (4, 0), (5, 0), (6, 2), (7, 0), (8, 0), (9, 0), (10, 0), (11, 0), (12, 0), (13, 1), (14, 3), (15, 0), (16, 0), (17, 0)] (fun h' => Gr h1 h') (Fr.refl _ _) ?_
      simp -implicitDefEqProofs (disch := first | omega | (simp only [List.length_append, List.length_cons, List.length_nil]; omega)) [go_sem, r0, r4, r3]
      refine float2 (S p.name) (fun h' hC => by simp [go_sem, (hC.cell (hcell_lt c0) id).trans c0]) ?_
      simp -implicitDefEqProofs (disch := first | omega | (simp only [List.length_append, List.length_cons, List.length_nil]; omega)) [go_sem, r0, r4, r3, c0, c1, c2, c3, c4, c5]
      refine useC (vtext03_ok V (by omega)) ?_
      rintro _ h2 ⟨rfl, f2⟩
      refine ⟨f2, ?_⟩
      simp -implicitDefEqProofs (disch := first | omega | (simp only [List.length_append, List.length_cons, List.length_nil]; omega)) [go_sem, r0, r4, r3]
      refine ⟨⟨f1.trans f2, i + 1, by omega, by omega, ?_⟩, by omega⟩
      rw [pinsText_step hp]
      simp [pinLine]
    · have e : i = ps.length := by omega
      subst e
      rw [List.take_length] at r3
      simp -implicitDefEqProofs (disch := omega) [go_sem, r0, r4, r3]
      exact f1
end
end Xe

/- A store of a whole value into a new block. -/
namespace Xe
open Go Go.Proofs
set_option maxRecDepth 16000
set_option maxHeartbeats 1000000
section
variable {h : Heap} {e : TypeId} {fz : Nat × Nat} {j : Heap → Prop}
theorem hset_push_new {vs : List Value} {o : Nat} {v : Value} : hset (h.push (.cells vs.toArray e fz)) ⟨h.size, o, none⟩ v = h.push (.cells (vs.set o v).toArray e fz) := by
  unfold hset
  apply Array.ext_getElem?
  intro i
  simp only [Array.getElem?_modify, Array.getElem?_push]
  by_cases hi : i = h.size
  · subst hi
    simp
  · have hi' : ¬ h.size = i := fun x => hi x.symm
    simp [hi, hi']
theorem stores_all {b : Nat} : ∀ {l ws vs : List Value}, b = h.size → vs.length = ws.length + l.length → vs.take ws.length = ws →
    storesX l b ws.length (h.push (.cells vs.toArray e)) j = (l.all (·.oneCell') = true ∧ j (h.push (.cells (ws ++ l).toArray e)))
  | [], ws, vs, hb, hv, hw => by
    have : vs = ws := by rw [← hw, List.take_of_length_le]; simp at hv; omega
    subst this
    simp [storesX]
  | v :: l, ws, vs, hb, hv, hw => by
    subst hb
    simp only [List.length_cons] at hv
    have hlt : ws.length < vs.length := by omega
    have h1 : hcell (h.push (.cells vs.toArray e)) ⟨h.size, ws.length, none⟩ = some vs[ws.length] := by
      rw [hcell_push_new]; simp [hlt]
    have h2 : hfrz (h.push (.cells vs.toArray e)) ⟨h.size, ws.length, none⟩ = false := hfrz_push_new
    have ht : (vs.set ws.length v).take (ws ++ [v]).length = ws ++ [v] := by
      rw [List.take_set, List.length_append, List.length_singleton, List.take_add_one, hw, List.getElem?_eq_getElem hlt]
      simp
    have ih := @stores_all h.size l (ws ++ [v]) (vs.set ws.length v) rfl (by simp; omega) ht
    rw [List.length_append, List.length_singleton] at ih
    show (_ ∧ storesX l h.size (ws.length + 1) (hset (h.push (.cells vs.toArray e)) ⟨h.size, ws.length, none⟩ v) j) = _
    rw [hset_push_new, ih, h1, h2]
    simp only [List.all_cons, List.append_assoc, List.cons_append, List.nil_append, Option.isSome_some, Bool.and_true, Bool.not_false, Bool.and_eq_true, and_assoc]
theorem store_all {l vs : List Value} {n : Nat} (hl : l.length = n) (hv : vs.length = n) : @storeK (some n) (.pointer (some ⟨h.size, 0, none⟩)) (.agg l.toArray) ⟨h.push (.cells vs.toArray e)⟩ ⟨j⟩ = @guardK (l.all (·.oneCell')) ⟨j (h.push (.cells l.toArray e))⟩ := by
  rw [store_agg]
  show (_ ∧ storesX l h.size ([] : List Value).length (h.push (.cells vs.toArray e)) j) = (_ = true ∧ j (h.push (.cells l.toArray e)))
  rw [stores_all rfl (by simp; omega) rfl]
  simp only [hl, true_and, List.nil_append]
variable {a b c d f g a' b' c' d' f' g' p q r s p' q' r' s' : Value}
@[go_sem high] theorem store_a2 : @storeK (some 2) (.pointer (some ⟨h.size, 0, none⟩)) (.agg #[a, b]) ⟨h.push (.cells #[a', b'] e)⟩ ⟨j⟩ = @guardK ([a, b].all (·.oneCell')) ⟨j (h.push (.cells #[a, b] e))⟩ := store_all (l := [a, b]) (vs := [a', b']) rfl rfl

@[go_sem high] theorem store_a6 : @storeK (some 6) (.pointer (some ⟨h.size, 0, none⟩)) (.agg #[a, b, c, d, f, g]) ⟨h.push (.cells #[a', b', c', d', f', g'] e)⟩ ⟨j⟩ = @guardK ([a, b, c, d, f, g].all (·.oneCell')) ⟨j (h.push (.cells #[a, b, c, d, f, g] e))⟩ := store_all (l := [a, b, c, d, f, g]) (vs := [a', b', c', d', f', g']) rfl rfl
@[go_sem high] theorem store_a10 : @storeK (some 10) (.pointer (some ⟨h.size, 0, none⟩)) (.agg #[a, b, c, d, f, g, p, q, r, s]) ⟨h.push (.cells #[a', b', c', d', f', g', p', q', r', s'] e)⟩ ⟨j⟩ = @guardK ([a, b, c, d, f, g, p, q, r, s].all (·.oneCell')) ⟨j (h.push (.cells #[a, b, c, d, f, g, p, q, r, s] e))⟩ :=
  store_all (l := [a, b, c, d, f, g, p, q, r, s]) (vs := [a', b', c', d', f', g', p', q', r', s']) rfl rfl

@[go_sem] theorem S_one {l : List UInt8} : (S l).oneCell' = true := rfl
end
end Xe

/- The program's rows of pins: a map of the names seen; their text. -/
namespace Xe
open Go Go.Proofs
set_option maxRecDepth 16000
set_option maxHeartbeats 1000000

/-! ### A map whose keys are texts -/
/-- the keys that a map holds -/
def KeysAt (h : Heap) (r : Nat) (l : List (List UInt8)) : Prop := ∃ es c, h[r]? = some (.map es c) ∧ es.toList.map (·.key) = strs l
theorem findNow_str (x : List UInt8) : ∀ (es : List MapEntry) (l : List (List UInt8)) (i : Nat), es.map (·.key) = strs l →
    ∃ o, Instr.findNow .string (S x) es i = some o ∧ (o.isSome = decide (x ∈ l)) ∧ ∀ j u, o = some (j, u) → i ≤ j ∧ (es[j - i]?).map (·.key) = some (S x)
  | [], [], i, _ => ⟨none, rfl, by simp, by simp⟩
  | [], a :: l, i, h => by simp [strs] at h
  | e :: es, [], i, h => by simp [strs] at h
  | e :: es, a :: l, i, h => by
    simp only [strs, List.map_cons, List.cons.injEq] at h
    obtain ⟨h1, h2⟩ := h
    have hs : Instr.sameNow .string (S x) e.key = some (decide (x = a)) := by
      rw [h1]
      show some ((⟨x.toArray⟩ : ByteArray) == ⟨a.toArray⟩) = _
      rw [beq_toListBytes, ByteArray.toList_eq, ByteArray.toList_eq, Bool.beq_eq_decide_eq]
    unfold Instr.findNow
    rw [hs]
    by_cases ex : x = a
    · subst ex
      simp only [decide_true]
      refine ⟨_, rfl, by simp, fun j u hj => ?_⟩
      simp only [Option.some.injEq, Prod.mk.injEq] at hj
      obtain ⟨rfl, _⟩ := hj
      simp [h1]
    · simp only [decide_eq_false ex]
      obtain ⟨o, g1, g2, g3⟩ := findNow_str x es l (i + 1) h2
      refine ⟨o, g1, by rw [g2]; simp [ex], fun j u hj => ?_⟩
      obtain ⟨k1, k2⟩ := g3 j u hj
      refine ⟨by omega, ?_⟩
      rw [show j - i = (j - (i + 1)) + 1 by omega, List.getElem?_cons_succ]
      exact k2
theorem KeysAt.look {P : Program} {h : Heap} {r t : Nat} {l : List (List UInt8)} {kt e : TypeId} {z : Value} (K : KeysAt h r l) (ht : mapS P t = some (kt, e)) (hz : zeroOf P e = some z) (x : List UInt8) :
    ∃ v, lookSV P t (.map (some r)) ⟨x.toArray⟩ true h = some (.tuple #[v, .bool (decide (x ∈ l))]) := by
  obtain ⟨es, c, h1, h2⟩ := K
  obtain ⟨o, g1, g2, _⟩ := findNow_str x es.toList l 0 h2
  refine ⟨(o.map (·.2)).getD z, ?_⟩
  unfold lookSV
  have hm : mapOf h (.map (some r)) = some (r, es, c) := by unfold mapOf; simp only [h1]
  have hf : findS es ⟨x.toArray⟩ = some o := g1
  rw [ht, hm]
  simp only [Option.bind_some, hz, hf, Option.map_some, if_true, g2]
theorem KeysAt.put {P : Program} {h : Heap} {r t : Nat} {l : List (List UInt8)} {kt e : TypeId} {k : Heap → Prop} {v : Value} (K : KeysAt h r l) (ht : mapS P t = some (kt, e)) (x : List UInt8) (hx : x ∉ l)
    (hk : ∀ h', KeysAt h' r (l ++ [x]) → h'.size = h.size → (∀ y, y ≠ r → h'[y]? = h[y]?) → k h') : mapUpQ P t (.map (some r)) (S x) v h k := by
  obtain ⟨es, c, h1, h2⟩ := K
  obtain ⟨o, g1, g2, g3⟩ := findNow_str x es.toList l 0 h2
  rw [decide_eq_false hx] at g2
  obtain rfl : o = none := by cases o with
    | none => rfl
    | some o => cases g2
  show mapUpSX P t (.map (some r)) ⟨x.toArray⟩ v h k
  have hm : mapOf h (.map (some r)) = some (r, es, c) := by unfold mapOf; simp only [h1]
  refine ⟨kt, e, r, es, c, none, ht, hm, g1, (fun i u hh => by cases hh), hk _ ⟨_, _, by rw [Array.getElem?_setIfInBounds_self_of_lt (Array.getElem?_eq_some_iff.1 h1).1], ?_⟩ (by simp) fun y hy => ?_⟩
  · simp only [Array.toList_push, List.map_append, h2, List.map_cons, List.map_nil]
    unfold strs
    rw [List.map_append]; rfl
  · rw [Array.getElem?_setIfInBounds_ne (fun e => hy e.symm)]
theorem KeysAt.fr {U : Nat → Prop} {h h' : Heap} {r : Nat} {l : List (List UInt8)} (K : KeysAt h r l) (f : Fr U h h') (hu : ¬ U r) : KeysAt h' r l := by
  obtain ⟨es, c, h1, h2⟩ := K
  exact ⟨es, c, by rw [f.same r (Array.getElem?_eq_some_iff.1 h1).1 hu]; exact h1, h2⟩
@[go_sem] theorem makeMap_eqS {h : Heap} {k : Value → Heap → Prop} : @makeMapK ⟨h⟩ ⟨k⟩ = k (.map (some h.size)) (h.push (.map #[] 0)) := rfl

theorem KeysAt.new {h : Heap} : KeysAt (h.push (.map #[] 0)) h.size [] := ⟨#[], 0, by simp, rfl⟩

theorem Fr.newB {U : Nat → Prop} {h h1 h2 : Heap} {r : Nat} (f : Fr U h h1) (hs : h2.size = h1.size) (he : ∀ y, y ≠ r → h2[y]? = h1[y]?) (hr : U r) : Fr U h h2 :=
  ⟨by rw [hs]; exact f.size, fun x hx hu => by rw [he x (fun e => hu (e ▸ hr))]; exact f.same x hx hu⟩

section
variable {h : Heap} {A B : Option Addr} {n m c d : Nat} {ps qs : List PinS}
theorem names_take {l : List PinS} {i : Nat} {p : PinS} (hp : l[i]? = some p) : (l.take (i + 1)).map PinS.name = (l.take i).map PinS.name ++ [p.name] := by
  rw [List.take_add_one, hp, List.map_append]; rfl
theorem pinsM_ok (R : PinsR h A ps) (hn : n = ps.length) (hl : n < 2 ^ 40) (hb : ∀ p ∈ ps, p.name.length < 2 ^ 40) : CallsH Tryz.prog 23 [.slice A n c] h fun r h' => PinsE ps r ∧ Gr h h' := by
  subst hn
  refine calls_of 44 [.tmp 2, .tmp 3] Go.Proofs.Tryz.func23 rfl rfl rfl ?_
  simp -implicitDefEqProofs (disch := first | omega | (simp only [push_size, hset_size]; done) | (simp only [push_size, hset_size]; omega)) [go_sem]
  obtain ⟨H, hH⟩ : ∃ H, H = h.push (.map #[] 0) := ⟨_, rfl⟩
  have K0 : KeysAt H h.size [] := by rw [hH]; exact .new
  have f0 : Gr h H := by rw [hH]; exact (Fr.refl _ _).push
  have hHs : H.size = h.size + 1 := by rw [hH, push_size]
  refine loopK (fun ρ h' => ρ 4 = .map (some h.size) ∧ ρ 10 = .slice A ps.length c ∧ ρ 11 = .int .i64 ps.length ∧ Gb h.size H h' ∧ ∃ i : Nat, ρ 12 = .int .i64 i ∧ i ≤ ps.length ∧ PinsTo ps i ∧ KeysAt h' h.size ((ps.take i).map PinS.name)) (fun ρ _ => ps.length - (intOf (ρ 12)).toNat) (by kernel_rfl) ?_ ?_
  · exact ⟨rfl, rfl, rfl, by rw [hH]; exact Fr.refl _ _, 0, rfl, by omega, .zero, by rw [← hH]; exact K0⟩
  · rintro ρ h1 ⟨r4, r10, r11, f1, i, r12, hi, I, K⟩
    have f01 : Gr h h1 := f0.upto f1 (Nat.le_refl _)
    have hs1 := f1.size
    by_cases hil : i < ps.length
    · obtain ⟨p, hp⟩ : ∃ p, ps[i]? = some p := ⟨_, List.getElem?_eq_getElem hil⟩
      obtain ⟨bk, off, C, cc, D, dd, rfl, c0, c1, c2, c3, c4, c5, V⟩ := (R.gr f01).at' i p hp
      simp -implicitDefEqProofs (disch := first | omega | (simp only [push_size, hset_size]; done) | (simp only [push_size, hset_size]; omega)) [go_sem, r4, r10, r11, r12, c0, c1, c2, c3, c4, c5]
      obtain ⟨H1, hH1⟩ : ∃ H1, H1 = h1.push (.cells #[S p.name, .int .u64 p.v.maj, .int .u64 p.v.min, .int .u64 p.v.pat, .slice C p.v.pre.length cc, .slice D p.v.build.length dd] 100) := ⟨_, rfl⟩
      rw [← hH1]
      have g1 : Gr h1 H1 := by rw [hH1]; exact (Fr.refl _ _).push
      have gs : H1.size = h1.size + 1 := by rw [hH1, push_size]
      have K1 := K.fr g1 id
      have e0 : hcell H1 ⟨h1.size, 0, none⟩ = some (S p.name) := by rw [hH1]; exact hcell_push_lit
      have e1 : hcell H1 ⟨h1.size, 1, none⟩ = some (.int .u64 p.v.maj) := by rw [hH1]; exact hcell_push_lit
      have e2 : hcell H1 ⟨h1.size, 2, none⟩ = some (.int .u64 p.v.min) := by rw [hH1]; exact hcell_push_lit
      have e3 : hcell H1 ⟨h1.size, 3, none⟩ = some (.int .u64 p.v.pat) := by rw [hH1]; exact hcell_push_lit
      have e4 : hcell H1 ⟨h1.size, 4, none⟩ = some (.slice C p.v.pre.length cc) := by rw [hH1]; exact hcell_push_lit
      have e5 : hcell H1 ⟨h1.size, 5, none⟩ = some (.slice D p.v.build.length dd) := by rw [hH1]; exact hcell_push_lit
      clear hH1
      obtain ⟨lv, hlv⟩ := KeysAt.look (P := Tryz.prog) (z := .int .i64 0) K1 ms91 (by kernel_rfl) p.name
      simp -implicitDefEqProofs (disch := first | omega | (simp only [push_size, hset_size]; done) | (simp only [push_size, hset_size]; omega)) [go_sem, r4, r10, r11, r12, hlv, e0]
      refine useC (nameGood_ok p.name (hb p (List.mem_of_getElem? hp))) ?_
      rintro _ h2 ⟨rfl, f2⟩
      cases hn1 : nameOk p.name with
      | false =>
        simp -implicitDefEqProofs (disch := first | omega | (simp only [push_size, hset_size]; done) | (simp only [push_size, hset_size]; omega)) [go_sem, r4, r10, r11, r12]
        exact ⟨.bad (PinsTo.bad1 hp hn1) (by decide), (f01.trans g1).trans f2⟩
      | true =>
        have q0 := (f2.cell (by omega) id).trans e0
        have q1 := (f2.cell (by omega) id).trans e1
        have q2 := (f2.cell (by omega) id).trans e2
        have q3 := (f2.cell (by omega) id).trans e3
        have q4 := (f2.cell (by omega) id).trans e4
        have q5 := (f2.cell (by omega) id).trans e5
        simp -implicitDefEqProofs (disch := first | omega | (simp only [push_size, hset_size]; done) | (simp only [push_size, hset_size]; omega)) [go_sem, r4, r10, r11, r12, q0, q1, q2, q3, q4, q5]
        refine useC (vgoodP_ok ((V.gr g1).gr f2)) ?_
        rintro _ h3 ⟨rfl, f3⟩
        have f13 := (f01.trans g1).trans (f2.trans f3)
        have fb := f1.trans (g1.trans (f2.trans f3)).gb
        have q0 := (f3.cell (by have := f2.size; omega) id).trans q0
        cases hv : verOk p.v with
        | false =>
          simp -implicitDefEqProofs (disch := first | omega | (simp only [push_size, hset_size]; done) | (simp only [push_size, hset_size]; omega)) [go_sem, r4, r10, r11, r12]
          exact ⟨.bad (PinsTo.bad2 hp hv) (by decide), f13⟩
        | true =>
          by_cases hm : p.name ∈ (ps.take i).map PinS.name
          · have hm2 := hm
            rw [List.map_take] at hm2
            simp -implicitDefEqProofs (disch := first | omega | (simp only [push_size, hset_size]; done) | (simp only [push_size, hset_size]; omega)) [go_sem, r4, r10, r11, r12, hm2]
            exact ⟨.bad (PinsTo.bad3 hp hm) (by decide), f13⟩
          · have K3 : KeysAt h3 h.size _ := K1.fr (f2.trans f3) id
            have hm2 := hm
            rw [List.map_take] at hm2
            simp -implicitDefEqProofs (disch := first | omega | (simp only [push_size, hset_size]; done) | (simp only [push_size, hset_size]; omega)) [go_sem, r4, r10, r11, r12, hm2, q0]
            refine KeysAt.put K3 ms91 p.name hm fun h4 K4 hs4 he4 => ?_
            simp -implicitDefEqProofs (disch := first | omega | (simp only [push_size, hset_size]; done) | (simp only [push_size, hset_size]; omega)) [go_sem, r4, r10, r11, r12]
            refine ⟨⟨Fr.newB fb hs4 he4 (Nat.le_refl _), i + 1, by omega, by omega, I.next hp hn1 hv hm, ?_⟩, by omega⟩
            rw [← List.map_take, names_take hp]; exact K4
    · have e : i = ps.length := by omega
      subst e
      simp -implicitDefEqProofs (disch := first | omega | (simp only [push_size, hset_size]; done) | (simp only [push_size, hset_size]; omega)) [go_sem, r4, r10, r11, r12]
      exact ⟨.good I.fin, f01⟩
end
end Xe

/- The program's text of pins. -/
namespace Xe
open Go Go.Proofs
set_option maxRecDepth 16000
set_option maxHeartbeats 1000000
section
variable {h : Heap} {A B : Option Addr} {n m c d : Nat} {ps qs : List PinS}
theorem ptextP_ok (G : Glob h) (R : PinsR h A ps) (hn : n = ps.length) (hl : n < 2 ^ 40) (hg : (pinsText ps).length ≤ 2 ^ 39) : CallsH Tryz.prog 19 [.slice A n c] h fun r h' => r = S (pinsText ps) ∧ Gr h h' := by
  subst hn
  have hs := G.size
  refine calls_of 24 [.tmp 2] Go.Proofs.Tryz.func19 rfl rfl rfl ?_
  simp -implicitDefEqProofs (disch := first | omega | (simp only [push_size, hset_size]; done) | (simp only [push_size, hset_size]; omega)) [go_sem]
  obtain ⟨H, hH⟩ : ∃ H, H = h.push (.cells #[.pointer none, .slice none 0 0] 61) := ⟨_, rfl⟩
  rw [← hH]
  have f0 : Gr h H := by rw [hH]; exact (Fr.refl _ _).push
  have B0 : Bld h.size [] H := by rw [hH]; exact Bld.new
  have hHs : H.size = h.size + 1 := by rw [hH, push_size]
  clear hH
  refine loopK (fun ρ h' => ρ 3 = .pointer (some ⟨h.size, 0, none⟩) ∧ ρ 6 = .slice A ps.length c ∧ ρ 7 = .int .i64 ps.length ∧ Gb h.size H h' ∧ ∃ i : Nat, ρ 8 = .int .i64 i ∧ i ≤ ps.length ∧ Bld h.size (pinsText (ps.take i)) h') (fun ρ _ => ps.length - (intOf (ρ 8)).toNat) (by kernel_rfl) ?_ ?_
  · exact ⟨rfl, rfl, rfl, Fr.refl _ _, 0, rfl, by omega, B0⟩
  · rintro ρ h1 ⟨r3, r6, r7, f1, i, r8, hi, B1⟩
    have f01 : Gr h h1 := f0.upto f1 (Nat.le_refl _)
    have hs1 := f1.size
    have G1 := G.gr f01
    by_cases hil : i < ps.length
    · obtain ⟨p, hp⟩ : ∃ p, ps[i]? = some p := ⟨_, List.getElem?_eq_getElem hil⟩
      have hlen := pinsText_len_step hp
      obtain ⟨bk, off, C, cc, D, dd, rfl, c0, c1, c2, c3, c4, c5, V⟩ := (R.gr f01).at' i p hp
      simp -implicitDefEqProofs (disch := first | omega | (simp only [push_size, hset_size]; done) | (simp only [push_size, hset_size]; omega)) [go_sem, r3, r6, r7, r8, c0, c1, c2, c3, c4, c5]
      obtain ⟨H1, hH1⟩ : ∃ H1, H1 = h1.push (.cells #[S p.name, .int .u64 p.v.maj, .int .u64 p.v.min, .int .u64 p.v.pat, .slice C p.v.pre.length cc, .slice D p.v.build.length dd] 100) := ⟨_, rfl⟩
      rw [← hH1]
      have g1 : Gr h1 H1 := by rw [hH1]; exact (Fr.refl _ _).push
      have gs : H1.size = h1.size + 1 := by rw [hH1, push_size]
      have e0 : hcell H1 ⟨h1.size, 0, none⟩ = some (S p.name) := by rw [hH1]; exact hcell_push_lit
      have e1 : hcell H1 ⟨h1.size, 1, none⟩ = some (.int .u64 p.v.maj) := by rw [hH1]; exact hcell_push_lit
      have e2 : hcell H1 ⟨h1.size, 2, none⟩ = some (.int .u64 p.v.min) := by rw [hH1]; exact hcell_push_lit
      have e3 : hcell H1 ⟨h1.size, 3, none⟩ = some (.int .u64 p.v.pat) := by rw [hH1]; exact hcell_push_lit
      have e4 : hcell H1 ⟨h1.size, 4, none⟩ = some (.slice C p.v.pre.length cc) := by rw [hH1]; exact hcell_push_lit
      have e5 : hcell H1 ⟨h1.size, 5, none⟩ = some (.slice D p.v.build.length dd) := by rw [hH1]; exact hcell_push_lit
      clear hH1
      refine drawC [(0, 0), (1, 2), (2, 0), (3, 0), (4, 0), (5, 1), (6, 3), (7, 0), (8, 0), (9, 4)] (fun h' => Gr H1 h') (Fr.refl _ _) ?_
      simp -implicitDefEqProofs (disch := first | omega | (simp only [List.length_append, List.length_cons, List.length_nil]; omega)) [go_sem, r3, r6, r7, r8]
      refine float2 (S p.name) (fun h' hC => by simp [go_sem, (hC.cell (by omega) id).trans e0]) ?_
      simp -implicitDefEqProofs (disch := first | omega | (simp only [List.length_append, List.length_cons, List.length_nil]; omega)) [go_sem, r3, r6, r7, r8, e1, e2, e3, e4, e5]
      refine useC (vtextP_ok (G1.gr g1) (V.gr g1) (by omega)) ?_
      rintro _ h2 ⟨rfl, f2⟩
      refine ⟨f2, ?_⟩
      simp -implicitDefEqProofs (disch := first | omega | (simp only [List.length_append, List.length_cons, List.length_nil]; omega)) [go_sem, r3, r6, r7, r8]
      refine useC (writeString_ok ((B1.gr g1).gr f2) (112 :: 105 :: 110 :: 32 :: (p.name ++ 32 :: (verText p.v ++ [10]))) (by
        simp only [List.length_cons, List.length_append, List.length_nil]; omega)) ?_
      rintro v h3 ⟨B3, f3⟩
      simp -implicitDefEqProofs (disch := first | omega | (simp only [List.length_append, List.length_cons, List.length_nil]; omega)) [go_sem, r3, r6, r7, r8]
      refine ⟨⟨f1.trans ((g1.trans f2).gb.trans f3), i + 1, by omega, by omega, ?_⟩, by omega⟩
      rw [pinsText_step hp]
      have e : pinLine p ++ [10] = 112 :: 105 :: 110 :: 32 :: (p.name ++ 32 :: (verText p.v ++ [10])) := by simp [pinLine]
      rw [e]; exact B3
    · have e : i = ps.length := by omega
      subst e
      rw [List.take_length] at B1
      simp -implicitDefEqProofs (disch := first | omega | (simp only [push_size, hset_size]; done) | (simp only [push_size, hset_size]; omega)) [go_sem, r3, r6, r7, r8]
      refine useC (string_ok B1) ?_
      rintro _ h2 ⟨rfl, _, f2⟩
      simp -implicitDefEqProofs (disch := first | omega | (simp only [push_size, hset_size]; done) | (simp only [push_size, hset_size]; omega)) [go_sem]
      exact f01.upto f2 (Nat.le_refl _)
end
end Xe

/- Certificates: in memory; which are right; are two the same? (the document's side) -/
namespace Xe
open Go Go.Proofs
set_option maxRecDepth 16000
set_option maxHeartbeats 1000000

structure StepS where
  kind : Int
  lits : List Int
  deriving DecidableEq
structure CertS where
  core : List Int
  steps : List StepS
  deriving DecidableEq
def StepOk (s : StepS) : Prop := 0 ≤ s.kind ∧ s.kind ≤ 2 ∧ s.lits.length ≤ 4096 ∧ CleanR s.lits (some s.lits)
/-- up to here the places rise -/
def CoreTo (l : List Int) (i : Nat) : Prop := ∀ (k : Nat) x, k < i → l[k]? = some x → 0 ≤ x ∧ x ≤ 1048575 ∧ ∀ y, 0 < k → l[k - 1]? = some y → y < x
def StepsTo (l : List StepS) (i : Nat) : Prop := ∀ (k : Nat) s, k < i → l[k]? = some s → StepOk s
def CertOk (c : CertS) : Prop := c.core.length ≤ 65536 ∧ c.steps.length ≤ 1048576 ∧ CoreTo c.core c.core.length ∧ StepsTo c.steps c.steps.length
/-- yes or no -/
def Tells (p : Prop) (r : Value) : Prop := ∃ b : Bool, r = .bool b ∧ (b = true ↔ p)
theorem Tells.yes {p : Prop} (h : p) : Tells p (.bool true) := ⟨true, rfl, fun _ => h, fun _ => rfl⟩
theorem Tells.no {p : Prop} (h : ¬ p) : Tells p (.bool false) := ⟨false, rfl, (fun e => by cases e), fun x => absurd x h⟩
theorem CoreTo.zero {l : List Int} : CoreTo l 0 := fun k x hk => by omega
theorem StepsTo.zero {l : List StepS} : StepsTo l 0 := fun k x hk => by omega
theorem CoreTo.next {l : List Int} {i : Nat} {x : Int} (I : CoreTo l i) (hx : l[i]? = some x) (h0 : 0 ≤ x) (h1 : x ≤ 1048575) (h2 : ∀ y, 0 < i → l[i - 1]? = some y → y < x) : CoreTo l (i + 1) := fun k z hk hz => by
  by_cases e : k = i
  · subst e; rw [hx] at hz; cases hz; exact ⟨h0, h1, h2⟩
  · exact I k z (by omega) hz
theorem StepsTo.next {l : List StepS} {i : Nat} {x : StepS} (I : StepsTo l i) (hx : l[i]? = some x) (h0 : StepOk x) : StepsTo l (i + 1) := fun k z hk hz => by
  by_cases e : k = i
  · subst e; rw [hx] at hz; cases hz; exact h0
  · exact I k z (by omega) hz
theorem core_bad {c : CertS} {i : Nat} {x : Int} (hx : c.core[i]? = some x) (h : ¬ (0 ≤ x ∧ x ≤ 1048575 ∧ ∀ y, 0 < i → c.core[i - 1]? = some y → y < x)) : ¬ CertOk c := fun g => h (g.2.2.1 i x (List.getElem?_eq_some_iff.1 hx).1 hx)
theorem steps_bad {c : CertS} {i : Nat} {x : StepS} (hx : c.steps[i]? = some x) (h : ¬ StepOk x) : ¬ CertOk c := fun g => h (g.2.2.2 i x (List.getElem?_eq_some_iff.1 hx).1 hx)

theorem rise_lengthE : ∀ {c : List Int} {a n : Nat}, Rise c → (∀ x ∈ c, a < x.natAbs ∧ x.natAbs ≤ n) → c.length ≤ n - a := by
  intro c
  induction c with
  | nil => intro a n _ _; simp
  | cons x c ih =>
    intro a n hr hb
    unfold Rise at hr
    rw [List.pairwise_cons] at hr
    have hx := hb x (List.mem_cons_self ..)
    have := ih (a := x.natAbs) (n := n) hr.2 fun y hy => ⟨hr.1 y hy, (hb y (List.mem_cons_of_mem _ hy)).2⟩
    rw [List.length_cons]
    omega
theorem CleanR.len {l L : List Int} (h : CleanR l (some L)) : L.length ≤ 16777216 :=
  rise_lengthE (a := 0) (n := 16777216) h.1 fun x hx => by have := ((h.2 x).1 hx).2; unfold okL at this; omega
/-- an i64's numbers -/
def I64 (x : Int) : Prop := -9223372036854775808 ≤ x ∧ x ≤ 9223372036854775807
structure StepsR (h : Heap) (A : Option Addr) (ss : List StepS) : Prop where
  at' : ∀ (i : Nat) s, ss[i]? = some s → ∃ bk off X x, A = some ⟨bk, off, none⟩ ∧ hcell h ⟨bk, off + i * 2, none⟩ = some (.int .i64 s.kind) ∧ hcell h ⟨bk, off + i * 2 + 1, none⟩ = some (.slice X s.lits.length x) ∧
    RowAt h X (ints s.lits) ∧ s.lits.length ≤ x ∧ s.lits.length < 2 ^ 40 ∧ I64 s.kind ∧ ∀ y ∈ s.lits, I64 y
theorem StepsR.gr {h h' : Heap} {A : Option Addr} {ps : List StepS} (R : StepsR h A ps) (f : Gr h h') : StepsR h' A ps := ⟨fun i p hp => by
  obtain ⟨bk, off, X, x, e, c0, c1, V, r⟩ := R.at' i p hp
  have g : ∀ o v, hcell h ⟨bk, o, none⟩ = some v → hcell h' ⟨bk, o, none⟩ = some v := fun o v hv => (f.cell (hcell_lt hv) id).trans hv
  exact ⟨bk, off, X, x, e, g _ _ c0, g _ _ c1, V.fr0 f, r⟩⟩
theorem StepsR.nil {h : Heap} {A : Option Addr} : StepsR h A [] := ⟨fun i p hp => by simp at hp⟩
structure CertR (h : Heap) (c : CertS) (A : Option Addr) (a : Nat) (B : Option Addr) (b : Nat) : Prop where
  core : RowAt h A (ints c.core)
  steps : StepsR h B c.steps
  ca : c.core.length ≤ a
  cb : c.steps.length ≤ b
  la : c.core.length < 2 ^ 40
  lb : c.steps.length < 2 ^ 40
  ia : ∀ x ∈ c.core, I64 x
theorem CertR.gr {h h' : Heap} {c : CertS} {A : Option Addr} {a : Nat} {B : Option Addr} {b : Nat} (V : CertR h c A a B b) (f : Gr h h') : CertR h' c A a B b :=
  ⟨V.core.fr0 f, V.steps.gr f, V.ca, V.cb, V.la, V.lb, V.ia⟩
def certV (c : CertS) (A : Option Addr) (a : Nat) (B : Option Addr) (b : Nat) : Value := .agg #[.slice A c.core.length a, .slice B c.steps.length b]

section
variable {h : Heap} {A B A' B' : Option Addr} {a b a' b' : Nat} {c c' : CertS}
theorem good23_ok (V : CertR h c A a B b) : CallsH Tryz.prog 17 [certV c A a B b] h fun r h' => Tells (CertOk c) r ∧ Gr h h' := by
  have hla := V.la; have hlb := V.lb
  obtain ⟨H, hH⟩ : ∃ H, H = h.push (.cells #[.slice A c.core.length a, .slice B c.steps.length b] 26) := ⟨_, rfl⟩
  have f0 : Gr h H := by rw [hH]; exact (Fr.refl _ _).push
  have g0 : hcell H ⟨h.size, 0, none⟩ = some (.slice A c.core.length a) := by rw [hH]; exact hcell_push_lit
  have g1 : hcell H ⟨h.size, 1, none⟩ = some (.slice B c.steps.length b) := by rw [hH]; exact hcell_push_lit
  have hHs : H.size = h.size + 1 := by rw [hH, push_size]
  refine calls_of 99 [.tmp 2] Go.Proofs.Tryz.func17 rfl rfl rfl ?_
  unfold certV
  by_cases h1' : c.core.length ≤ 65536
  case neg =>
    simp -implicitDefEqProofs (disch := first | omega | (simp only [push_size, hset_size]; done) | (simp only [push_size, hset_size]; omega)) [go_sem]
    exact ⟨.no fun g => h1' g.1, (Fr.refl _ _).push⟩
  by_cases h2 : c.steps.length ≤ 1048576
  case neg =>
    simp -implicitDefEqProofs (disch := first | omega | (simp only [push_size, hset_size]; done) | (simp only [push_size, hset_size]; omega)) [go_sem]
    exact ⟨.no fun g => h2 g.2.1, (Fr.refl _ _).push⟩
  simp -implicitDefEqProofs (disch := first | omega | (simp only [push_size, hset_size]; done) | (simp only [push_size, hset_size]; omega)) [go_sem]
  rw [← hH]
  clear hH
  refine loopK (fun ρ h' => ρ 1 = .pointer (some ⟨h.size, 0, none⟩) ∧ h' = H ∧ ∃ i : Nat, ρ 3 = .int .i64 i ∧ i ≤ c.core.length ∧ CoreTo c.core i) (fun ρ _ => c.core.length - (intOf (ρ 3)).toNat) (by kernel_rfl) ?_ ?_
  · exact ⟨rfl, rfl, 0, rfl, by omega, .zero⟩
  rintro ρ h' ⟨r1, rfl, i, r3, hi, I⟩
  by_cases hin : i < c.core.length
  · obtain ⟨bk, off, rfl, hc⟩ := (V.core.fr0 f0).get (by rw [ints_len]; omega)
    obtain ⟨x, hx⟩ : ∃ x, c.core[i]? = some x := ⟨_, List.getElem?_eq_getElem hin⟩
    have c0 := hc _ _ (ints_at hx)
    simp -implicitDefEqProofs (disch := first | omega | (simp only [push_size, hset_size]; done) | (simp only [push_size, hset_size]; omega)) [go_sem, r1, r3, g0]
    refine drawK [(0, 0), (1, 1), (2, 0), (3, 0), (4, 1), (5, 0), (6, 0), (7, 0), (8, 1), (9, 0), (10, 0), (11, 1), (12, 0), (13, 0), (14, 0), (15, 0), (16, 0), (17, 0), (18, 0), (19, 1), (20, 0), (21, 0), (22, 1), (23, 0), (24, 1), (25, 0), (26, 0), (27, 0), (28, 1), (29, 0), (30, 0), (31, 0)] ?_
    by_cases x0 : 0 ≤ x
    case neg =>
      simp -implicitDefEqProofs (disch := first | omega | (simp only [push_size, hset_size]; done) | (simp only [push_size, hset_size]; omega)) [go_sem, r1, r3, g0, c0]
      exact ⟨.no (core_bad hx fun g => x0 g.1), f0⟩
    by_cases x1 : x ≤ 1048575
    case neg =>
      simp -implicitDefEqProofs (disch := first | omega | (simp only [push_size, hset_size]; done) | (simp only [push_size, hset_size]; omega)) [go_sem, r1, r3, g0, c0]
      exact ⟨.no (core_bad hx fun g => x1 g.2.1), f0⟩
    cases i with
    | zero =>
      simp only [Nat.add_zero] at c0
      simp -implicitDefEqProofs (disch := first | omega | (simp only [push_size, hset_size]; done) | (simp only [push_size, hset_size]; omega)) [go_sem, r1, r3, g0, c0]
      exact ⟨⟨1, by omega, by omega, I.next hx x0 x1 fun y hy => by omega⟩, by omega⟩
    | succ i =>
      obtain ⟨y, hy⟩ : ∃ y, c.core[i]? = some y := ⟨_, List.getElem?_eq_getElem (by omega)⟩
      have c1 := hc _ _ (ints_at hy)
      have e1 : ((i + 1 : Nat) : Int) - 1 = (i : Int) := by omega
      by_cases hxy : y < x
      · simp -implicitDefEqProofs (disch := first | omega | (simp only [push_size, hset_size]; done) | (simp only [push_size, hset_size]; omega)) [go_sem, r1, r3, g0, c0, c1, e1]
        refine ⟨⟨i + 1 + 1, by omega, by omega, I.next hx x0 x1 fun z _ hz => ?_⟩, by omega⟩
        rw [show i + 1 - 1 = i by omega, hy] at hz; cases hz; exact hxy
      · simp -implicitDefEqProofs (disch := first | omega | (simp only [push_size, hset_size]; done) | (simp only [push_size, hset_size]; omega)) [go_sem, r1, r3, g0, c0, c1, e1]
        exact ⟨.no (core_bad hx fun g => hxy (g.2.2 y (by omega) (by rw [show i + 1 - 1 = i by omega]; exact hy))), f0⟩
  · have e : i = c.core.length := by omega
    subst e
    simp -implicitDefEqProofs (disch := first | omega | (simp only [push_size, hset_size]; done) | (simp only [push_size, hset_size]; omega)) [go_sem, r1, r3, g0]
    refine loopK (fun ρ h'' => ρ 1 = .pointer (some ⟨h.size, 0, none⟩) ∧ Gr h' h'' ∧ ∃ i : Nat, ρ 4 = .int .i64 i ∧ i ≤ c.steps.length ∧ StepsTo c.steps i) (fun ρ _ => c.steps.length - (intOf (ρ 4)).toNat) (by kernel_rfl) ?_ ?_
    · exact ⟨by simp [put, r1], Fr.refl _ _, 0, rfl, by omega, .zero⟩
    rintro ρ' h1 ⟨s1, f1, j, s4, hj, J⟩
    have f01 := f0.trans f1
    have hs1 := f1.size
    have k1 := (f1.cell (by omega) id).trans g1
    by_cases hjn : j < c.steps.length
    · obtain ⟨s, hs⟩ : ∃ s, c.steps[j]? = some s := ⟨_, List.getElem?_eq_getElem hjn⟩
      obtain ⟨bk, off, X, x, rfl, c0, c1, RX, hX, hX2, hk, hl⟩ := (V.steps.gr f01).at' j s hs
      simp -implicitDefEqProofs (disch := first | omega | (simp only [push_size, hset_size]; done) | (simp only [push_size, hset_size]; omega)) [go_sem, s1, s4, k1, c0, c1]
      obtain ⟨H2, hH2⟩ : ∃ H2, H2 = h1.push (.cells #[.int .i64 s.kind, .slice X s.lits.length x] 40) := ⟨_, rfl⟩
      rw [← hH2]
      have q1 : Gr h1 H2 := by rw [hH2]; exact (Fr.refl _ _).push
      have q2 : hcell H2 ⟨h1.size, 0, none⟩ = some (.int .i64 s.kind) := by rw [hH2]; exact hcell_push_lit
      have q3 : hcell H2 ⟨h1.size, 1, none⟩ = some (.slice X s.lits.length x) := by rw [hH2]; exact hcell_push_lit
      have hH2s : H2.size = h1.size + 1 := by rw [hH2, push_size]
      clear hH2
      refine useC (clean12_ok (RX.fr0 q1) rfl hX2 hl hX) ?_
      rintro _ h3 ⟨⟨o, hcl, hr⟩, f3⟩
      have p2 := (f3.cell (by omega) id).trans q2
      have p3 := (f3.cell (by omega) id).trans q3
      have f13 := f1.trans (q1.trans f3)
      cases o with
      | none =>
        subst hr
        have bad : ¬ StepOk s := fun g => by cases CleanR.uniq hcl g.2.2.2
        by_cases y0 : 0 ≤ s.kind
        case neg =>
          simp -implicitDefEqProofs (disch := first | omega | (simp only [push_size, hset_size]; done) | (simp only [push_size, hset_size]; omega)) [go_sem, s1, s4, p2, p3]
          exact ⟨.no (steps_bad hs bad), f0.trans f13⟩
        by_cases y1 : s.kind ≤ 2
        case neg =>
          simp -implicitDefEqProofs (disch := first | omega | (simp only [push_size, hset_size]; done) | (simp only [push_size, hset_size]; omega)) [go_sem, s1, s4, p2, p3]
          exact ⟨.no (steps_bad hs bad), f0.trans f13⟩
        by_cases y2 : s.lits.length ≤ 4096
        case neg =>
          simp -implicitDefEqProofs (disch := first | omega | (simp only [push_size, hset_size]; done) | (simp only [push_size, hset_size]; omega)) [go_sem, s1, s4, p2, p3]
          exact ⟨.no (steps_bad hs bad), f0.trans f13⟩
        simp -implicitDefEqProofs (disch := first | omega | (simp only [push_size, hset_size]; done) | (simp only [push_size, hset_size]; omega)) [go_sem, s1, s4, p2, p3]
        exact ⟨.no (steps_bad hs bad), f0.trans f13⟩
      | some L =>
        obtain ⟨A2, c2, rfl, SL, own⟩ := hr
        by_cases y0 : 0 ≤ s.kind
        case neg =>
          simp -implicitDefEqProofs (disch := first | omega | (simp only [push_size, hset_size]; done) | (simp only [push_size, hset_size]; omega)) [go_sem, s1, s4, p2, p3]
          exact ⟨.no (steps_bad hs fun g => y0 g.1), f0.trans f13⟩
        by_cases y1 : s.kind ≤ 2
        case neg =>
          simp -implicitDefEqProofs (disch := first | omega | (simp only [push_size, hset_size]; done) | (simp only [push_size, hset_size]; omega)) [go_sem, s1, s4, p2, p3]
          exact ⟨.no (steps_bad hs fun g => y1 g.2.1), f0.trans f13⟩
        by_cases y2 : s.lits.length ≤ 4096
        case neg =>
          simp -implicitDefEqProofs (disch := first | omega | (simp only [push_size, hset_size]; done) | (simp only [push_size, hset_size]; omega)) [go_sem, s1, s4, p2, p3]
          exact ⟨.no (steps_bad hs fun g => y2 g.2.2.1), f0.trans f13⟩
        simp -implicitDefEqProofs (disch := first | omega | (simp only [push_size, hset_size]; done) | (simp only [push_size, hset_size]; omega)) [go_sem, s1, s4, p2, p3]
        refine useC (same12_ok SL.row (RX.fr0 (q1.trans f3)) rfl rfl (by have := hcl.len; omega) hX2) ?_
        rintro _ h4 ⟨rfl, rfl⟩
        by_cases e : L = s.lits
        · subst e
          simp -implicitDefEqProofs (disch := first | omega | (simp only [push_size, hset_size]; done) | (simp only [push_size, hset_size]; omega)) [go_sem, s1, s4]
          exact ⟨⟨f13, j + 1, by omega, by omega, J.next hs ⟨y0, y1, y2, hcl⟩⟩, by omega⟩
        · simp -implicitDefEqProofs (disch := first | omega | (simp only [push_size, hset_size]; done) | (simp only [push_size, hset_size]; omega)) [go_sem, s1, s4, e]
          exact ⟨.no (steps_bad hs fun g => e (Option.some.inj (CleanR.uniq hcl g.2.2.2))), f0.trans f13⟩
    · have e : j = c.steps.length := by omega
      subst e
      simp -implicitDefEqProofs (disch := first | omega | (simp only [push_size, hset_size]; done) | (simp only [push_size, hset_size]; omega)) [go_sem, s1, s4, k1]
      exact ⟨.yes ⟨h1', h2, I, J⟩, f01⟩
theorem steps_eq {ps qs : List StepS} (hl : ps.length = qs.length) (hd : ∀ (k : Nat) p q, ps[k]? = some p → qs[k]? = some q → p = q) : ps = qs := by
  apply List.ext_getElem?
  intro k
  by_cases hk : k < ps.length
  · rw [List.getElem?_eq_getElem hk, List.getElem?_eq_getElem (by omega)]
    exact congrArg some (hd k _ _ (List.getElem?_eq_getElem hk) (List.getElem?_eq_getElem (by omega)))
  · rw [List.getElem?_eq_none (by omega), List.getElem?_eq_none (by omega)]
theorem same23_ok (V : CertR h c A a B b) (W : CertR h c' A' a' B' b') : CallsH Tryz.prog 37 [certV c A a B b, certV c' A' a' B' b'] h fun r h' => r = .bool (decide (c = c')) ∧ Gr h h' := by
  obtain ⟨co, ss⟩ := c
  obtain ⟨co', ss'⟩ := c'
  have hla := V.la; have hlb := V.lb
  have hla' := W.la; have hlb' := W.lb
  simp only at hla hlb hla' hlb'
  obtain ⟨H, hH⟩ : ∃ H, H = (h.push (.cells #[.slice A co.length a, .slice B ss.length b] 26)).push (.cells #[.slice A' co'.length a', .slice B' ss'.length b'] 26) := ⟨_, rfl⟩
  have f0 : Gr h H := by rw [hH]; exact (Fr.refl _ _).push.push
  have g0 : hcell H ⟨h.size, 0, none⟩ = some (.slice A co.length a) := by rw [hH, hcell_push_old (by rw [push_size]; omega)]; exact hcell_push_lit
  have g1 : hcell H ⟨h.size, 1, none⟩ = some (.slice B ss.length b) := by rw [hH, hcell_push_old (by rw [push_size]; omega)]; exact hcell_push_lit
  have g2 : hcell H ⟨h.size + 1, 0, none⟩ = some (.slice A' co'.length a') := by rw [hH, hcell_push_at (by rw [push_size])]; rfl
  have g3 : hcell H ⟨h.size + 1, 1, none⟩ = some (.slice B' ss'.length b') := by rw [hH, hcell_push_at (by rw [push_size])]; rfl
  have hHs : H.size = h.size + 2 := by rw [hH, push_size, push_size]
  refine calls_of 57 [.tmp 4] Go.Proofs.Tryz.func37 rfl rfl rfl ?_
  unfold certV
  simp -implicitDefEqProofs (disch := first | omega | (simp only [push_size, hset_size]; done) | (simp only [push_size, hset_size]; omega)) [go_sem]
  rw [← hH]
  clear hH
  refine useC (same12_ok (V.core.fr0 f0) (W.core.fr0 f0) rfl rfl hla hla') ?_
  rintro _ h2 ⟨rfl, rfl⟩
  by_cases e1 : co = co'
  case neg =>
    simp -implicitDefEqProofs (disch := first | omega | (simp only [push_size, hset_size]; done) | (simp only [push_size, hset_size]; omega)) [go_sem, e1]
    exact f0
  subst e1
  by_cases e2 : ss.length = ss'.length
  case neg =>
    have : ¬ ss = ss' := fun e => e2 (by rw [e])
    simp -implicitDefEqProofs (disch := first | omega | (simp only [push_size, hset_size]; done) | (simp only [push_size, hset_size]; omega)) [go_sem, g0, g1, g2, g3, e2, this]
    exact f0
  simp -implicitDefEqProofs (disch := first | omega | (simp only [push_size, hset_size]; done) | (simp only [push_size, hset_size]; omega)) [go_sem, g0, g1, g2, g3, e2]
  refine loopK (fun ρ h' => ρ 2 = .pointer (some ⟨h.size, 0, none⟩) ∧ ρ 3 = .pointer (some ⟨h.size + 1, 0, none⟩) ∧ h' = h2 ∧ ∃ i : Nat, ρ 5 = .int .i64 i ∧ i ≤ ss.length ∧ ∀ (k : Nat) p q, k < i → ss[k]? = some p → ss'[k]? = some q → p = q) (fun ρ _ => ss.length - (intOf (ρ 5)).toNat) (by kernel_rfl) ?_ ?_
  · exact ⟨rfl, by simp [put, push_size], rfl, 0, rfl, by omega, fun k p q hk => by omega⟩
  rintro ρ h' ⟨r2, r3, rfl, i, r5, hi, hd⟩
  by_cases hil : i < ss.length
  · obtain ⟨p, hp⟩ : ∃ p, ss[i]? = some p := ⟨_, List.getElem?_eq_getElem hil⟩
    obtain ⟨q, hq⟩ : ∃ q, ss'[i]? = some q := ⟨_, List.getElem?_eq_getElem (by omega)⟩
    obtain ⟨bk, off, X, x, rfl, c0, c1, RX, hX, hX2, hk, hl⟩ := (V.steps.gr f0).at' i p hp
    obtain ⟨bk', off', X', x', rfl, d0, d1, RX', hX', hX2', hk', hl'⟩ := (W.steps.gr f0).at' i q hq
    simp -implicitDefEqProofs (disch := first | omega | (simp only [push_size, hset_size]; done) | (simp only [push_size, hset_size]; omega)) [go_sem, r2, r3, r5, g1, g3]
    refine drawC [(0, 0), (1, 1), (2, 0), (3, 0), (4, 0), (5, 1), (6, 0), (7, 1), (8, 0), (9, 0), (10, 0), (11, 1), (12, 0), (13, 0), (14, 0), (15, 1), (16, 0), (17, 0), (18, 0), (19, 1), (20, 0), (21, 1), (22, 0), (23, 0), (24, 0), (25, 1), (26, 3), (27, 0), (28, 0)] (Eq h') rfl ?_
    by_cases e : p.kind = q.kind
    · rw [← e] at d0
      simp -implicitDefEqProofs (disch := first | omega | (simp only [push_size, hset_size]; done) | (simp only [push_size, hset_size]; omega)) [go_sem, r2, r3, r5, g1, g3, c0, d0, c1, d1]
      refine useC (same12_ok RX RX' rfl rfl hX2 hX2') ?_
      rintro _ h4 ⟨rfl, rfl⟩
      by_cases el : p.lits = q.lits
      · simp -implicitDefEqProofs (disch := first | omega | (simp only [push_size, hset_size]; done) | (simp only [push_size, hset_size]; omega)) [go_sem, r2, r3, r5, el]
        refine ⟨⟨i + 1, by omega, by omega, fun k x y hk hx hy => ?_⟩, by omega⟩
        by_cases ek : k = i
        · subst ek
          rw [hp] at hx; rw [hq] at hy
          rw [← Option.some.inj hx, ← Option.some.inj hy]
          cases p; cases q; simp_all
        · exact hd k x y (by omega) hx hy
      · have : ¬ ss = ss' := fun e3 => el (by subst e3; rw [hp] at hq; rw [Option.some.inj hq])
        simp -implicitDefEqProofs (disch := first | omega | (simp only [push_size, hset_size]; done) | (simp only [push_size, hset_size]; omega)) [go_sem, r2, r3, r5, el, this]
        exact f0
    · have : ¬ ss = ss' := fun e3 => e (by subst e3; rw [hp] at hq; rw [Option.some.inj hq])
      simp -implicitDefEqProofs (disch := first | omega | (simp only [push_size, hset_size]; done) | (simp only [push_size, hset_size]; omega)) [go_sem, r2, r3, r5, g1, g3, c0, d0, e, this]
      exact f0
  · have e : i = ss.length := by omega
    subst e
    have : ss = ss' := steps_eq e2 fun k p q hp hq => hd k p q (List.getElem?_eq_some_iff.1 hp).1 hp hq
    simp -implicitDefEqProofs (disch := first | omega | (simp only [push_size, hset_size]; done) | (simp only [push_size, hset_size]; omega)) [go_sem, r2, r3, r5, g1, this]
    exact f0
end
end Xe

/- Certificates: the program's side. -/
namespace Xe
open Go Go.Proofs
set_option maxRecDepth 16000
set_option maxHeartbeats 1000000
section
variable {h : Heap} {A B A' B' : Option Addr} {a b a' b' : Nat} {c c' : CertS}
theorem equalInts_ok {B : Option Addr} {a b : List Int} {n m c d : Nat} (R : RowAt h A (ints a)) (S : RowAt h B (ints b)) (hn : n = a.length) (hm : m = b.length) (hs1 : n < 2 ^ 40) (hs2 : m < 2 ^ 40) :
    CallsH Tryz.prog 92 [.slice A n c, .slice B m d] h fun r h' => r = .bool (decide (a = b)) ∧ h' = h := by
  subst hn hm
  refine calls_of 26 [.tmp 4] Go.Proofs.Tryz.func92 rfl rfl rfl ?_
  by_cases hne : a.length = b.length
  · simp -implicitDefEqProofs (disch := omega) [go_sem, hne]
    rw [← hne]
    refine loopK (fun ρ h' => ρ 0 = .slice A a.length c ∧ ρ 1 = .slice B a.length d ∧ ρ 12 = .int .i64 a.length ∧ h' = h ∧ ∃ i : Nat, ρ 13 = .int .i64 i ∧ i ≤ a.length ∧ ∀ j, j < i → a[j]? = b[j]?)
      (fun ρ _ => a.length - (intOf (ρ 13)).toNat) (by kernel_rfl) ?_ ?_
    · exact ⟨rfl, rfl, rfl, rfl, 0, rfl, by omega, fun j hj => by omega⟩
    · rintro ρ h' ⟨r0, r1, r12, rfl, i, r13, hi, hj⟩
      by_cases hin : i < a.length
      · obtain ⟨bk, off, rfl, hc⟩ := R.get (by rw [ints_len]; omega)
        obtain ⟨bk2, off2, rfl, hc2⟩ := S.get (by rw [ints_len]; omega)
        obtain ⟨x, hx⟩ : ∃ x, a[i]? = some x := ⟨_, List.getElem?_eq_getElem hin⟩
        obtain ⟨y, hy⟩ : ∃ y, b[i]? = some y := ⟨_, List.getElem?_eq_getElem (by omega)⟩
        have c0 := hc _ _ (ints_at hx)
        have c1 := hc2 _ _ (ints_at hy)
        simp -implicitDefEqProofs (disch := omega) [go_sem, r0, r1, r12, r13]
        refine drawK [(0, 0), (1, 0), (2, 0), (3, 1), (4, 0), (5, 0), (6, 0), (7, 1), (8, 0)] ?_
        by_cases e : x = y
        · simp -implicitDefEqProofs (disch := omega) [go_sem, r0, r1, r12, r13, c0, c1, e]
          refine ⟨⟨i + 1, by omega, by omega, fun j hj2 => ?_⟩, by omega⟩
          by_cases ej : j = i
          · subst ej; rw [hx, hy, e]
          · exact hj j (by omega)
        · have hab : ¬ a = b := fun h => by subst h; rw [hx] at hy; cases hy; exact e rfl
          simp -implicitDefEqProofs (disch := omega) [go_sem, r0, r1, r12, r13, c0, c1, e, hab]
      · have hab : a = b := by
          apply List.ext_getElem?
          intro j
          by_cases hj2 : j < i
          · exact hj j hj2
          · rw [List.getElem?_eq_none (by omega), List.getElem?_eq_none (by omega)]
        simp -implicitDefEqProofs (disch := omega) [go_sem, r0, r1, r12, r13, hab]
  · have hab : ¬ a = b := fun h => hne (by rw [h])
    simp -implicitDefEqProofs (disch := omega) [go_sem, hab, hne]
theorem certgood_ok {s : StepS} {X : Option Addr} {x : Nat} (RX : RowAt h X (ints s.lits)) (hX : s.lits.length ≤ x) (hX2 : s.lits.length < 2 ^ 40) (hl : ∀ y ∈ s.lits, I64 y) :
    CallsH Tryz.prog 54 [.agg #[.int .i64 s.kind, .slice X s.lits.length x]] h fun r h' => Tells (StepOk s) r ∧ Gr h h' := by
  refine calls_of 35 [.tmp 2] Go.Proofs.Tryz.func54 rfl rfl rfl ?_
  simp -implicitDefEqProofs (disch := first | omega | (simp only [push_size, hset_size]; done) | (simp only [push_size, hset_size]; omega)) [go_sem]
  obtain ⟨H2, hH2⟩ : ∃ H2, H2 = h.push (.cells #[.int .i64 s.kind, .slice X s.lits.length x] 40) := ⟨_, rfl⟩
  rw [← hH2]
  have q1 : Gr h H2 := by rw [hH2]; exact (Fr.refl _ _).push
  have q2 : hcell H2 ⟨h.size, 0, none⟩ = some (.int .i64 s.kind) := by rw [hH2]; exact hcell_push_lit
  have q3 : hcell H2 ⟨h.size, 1, none⟩ = some (.slice X s.lits.length x) := by rw [hH2]; exact hcell_push_lit
  have hH2s : H2.size = h.size + 1 := by rw [hH2, push_size]
  clear hH2
  refine useC (cleanG_ok (RX.fr0 q1) rfl hX2 hl) ?_
  rintro _ h3 ⟨⟨o, hcl, hr⟩, f3⟩
  have p2 := (f3.cell (by omega) id).trans q2
  have p3 := (f3.cell (by omega) id).trans q3
  have f13 := q1.trans f3
  by_cases y0 : 0 ≤ s.kind
  case neg =>
    cases o with
    | none => subst hr; simp -implicitDefEqProofs (disch := first | omega | (simp only [push_size, hset_size]; done) | (simp only [push_size, hset_size]; omega)) [go_sem, p2, p3]; exact ⟨.no fun g => y0 g.1, f13⟩
    | some L => obtain ⟨A2, c2, rfl, SL, own⟩ := hr; simp -implicitDefEqProofs (disch := first | omega | (simp only [push_size, hset_size]; done) | (simp only [push_size, hset_size]; omega)) [go_sem, p2, p3]; exact ⟨.no fun g => y0 g.1, f13⟩
  by_cases y1 : s.kind ≤ 2
  case neg =>
    cases o with
    | none => subst hr; simp -implicitDefEqProofs (disch := first | omega | (simp only [push_size, hset_size]; done) | (simp only [push_size, hset_size]; omega)) [go_sem, p2, p3]; exact ⟨.no fun g => y1 g.2.1, f13⟩
    | some L => obtain ⟨A2, c2, rfl, SL, own⟩ := hr; simp -implicitDefEqProofs (disch := first | omega | (simp only [push_size, hset_size]; done) | (simp only [push_size, hset_size]; omega)) [go_sem, p2, p3]; exact ⟨.no fun g => y1 g.2.1, f13⟩
  by_cases y2 : s.lits.length ≤ 4096
  case neg =>
    cases o with
    | none => subst hr; simp -implicitDefEqProofs (disch := first | omega | (simp only [push_size, hset_size]; done) | (simp only [push_size, hset_size]; omega)) [go_sem, p2, p3]; exact ⟨.no fun g => y2 g.2.2.1, f13⟩
    | some L => obtain ⟨A2, c2, rfl, SL, own⟩ := hr; simp -implicitDefEqProofs (disch := first | omega | (simp only [push_size, hset_size]; done) | (simp only [push_size, hset_size]; omega)) [go_sem, p2, p3]; exact ⟨.no fun g => y2 g.2.2.1, f13⟩
  cases o with
  | none =>
    subst hr
    simp -implicitDefEqProofs (disch := first | omega | (simp only [push_size, hset_size]; done) | (simp only [push_size, hset_size]; omega)) [go_sem, p2, p3]
    exact ⟨.no fun g => (by cases CleanR.uniq hcl g.2.2.2), f13⟩
  | some L =>
    obtain ⟨A2, c2, rfl, SL, own⟩ := hr
    simp -implicitDefEqProofs (disch := first | omega | (simp only [push_size, hset_size]; done) | (simp only [push_size, hset_size]; omega)) [go_sem, p2, p3]
    refine useC (equalInts_ok SL.row (RX.fr0 f13) rfl rfl (by have := hcl.len; omega) hX2) ?_
    rintro _ h4 ⟨rfl, rfl⟩
    simp -implicitDefEqProofs (disch := first | omega | (simp only [push_size, hset_size]; done) | (simp only [push_size, hset_size]; omega)) [go_sem]
    refine ⟨?_, f13⟩
    by_cases e : L = s.lits
    · subst e
      simp
      exact .yes ⟨y0, y1, y2, hcl⟩
    · simp [e]
      exact .no fun g => e (Option.some.inj (CleanR.uniq hcl g.2.2.2))
theorem certbad_ok {s : StepS} {X : Option Addr} {x : Nat} (RX : RowAt h X (ints s.lits)) (hX : s.lits.length ≤ x) (hX2 : s.lits.length < 2 ^ 40) (hl : ∀ y ∈ s.lits, I64 y) :
    CallsH Tryz.prog 53 [.agg #[.int .i64 s.kind, .slice X s.lits.length x]] h fun r h' => Tells (¬ StepOk s) r ∧ Gr h h' := by
  refine calls_of 6 [.tmp 2] Go.Proofs.Tryz.func53 rfl rfl rfl ?_
  simp -implicitDefEqProofs (disch := first | omega | (simp only [push_size, hset_size]; done) | (simp only [push_size, hset_size]; omega)) [go_sem]
  refine useC (certgood_ok (RX.fr0 (Fr.refl _ _).push) hX hX2 hl) ?_
  rintro _ h2 ⟨⟨b, rfl, hb⟩, f2⟩
  simp -implicitDefEqProofs (disch := first | omega | (simp only [push_size, hset_size]; done) | (simp only [push_size, hset_size]; omega)) [go_sem]
  refine ⟨?_, (Fr.refl _ _).push.trans f2⟩
  cases b with
  | true => exact .no fun g => g (hb.1 rfl)
  | false => exact .yes fun g => by cases hb.2 g
end
end Xe

/- Certificates: rows of steps; which certificates are right, the program's side. -/
namespace Xe
open Go Go.Proofs
set_option maxRecDepth 16000
set_option maxHeartbeats 1000000
section
variable {h : Heap} {A B A' B' : Option Addr} {a b a' b' n m : Nat} {c c' : CertS}
theorem badStep_ok {ss : List StepS} (R : StepsR h A ss) (hn : n = ss.length) (hl : n < 2 ^ 40) :
    CallsH Tryz.prog 90 [.slice A n a, .func (.func 53) #[] #[]] h fun r h' => (∃ i : Int, r = .int .i64 i ∧ (i < 0 ↔ StepsTo ss ss.length)) ∧ Gr h h' := by
  subst hn
  refine calls_of 19 [.tmp 4] Go.Proofs.Tryz.func90 rfl rfl rfl ?_
  simp -implicitDefEqProofs (disch := first | omega | (simp only [push_size, hset_size]; done) | (simp only [push_size, hset_size]; omega)) [go_sem]
  refine loopK (fun ρ h' => ρ 0 = .slice A ss.length a ∧ ρ 1 = .func (.func 53) #[] #[] ∧ ρ 7 = .int .i64 ss.length ∧ Gr h h' ∧ ∃ i : Nat, ρ 8 = .int .i64 i ∧ i ≤ ss.length ∧ StepsTo ss i) (fun ρ _ => ss.length - (intOf (ρ 8)).toNat) (by kernel_rfl) ?_ ?_
  · exact ⟨rfl, rfl, rfl, Fr.refl _ _, 0, rfl, by omega, .zero⟩
  rintro ρ h1 ⟨r0, r1, r7, f1, i, r8, hi, I⟩
  by_cases hin : i < ss.length
  · obtain ⟨s, hs⟩ : ∃ s, ss[i]? = some s := ⟨_, List.getElem?_eq_getElem hin⟩
    obtain ⟨bk, off, X, x, rfl, c0, c1, RX, hX, hX2, hk, hl⟩ := (R.gr f1).at' i s hs
    simp -implicitDefEqProofs (disch := first | omega | (simp only [push_size, hset_size]; done) | (simp only [push_size, hset_size]; omega)) [go_sem, r0, r1, r7, r8, c0, c1]
    refine useC (certbad_ok RX hX hX2 hl) ?_
    rintro _ h2 ⟨⟨b, rfl, hb⟩, f2⟩
    cases b with
    | true =>
      simp -implicitDefEqProofs (disch := first | omega | (simp only [push_size, hset_size]; done) | (simp only [push_size, hset_size]; omega)) [go_sem, r0, r1, r7, r8]
      exact ⟨⟨fun g => by omega, fun g => absurd (g i s hin hs) (hb.1 rfl)⟩, f1.trans f2⟩
    | false =>
      simp -implicitDefEqProofs (disch := first | omega | (simp only [push_size, hset_size]; done) | (simp only [push_size, hset_size]; omega)) [go_sem, r0, r1, r7, r8]
      have hok : StepOk s := Classical.byContradiction fun g => by cases hb.2 g
      exact ⟨⟨f1.trans f2, i + 1, by omega, by omega, I.next hs hok⟩, by omega⟩
  · have e : i = ss.length := by omega
    subst e
    simp -implicitDefEqProofs (disch := first | omega | (simp only [push_size, hset_size]; done) | (simp only [push_size, hset_size]; omega)) [go_sem, r0, r1, r7, r8]
    exact ⟨I, f1⟩
theorem anyBad_ok {ss : List StepS} (R : StepsR h A ss) (hn : n = ss.length) (hl : n < 2 ^ 40) :
    CallsH Tryz.prog 52 [.slice A n a, .func (.func 53) #[] #[]] h fun r h' => Tells (¬ StepsTo ss ss.length) r ∧ Gr h h' := by
  refine calls_of 9 [.tmp 4] Go.Proofs.Tryz.func52 rfl rfl rfl ?_
  simp -implicitDefEqProofs (disch := first | omega | (simp only [push_size, hset_size]; done) | (simp only [push_size, hset_size]; omega)) [go_sem]
  refine useC (badStep_ok R hn hl) ?_
  rintro _ h2 ⟨⟨i, rfl, hi⟩, f2⟩
  simp -implicitDefEqProofs (disch := first | omega | (simp only [push_size, hset_size]; done) | (simp only [push_size, hset_size]; omega)) [go_sem]
  refine ⟨⟨_, rfl, ?_⟩, f2⟩
  rw [decide_eq_true_iff, ← hi]
  omega
theorem lastAt_of {l : List Int} {i : Nat} {x p : Int} (I : CoreTo l i) (hp : p = if i = 0 then -1 else gt l (i - 1)) (hx : l[i]? = some x) : (0 ≤ x ∧ ∀ y, 0 < i → l[i - 1]? = some y → y < x) ↔ p < x := by
  have hi : i < l.length := (List.getElem?_eq_some_iff.1 hx).1
  by_cases h0 : i = 0
  · subst h0
    rw [if_pos rfl] at hp
    subst hp
    exact ⟨fun g => by omega, fun g => ⟨by omega, fun y hy => by omega⟩⟩
  · rw [if_neg h0] at hp
    have hy : l[i - 1]? = some (gt l (i - 1)) := gt_at (by omega)
    have hpos := (I (i - 1) _ (by omega) hy).1
    subst hp
    exact ⟨fun g => g.2 _ (by omega) hy, fun g => ⟨by omega, fun y _ hyy => by rw [hy] at hyy; cases hyy; exact g⟩⟩
theorem goodCert_ok (V : CertR h c A a B b) : CallsH Tryz.prog 24 [certV c A a B b] h fun r h' => Tells (CertOk c) r ∧ Gr h h' := by
  obtain ⟨co, ss⟩ := c
  have hla := V.la; have hlb := V.lb; have hia := V.ia
  simp only at hla hlb hia
  obtain ⟨H, hH⟩ : ∃ H, H = h.push (.cells #[.slice A co.length a, .slice B ss.length b] 26) := ⟨_, rfl⟩
  have f0 : Gr h H := by rw [hH]; exact (Fr.refl _ _).push
  have g0 : hcell H ⟨h.size, 0, none⟩ = some (.slice A co.length a) := by rw [hH]; exact hcell_push_lit
  have g1 : hcell H ⟨h.size, 1, none⟩ = some (.slice B ss.length b) := by rw [hH]; exact hcell_push_lit
  have hHs : H.size = h.size + 1 := by rw [hH, push_size]
  refine calls_of 38 [.tmp 2] Go.Proofs.Tryz.func24 rfl rfl rfl ?_
  unfold certV
  simp -implicitDefEqProofs (disch := first | omega | (simp only [push_size, hset_size]; done) | (simp only [push_size, hset_size]; omega)) [go_sem]
  rw [← hH]
  clear hH
  refine loopK (fun ρ h' => ρ 1 = .pointer (some ⟨h.size, 0, none⟩) ∧ ρ 7 = .slice A co.length a ∧ ρ 8 = .int .i64 co.length ∧ h' = H ∧ ∃ i : Nat, ρ 9 = .int .i64 i ∧ i ≤ co.length ∧ CoreTo co i ∧ ∃ p : Int, ρ 3 = .int .i64 p ∧ p = if i = 0 then -1 else gt co (i - 1)) (fun ρ _ => co.length - (intOf (ρ 9)).toNat) (by kernel_rfl) ?_ ?_
  · exact ⟨rfl, rfl, rfl, rfl, 0, rfl, by omega, .zero, -1, rfl, rfl⟩
  rintro ρ h' ⟨r1, r7, r8, rfl, i, r9, hi, I, p, r3, hp⟩
  by_cases hin : i < co.length
  · obtain ⟨bk, off, rfl, hc⟩ := (V.core.fr0 f0).get (by rw [ints_len]; exact by show 0 < co.length; omega)
    obtain ⟨x, hx⟩ : ∃ x, co[i]? = some x := ⟨_, List.getElem?_eq_getElem hin⟩
    have c0 := hc _ _ (ints_at hx)
    have hl := lastAt_of I hp hx
    by_cases x0 : p < x
    case neg =>
      simp -implicitDefEqProofs (disch := first | omega | (simp only [push_size, hset_size]; done) | (simp only [push_size, hset_size]; omega)) [go_sem, r1, r3, r7, r8, r9, c0]
      exact ⟨.no (core_bad hx fun g => x0 (hl.1 ⟨g.1, g.2.2⟩)), f0⟩
    by_cases x1 : x ≤ 1048575
    case neg =>
      simp -implicitDefEqProofs (disch := first | omega | (simp only [push_size, hset_size]; done) | (simp only [push_size, hset_size]; omega)) [go_sem, r1, r3, r7, r8, r9, c0]
      exact ⟨.no (core_bad hx fun g => x1 g.2.1), f0⟩
    simp -implicitDefEqProofs (disch := first | omega | (simp only [push_size, hset_size]; done) | (simp only [push_size, hset_size]; omega)) [go_sem, r1, r3, r7, r8, r9, c0]
    refine ⟨⟨i + 1, by omega, by omega, I.next hx (hl.2 x0).1 x1 (hl.2 x0).2, ?_⟩, by omega⟩
    have : co[i]? = some (gt co i) := gt_at hin
    rw [hx] at this
    simpa using Option.some.inj this
  · have e : i = co.length := by omega
    subst e
    by_cases h1 : co.length ≤ 65536
    case neg =>
      simp -implicitDefEqProofs (disch := first | omega | (simp only [push_size, hset_size]; done) | (simp only [push_size, hset_size]; omega)) [go_sem, r1, r7, r8, r9, g0]
      exact ⟨.no fun g => h1 g.1, f0⟩
    by_cases h2 : ss.length ≤ 1048576
    case neg =>
      simp -implicitDefEqProofs (disch := first | omega | (simp only [push_size, hset_size]; done) | (simp only [push_size, hset_size]; omega)) [go_sem, r1, r7, r8, r9, g0, g1]
      exact ⟨.no fun g => h2 g.2.1, f0⟩
    simp -implicitDefEqProofs (disch := first | omega | (simp only [push_size, hset_size]; done) | (simp only [push_size, hset_size]; omega)) [go_sem, r1, r7, r8, r9, g0, g1]
    refine useC (anyBad_ok (V.steps.gr f0) rfl hlb) ?_
    rintro _ h3 ⟨⟨b, rfl, hb⟩, f3⟩
    simp -implicitDefEqProofs (disch := first | omega | (simp only [push_size, hset_size]; done) | (simp only [push_size, hset_size]; omega)) [go_sem]
    refine ⟨⟨_, rfl, ?_⟩, f0.trans f3⟩
    cases b with
    | true => exact ⟨fun g => by simp at g, fun g => absurd g.2.2.2 (hb.1 rfl)⟩
    | false => exact ⟨fun _ => ⟨h1, h2, I, Classical.byContradiction fun g => by cases hb.2 g⟩, fun _ => rfl⟩
end
end Xe
