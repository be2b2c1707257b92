/- An argument that is a slice of structs of two integers and a row of integers, opened. -/
import Derived.Test.YtkghjecglmmloaaRowB
import Derived.Test.YtkghjecglmmloaaT17r
namespace Xe
open Go Go.ChangeShapes Go.WideShapes Go.ChangeAt Go.RowKit Go.Proofs

theorem open_intsD {H : Type} {enc : TypeId × Value → H} {P : Program} {w : World} {sp : Nat → Bool} {held : Bool} {t e : TypeId} {fuel : Nat} {cs0 : List Value} {x0 : DataW H × List MemPlace}
    (ht : P.underlying t = some (.slice e)) (he : P.underlying e = some (.int .i64)) (hc : P.cellsOf e = 1) (hf : DataW.trod enc P w 0 sp held fuel t cs0 = some x0) :
    ∃ A c, ∃ l : List Int, cs0 = [.slice A l.length c] ∧ l.length ≤ c ∧ l.length < 2 ^ 63 ∧ RowAt w.heap A (ints l) ∧ ∀ x ∈ l, -9223372036854775808 ≤ x ∧ x ≤ 9223372036854775807 := by
  obtain ⟨A, c, l, e1, h1, h2, h3⟩ := open_intsC ht he hc hf
  refine ⟨A, c, l, e1, ?_, h1, h2, h3⟩
  rcases DataW.trod_slice ht hf with ⟨hcs, _⟩ | ⟨a', len', cap', elems, rest, m, _, hcs, _, _, hl, _⟩
  · rw [e1] at hcs
    simp only [List.cons.injEq, Value.slice.injEq] at hcs
    omega
  · rw [e1] at hcs
    simp only [List.cons.injEq, Value.slice.injEq] at hcs
    omega

theorem open_acts17 {H : Type} {enc : TypeId × Value → H} {P : Program} {w : World} {sp : Nat → Bool} {held : Bool} {r : Reach} {b0 : Nat} {t e q0 q1 q2 q3 : TypeId} {fs : Array Field} {f0 f1 f2 : Field} {v : Value} {d : DataW H} {ps : List MemPlace}
    (ht : P.underlying t = some (.slice e)) (he : P.underlying e = some (.struct fs)) (hc : P.cellsOf e = 3) (hfs : fs = #[f0, f1, f2]) (h0 : f0.type = q0 ∧ f0.offset = 0 ∧ P.underlying q0 = some (.int .i64) ∧ P.cellsOf q0 = 1)
    (h1 : f1.type = q1 ∧ f1.offset = 1 ∧ P.underlying q1 = some (.int .i64) ∧ P.cellsOf q1 = 1) (h2 : f2.type = q2 ∧ f2.offset = 2 ∧ P.underlying q2 = some (.slice q3) ∧ P.cellsOf q2 = 1) (h3 : P.underlying q3 = some (.int .i64) ∧ P.cellsOf q3 = 1)
    (hval : Value.okWide P w r b0 t v) (h : DataW.Trod enc P w 0 sp held t v d ps) : ∃ A len cap gs, v = .slice A len cap ∧ ArgsA w.heap A len gs := by
  obtain ⟨A, len, cap, rfl, hl, hel⟩ := open_slice ht hc (by omega) hval h
  have key : ∀ i, ∃ g : List Int, i < len → ∃ bk off B c, ∃ k x : Int, A = some ⟨bk, off, none⟩ ∧ hcell w.heap ⟨bk, off + i * 3, none⟩ = some (.int .i64 k) ∧ hcell w.heap ⟨bk, off + i * 3 + 1, none⟩ = some (.int .i64 x) ∧ hcell w.heap ⟨bk, off + i * 3 + 2, none⟩ = some (.slice B g.length c) ∧
      RowAt w.heap B (ints g) ∧ g.length ≤ c ∧ g.length < 2 ^ 63 ∧ (-9223372036854775808 ≤ x ∧ x ≤ 9223372036854775807) ∧ ∀ y ∈ g, -9223372036854775808 ≤ y ∧ y ≤ 9223372036854775807 := fun i => by
    by_cases hi : i < len
    · obtain ⟨bk, off, cs, fuel, x, rfl, hlen, hcell, hx⟩ := hel i hi
      subst hfs
      obtain ⟨xs, n, _, _, _, _, hf⟩ := DataW.trod_struct he hx
      match cs, hlen with
      | [c0, c1, c2], _ =>
        have g0 := hf 0 f0 rfl
        have g1 := hf 1 f1 rfl
        have g2 := hf 2 f2 rfl
        rw [h0.1, h0.2.1, h0.2.2.2] at g0
        rw [h1.1, h1.2.1, h1.2.2.2] at g1
        rw [h2.1, h2.2.1, h2.2.2.2] at g2
        have kint : ∀ {q : TypeId} {c : Value} {o : Option (DataW H × List MemPlace)}, P.underlying q = some (.int .i64) → DataW.trod enc P w 0 sp held n q [c] = o → o.isSome = true → ∃ y : Int, c = .int .i64 y ∧ IntKind.i64.min ≤ y ∧ y ≤ IntKind.i64.max := by
          intro q c o hu hq ho
          obtain ⟨z, rfl⟩ := Option.isSome_iff_exists.1 ho
          obtain ⟨y, hy, _, hw⟩ := DataW.trod_int hu hq
          simp only [Lit.wf, Bool.and_eq_true, decide_eq_true_eq] at hw
          exact ⟨y, by simpa using hy, hw.1, hw.2⟩
        have hxs : xs.length = 3 := by assumption
        obtain ⟨k, rfl, _⟩ := kint h0.2.2.1 g0 (by rw [List.getElem?_eq_getElem (by omega)]; rfl)
        obtain ⟨u, rfl, u1, u2⟩ := kint h1.2.2.1 g1 (by rw [List.getElem?_eq_getElem (by omega)]; rfl)
        have g2' : ∃ z, DataW.trod enc P w 0 sp held n q2 [c2] = some z := ⟨xs[2], by rw [← List.getElem?_eq_getElem (by omega)]; exact g2⟩
        obtain ⟨z, hz⟩ := g2'
        obtain ⟨B, c, g, e1, hgc, hgl, hR, hb⟩ := open_intsD h2.2.2.1 h3.1 h3.2 hz
        simp only [List.cons.injEq, and_true] at e1
        subst e1
        exact ⟨g, fun _ => ⟨bk, off, B, c, k, u, rfl, hcell 0 _ rfl, hcell 1 _ rfl, hcell 2 _ rfl, hR, hgc, hgl, ⟨u1, u2⟩, hb⟩⟩
    · exact ⟨[], fun h => absurd h hi⟩
  obtain ⟨gs, hgs⟩ := Classical.axiomOfChoice key
  exact ⟨A, len, cap, gs, rfl, hl, fun i hi => hgs i hi⟩
end Xe
