/- An argument that is a slice of structs of three integers, opened. -/
import Derived.Test.YtkghjecglmmloaaRow
import Derived.Test.YtkghjecglmmloaaT16h
namespace Xe
open Go Go.ChangeShapes Go.WideShapes Go.ChangeAt Go.RowKit Go.Proofs

theorem open_act3 {H : Type} {enc : TypeId × Value → H} {P : Program} {w : World} {sp : Nat → Bool} {held : Bool} {r : Reach} {b0 : Nat} {t e q0 q1 q2 : TypeId} {fs : Array Field} {f0 f1 f2 : Field} {v : Value} {d : DataW H} {ps : List MemPlace}
    (ht : P.underlying t = some (.slice e)) (he : P.underlying e = some (.struct fs)) (hc : P.cellsOf e = 3) (hfs : fs = #[f0, f1, f2]) (h0 : f0.type = q0 ∧ f0.offset = 0 ∧ P.underlying q0 = some (.int .i64) ∧ P.cellsOf q0 = 1)
    (h1 : f1.type = q1 ∧ f1.offset = 1 ∧ P.underlying q1 = some (.int .i64) ∧ P.cellsOf q1 = 1) (h2 : f2.type = q2 ∧ f2.offset = 2 ∧ P.underlying q2 = some (.int .i64) ∧ P.cellsOf q2 = 1)
    (hval : Value.okWide P w r b0 t v) (h : DataW.Trod enc P w 0 sp held t v d ps) : ∃ A len cap, v = .slice A len cap ∧ Act3 w.heap A len := by
  obtain ⟨A, len, cap, rfl, hl, hel⟩ := open_slice ht hc (by omega) hval h
  refine ⟨A, len, cap, rfl, hl, fun i hi => ?_⟩
  obtain ⟨bk, off, cs, fuel, x, rfl, hlen, hcell, hx⟩ := hel i hi
  subst hfs
  obtain ⟨xs, n, _, _, _, _, hf⟩ := DataW.trod_struct he hx
  match cs, hlen with
  | [c0, c1, c2], _ =>
    have g0 := hf 0 f0 rfl
    have g1 := hf 1 f1 rfl
    have g2 := hf 2 f2 rfl
    rw [h0.1, h0.2.1, h0.2.2.2] at g0
    rw [h1.1, h1.2.1, h1.2.2.2] at g1
    rw [h2.1, h2.2.1, h2.2.2.2] at g2
    have key : ∀ {q : TypeId} {c : Value} {o : Option (DataW H × List MemPlace)}, P.underlying q = some (.int .i64) → DataW.trod enc P w 0 sp held n q [c] = o → o.isSome = true → ∃ y : Int, c = .int .i64 y ∧ IntKind.i64.min ≤ y ∧ y ≤ IntKind.i64.max := by
      intro q c o hu hq ho
      obtain ⟨z, rfl⟩ := Option.isSome_iff_exists.1 ho
      obtain ⟨y, hy, _, hw⟩ := DataW.trod_int hu hq
      simp only [Lit.wf, Bool.and_eq_true, decide_eq_true_eq] at hw
      exact ⟨y, by simpa using hy, hw.1, hw.2⟩
    have hxs : xs.length = 3 := by assumption
    obtain ⟨k, rfl, _⟩ := key h0.2.2.1 g0 (by rw [List.getElem?_eq_getElem (by omega)]; rfl)
    obtain ⟨u, rfl, u1, u2⟩ := key h1.2.2.1 g1 (by rw [List.getElem?_eq_getElem (by omega)]; rfl)
    obtain ⟨y, rfl, y1, y2⟩ := key h2.2.2.1 g2 (by rw [List.getElem?_eq_getElem (by omega)]; rfl)
    exact ⟨bk, off, k, u, y, rfl, hcell 0 _ rfl, hcell 1 _ rfl, hcell 2 _ rfl, u1, u2, y1, y2⟩
end Xe
