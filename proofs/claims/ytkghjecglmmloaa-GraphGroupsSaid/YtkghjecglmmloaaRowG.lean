/- Arguments that are slices of slices of integers, opened. -/
import Derived.Test.YtkghjecglmmloaaRow
import Derived.Test.YtkghjecglmmloaaG9
namespace Xe
open Go Go.ChangeShapes Go.WideShapes Go.ChangeAt Go.RowKit Go.Proofs
section
variable {H : Type} {enc : TypeId × Value → H} {P : Program} {w : World} {sp : Nat → Bool} {held : Bool} {r : Reach} {b0 : Nat} {t e q : TypeId} {k : IntKind}

/-- a slice among other cells -/
theorem open_sliceG {n fuel : Nat} {cs0 : List Value} {x0 : DataW H × List MemPlace} (ht : P.underlying t = some (.slice e)) (hc : P.cellsOf e = n) (hn : 0 < n) (hf : DataW.trod enc P w 0 sp held fuel t cs0 = some x0) :
    ∃ A len cap, cs0 = [.slice A len cap] ∧ len < 2 ^ 63 ∧ ∀ i, i < len → ∃ bk off cs fuel x, A = some ⟨bk, off, none⟩ ∧ cs.length = n ∧ (∀ j u, cs[j]? = some u → hcell w.heap ⟨bk, off + i * n + j, none⟩ = some u) ∧
      DataW.trod enc P w 0 sp held fuel e cs = some x := by
  rcases DataW.trod_slice ht hf with ⟨hcs, _⟩ | ⟨a', len', cap', elems, rest, m, _, hcs, _, _, hl, hm, hlen, hel, _, _⟩
  · exact ⟨none, 0, 0, hcs, by decide, fun i hi => by omega⟩
  · have hm2 : cap' ≤ 2 ^ 63 - 1 := hm
    refine ⟨some a', len', cap', hcs, by omega, fun i hi => ?_⟩
    have h1 := hel i hi
    rw [List.getElem?_eq_getElem (by omega), Option.bind_eq_some_iff] at h1
    obtain ⟨cs, h2, h3⟩ := h1
    rw [hc] at h2
    obtain ⟨_, hl2, hcell⟩ := World.cells?_some h2
    have hspot : a'.spot = none := by
      have g1 := hel 0 (by omega)
      rw [List.getElem?_eq_getElem (by omega), Option.bind_eq_some_iff] at g1
      obtain ⟨cs0, g2, _⟩ := g1
      rw [hc] at g2
      obtain ⟨_, gl, gcell⟩ := World.cells?_some g2
      have h0 := gcell 0 hn
      rw [List.getElem?_eq_getElem (by omega), Nat.zero_mul, add_0, add_0] at h0
      unfold World.cell? at h0
      split at h0
      · split at h0
        · cases h0
        · rename_i hns
          simpa using hns
      · cases h0
    obtain ⟨bk, off, spot⟩ := a'
    simp only at hspot
    subst hspot
    refine ⟨bk, off, cs, m, _, rfl, hl2, fun j u hj => ?_, h3⟩
    have hj' := (List.getElem?_eq_some_iff.1 hj).1
    have h4 := hcell j (by omega)
    rw [add_n, add_n] at h4
    exact h4.trans hj

/-- a row of integers out of its cells -/
theorem row_of {A : Option Addr} {len : Nat} (he : P.underlying e = some (.int k)) (hel : ∀ i, i < len → ∃ bk off cs fuel x, A = some ⟨bk, off, none⟩ ∧ cs.length = 1 ∧ (∀ j u, cs[j]? = some u → hcell w.heap ⟨bk, off + i * 1 + j, none⟩ = some u) ∧
      DataW.trod enc P w 0 sp held fuel e cs = some x) : ∃ l : List Int, l.length = len ∧ RowAt w.heap A (l.map (.int k)) ∧ ∀ x ∈ l, k.min ≤ x ∧ x ≤ k.max := by
  have key : ∀ i, ∃ y : Int, i < len → k.min ≤ y ∧ y ≤ k.max ∧ ∃ bk off, A = some ⟨bk, off, none⟩ ∧ hcell w.heap ⟨bk, off + i, none⟩ = some (.int k y) := fun i => by
    by_cases hi : i < len
    · obtain ⟨bk, off, cs, fuel, x, rfl, hl, hcell, hx⟩ := hel i hi
      obtain ⟨y, rfl, _, hw⟩ := DataW.trod_int he hx
      have := hcell 0 _ rfl
      simp only [Nat.mul_one, Nat.add_zero] at this
      simp only [Lit.wf, Bool.and_eq_true, decide_eq_true_eq] at hw
      exact ⟨y, fun _ => ⟨hw.1, hw.2, bk, off, rfl, this⟩⟩
    · exact ⟨0, fun h => absurd h hi⟩
  obtain ⟨f, hfk⟩ := Classical.axiomOfChoice key
  have hll : ((List.range len).map f).length = len := by rw [List.length_map, List.length_range]
  refine ⟨(List.range len).map f, hll, ?_, fun x hx => ?_⟩
  · by_cases h0 : len = 0
    · subst h0; exact .inl rfl
    · obtain ⟨_, _, bk, off, hA, _⟩ := hfk 0 (by omega)
      refine .inr ⟨bk, off, hA, fun i v hv => ?_⟩
      have hi := (List.getElem?_eq_some_iff.1 hv).1
      rw [List.length_map, hll] at hi
      rw [List.getElem?_map, List.getElem?_map, List.getElem?_range hi] at hv
      cases hv
      obtain ⟨_, _, bk', off', hA', hc'⟩ := hfk i hi
      rw [hA] at hA'
      cases hA'
      exact hc'
  · obtain ⟨i, hi, rfl⟩ := List.mem_map.1 hx
    obtain ⟨h1, h2, _⟩ := hfk i (List.mem_range.1 hi)
    exact ⟨h1, h2⟩
/-- a row of integers -/
theorem open_row1 {v : Value} {d : DataW H} {ps : List MemPlace} (ht : P.underlying t = some (.slice e)) (he : P.underlying e = some (.int k)) (hc : P.cellsOf e = 1) (hval : Value.okWide P w r b0 t v) (h : DataW.Trod enc P w 0 sp held t v d ps) :
    ∃ A cap, ∃ l : List Int, v = .slice A l.length cap ∧ l.length < 2 ^ 63 ∧ RowAt w.heap A (l.map (.int k)) ∧ ∀ x ∈ l, k.min ≤ x ∧ x ≤ k.max := by
  obtain ⟨A, len, cap, rfl, hl, hel⟩ := open_slice ht hc (by omega) hval h
  obtain ⟨l, rfl, h1, h2⟩ := row_of he hel
  exact ⟨A, cap, l, rfl, hl, h1, h2⟩
/-- rows of integers -/
theorem open_rowsK {v : Value} {d : DataW H} {ps : List MemPlace} (ht : P.underlying t = some (.slice e)) (he : P.underlying e = some (.slice q)) (hq : P.underlying q = some (.int k)) (hc : P.cellsOf e = 1) (hc2 : P.cellsOf q = 1)
    (hval : Value.okWide P w r b0 t v) (h : DataW.Trod enc P w 0 sp held t v d ps) : ∃ A len cap, ∃ gs : Nat → List Int, v = .slice A len cap ∧ len < 2 ^ 63 ∧
      ∀ i, i < len → ∃ bk off B c, A = some ⟨bk, off, none⟩ ∧ hcell w.heap ⟨bk, off + i, none⟩ = some (.slice B (gs i).length c) ∧ RowAt w.heap B ((gs i).map (.int k)) ∧ (gs i).length < 2 ^ 63 ∧ ∀ x ∈ gs i, k.min ≤ x ∧ x ≤ k.max := by
  obtain ⟨A, len, cap, rfl, hl, hel⟩ := open_slice ht hc (by omega) hval h
  have key : ∀ i, ∃ l : List Int, i < len → ∃ bk off B c, A = some ⟨bk, off, none⟩ ∧ hcell w.heap ⟨bk, off + i, none⟩ = some (.slice B l.length c) ∧ RowAt w.heap B (l.map (.int k)) ∧ l.length < 2 ^ 63 ∧ ∀ x ∈ l, k.min ≤ x ∧ x ≤ k.max := fun i => by
    by_cases hi : i < len
    · obtain ⟨bk, off, cs, fuel, x, rfl, hl, hcell, hx⟩ := hel i hi
      obtain ⟨B, m, c, rfl, h1, h2⟩ := open_sliceG he hc2 (by omega) hx
      obtain ⟨l, rfl, h3, h4⟩ := row_of hq h2
      have := hcell 0 _ rfl
      simp only [Nat.mul_one, Nat.add_zero] at this
      exact ⟨l, fun _ => ⟨bk, off, B, c, rfl, this, h3, h1, h4⟩⟩
    · exact ⟨[], fun h => absurd h hi⟩
  obtain ⟨gs, hgs⟩ := Classical.axiomOfChoice key
  exact ⟨A, len, cap, gs, rfl, hl, fun i hi => hgs i hi⟩
theorem open_rowsG {v : Value} {d : DataW H} {ps : List MemPlace} (ht : P.underlying t = some (.slice e)) (he : P.underlying e = some (.slice q)) (hq : P.underlying q = some (.int .i64)) (hc : P.cellsOf e = 1) (hc2 : P.cellsOf q = 1)
    (hval : Value.okWide P w r b0 t v) (h : DataW.Trod enc P w 0 sp held t v d ps) : ∃ A len cap gs, v = .slice A len cap ∧ ArgsG w.heap A len gs := by
  obtain ⟨A, len, cap, gs, rfl, hl, hel⟩ := open_rowsK ht he hq hc hc2 hval h
  exact ⟨A, len, cap, gs, rfl, hl, fun i hi => hel i hi⟩
theorem open_rowsU {v : Value} {d : DataW H} {ps : List MemPlace} (ht : P.underlying t = some (.slice e)) (he : P.underlying e = some (.slice q)) (hq : P.underlying q = some (.int .u8)) (hc : P.cellsOf e = 1) (hc2 : P.cellsOf q = 1)
    (hval : Value.okWide P w r b0 t v) (h : DataW.Trod enc P w 0 sp held t v d ps) : ∃ A len cap gs, v = .slice A len cap ∧ ArgsU w.heap A len gs := by
  obtain ⟨A, len, cap, gs, rfl, hl, hel⟩ := open_rowsK ht he hq hc hc2 hval h
  exact ⟨A, len, cap, gs, rfl, hl, fun i hi => hel i hi⟩
end
end Xe
