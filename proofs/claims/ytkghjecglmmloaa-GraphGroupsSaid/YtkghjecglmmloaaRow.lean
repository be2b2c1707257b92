/- From a walk to a row: what every law of these seats has alike. -/
import Derived.Test.YtkghjecglmmloaaSl
import Derived.Test.YtkghjecglmmloaaRows
import Derived.WalkKit
import Derived.ProofKit
import Derived.OpenShut
import Derived.Carry
namespace Xe
open Go Go.ChangeShapes Go.WideShapes Go.ChangeAt Go.RowKit

theorem CallsH.below {P : Program} {f : FuncId} {vs : List Value} {w : World} (c : CallsH P f vs w.heap fun r h' => r = .bool true ∧ Fr (fun _ => False) w.heap h') :
    Calls P f vs.toArray w fun e w' => e = .returned (.bool true) ∧ Below w.heap.size w w' :=
  (c.2 w rfl).mono fun e w' ⟨v, he, hl, hv, hf⟩ => ⟨by rw [he, hv], ⟨hl.os, hl.tape, hl.output, hf.size, fun k hk => hf.same k hk id⟩⟩

theorem args_stay {H : Type} {enc : TypeId × Value → H} {P : Program} {W W' : World} (hl : laidOutB P = true) (hb : Below W.heap.size W W') :
    ∀ {ts : List TypeId} {vs : List Value} {ds : List (DataW H)} {ps : List MemPlace}, (ts.all fun t => P.readableRec t && decide (t < P.types.size)) = true → (∀ x ∈ ps, x.block < W.heap.size) →
      DataW.TrodAll enc P W 0 (fun _ => true) true ts vs ds ps → DataW.TrodAll enc P W' 0 (fun b => decide (b < W.heap.size)) true ts vs ds ps
  | [], _, _, _, _, _, h => by
    obtain ⟨rfl, rfl, rfl⟩ := trodAll_nil h
    exact trodAll_mk0
  | t :: ts, _, _, _, hr, hlt, h => by
    obtain ⟨v, vs, d, ds, p, q, rfl, rfl, rfl, h1, h2⟩ := trodAll_cons h
    rw [List.all_cons, Bool.and_eq_true, Bool.and_eq_true, decide_eq_true_eq] at hr
    exact ⟨p, q, Below.trod hl hr.1.1 hr.1.2 h1 hb (fun x hx => hlt x (List.mem_append_left _ hx)), args_stay hl hb hr.2 (fun x hx => hlt x (List.mem_append_right _ hx)) h2, rfl⟩

/-- **THE END OF A LAW's ROW** -/
theorem law_post {H : Type} {enc : TypeId × Value → H} {P : Program} {f : Func} {s : ChangeSpec} {W W' : World} {args : Array Value} {ds gs : List (DataW H)} {before : List MemPlace} {t : TypeId}
    (hW : DataW.Whole enc P f.params.toList s.vars false W args.toList ds gs before) (hv : s.vars = []) (hb : Below W.heap.size W W') (hl : laidOutB P = true)
    (hr : (f.params.toList.all fun t => P.readableRec t && decide (t < P.types.size)) = true) (ht : f.resultTypes = #[t]) (hu : P.underlying t = some .bool)
    (h1 : (s.fn H (ds ++ gs)).results = [.lit (.bool true)]) (h2 : (s.fn H (ds ++ gs)).args = ds) (h3 : (s.fn H (ds ++ gs)).vars = []) :
    s.post enc P f false true false false W args (.bool true) W' := by
  have hW' := hW
  obtain ⟨p, q, hA, hV, rfl, hfz, hnd⟩ := hW
  have hlt := hW'.lt
  refine ⟨ds, gs, p ++ q, [], p, [], hW', ?_, ?_, ?_, hb.frame _, (fun h => nomatch h)⟩
  · rw [h1, ht]
    exact trodAll_cons_mk (shut_bool hu true) trodAll_mk0
  · rw [h2]
    exact args_stay hl hb hr (fun x hx => hlt x (List.mem_append_left _ hx)) hA
  · rw [h3, hv]; rfl

/-! ### Arguments, opened -/
section
variable {H : Type} {enc : TypeId × Value → H} {P : Program} {w : World} {sp : Nat → Bool} {held : Bool} {r : Reach} {b0 : Nat} {t e : TypeId}

/-- a slice: its elements' cells, and how each reads -/
theorem open_slice {n : Nat} {v : Value} {d : DataW H} {ps : List MemPlace} (ht : P.underlying t = some (.slice e)) (hc : P.cellsOf e = n) (hn : 0 < n) (hval : Value.okWide P w r b0 t v) (h : DataW.Trod enc P w 0 sp held t v d ps) :
    ∃ A len cap, v = .slice A len cap ∧ len < 2 ^ 63 ∧ ∀ i, i < len → ∃ bk off cs fuel x, A = some ⟨bk, off, none⟩ ∧ cs.length = n ∧ (∀ j u, cs[j]? = some u → hcell w.heap ⟨bk, off + i * n + j, none⟩ = some u) ∧
      DataW.trod enc P w 0 sp held fuel e cs = some x := by
  obtain ⟨a, len, cap, rfl⟩ := okWide_slice ht hval
  obtain ⟨fuel, hf⟩ := h
  refine ⟨a, len, cap, rfl, ?_⟩
  rcases DataW.trod_slice ht hf with ⟨hcs, _⟩ | ⟨a', len', cap', elems, rest, m, _, hcs, _, _, hl, hm, hlen, hel, _, _⟩
  · simp [Value.cells] at hcs
    obtain ⟨_, rfl, _⟩ := hcs
    exact ⟨by decide, fun i hi => by omega⟩
  · simp [Value.cells] at hcs
    obtain ⟨rfl, rfl, rfl⟩ := hcs
    have hm2 : cap ≤ 2 ^ 63 - 1 := hm
    refine ⟨by omega, fun i hi => ?_⟩
    have h1 := hel i hi
    rw [List.getElem?_eq_getElem (by omega), Option.bind_eq_some_iff] at h1
    obtain ⟨cs, h2, h3⟩ := h1
    rw [hc] at h2
    obtain ⟨_, hl2, hcell⟩ := World.cells?_some h2
    have hspot : a'.spot = none := by
      have g1 := hel 0 (by omega)
      rw [List.getElem?_eq_getElem (by omega), Option.bind_eq_some_iff] at g1
      obtain ⟨cs0, g2, _⟩ := g1
      rw [hc] at g2
      obtain ⟨_, gl, gcell⟩ := World.cells?_some g2
      have h0 := gcell 0 hn
      rw [List.getElem?_eq_getElem (by omega), Nat.zero_mul, add_0, add_0] at h0
      unfold World.cell? at h0
      split at h0
      · split at h0
        · cases h0
        · rename_i hns
          simpa using hns
      · cases h0
    obtain ⟨bk, off, spot⟩ := a'
    simp only at hspot
    subst hspot
    refine ⟨bk, off, cs, m, _, rfl, hl2, fun j u hj => ?_, h3⟩
    have hj' := (List.getElem?_eq_some_iff.1 hj).1
    have h4 := hcell j (by omega)
    rw [add_n, add_n] at h4
    exact h4.trans hj

/-- a slice of integers -/
theorem open_ints' {k : IntKind} {v : Value} {d : DataW H} {ps : List MemPlace} (ht : P.underlying t = some (.slice e)) (he : P.underlying e = some (.int k)) (hc : P.cellsOf e = 1) (hval : Value.okWide P w r b0 t v) (h : DataW.Trod enc P w 0 sp held t v d ps) :
    ∃ A len cap, v = .slice A len cap ∧ ArgRow w.heap A len fun _ v => ∃ x : Int, v = .int k x ∧ k.min ≤ x ∧ x ≤ k.max := by
  obtain ⟨A, len, cap, rfl, hl, hel⟩ := open_slice ht hc (by omega) hval h
  refine ⟨A, len, cap, rfl, hl, fun i hi => ?_⟩
  obtain ⟨bk, off, cs, fuel, x, rfl, hl, hcell, hx⟩ := hel i hi
  obtain ⟨y, rfl, _, hw⟩ := DataW.trod_int he hx
  have := hcell 0 _ rfl
  simp only [Nat.mul_one, Nat.add_zero] at this
  simp only [Lit.wf, Bool.and_eq_true, decide_eq_true_eq] at hw
  exact ⟨bk, off, _, rfl, this, y, rfl, hw.1, hw.2⟩
end
end Xe
