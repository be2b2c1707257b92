/- From a walk to a row: what every law of these seats has alike. -/
import Derived.Test.YtkghjecglmmloaaSl
import Derived.Test.YtkghjecglmmloaaRows
import Derived.WalkKit
import Derived.ProofKit
import Derived.OpenShut
import Derived.Carry
namespace Xe
open Go Go.ChangeShapes Go.WideShapes Go.ChangeAt Go.RowKit

theorem CallsH.below {P : Program} {f : FuncId} {vs : List Value} {w : World} (c : CallsH P f vs w.heap fun r h' => r = .bool true ∧ Fr (fun _ => False) w.heap h') :
    Calls P f vs.toArray w fun e w' => e = .returned (.bool true) ∧ Below w.heap.size w w' :=
  (c.2 w rfl).mono fun e w' ⟨v, he, hl, hv, hf⟩ => ⟨by rw [he, hv], ⟨hl.os, hl.tape, hl.output, hf.size, fun k hk => hf.same k hk id⟩⟩

theorem args_stay {H : Type} {enc : TypeId × Value → H} {P : Program} {W W' : World} (hl : laidOutB P = true) (hb : Below W.heap.size W W') :
    ∀ {ts : List TypeId} {vs : List Value} {ds : List (DataW H)} {ps : List MemPlace}, (ts.all fun t => P.readableRec t && decide (t < P.types.size)) = true → (∀ x ∈ ps, x.block < W.heap.size) →
      DataW.TrodAll enc P W 0 (fun _ => true) true ts vs ds ps → DataW.TrodAll enc P W' 0 (fun b => decide (b < W.heap.size)) true ts vs ds ps
  | [], _, _, _, _, _, h => by
    obtain ⟨rfl, rfl, rfl⟩ := trodAll_nil h
    exact trodAll_mk0
  | t :: ts, _, _, _, hr, hlt, h => by
    obtain ⟨v, vs, d, ds, p, q, rfl, rfl, rfl, h1, h2⟩ := trodAll_cons h
    rw [List.all_cons, Bool.and_eq_true, Bool.and_eq_true, decide_eq_true_eq] at hr
    exact ⟨p, q, Below.trod hl hr.1.1 hr.1.2 h1 hb (fun x hx => hlt x (List.mem_append_left _ hx)), args_stay hl hb hr.2 (fun x hx => hlt x (List.mem_append_right _ hx)) h2, rfl⟩

/-- **THE END OF A LAW's ROW** -/
theorem law_post {H : Type} {enc : TypeId × Value → H} {P : Program} {f : Func} {s : ChangeSpec} {W W' : World} {args : Array Value} {ds gs : List (DataW H)} {before : List MemPlace} {t : TypeId}
    (hW : DataW.Whole enc P f.params.toList s.vars false W args.toList ds gs before) (hv : s.vars = []) (hb : Below W.heap.size W W') (hl : laidOutB P = true)
    (hr : (f.params.toList.all fun t => P.readableRec t && decide (t < P.types.size)) = true) (ht : f.resultTypes = #[t]) (hu : P.underlying t = some .bool)
    (h1 : (s.fn H (ds ++ gs)).results = [.lit (.bool true)]) (h2 : (s.fn H (ds ++ gs)).args = ds) (h3 : (s.fn H (ds ++ gs)).vars = []) :
    s.post enc P f false true false false W args (.bool true) W' := by
  have hW' := hW
  obtain ⟨p, q, hA, hV, rfl, hfz, hnd⟩ := hW
  have hlt := hW'.lt
  refine ⟨ds, gs, p ++ q, [], p, [], hW', ?_, ?_, ?_, hb.frame _, (fun h => nomatch h)⟩
  · rw [h1, ht]
    exact trodAll_cons_mk (shut_bool hu true) trodAll_mk0
  · rw [h2]
    exact args_stay hl hb hr (fun x hx => hlt x (List.mem_append_left _ hx)) hA
  · rw [h3, hv]; rfl
end Xe
