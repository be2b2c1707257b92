/- The engine, third part: append, calls, regions, code. -/
import Derived.Test.YtkghjecglmmloaaEng2
namespace Xe
open Go

theorem loadN_length {h : Heap} {a : Addr} : ∀ {n i : Nat} {l : List Value}, loadN h a i n = some l → l.length = n
  | 0, i, l, hl => by simp only [loadN, Option.some.injEq] at hl; subst hl; rfl
  | n + 1, i, l, hl => by
    simp only [loadN, Option.bind_eq_some_iff, Option.map_eq_some_iff] at hl
    obtain ⟨v, _, r, hr, rfl⟩ := hl
    simp [loadN_length hr]

theorem firstCells_run {P : Program} {w : World} {sz n len cap : Nat} {a : Option Addr} {l : List Value} (h : rowN w.heap a (n * sz) = some l) :
    (Builtin.firstCells sz n (.slice a len cap)).run P w = .ok l.toArray w := by
  cases a with
  | none => simp only [rowN, Option.some.injEq] at h; subst h; simp [Builtin.firstCells]
  | some a =>
    have := loadN_run (P := P) (w := w) #[] h
    simpa [Builtin.firstCells, loadCells] using this

theorem appendX_run {P : Program} {w : World} {t u ty : TypeId} {e' : TypeId} {s x : Value} {k : Value → Heap → Prop} (hu2 : P.underlying u = some (.slice e'))
    (hx : appendX (elemOfS P t) s x w.heap k) : ∃ v w', (Builtin.append_ #[t, u] ty #[s, x]).run P w = .ok v w' ∧ Like w w' ∧ k v w'.heap := by
  unfold appendX at hx
  split at hx
  · rename_i e sz b z base len cap xb n xc hel
    obtain ⟨hu, i, hi, h1, h2, hz, hzs⟩ := elem_spec hel
    obtain ⟨new, hnew, hfit, hgrow⟩ := hx
    have hsz : ∀ w : World, (Go.sizeOf e).run P w = .ok sz w := fun w => run_cells (by simp [szOf, hi, h1])
    have hin : ∀ w : World, (typeInfo e).run P w = .ok i w := fun w => run_info hi
    have hzr : ∀ w : World, (zeroValue e).run P w = .ok z w := fun w => run_zero (by simp [zeroOf, hi, hz])
    by_cases hr : len + n ≤ cap
    · have hk := hfit hr
      cases base with
      | none =>
        refine ⟨.slice none (len + n) cap, w, ?_, Like.refl w, hk⟩
        simp [Builtin.append_, run_under hu, run_under hu2, hsz, Builtin.lenOf, hr, firstCells_run hnew]
      | some a =>
        obtain ⟨w', e1, e2, e3⟩ := storeN_run (P := P) hk
        refine ⟨.slice (some a) (len + n) cap, w', ?_, e2, e3⟩
        simp [Builtin.append_, run_under hu, run_under hu2, hsz, Builtin.lenOf, hr, firstCells_run hnew, e1]
    · obtain ⟨hb, hm, old, hold, hk⟩ := hgrow (by omega)
      have hge := grownCap_ge w (len + n) cap e
      have h63' : ¬ (9223372036854775807 < ((len : Int) + (n : Int))) := by unfold maxLen at hm; omega
      have h48' : ¬ (281474976710656 < Builtin.nextslicecap (len + n) cap * i.bytes) := by
        have := growslice_fits (need := len + n) (old := cap) (bytes := b) (by omega) (by omega)
        rw [h2]; omega
      have hnew' := firstCells_run (P := P) (w := w.drew) (len := n) (cap := xc) (show rowN w.drew.heap xb (n * sz) = some new from hnew)
      have hold' := firstCells_run (P := P) (w := w.drew) (len := len) (cap := cap) (show rowN w.drew.heap base (len * sz) = some old from hold)
      refine ⟨.slice (some ⟨w.heap.size, 0, none⟩) (len + n) (grownCap w (len + n) cap e),
        w.drew.alloc (.cells (old.toArray ++ new.toArray ++ Builtin.zeroCells z.cells (grownCap w (len + n) cap e - (len + n))) e), ?_, ⟨rfl, rfl, rfl⟩, ?_⟩
      · simp [Builtin.append_, run_under hu, run_under hu2, hsz, hin, hzr, Builtin.lenOf, hr, h63', h48', Question.forced, hnew', hold', newRow, grownCap]
        congr 2
        apply Array.ext'
        simp [List.append_assoc]
      · have hl : (Builtin.zeroCells z.cells (grownCap w (len + n) cap e - (len + n))).toList.length = (grownCap w (len + n) cap e - (len + n)) * z.cells.size := by
          simp [Builtin.zeroCells]
        rw [hzs] at hl
        have := hk _ _ hge hl
        have e1 : (old ++ new ++ (Builtin.zeroCells z.cells (grownCap w (len + n) cap e - (len + n))).toList).toArray =
            old.toArray ++ new.toArray ++ Builtin.zeroCells z.cells (grownCap w (len + n) cap e - (len + n)) := by
          apply Array.ext'
          simp
        rw [e1] at this
        exact this
  · exact hx.elim

theorem copyX_run {P : Program} {w : World} {t ty : TypeId} {ts : Array TypeId} {d s : Value} {k : Value → Heap → Prop} (ht : ts[0]? = some t) (hx : copyX (elemOfS P t) d s w.heap k) :
    ∃ v w', (Builtin.copy_ ts ty #[d, s]).run P w = .ok v w' ∧ Like w w' ∧ k v w'.heap := by
  unfold copyX at hx
  split at hx
  · rename_i e sz b z base dl dc sb sl sc hel
    obtain ⟨hu, i, hi, h1, h2, hz, hzs⟩ := elem_spec hel
    obtain ⟨new, hnew, hk⟩ := hx
    have hsz : ∀ w : World, (Go.sizeOf e).run P w = .ok sz w := fun w => run_cells (by simp [szOf, hi, h1])
    have hf := firstCells_run (P := P) (w := w) (len := sl) (cap := sc) hnew
    have hmin : Nat.min sl dl = min sl dl := rfl
    cases base with
    | none =>
      refine ⟨_, w, ?_, Like.refl w, hk⟩
      simp [Builtin.copy_, ht, run_under hu, hsz, Builtin.lenOf, hmin, hf, goInt]
    | some a =>
      obtain ⟨w', e1, e2, e3⟩ := storeN_run (P := P) hk
      refine ⟨_, w', ?_, e2, e3⟩
      simp [Builtin.copy_, ht, run_under hu, hsz, Builtin.lenOf, hmin, hf, e1, goInt]
  · exact hx.elim

theorem runO_elim' {o : Option Value} {k : Value → Prop} (h : runO o k) : ∃ v, o = some v ∧ k v := by
  cases o with
  | none => exact h.elim
  | some v => exact ⟨v, rfl, h⟩

/-- a builtin that acts, or is pure -/
def builtX (P : Program) (b : Builtin) (ts : List TypeId) (xs : List Value) (h : Heap) (k : Value → Heap → Prop) : Prop := match b, ts, xs with
  | .append, [t, u], [s, x] => (∃ e', P.underlying u = some (.slice e')) ∧ appendX (elemOfS P t) s x h k
  | .copy, t :: _, [s, x] => copyX (elemOfS P t) s x h k
  | .delete, t :: _, [m, x] => deleteX P t m x h fun h' => k (.tuple #[]) h'
  | .clear, t :: _, [m] => clearX P t m h fun h' => k (.tuple #[]) h'
  | b, ts, xs => runO (builtV P b ts xs) fun v => k v h

theorem builtX_loud {P : Program} {dst : Option Tmp} {b : Builtin} {xs : Array Operand} {ts : Array TypeId} {ty : TypeId} {pos : String} {after : Array Edge} {guard : Option (Nat × Bool)}
    {ρ : Env} {h : Heap} {k : Value → Heap → Prop} (hx : builtX P b ts.toList (xs.toList.map (ev ρ)) h k) :
    LoudSem P ⟨dst, .call { callee := .builtin b, args := xs, argTypes := ts }, ty, pos, after, guard⟩ ρ h k := by
  refine loud_value fun w hw => ?_
  subst hw
  obtain ⟨ts⟩ := ts
  unfold builtX at hx
  split at hx
  · rename_i t u s x e1 e2
    simp only at e1
    subst e1
    obtain ⟨⟨e', hu2⟩, hx⟩ := hx
    obtain ⟨v, w', r1, r2, r3⟩ := appendX_run (ty := ty) hu2 hx
    refine ⟨v, w', ?_, r2, r3⟩
    have e3 : xs.map (ev ρ) = #[s, x] := by apply Array.ext'; rw [Array.toList_map, e2]
    simp only [execOp, resolve, invoke, builtin, Sem.run_bind, Sem.run_pure, Result.andThen_ok, e3, r1]
  · rename_i t ts' s x e1 e2
    simp only at e1
    subst e1
    obtain ⟨v, w', r1, r2, r3⟩ := copyX_run (ty := ty) (ts := ⟨t :: ts'⟩) rfl hx
    refine ⟨v, w', ?_, r2, r3⟩
    have e3 : xs.map (ev ρ) = #[s, x] := by apply Array.ext'; rw [Array.toList_map, e2]
    simp only [execOp, resolve, invoke, builtin, Sem.run_bind, Sem.run_pure, Result.andThen_ok, e3, r1]
  · rename_i t ts' s x e1 e2
    simp only at e1
    subst e1
    obtain ⟨w', r1, r2, r3⟩ := deleteX_run (ty := ty) (ts := ⟨t :: ts'⟩) rfl hx
    refine ⟨_, w', ?_, r2, r3⟩
    have e3 : xs.map (ev ρ) = #[s, x] := by apply Array.ext'; rw [Array.toList_map, e2]
    simp only [execOp, resolve, invoke, builtin, Sem.run_bind, Sem.run_pure, Result.andThen_ok, e3, r1]
  · rename_i t ts' s e1 e2
    simp only at e1
    subst e1
    obtain ⟨w', r1, r2, r3⟩ := clearX_run (ty := ty) (ts := ⟨t :: ts'⟩) rfl hx
    refine ⟨_, w', ?_, r2, r3⟩
    have e3 : xs.map (ev ρ) = #[s] := by apply Array.ext'; rw [Array.toList_map, e2]
    simp only [execOp, resolve, invoke, builtin, Sem.run_bind, Sem.run_pure, Result.andThen_ok, e3, r1]
  · obtain ⟨v, hv, hk⟩ := runO_elim' hx
    refine ⟨v, w, ?_, Like.refl w, hk⟩
    simp only [execOp, resolve, Sem.run_bind, Sem.run_pure, Result.andThen_ok, invoke]
    exact builtV_run (by rw [Array.toList_map]; exact hv)

theorem callFunc_run {P : Program} {w : World} {f : FuncId} {fn : Func} {args : Array Value} (hf : P.funcs[f]? = some fn) (hb : fn.body.isNone = false) (hn : (fn.name == "runtime.NumGoroutine") = false) :
    (callFunc f args).run P w = .ok (.enter f args) w := by
  simp only [callFunc, program, Sem.run_bind, Sem.run, Result.andThen_ok, hf]
  rw [hn, hb]
  rfl

theorem invokeX_loud {P : Program} {dst : Option Tmp} {f : Operand} {xs : Array Operand} {ts : Array TypeId} {ty : TypeId} {pos : String} {after : Array Edge} {guard : Option (Nat × Bool)}
    {ρ : Env} {h : Heap} {k : Value → Heap → Prop} (hx : invokeX P (ev ρ f) (xs.toList.map (ev ρ)) h k) :
    LoudSem P ⟨dst, .call { callee := .value f, args := xs, argTypes := ts }, ty, pos, after, guard⟩ ρ h k := by
  unfold invokeX at hx
  split at hx
  · rename_i g first captured hf
    obtain ⟨⟨fn, h1, h2, h3⟩, hc⟩ := hx
    intro a w ha hw K Q hK
    unfold Oper.wp
    rw [eval_eq, ha]
    have hr : (execOp (ev ρ) ⟨dst, .call { callee := .value f, args := xs, argTypes := ts }, ty, pos, after, guard⟩).run P w = .ok (.enter g (first.toList ++ xs.toList.map (ev ρ) ++ captured.toList).toArray) w := by
      simp only [execOp, resolve, Sem.run_bind, hf, Deferred.ofValue, Sem.run_pure, Result.andThen_ok, invoke, callFunc_run h1 h2 h3]
      congr 2
      apply Array.ext'
      simp
    rw [hr]
    simp only [Oper.upon]
    refine (hc w hw).mono fun e w' ⟨v, he, hl, hR⟩ => ?_
    subst he
    exact hK v w' hl hR
  · exact hx.elim

/-! ### An operation, a region, a piece of code -/

def makeMapX (h : Heap) (k : Value → Heap → Prop) : Prop := k (.map (some h.size)) (h.push (.map #[] 0))
def stepX (P : Program) (ρ : Env) (o : Op) (h : Heap) (k : Value → Heap → Prop) : Prop := match o with
  | .lookup t m x ok => runO (lookV P t (ev ρ m) (ev ρ x) ok h) fun v => k v h
  | .mapUpdate t m x y => mapUpX P t (ev ρ m) (ev ρ x) (ev ρ y) h (k undef)
  | .makeMap _ none => makeMapX h k
  | .load t a => runO (loadV (aggOf P t) (ev ρ a) h) fun v => k v h
  | .store t a x => storeX (szOf P t) (ev ρ a) (ev ρ x) h (k undef)
  | .alloc e => allocX (zeroOf P e) e h k
  | .box e x => newX (ev ρ x).cells e h k
  | .buildSlice t n ps => buildSliceX (elemOfS P t) n (ps.toList.map fun p => (p.1, ev ρ p.2)) h k
  | .makeSlice t l c => makeSliceX (elemOfS P t) (ev ρ l) (ev ρ c) h k
  | .call { callee := .value f, args, .. } => invokeX P (ev ρ f) (args.toList.map (ev ρ)) h k
  | .call { callee := .builtin b, args, argTypes } => builtX P b argTypes.toList (args.toList.map (ev ρ)) h k
  | o => runO (pv P ρ o) fun v => k v h

theorem runO_elim {o : Option Value} {k : Value → Prop} (h : runO o k) : ∃ v, o = some v ∧ k v := by
  cases o with
  | none => exact h.elim
  | some v => exact ⟨v, rfl, h⟩

theorem stepX_loud {P : Program} {o : Oper} {ρ : Env} {h : Heap} {k : Value → Heap → Prop} (hx : stepX P ρ o.op h k) : LoudSem P o ρ h k := by
  obtain ⟨dst, op, ty, pos, after, guard⟩ := o
  simp only at hx
  have pure_case : runO (pv P ρ op) (fun v => k v h) → LoudSem P ⟨dst, op, ty, pos, after, guard⟩ ρ h k := fun hp => by
    obtain ⟨v, hv, hk⟩ := runO_elim hp
    exact loud_value fun w hw => ⟨v, w, pv_run hv, Like.refl w, by rw [hw]; exact hk⟩
  unfold stepX at hx
  split at hx
  · obtain ⟨v, hv, hk⟩ := runO_elim hx
    refine loud_value fun w hw => ⟨v, w, ?_, Like.refl w, by rw [hw]; exact hk⟩
    exact lv_run (o := ⟨dst, .lookup _ _ _ _, ty, pos, after, guard⟩) (by rw [hw]; exact hv)
  · refine loud_skip fun w hw => ?_
    subst hw
    obtain ⟨w', e1, e2, e3⟩ := mapUpX_run (P := P) hx
    exact ⟨w', by simp [execOp, e1], e2, e3⟩
  · refine loud_value fun w hw => ?_
    subst hw
    refine ⟨_, { w with heap := w.heap.push (.map #[] 0) }, ?_, ⟨rfl, rfl, rfl⟩, hx⟩
    simp [execOp, Instr.makeMap, newObj, Sem.run]
  · obtain ⟨v, hv, hk⟩ := runO_elim hx
    refine loud_value fun w hw => ⟨v, w, ?_, Like.refl w, by rw [hw]; exact hk⟩
    exact lv_run (o := ⟨dst, .load _ _, ty, pos, after, guard⟩) (by rw [hw]; exact hv)
  · exact storeX_loud hx
  · exact allocX_loud hx
  · exact boxX_loud hx
  · exact buildSliceX_loud hx
  · exact makeSliceX_loud hx
  · exact invokeX_loud hx
  · exact builtX_loud hx
  · exact pure_case hx

end Xe
