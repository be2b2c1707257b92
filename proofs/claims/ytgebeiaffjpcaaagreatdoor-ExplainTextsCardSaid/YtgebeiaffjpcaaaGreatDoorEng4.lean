/- The engine, third part: append, calls, regions, code. -/
import Derived.Test.YtgebeiaffjpcaaaGreatDoorEng2
import Derived.KernelRfl
namespace Xe
open Go

theorem firstCells_run {P : Program} {w : World} {sz n len cap : Nat} {a : Option Addr} {l : List Value} (h : rowN w.heap a (n * sz) = some l) :
    (Builtin.firstCells sz n (.slice a len cap)).run P w = .ok l.toArray w := by
  cases a with
  | none => simp only [rowN, Option.some.injEq] at h; subst h; simp [Builtin.firstCells]
  | some a =>
    have := loadN_run (P := P) (w := w) #[] h
    simpa [Builtin.firstCells, loadCells] using this

theorem appendX_run {P : Program} {w : World} {t u ty : TypeId} {e' : TypeId} {s x : Value} {k : Value → Heap → Prop} (hu2 : P.underlying u = some (.slice e'))
    (hx : appendX (elemOfS P t) s x w.heap k) : ∃ v w', (Builtin.append_ #[t, u] ty #[s, x]).run P w = .ok v w' ∧ Like w w' ∧ k v w'.heap := by
  unfold appendX at hx
  split at hx
  · rename_i e sz b z base len cap xb n xc hel
    obtain ⟨hu, i, hi, h1, h2, hz, hzs⟩ := elem_spec hel
    obtain ⟨new, hnew, hfit, hgrow⟩ := hx
    have hsz : ∀ w : World, (Go.sizeOf e).run P w = .ok sz w := fun w => run_cells (by simp [szOf, hi, h1])
    have hin : ∀ w : World, (typeInfo e).run P w = .ok i w := fun w => run_info hi
    have hzr : ∀ w : World, (zeroValue e).run P w = .ok z w := fun w => run_zero (by simp [zeroOf, hi, hz])
    by_cases hr : len + n ≤ cap
    · have hk := hfit hr
      cases base with
      | none =>
        refine ⟨.slice none (len + n) cap, w, ?_, Like.refl w, hk⟩
        simp [Builtin.append_, run_under hu, run_under hu2, hsz, Builtin.lenOf, hr, firstCells_run hnew]
      | some a =>
        obtain ⟨w', e1, e2, e3⟩ := storeN_run (P := P) hk
        refine ⟨.slice (some a) (len + n) cap, w', ?_, e2, e3⟩
        simp [Builtin.append_, run_under hu, run_under hu2, hsz, Builtin.lenOf, hr, firstCells_run hnew, e1]
    · obtain ⟨hb, hm, old, hold, hk⟩ := hgrow (by omega)
      have hge := grownCap_ge w (len + n) cap e
      have h63' : ¬ (9223372036854775807 < ((len : Int) + (n : Int))) := by unfold maxLen at hm; omega
      have h48' : ¬ (281474976710656 < Builtin.nextslicecap (len + n) cap * i.bytes) := by
        have := growslice_fits (need := len + n) (old := cap) (bytes := b) (by omega) (by omega)
        rw [h2]; omega
      have hnew' := firstCells_run (P := P) (w := w.drew) (len := n) (cap := xc) (show rowN w.drew.heap xb (n * sz) = some new from hnew)
      have hold' := firstCells_run (P := P) (w := w.drew) (len := len) (cap := cap) (show rowN w.drew.heap base (len * sz) = some old from hold)
      refine ⟨.slice (some ⟨w.heap.size, 0, none⟩) (len + n) (grownCap w (len + n) cap e),
        w.drew.alloc (.cells (old.toArray ++ new.toArray ++ Builtin.zeroCells z.cells (grownCap w (len + n) cap e - (len + n))) e), ?_, ⟨rfl, rfl, rfl⟩, ?_⟩
      · simp [Builtin.append_, run_under hu, run_under hu2, hsz, hin, hzr, Builtin.lenOf, hr, h63', h48', Question.forced, hnew', hold', newRow, grownCap]
        congr 2
        apply Array.ext'
        simp [List.append_assoc]
      · have hl : (Builtin.zeroCells z.cells (grownCap w (len + n) cap e - (len + n))).toList.length = (grownCap w (len + n) cap e - (len + n)) * z.cells.size := by
          simp [Builtin.zeroCells]
        rw [hzs] at hl
        have := hk _ _ hge hl
        have e1 : (old ++ new ++ (Builtin.zeroCells z.cells (grownCap w (len + n) cap e - (len + n))).toList).toArray =
            old.toArray ++ new.toArray ++ Builtin.zeroCells z.cells (grownCap w (len + n) cap e - (len + n)) := by
          apply Array.ext'
          simp
        rw [e1] at this
        exact this
  · exact hx.elim

/-- so many zeros, behind nothing -/
def appendZX (el : Option (TypeId × Nat × Nat × Value)) (s x : Value) (h : Heap) (k : Value → Heap → Prop) : Prop := match el, s, x with
  | some (e, sz, b, _), .slice none 0 0, .int .i64 m => 0 < m ∧ m ≤ 2 ^ 40 ∧ 0 < sz ∧ b ≤ 64 ∧ ∀ c rest, m.toNat ≤ c → rest.length = c * sz → k (.slice (some ⟨h.size, 0, none⟩) m.toNat c) (h.push (.cells (List.toArray rest) e))
  | _, _, _ => False
/-- what is appended: a slice, or so many zeros -/
def appSel (d : Option TypeDesc) (A B : Prop) : Prop := match d with
  | some (.slice _) => A
  | some (.int _) => B
  | _ => False
theorem appendZX_run {P : Program} {w : World} {t u ty : TypeId} {kd : IntKind} {s x : Value} {k : Value → Heap → Prop} (hu2 : P.underlying u = some (.int kd))
    (hx : appendZX (elemOfS P t) s x w.heap k) : ∃ v w', (Builtin.append_ #[t, u] ty #[s, x]).run P w = .ok v w' ∧ Like w w' ∧ k v w'.heap := by
  unfold appendZX at hx
  split at hx
  · rename_i e sz b z m hel
    obtain ⟨hu, i, hi, h1, h2, hz, hzs⟩ := elem_spec hel
    obtain ⟨h0, hm, hs, hb, hk⟩ := hx
    have hsz : ∀ w : World, (Go.sizeOf e).run P w = .ok sz w := fun w => run_cells (by simp [szOf, hi, h1])
    have hin : ∀ w : World, (typeInfo e).run P w = .ok i w := fun w => run_info hi
    have hzr : ∀ w : World, (zeroValue e).run P w = .ok z w := fun w => run_zero (by simp [zeroOf, hi, hz])
    obtain ⟨n, rfl⟩ : ∃ n : Nat, m = n := ⟨m.toNat, by omega⟩
    have hw : IntKind.i64.wrap (n : Int) = n := IntWalk.i64_in _ (by omega)
    have hn0 : ¬ (n : Int) < 0 := by omega
    have hp : n * i.bytes ≤ 2 ^ 46 := by
      rw [h2]
      calc n * b ≤ 2 ^ 40 * 64 := Nat.mul_le_mul (by omega) hb
        _ = 2 ^ 46 := by decide
    have hby : ¬ ((281474976710656 : Int) < (n : Int) * (i.bytes : Int)) := by
      have : ((n : Int) * (i.bytes : Int)) = ((n * i.bytes : Nat) : Int) := by rw [Int.natCast_mul]
      rw [this]
      generalize n * i.bytes = q at hp ⊢
      omega
    have hr : ¬ n ≤ 0 := by omega
    have hge := grownCap_ge w n 0 e
    have h63' : ¬ (9223372036854775807 < (n : Int)) := by omega
    have h48' : ¬ (281474976710656 < Builtin.nextslicecap n 0 * i.bytes) := by
      have := growslice_fits (need := n) (old := 0) (bytes := b) (by omega) (by have hp' := hp; rw [h2] at hp'; omega)
      rw [h2]; omega
    have hns : ¬ n * sz = 0 := by
      have := Nat.mul_pos (show 0 < n by omega) hs
      omega
    have hold' := firstCells_run (P := P) (w := w.drew) (sz := sz) (n := 0) (a := none) (len := 0) (cap := 0) (l := []) (by simp [rowN])
    refine ⟨.slice (some ⟨w.heap.size, 0, none⟩) n (grownCap w n 0 e),
      w.drew.alloc (.cells (#[] ++ Builtin.zeroCells z.cells n ++ Builtin.zeroCells z.cells (grownCap w n 0 e - n)) e), ?_, ⟨rfl, rfl, rfl⟩, ?_⟩
    · simp [Builtin.append_, run_under hu, run_under hu2, hsz, hin, hzr, hw, hn0, hby, hr, h63', h48', hns, Question.forced, hold', newRow, grownCap, asInt, asIntOf]
      all_goals omega
    · have hl : (#[] ++ Builtin.zeroCells z.cells n ++ Builtin.zeroCells z.cells (grownCap w n 0 e - n)).toList.length = grownCap w n 0 e * sz := by
        simp [Builtin.zeroCells, hzs]
        rw [← Nat.add_mul]
        congr 1
        omega
      have := hk _ _ (by simpa using hge) hl
      rw [Array.toArray_toList] at this
      exact this
  · exact hx.elim

theorem copyX_run {P : Program} {w : World} {t ty : TypeId} {ts : Array TypeId} {d s : Value} {k : Value → Heap → Prop} (ht : ts[0]? = some t) (hx : copyX (elemOfS P t) d s w.heap k) :
    ∃ v w', (Builtin.copy_ ts ty #[d, s]).run P w = .ok v w' ∧ Like w w' ∧ k v w'.heap := by
  unfold copyX at hx
  split at hx
  · rename_i e sz b z base dl dc sb sl sc hel
    obtain ⟨hu, i, hi, h1, h2, hz, hzs⟩ := elem_spec hel
    obtain ⟨new, hnew, hk⟩ := hx
    have hsz : ∀ w : World, (Go.sizeOf e).run P w = .ok sz w := fun w => run_cells (by simp [szOf, hi, h1])
    have hf := firstCells_run (P := P) (w := w) (len := sl) (cap := sc) hnew
    have hmin : Nat.min sl dl = min sl dl := rfl
    cases base with
    | none =>
      refine ⟨_, w, ?_, Like.refl w, hk⟩
      simp [Builtin.copy_, ht, run_under hu, hsz, Builtin.lenOf, hmin, hf, goInt]
    | some a =>
      obtain ⟨w', e1, e2, e3⟩ := storeN_run (P := P) hk
      refine ⟨_, w', ?_, e2, e3⟩
      simp [Builtin.copy_, ht, run_under hu, hsz, Builtin.lenOf, hmin, hf, e1, goInt]
  · exact hx.elim

theorem runO_elim' {o : Option Value} {k : Value → Prop} (h : runO o k) : ∃ v, o = some v ∧ k v := by
  cases o with
  | none => exact h.elim
  | some v => exact ⟨v, rfl, h⟩

/-- a builtin that acts, or is pure -/
def builtX (P : Program) (b : Builtin) (ts : List TypeId) (xs : List Value) (h : Heap) (k : Value → Heap → Prop) : Prop := match b, ts, xs with
  | .append, [t, u], [s, x] => appSel (P.underlying u) (appendX (elemOfS P t) s x h k) (appendZX (elemOfS P t) s x h k)
  | .copy, t :: _, [s, x] => copyX (elemOfS P t) s x h k
  | .delete, t :: _, [m, x] => deleteX P t m x h fun h' => k (.tuple #[]) h'
  | .clear, t :: _, [m] => clearX P t m h fun h' => k (.tuple #[]) h'
  | b, ts, xs => runO (builtV P b ts xs) fun v => k v h

theorem builtX_loud {P : Program} {dst : Option Tmp} {b : Builtin} {xs : Array Operand} {ts : Array TypeId} {ty : TypeId} {pos : String} {after : Array Edge} {guard : Option (Nat × Bool)}
    {ρ : Env} {h : Heap} {k : Value → Heap → Prop} (hx : builtX P b ts.toList (xs.toList.map (ev ρ)) h k) :
    LoudSem P ⟨dst, .call { callee := .builtin b, args := xs, argTypes := ts }, ty, pos, after, guard⟩ ρ h k := by
  refine loud_value fun w hw => ?_
  subst hw
  obtain ⟨ts⟩ := ts
  unfold builtX at hx
  split at hx
  · rename_i t u s x e1 e2
    simp only at e1
    subst e1
    have hx : ∃ v w', (Builtin.append_ #[t, u] ty #[s, x]).run P w = .ok v w' ∧ Like w w' ∧ k v w'.heap := by
      unfold appSel at hx
      split at hx
      · rename_i hu2; exact appendX_run (ty := ty) hu2 hx
      · rename_i hu2; exact appendZX_run (ty := ty) hu2 hx
      · exact hx.elim
    obtain ⟨v, w', r1, r2, r3⟩ := hx
    refine ⟨v, w', ?_, r2, r3⟩
    have e3 : xs.map (ev ρ) = #[s, x] := by apply Array.ext'; rw [Array.toList_map, e2]
    simp only [execOp, resolve, invoke, builtin, Sem.run_bind, Sem.run_pure, Result.andThen_ok, e3, r1]
  · rename_i t ts' s x e1 e2
    simp only at e1
    subst e1
    obtain ⟨v, w', r1, r2, r3⟩ := copyX_run (ty := ty) (ts := ⟨t :: ts'⟩) rfl hx
    refine ⟨v, w', ?_, r2, r3⟩
    have e3 : xs.map (ev ρ) = #[s, x] := by apply Array.ext'; rw [Array.toList_map, e2]
    simp only [execOp, resolve, invoke, builtin, Sem.run_bind, Sem.run_pure, Result.andThen_ok, e3, r1]
  · rename_i t ts' s x e1 e2
    simp only at e1
    subst e1
    obtain ⟨w', r1, r2, r3⟩ := deleteX_run (ty := ty) (ts := ⟨t :: ts'⟩) rfl hx
    refine ⟨_, w', ?_, r2, r3⟩
    have e3 : xs.map (ev ρ) = #[s, x] := by apply Array.ext'; rw [Array.toList_map, e2]
    simp only [execOp, resolve, invoke, builtin, Sem.run_bind, Sem.run_pure, Result.andThen_ok, e3, r1]
  · rename_i t ts' s e1 e2
    simp only at e1
    subst e1
    obtain ⟨w', r1, r2, r3⟩ := clearX_run (ty := ty) (ts := ⟨t :: ts'⟩) rfl hx
    refine ⟨_, w', ?_, r2, r3⟩
    have e3 : xs.map (ev ρ) = #[s] := by apply Array.ext'; rw [Array.toList_map, e2]
    simp only [execOp, resolve, invoke, builtin, Sem.run_bind, Sem.run_pure, Result.andThen_ok, e3, r1]
  · obtain ⟨v, hv, hk⟩ := runO_elim' hx
    refine ⟨v, w, ?_, Like.refl w, hk⟩
    simp only [execOp, resolve, Sem.run_bind, Sem.run_pure, Result.andThen_ok, invoke]
    exact builtV_run (by rw [Array.toList_map]; exact hv)

theorem callFunc_run {P : Program} {w : World} {f : FuncId} {fn : Func} {args : Array Value} (hf : P.funcs[f]? = some fn) (hb : fn.body.isNone = false) (hn : (fn.name == "runtime.NumGoroutine") = false) :
    (callFunc f args).run P w = .ok (.enter f args) w := by
  simp only [callFunc, program, Sem.run_bind, Sem.run, Result.andThen_ok, hf]
  rw [hn, hb]
  rfl

theorem invokeX_loud {P : Program} {dst : Option Tmp} {f : Operand} {xs : Array Operand} {ts : Array TypeId} {ty : TypeId} {pos : String} {after : Array Edge} {guard : Option (Nat × Bool)}
    {ρ : Env} {h : Heap} {k : Value → Heap → Prop} (hx : invokeX P (ev ρ f) (xs.toList.map (ev ρ)) h k) :
    LoudSem P ⟨dst, .call { callee := .value f, args := xs, argTypes := ts }, ty, pos, after, guard⟩ ρ h k := by
  unfold invokeX at hx
  split at hx
  · rename_i g first captured hf
    obtain ⟨⟨fn, h1, h2, h3⟩, hc⟩ := hx
    intro a w ha hw K Q hK
    unfold Oper.wp
    rw [eval_eq, ha]
    have hr : (execOp (ev ρ) ⟨dst, .call { callee := .value f, args := xs, argTypes := ts }, ty, pos, after, guard⟩).run P w = .ok (.enter g (first.toList ++ xs.toList.map (ev ρ) ++ captured.toList).toArray) w := by
      simp only [execOp, resolve, Sem.run_bind, hf, Deferred.ofValue, Sem.run_pure, Result.andThen_ok, invoke, callFunc_run h1 h2 h3]
      congr 2
      apply Array.ext'
      simp
    rw [hr]
    simp only [Oper.upon]
    refine (hc w hw).mono fun e w' ⟨v, he, hl, hR⟩ => ?_
    subst he
    exact hK v w' hl hR
  · exact hx.elim

/-! ### An operation, a region, a piece of code -/

/-! ### Going over a map -/
def rangeX (P : Program) (t : TypeId) (v : Value) (h : Heap) (k : Value → Heap → Prop) : Prop := match P.underlying t, v with
  | some (.map _ _), .map (some m) => match h[m]? with
    | some (.map _ clock) => k (.pointer (some ⟨h.size, 0, none⟩)) (h.push (.mapIter (some m) clock #[] clock))
    | _ => False
  | _, _ => False
def nextX (v : Value) (h : Heap) (k : Value → Heap → Prop) : Prop := match v with
  | .pointer (some ⟨r, 0, none⟩) => match h[r]? with
    | some (.mapIter (some m) since seen last) => match h[m]? with
      | some (.map es clock) => (∀ x ∈ es, x.born < since) ∧ since ≤ last ∧ ((es.filter fun e => !seen.contains e.born).size = 0 → k (.tuple #[.bool false]) h) ∧
          ∀ e ∈ es, seen.contains e.born = false → k (.tuple #[.bool true, e.key, e.val]) (h.setIfInBounds r (.mapIter (some m) since (seen.push e.born) clock))
      | _ => False
    | _ => False
  | _ => False
def entryV (v : Value) (h : Heap) : Option Value := match v with
  | .pointer (some ⟨r, 0, none⟩) => match h[r]? with
    | some (.mapIter (some m) _ seen stepped) => match h[m]?, seen.back? with
      | some (.map es clock), some stamp => if clock = stepped then (es.find? (·.born == stamp)).map fun e => .tuple #[e.key, e.val] else none
      | _, _ => none
    | _ => none
  | _ => none
theorem rangeX_run {P : Program} {w : World} {t : TypeId} {v : Value} {k : Value → Heap → Prop} (hx : rangeX P t v w.heap k) : ∃ v' w', (Instr.range t v).run P w = .ok v' w' ∧ Like w w' ∧ k v' w'.heap := by
  unfold rangeX at hx
  split at hx
  · rename_i m hu
    split at hx
    · rename_i es clock hm
      refine ⟨_, { w with heap := w.heap.push (.mapIter (some m) clock #[] clock) }, ?_, ⟨rfl, rfl, rfl⟩, hx⟩
      simp [Instr.range, run_under hu, getObj, newObj, Sem.run, hm]
    · exact hx.elim
  · exact hx.elim
theorem nextX_run {P : Program} {w : World} {t : TypeId} {v : Value} {k : Value → Heap → Prop} (hx : nextX v w.heap k) : ∃ v' w', (Instr.next v false t).run P w = .ok v' w' ∧ Like w w' ∧ k v' w'.heap := by
  unfold nextX at hx
  split at hx
  · rename_i r
    split at hx
    · rename_i m since seen last hr
      split at hx
      · rename_i es clock hm
        obtain ⟨hold, hsc, h0, h1⟩ := hx
        have ht : (!seen.isEmpty && !es.isEmpty && es.all (fun x => decide (x.born ≥ last))) = false := by
          by_cases he : es.isEmpty = true
          · simp [he]
          · have hne : 0 < es.size := by
              have : es.size ≠ 0 := fun h => he (by simp [Array.isEmpty, h])
              omega
            have hb := hold es[0] (by simp)
            have : es.all (fun x => decide (x.born ≥ last)) = false := by
              rw [Array.all_eq_false]
              exact ⟨0, hne, by simp; omega⟩
            simp [this]
        simp only [Instr.next, getObj, Sem.run_bind, Sem.run, hr, hm, Result.andThen, ht, Bool.false_eq_true, if_false]
        obtain ⟨L, hL⟩ : ∃ L, L = es.filter fun e => !seen.contains e.born := ⟨_, rfl⟩
        rw [← hL] at h0 ⊢
        have hmem : ∀ x ∈ L, x ∈ es ∧ seen.contains x.born = false := fun x hx => by rw [hL] at hx; simpa using hx
        have e1 : L.filter (fun x => decide (x.born < since)) = L := Array.filter_eq_self.2 (fun x hx => by simpa using hold x (hmem x hx).1)
        have e2 : L.filter (fun x => decide (x.born ≥ since)) = #[] := by
          rw [Array.filter_eq_empty_iff]
          intro x hx
          have := hold x (hmem x hx).1
          simp; omega
        simp only [e1, e2, Array.append_empty]
        by_cases hz : L.size = 0
        · have : L = #[] := Array.eq_empty_of_size_eq_zero hz
          subst this
          refine ⟨_, w, ?_, Like.refl w, h0 hz⟩
          simp [choose, Sem.run, Question.forced]
        · have hne : L.isEmpty = false := by simp [Array.isEmpty, hz]
          simp only [hne, Bool.false_eq_true, if_false, Array.empty_append, Array.size_map]
          have hch : ∃ (j : Nat) (w1 : World), j < L.size ∧ w1.heap = w.heap ∧ Like w w1 ∧ (choose (Question.mapNext L.size)).run P w = .ok j w1 := by
            by_cases hf : L.size ≤ 1
            · exact ⟨0, w, by omega, rfl, Like.refl w, by simp [choose, Sem.run, Question.forced, hf]⟩
            · exact ⟨w.tape w.drawn (Question.mapNext L.size) % L.size, { w with drawn := w.drawn + 1 }, Nat.mod_lt _ (by omega), rfl, ⟨rfl, rfl, rfl⟩, by
                simp only [choose, Sem.run, Question.forced, decide_eq_true_eq, hf, if_false, Question.cut]⟩
          obtain ⟨j, w1, hj, hal, hlk, hrun⟩ := hch
          have hm' := hmem L[j] (by simp)
          refine ⟨.tuple #[.bool true, L[j].key, L[j].val], { w1 with heap := w1.heap.setIfInBounds r (.mapIter (some m) since (seen.push L[j].born) clock) }, ?_, ⟨hlk.os, hlk.tape, hlk.output⟩, ?_⟩
          · have hr1 : w1.heap[r]? = some (.mapIter (some m) since seen last) := by rw [hal]; exact hr
            simp only [hrun, Array.getElem?_map, Array.getElem?_eq_getElem hj, Option.map_some, Sem.run_bind, setObj, Sem.run, hr1, Result.andThen]
            rfl
          · show k _ (w1.heap.setIfInBounds r _)
            rw [hal]
            exact h1 _ hm'.1 hm'.2
      · exact hx.elim
    · exact hx.elim
  · exact hx.elim
theorem entryV_run {P : Program} {w : World} {v v' : Value} (hx : entryV v w.heap = some v') : (Instr.entry v).run P w = .ok v' w := by
  unfold entryV at hx
  split at hx
  · rename_i r
    split at hx
    · rename_i m since seen stepped hr
      split at hx
      · rename_i es clock stamp hm hs
        split at hx
        · rename_i hc
          subst hc
          obtain ⟨e, he, rfl⟩ := Option.map_eq_some_iff.1 hx
          simp only [Instr.entry, getObj, Sem.run_bind, Sem.run, hr, hm, hs, Result.andThen, bne_self_eq_false, Bool.false_eq_true, if_false, he]
          rfl
        · cases hx
      · cases hx
    · cases hx
  · cases hx

def makeMapX (h : Heap) (k : Value → Heap → Prop) : Prop := k (.map (some h.size)) (h.push (.map #[] 0))
def stepX (P : Program) (ρ : Env) (o : Op) (h : Heap) (k : Value → Heap → Prop) : Prop := match o with
  | .lookup t m x ok => runO (lookQ P t (ev ρ m) (ev ρ x) ok h) fun v => k v h
  | .mapUpdate t m x y => mapUpQ P t (ev ρ m) (ev ρ x) (ev ρ y) h (k undef)
  | .insert t m x y => mapUpQ P t (ev ρ m) (ev ρ x) (ev ρ y) h (k undef)
  | .convert s t x => convX P (P.underlying s) (P.underlying t) (ev ρ x) h k
  | .makeMap _ none => makeMapX h k
  | .range t m => rangeX P t (ev ρ m) h k
  | .next x false => nextX (ev ρ x) h k
  | .entry x => runO (entryV (ev ρ x) h) fun v => k v h
  | .load t a => runO (loadV (aggOf P t) (ev ρ a) h) fun v => k v h
  | .store t a x => storeX (szOf P t) (ev ρ a) (ev ρ x) h (k undef)
  | .alloc e => allocX (zeroOf P e) e h k
  | .box e x => newX (ev ρ x).cells e h k
  | .buildSlice t n ps => buildSliceX (elemOfS P t) n (ps.toList.map fun p => (p.1, ev ρ p.2)) h k
  | .makeSlice t l c => makeSliceX (elemOfS P t) (ev ρ l) (ev ρ c) h k
  | .call { callee := .value f, args, .. } => invokeX P (ev ρ f) (args.toList.map (ev ρ)) h k
  | .call { callee := .builtin b, args, argTypes } => builtX P b argTypes.toList (args.toList.map (ev ρ)) h k
  | o => runO (pv P ρ o) fun v => k v h

theorem runO_elim {o : Option Value} {k : Value → Prop} (h : runO o k) : ∃ v, o = some v ∧ k v := by
  cases o with
  | none => exact h.elim
  | some v => exact ⟨v, rfl, h⟩

theorem stepX_loud {P : Program} {o : Oper} {ρ : Env} {h : Heap} {k : Value → Heap → Prop} (hx : stepX P ρ o.op h k) : LoudSem P o ρ h k := by
  obtain ⟨dst, op, ty, pos, after, guard⟩ := o
  simp only at hx
  have pure_case : runO (pv P ρ op) (fun v => k v h) → LoudSem P ⟨dst, op, ty, pos, after, guard⟩ ρ h k := fun hp => by
    obtain ⟨v, hv, hk⟩ := runO_elim hp
    exact loud_value fun w hw => ⟨v, w, pv_run hv, Like.refl w, by rw [hw]; exact hk⟩
  unfold stepX at hx
  split at hx
  · obtain ⟨v, hv, hk⟩ := runO_elim hx
    refine loud_value fun w hw => ⟨v, w, ?_, Like.refl w, by rw [hw]; exact hk⟩
    exact lv_run (o := ⟨dst, .lookup _ _ _ _, ty, pos, after, guard⟩) (by rw [hw]; exact hv)
  · refine loud_skip fun w hw => ?_
    subst hw
    obtain ⟨w', e1, e2, e3⟩ := mapUpQ_run (P := P) hx
    exact ⟨w', by simp [execOp, e1], e2, e3⟩
  · refine loud_skip fun w hw => ?_
    subst hw
    obtain ⟨w', e1, e2, e3⟩ := mapUpQ_run (P := P) hx
    exact ⟨w', by simp [execOp, e1], e2, e3⟩
  · refine loud_value fun w hw => ?_
    subst hw
    obtain ⟨v, w', e1, e2, e3⟩ := convX_run (P := P) rfl rfl hx
    exact ⟨v, w', by simp [execOp, e1], e2, e3⟩
  · refine loud_value fun w hw => ?_
    subst hw
    refine ⟨_, { w with heap := w.heap.push (.map #[] 0) }, ?_, ⟨rfl, rfl, rfl⟩, hx⟩
    simp [execOp, Instr.makeMap, newObj, Sem.run]
  · refine loud_value fun w hw => ?_
    subst hw
    obtain ⟨v, w', e1, e2, e3⟩ := rangeX_run (P := P) hx
    exact ⟨v, w', by simp [execOp, e1], e2, e3⟩
  · refine loud_value fun w hw => ?_
    subst hw
    obtain ⟨v, w', e1, e2, e3⟩ := nextX_run (P := P) (t := ty) hx
    exact ⟨v, w', by simp [execOp, e1], e2, e3⟩
  · obtain ⟨v, hv, hk⟩ := runO_elim hx
    refine loud_value fun w hw => ⟨v, w, ?_, Like.refl w, by rw [hw]; exact hk⟩
    have := entryV_run (P := P) (w := w) (by rw [hw]; exact hv)
    simp [execOp, this]
  · obtain ⟨v, hv, hk⟩ := runO_elim hx
    refine loud_value fun w hw => ⟨v, w, ?_, Like.refl w, by rw [hw]; exact hk⟩
    exact lv_run (o := ⟨dst, .load _ _, ty, pos, after, guard⟩) (by rw [hw]; exact hv)
  · exact storeX_loud hx
  · exact allocX_loud hx
  · exact boxX_loud hx
  · exact buildSliceX_loud hx
  · exact makeSliceX_loud hx
  · exact invokeX_loud hx
  · exact builtX_loud hx
  · exact pure_case hx

end Xe

/- The engine, fourth part: regions, code, loops, functions. -/
namespace Xe
open Go

/-! ### Regions in the text's order -/

def yieldX (ops : Array Oper) (ρ : Env) (j : Nat) : Option Bool := match (ops[j]?).bind (·.dst) with
  | some d => match ρ d with | .bool b => some b | _ => none
  | none => none
/-- an operation's guard -/
def gX (ops : Array Oper) (ρ : Env) (g : Option (Nat × Bool)) (A B : Prop) : Prop := match g with
  | none => A
  | some (j, want) => if yieldX ops ρ j = some want then A else B

theorem wanted_eq (ops : Array Oper) (o : Oper) (a : Act) : Region.wanted o (yielded ops a.tmps) = match o.guard with
    | none => true
    | some (j, want) => yieldX ops (env a) j == some want := by
  unfold Region.wanted
  cases o.guard with
  | none => rfl
  | some p =>
    obtain ⟨j, want⟩ := p
    have : yielded ops a.tmps j = yieldX ops (env a) j := by
      unfold yielded yieldX env
      cases hd : (ops[j]?).bind (·.dst) with
      | none => rfl
      | some d =>
        simp only [Option.bind_some, Array.getD_eq_getD_getElem?]
        cases ht : a.tmps[d]? with
        | none => rfl
        | some v => cases v <;> rfl
    simp only [this]

theorem gX_split {ops : Array Oper} {o : Oper} {a : Act} {A B : Prop} (h : gX ops (env a) o.guard A B) :
    (Region.wanted o (yielded ops a.tmps) = true ∧ A) ∨ (Region.wanted o (yielded ops a.tmps) = false ∧ B) := by
  rw [wanted_eq]
  unfold gX at h
  split at h
  · exact .inl ⟨rfl, h⟩
  · rename_i j want hg
    split at h
    · rename_i hy; exact .inl ⟨by rw [hy]; simp, h⟩
    · rename_i hy; exact .inr ⟨by simpa using hy, h⟩

def wpR (P : Program) (ops : Array Oper) (Q : Exit → Env → Heap → Prop) : List Oper → Env → Heap → Prop
  | [], ρ, h => Q .normal ρ h
  | o :: rest, ρ, h => gX ops ρ o.guard (stepX P ρ o.op h fun v h' => wpR P ops Q rest (puto ρ o.dst v) h') (wpR P ops Q rest (puto ρ o.dst undef) h)

/-- the model's post of one of mine -/
def okX (n : Nat) (w0 : World) (Q : Exit → Env → Heap → Prop) : Exit → Act → World → Prop
  | .panic _, _, _ => False
  | .outgrown, _, _ => False
  | e, a, w => a.defers = [] ∧ a.tmps.size = n ∧ Like w0 w ∧ Q e (env a) w.heap

/-- what a piece of code does, in the model's own words -/
def SemX (P : Program) (n : Nat) (c : Code) (Q : Exit → Env → Heap → Prop) (ρ : Env) (h : Heap) : Prop :=
  ∀ w0 a w, a.defers = [] → a.tmps.size = n → env a = ρ → w.heap = h → Like w0 w → c.wp P (okX n w0 Q) a w

def dstOk (n : Nat) (o : Oper) : Bool := match o.dst with | some d => d < n | none => true

theorem put_keeps {n : Nat} {a : Act} {d : Option Tmp} {v : Value} (h1 : a.defers = []) (h2 : a.tmps.size = n) : (a.put d v).defers = [] ∧ (a.put d v).tmps.size = n := by
  cases d with
  | none => exact ⟨h1, h2⟩
  | some d => exact ⟨h1, by simp [Act.put, h2]⟩

theorem env_put' {n : Nat} {o : Oper} {a : Act} {v : Value} (hd : dstOk n o = true) (h2 : a.tmps.size = n) : env (a.put o.dst v) = puto (env a) o.dst v :=
  env_put fun x hx => by rw [h2]; simpa [dstOk, hx] using hd

theorem wpR_sound {P : Program} {ops : Array Oper} {n : Nat} {Q : Exit → Env → Heap → Prop} : ∀ (l : List Oper), (l.all (dstOk n)) = true → ∀ (w0 : World) (a : Act) (w : World),
    a.defers = [] → a.tmps.size = n → Like w0 w → wpR P ops Q l (env a) w.heap → wpList P ops (okX n w0 Q) l a w
  | [], _, w0, a, w, h1, h2, h3, h => ⟨h1, h2, h3, h⟩
  | o :: rest, hl, w0, a, w, h1, h2, h3, h => by
    rw [List.all_cons, Bool.and_eq_true] at hl
    unfold wpList
    rcases gX_split h with ⟨hw, hs⟩ | ⟨hw, hs⟩
    · rw [if_pos hw]
      refine .inl (stepX_loud hs a w rfl rfl _ _ fun v w' hl' hk => ?_)
      have hp := put_keeps (d := o.dst) (v := v) h1 h2
      refine wpR_sound rest hl.2 w0 _ w' hp.1 hp.2 (h3.trans hl') ?_
      rw [env_put' hl.1 h2]
      exact hk
    · rw [hw]
      simp only [Bool.false_eq_true, if_false]
      have hp := put_keeps (d := o.dst) (v := undef) h1 h2
      refine wpR_sound rest hl.2 w0 _ w hp.1 hp.2 h3 ?_
      rw [env_put' hl.1 h2]
      exact hs

/-! ### Regions that draw their order -/

/-- in the order 'sc', of each its kind: 0 pure, 1 a load, 2 a load that reads the same in every heap of the class C, 3 what acts (and keeps C) -/
def seqX (P : Program) (ops : Array Oper) (Q : Exit → Env → Heap → Prop) (C : Heap → Prop) : List (Nat × Nat) → Env → Heap → Prop
  | [], ρ, h => Q .normal ρ h
  | (i, k) :: rest, ρ, h => match ops[i]? with
    | none => False
    | some o => gX ops ρ o.guard (match k with
        | 0 => runO (pv P ρ o.op) fun v => seqX P ops Q C rest (puto ρ o.dst v) h
        | 1 => runO (lv P ρ o.op h) fun v => seqX P ops Q C rest (puto ρ o.dst v) h
        | 2 => ∃ v, (∀ h', C h' → lv P ρ o.op h' = some v) ∧ seqX P ops Q C rest (puto ρ o.dst v) h
        | 3 => stepX P ρ o.op h fun v h' => C h' ∧ seqX P ops Q C rest (puto ρ o.dst v) h'
        | 4 => rest = [] ∧ stepX P ρ o.op h fun v h' => Q .normal (puto ρ o.dst v) h'
        | _ => False) (seqX P ops Q C rest (puto ρ o.dst undef) h)

theorem seqX_sound {P : Program} {ops : Array Oper} {n : Nat} {Q Q' : Exit → Env → Heap → Prop} {C : Heap → Prop} (hd : (ops.toList.all (dstOk n)) = true) :
    ∀ (sc : List (Nat × Nat)) (w0 : World) (a : Act) (w : World), a.defers = [] → a.tmps.size = n → Like w0 w → C w.heap → seqX P ops Q' C sc (env a) w.heap →
      seqW P ops (okX n w0 Q) (fun a w => okX n w0 Q' .normal a w) (fun w => C w.heap) sc a w
  | [], w0, a, w, h1, h2, h3, _, h => ⟨h1, h2, h3, h⟩
  | (i, k) :: rest, w0, a, w, h1, h2, h3, hC, h => by
    unfold seqX at h
    cases ho : ops[i]? with
    | none => rw [ho] at h; exact h.elim
    | some o =>
      rw [ho] at h
      have hdo : dstOk n o = true := by
        rw [List.all_eq_true] at hd
        exact hd o (Array.mem_toList_iff.2 (Array.mem_of_getElem? ho))
      refine ⟨o, ho, ?_⟩
      have next : ∀ v, seqX P ops Q' C rest (puto (env a) o.dst v) w.heap → seqW P ops (okX n w0 Q) (fun a w => okX n w0 Q' .normal a w) (fun w => C w.heap) rest (a.put o.dst v) w := fun v hn => by
        have hp := put_keeps (d := o.dst) (v := v) h1 h2
        refine seqX_sound hd rest w0 _ w hp.1 hp.2 h3 hC ?_
        rw [env_put' hdo h2]
        exact hn
      rcases gX_split h with ⟨hw, hs⟩ | ⟨hw, hs⟩
      · rw [if_pos hw]
        match k, hs with
        | 0, hs =>
          obtain ⟨v, hv, hn⟩ := runO_elim hs
          refine ⟨v, fun w' _ _ => ?_, next v hn⟩
          rw [eval_eq]; exact pv_run hv
        | 1, hs =>
          obtain ⟨v, hv, hn⟩ := runO_elim hs
          refine ⟨v, fun w' _ hh => ?_, next v hn⟩
          rw [eval_eq]; exact lv_run (by rw [hh rfl]; exact hv)
        | 2, hs =>
          obtain ⟨v, hv, hn⟩ := hs
          refine ⟨v, fun w' hor _ => ?_, next v hn⟩
          rw [eval_eq]
          rcases hor with h | h | h
          · cases h
          · cases h.1
          · exact lv_run (hv _ h)
        | 3, hs =>
          rw [if_pos rfl]
          refine stepX_loud hs a w rfl rfl _ _ fun v w' hl' hk => ⟨hk.1, ?_⟩
          have hp := put_keeps (d := o.dst) (v := v) h1 h2
          refine seqX_sound hd rest w0 _ w' hp.1 hp.2 (h3.trans hl') hk.1 ?_
          rw [env_put' hdo h2]
          exact hk.2
        | 4, hs =>
          obtain ⟨hre, hs2⟩ := hs
          rw [if_neg (by decide), if_pos rfl, hre]
          refine stepX_loud hs2 a w rfl rfl _ _ fun v w' hl' hk => ?_
          have hp := put_keeps (d := o.dst) (v := v) h1 h2
          refine ⟨hp.1, hp.2, h3.trans hl', ?_⟩
          rw [env_put' hdo h2]
          exact hk
        | (k + 5), hs => exact hs.elim
      · rw [hw]
        simp only [Bool.false_eq_true, if_false]
        exact next undef hs

theorem okX_panic {n : Nat} {w0 : World} {Q : Exit → Env → Heap → Prop} : ∀ c a w, ¬ okX n w0 Q (.panic c) a w := fun _ _ _ h => h

/-- **A REGION THAT DRAWS ITS ORDER.** -/
theorem draw_seq {P : Program} {n id : Nat} {ops : Array Oper} {Q : Exit → Env → Heap → Prop} {ρ : Env} {h : Heap} (sc : List (Nat × Nat)) (C : Heap → Prop) (hm : P.follows .mixedOrders = true)
    (hok : (sc.length == ops.size && Region.noSelect ops && chk .any ops (loudIn sc) sc (Array.replicate ops.size false)) = true)
    (hd : (ops.toList.all (dstOk n)) = true) (hC : C h) (hs : seqX P ops Q C sc ρ h) : SemX P n (.region id ops true) Q ρ h := by
  intro w0 a w h1 h2 h3 h4 h5
  subst h3 h4
  refine wp_region_seq sc hm hok okX_panic (fun w => C w.heap) hC ?_
  exact seqX_sound hd sc w0 a _ h1 h2 (h5.trans ⟨rfl, rfl, rfl⟩) hC hs

/-! ### Trees of orders -/

def actX (P : Program) (ops : Array Oper) (i : Nat) (K : Env → Heap → Prop) (ρ : Env) (h : Heap) : Prop := match ops[i]? with
  | none => False
  | some o => gX ops ρ o.guard (stepX P ρ o.op h fun v h' => K (puto ρ o.dst v) h') (K (puto ρ o.dst undef) h)
def trX (P : Program) (ops : Array Oper) (Q : Exit → Env → Heap → Prop) : Tr → Env → Heap → Prop
  | .fin sc => seqX P ops Q (fun _ => True) sc
  | .br2 sc i x j y => seqX P ops (fun _ ρ h => actX P ops i (trX P ops Q x) ρ h ∧ actX P ops j (trX P ops Q y) ρ h) (fun _ => True) sc
  | .br3 sc i x j y k z => seqX P ops (fun _ ρ h => actX P ops i (trX P ops Q x) ρ h ∧ actX P ops j (trX P ops Q y) ρ h ∧ actX P ops k (trX P ops Q z) ρ h) (fun _ => True) sc

theorem actX_sound {P : Program} {ops : Array Oper} {n i : Nat} {Q : Exit → Env → Heap → Prop} {K : Env → Heap → Prop} {K' : Act → World → Prop} {w0 : World} (hd : (ops.toList.all (dstOk n)) = true)
    (hK : ∀ a w, a.defers = [] → a.tmps.size = n → Like w0 w → K (env a) w.heap → K' a w) {a : Act} {w : World} (h1 : a.defers = []) (h2 : a.tmps.size = n) (h3 : Like w0 w) (h : actX P ops i K (env a) w.heap) :
    actW P ops (okX n w0 Q) i K' a w := by
  unfold actX at h
  cases ho : ops[i]? with
  | none => rw [ho] at h; exact h.elim
  | some o =>
    rw [ho] at h
    have hdo : dstOk n o = true := by
      rw [List.all_eq_true] at hd
      exact hd o (Array.mem_toList_iff.2 (Array.mem_of_getElem? ho))
    refine ⟨o, ho, ?_⟩
    rcases gX_split h with ⟨hw, hs⟩ | ⟨hw, hs⟩
    · rw [if_pos hw]
      refine stepX_loud hs a w rfl rfl _ _ fun v w' hl' hk => ?_
      have hp := put_keeps (d := o.dst) (v := v) h1 h2
      refine hK _ _ hp.1 hp.2 (h3.trans hl') ?_
      rw [env_put' hdo h2]
      exact hk
    · rw [hw]
      simp only [Bool.false_eq_true, if_false]
      have hp := put_keeps (d := o.dst) (v := undef) h1 h2
      refine hK _ _ hp.1 hp.2 h3 ?_
      rw [env_put' hdo h2]
      exact hs

theorem trX_sound {P : Program} {ops : Array Oper} {n : Nat} {Q : Exit → Env → Heap → Prop} (hd : (ops.toList.all (dstOk n)) = true) :
    ∀ (t : Tr) (w0 : World) (a : Act) (w : World), a.defers = [] → a.tmps.size = n → Like w0 w → trX P ops Q t (env a) w.heap → trW P ops (okX n w0 Q) t a w := by
  have mono : ∀ {N N' : Act → World → Prop} {Q : Exit → Act → World → Prop} (hN : ∀ a w, N a w → N' a w) (sc : List (Nat × Nat)) (a : Act) (w : World), seqW P ops Q N (fun _ => True) sc a w → seqW P ops Q N' (fun _ => True) sc a w := by
    intro N N' Q hN sc
    induction sc with
    | nil => exact fun a w h => hN a w h
    | cons p rest ih =>
      intro a w ⟨o, ho, h⟩
      refine ⟨o, ho, ?_⟩
      split at h
      · rename_i hw
        rw [if_pos hw]
        split at h
        · rename_i h3
          rw [if_pos h3]
          exact Oper.wp_mono (fun a' w' h' => ⟨h'.1, ih _ _ h'.2⟩) h
        · rename_i h3
          rw [if_neg h3]
          split at h
          · rename_i h4
            rw [if_pos h4]
            exact Oper.wp_mono (fun a' w' h' => ih _ _ h') h
          · rename_i h4
            rw [if_neg h4]
            obtain ⟨v, h5, h6⟩ := h
            exact ⟨v, h5, ih _ _ h6⟩
      · rename_i hw
        rw [if_neg hw]
        exact ih _ _ h
  intro t
  induction t with
  | fin sc =>
    intro w0 a w h1 h2 h3 h
    exact seqX_sound (Q := Q) hd sc w0 a w h1 h2 h3 trivial h
  | br2 sc i x j y ihx ihy =>
    intro w0 a w h1 h2 h3 h
    have := seqX_sound (Q := Q) hd sc w0 a w h1 h2 h3 trivial h
    refine mono (fun a w hn => ?_) sc a w this
    obtain ⟨g1, g2, g3, g4, g5⟩ := hn
    exact ⟨actX_sound hd (fun a w a1 a2 a3 a4 => ihx w0 a w a1 a2 a3 a4) g1 g2 g3 g4, actX_sound hd (fun a w a1 a2 a3 a4 => ihy w0 a w a1 a2 a3 a4) g1 g2 g3 g5⟩
  | br3 sc i x j y k z ihx ihy ihz =>
    intro w0 a w h1 h2 h3 h
    have := seqX_sound (Q := Q) hd sc w0 a w h1 h2 h3 trivial h
    refine mono (fun a w hn => ?_) sc a w this
    obtain ⟨g1, g2, g3, g4, g5, g6⟩ := hn
    exact ⟨actX_sound hd (fun a w a1 a2 a3 a4 => ihx w0 a w a1 a2 a3 a4) g1 g2 g3 g4, actX_sound hd (fun a w a1 a2 a3 a4 => ihy w0 a w a1 a2 a3 a4) g1 g2 g3 g5, actX_sound hd (fun a w a1 a2 a3 a4 => ihz w0 a w a1 a2 a3 a4) g1 g2 g3 g6⟩

/-- **A REGION WHERE TWO OR THREE THAT ACT MAY COME UP AT ONCE.** -/
theorem draw_tree {P : Program} {n id : Nat} {ops : Array Oper} {Q : Exit → Env → Heap → Prop} {ρ : Env} {h : Heap} (t : Tr) (hm : P.follows .mixedOrders = true)
    (hok : (t.size == ops.size && Region.noSelect ops && chkT .any ops t.loud t (Array.replicate ops.size false)) = true)
    (hd : (ops.toList.all (dstOk n)) = true) (hs : trX P ops Q t ρ h) : SemX P n (.region id ops true) Q ρ h := by
  intro w0 a w h1 h2 h3 h4 h5
  subst h3 h4
  refine wp_region_tree t hm hok okX_panic ?_
  exact trX_sound hd t w0 a _ h1 h2 (h5.trans ⟨rfl, rfl, rfl⟩) hs

/-! ### Code -/

def thenX (next : Env → Heap → Prop) (Q : Exit → Env → Heap → Prop) : Exit → Env → Heap → Prop
  | .normal, ρ, h => next ρ h
  | e, ρ, h => Q e ρ h
def blockX (id : Nat) (Q : Exit → Env → Heap → Prop) : Exit → Env → Heap → Prop
  | .exit j, ρ, h => if j = id then Q .normal ρ h else Q (.exit j) ρ h
  | e, ρ, h => Q e ρ h
def condX (v : Value) (A B : Prop) : Prop := match v with
  | .bool true => A
  | .bool false => B
  | _ => False

def wpX (P : Program) (n : Nat) : Code → (Exit → Env → Heap → Prop) → Env → Heap → Prop
  | .skip, Q, ρ, h => Q .normal ρ h
  | .label _, Q, ρ, h => Q .normal ρ h
  | .seq a b, Q, ρ, h => wpX P n a (thenX (wpX P n b Q) Q) ρ h
  | .cond c a b, Q, ρ, h => condX (ev ρ c) (wpX P n a Q ρ h) (wpX P n b Q ρ h)
  | .block id c, Q, ρ, h => wpX P n c (blockX id Q) ρ h
  | .exit id, Q, ρ, h => Q (.exit id) ρ h
  | .goto l, Q, ρ, h => Q (.goto l) ρ h
  | .ret, Q, ρ, h => Q .ret ρ h
  | .region _ ops false, Q, ρ, h => wpR P ops Q ops.toList ρ h
  | .region id ops true, Q, ρ, h => SemX P n (.region id ops true) Q ρ h
  | .loop c, Q, ρ, h => SemX P n (.loop c) Q ρ h
  | .scope c, Q, ρ, h => SemX P n (.scope c) Q ρ h
  | .rangeFunc .., _, _, _ => False
  | .refuse _, _, _, _ => False

/-- the slots that a piece of code writes lie in the frame -/
def okCode (n : Nat) : Code → Bool
  | .seq a b => okCode n a && okCode n b
  | .cond _ a b => okCode n a && okCode n b
  | .block _ c => okCode n c
  | .region _ ops _ => ops.toList.all (dstOk n)
  | .loop c => okCode n c
  | .scope c => okCode n c
  | _ => true

theorem okX_mono {n : Nat} {w0 : World} {Q Q' : Exit → Env → Heap → Prop} (h : ∀ e ρ h, Q e ρ h → Q' e ρ h) : ∀ e a w, okX n w0 Q e a w → okX n w0 Q' e a w := by
  intro e a w hx
  cases e <;> first | exact hx.elim | exact ⟨hx.1, hx.2.1, hx.2.2.1, h _ _ _ hx.2.2.2⟩

theorem wpX_sound {P : Program} {n : Nat} : ∀ (c : Code), okCode n c = true → ∀ (Q : Exit → Env → Heap → Prop) (ρ : Env) (h : Heap), wpX P n c Q ρ h → SemX P n c Q ρ h
  | .skip, _, Q, ρ, h, hx => fun w0 a w h1 h2 h3 h4 h5 => wp_skip ⟨h1, h2, h5, by rw [h3, h4]; exact hx⟩
  | .label _, _, Q, ρ, h, hx => fun w0 a w h1 h2 h3 h4 h5 => wp_label ⟨h1, h2, h5, by rw [h3, h4]; exact hx⟩
  | .seq x y, hok, Q, ρ, h, hx => fun w0 a w h1 h2 h3 h4 h5 => by
    simp only [okCode, Bool.and_eq_true] at hok
    refine wp_seq (wp_mono (wpX_sound x hok.1 _ ρ h hx w0 a w h1 h2 h3 h4 h5) fun e a' w' hq => ?_)
    cases e with
    | normal => exact wpX_sound y hok.2 Q _ _ hq.2.2.2 w0 a' w' hq.1 hq.2.1 rfl rfl hq.2.2.1
    | panic _ => exact hq.elim
    | outgrown => exact hq.elim
    | exit _ => exact hq
    | goto _ => exact hq
    | ret => exact hq
  | .cond c x y, hok, Q, ρ, h, hx => fun w0 a w h1 h2 h3 h4 h5 => by
    simp only [okCode, Bool.and_eq_true] at hok
    unfold wpX condX at hx
    split at hx
    · rename_i hc
      exact wp_cond_true (by rw [eval_eq, h3]; exact hc) (wpX_sound x hok.1 Q ρ h hx w0 a w h1 h2 h3 h4 h5)
    · rename_i hc
      exact wp_cond_false (by rw [eval_eq, h3]; exact hc) (wpX_sound y hok.2 Q ρ h hx w0 a w h1 h2 h3 h4 h5)
    · exact hx.elim
  | .block id c, hok, Q, ρ, h, hx => fun w0 a w h1 h2 h3 h4 h5 => by
    refine wp_block (wp_mono (wpX_sound c hok _ ρ h hx w0 a w h1 h2 h3 h4 h5) fun e a' w' hq => ?_)
    cases e with
    | exit j =>
      obtain ⟨q1, q2, q3, q4⟩ := hq
      simp only [blockX] at q4
      simp only [Exit.inBlock]
      split
      · rename_i e; rw [if_pos e] at q4; exact ⟨q1, q2, q3, q4⟩
      · rename_i e; rw [if_neg e] at q4; exact ⟨q1, q2, q3, q4⟩
    | panic _ => exact hq.elim
    | outgrown => exact hq.elim
    | normal => exact hq
    | goto _ => exact hq
    | ret => exact hq
  | .exit id, _, Q, ρ, h, hx => fun w0 a w h1 h2 h3 h4 h5 => wp_exit ⟨h1, h2, h5, by rw [h3, h4]; exact hx⟩
  | .goto l, _, Q, ρ, h, hx => fun w0 a w h1 h2 h3 h4 h5 => wp_goto ⟨h1, h2, h5, by rw [h3, h4]; exact hx⟩
  | .ret, _, Q, ρ, h, hx => fun w0 a w h1 h2 h3 h4 h5 => wp_ret ⟨h1, h2, h5, by rw [h3, h4]; exact hx⟩
  | .region _ ops false, hok, Q, ρ, h, hx => fun w0 a w h1 h2 h3 h4 h5 => by
    subst h3 h4
    exact wp_region_list (wpR_sound _ hok w0 a w h1 h2 h5 hx)
  | .region _ ops true, _, Q, ρ, h, hx => hx
  | .loop c, _, Q, ρ, h, hx => hx
  | .scope c, _, Q, ρ, h, hx => hx
  | .rangeFunc .., _, _, _, _, hx => hx.elim
  | .refuse _, _, _, _, _, hx => hx.elim

/-- **A LOOP**: what holds at every round's head, and what every round lowers. -/
theorem loop_inv {P : Program} {n : Nat} {c : Code} {Q : Exit → Env → Heap → Prop} {ρ : Env} {h : Heap} (I : Env → Heap → Prop) (μ : Env → Heap → Nat) (hok : okCode n c = true) (h0 : I ρ h)
    (round : ∀ ρ h, I ρ h → wpX P n c (thenX (fun ρ' h' => I ρ' h' ∧ μ ρ' h' < μ ρ h) Q) ρ h) : SemX P n (.loop c) Q ρ h := by
  intro w0 a w h1 h2 h3 h4 h5
  refine wp_loop (fun a w => a.defers = [] ∧ a.tmps.size = n ∧ Like w0 w ∧ I (env a) w.heap) (fun a w => μ (env a) w.heap) ⟨h1, h2, h5, by rw [h3, h4]; exact h0⟩ ?_
  intro a w ⟨i1, i2, i3, i4⟩
  refine wp_mono (wpX_sound c hok _ _ _ (round _ _ i4) w0 a w i1 i2 rfl rfl i3) fun e a' w' hq => ?_
  cases e with
  | normal => exact ⟨⟨hq.1, hq.2.1, hq.2.2.1, hq.2.2.2.1⟩, hq.2.2.2.2⟩
  | panic _ => exact hq.elim
  | outgrown => exact hq.elim
  | exit _ => exact hq
  | goto _ => exact hq
  | ret => exact hq

def jumpX (l : Nat) (J : Env → Heap → Prop) (Q : Exit → Env → Heap → Prop) : Exit → Env → Heap → Prop
  | .goto l', ρ, h => l' = l ∧ J ρ h
  | e, ρ, h => Q e ρ h

/-- **A SCOPE WITH ONE LABEL**: what holds at every jump, and what every pass lowers. -/
theorem scope_jumps {P : Program} {n : Nat} {c rest : Code} {Q : Exit → Env → Heap → Prop} {ρ : Env} {h : Heap} (l : Nat) (J : Env → Heap → Prop) (μ : Env → Heap → Nat) (hf : findLabel c l = some rest)
    (hok : (okCode n c && okCode n rest) = true) (first : wpX P n c (jumpX l J Q) ρ h)
    (pass : ∀ ρ h, J ρ h → wpX P n rest (jumpX l (fun ρ' h' => J ρ' h' ∧ μ ρ' h' < μ ρ h) Q) ρ h) : SemX P n (.scope c) Q ρ h := by
  rw [Bool.and_eq_true] at hok
  intro w0 a w h1 h2 h3 h4 h5
  refine wp_scope_jumps l (fun a w => a.defers = [] ∧ a.tmps.size = n ∧ Like w0 w ∧ J (env a) w.heap) (fun a w => μ (env a) w.heap) hf ?_ ?_
  · refine wp_mono (wpX_sound c hok.1 _ _ _ first w0 a w h1 h2 h3 h4 h5) fun e a' w' hq => ?_
    cases e with
    | goto l' => exact ⟨hq.2.2.2.1, hq.1, hq.2.1, hq.2.2.1, hq.2.2.2.2⟩
    | panic _ => exact hq.elim
    | outgrown => exact hq.elim
    | exit _ => exact hq
    | normal => exact hq
    | ret => exact hq
  · intro a w ⟨i1, i2, i3, i4⟩
    refine wp_mono (wpX_sound rest hok.2 _ _ _ (pass _ _ i4) w0 a w i1 i2 rfl rfl i3) fun e a' w' hq => ?_
    cases e with
    | goto l' => exact ⟨hq.2.2.2.1, ⟨hq.1, hq.2.1, hq.2.2.1, hq.2.2.2.2.1⟩, hq.2.2.2.2.2⟩
    | panic _ => exact hq.elim
    | outgrown => exact hq.elim
    | exit _ => exact hq
    | normal => exact hq
    | ret => exact hq

theorem SemX.mono {P : Program} {n : Nat} {c : Code} {Q Q' : Exit → Env → Heap → Prop} {ρ : Env} {h : Heap} (hs : SemX P n c Q ρ h) (hq : ∀ e ρ h, Q e ρ h → Q' e ρ h) : SemX P n c Q' ρ h :=
  fun w0 a w h1 h2 h3 h4 h5 => wp_mono (hs w0 a w h1 h2 h3 h4 h5) (okX_mono hq)

/-- **A SCOPE THAT BEGINS WITH ITS ONE LABEL.** -/
theorem scope_first {P : Program} {n : Nat} {c : Code} {Q : Exit → Env → Heap → Prop} {ρ : Env} {h : Heap} (l : Nat) (J : Env → Heap → Prop) (μ : Env → Heap → Nat)
    (hok : okCode n c = true) (h0 : J ρ h)
    (pass : ∀ ρ h, J ρ h → wpX P n c (jumpX l (fun ρ' h' => J ρ' h' ∧ μ ρ' h' < μ ρ h) Q) ρ h) : SemX P n (.scope (.seq (.label l) c)) Q ρ h := by
  intro w0 a w h1 h2 h3 h4 h5
  have body : ∀ a w, a.defers = [] → a.tmps.size = n → Like w0 w → J (env a) w.heap → ∀ K : Exit → Act → World → Prop,
      (∀ e a' w', okX n w0 (jumpX l (fun ρ' h' => J ρ' h' ∧ μ ρ' h' < μ (env a) w.heap) Q) e a' w' → K e a' w') → c.wp P K a w := fun a w i1 i2 i3 i4 K hK =>
    wp_mono (wpX_sound c hok _ _ _ (pass _ _ i4) w0 a w i1 i2 rfl rfl i3) hK
  refine wp_scope_jumps (rest := .seq .skip c) l (fun a w => a.defers = [] ∧ a.tmps.size = n ∧ Like w0 w ∧ J (env a) w.heap) (fun a w => μ (env a) w.heap) (by simp [findLabel]) ?_ ?_
  · refine wp_seq (wp_label ?_)
    refine body a w h1 h2 h5 (by rw [h3, h4]; exact h0) _ fun e a' w' hq => ?_
    cases e with
    | goto l' => exact ⟨hq.2.2.2.1, hq.1, hq.2.1, hq.2.2.1, hq.2.2.2.2.1⟩
    | panic _ => exact hq.elim
    | outgrown => exact hq.elim
    | exit _ => exact hq
    | normal => exact hq
    | ret => exact hq
  · intro a w ⟨i1, i2, i3, i4⟩
    refine wp_seq (wp_skip ?_)
    refine body a w i1 i2 i3 i4 _ fun e a' w' hq => ?_
    cases e with
    | goto l' => exact ⟨hq.2.2.2.1, ⟨hq.1, hq.2.1, hq.2.2.1, hq.2.2.2.2.1⟩, hq.2.2.2.2.2⟩
    | panic _ => exact hq.elim
    | outgrown => exact hq.elim
    | exit _ => exact hq
    | normal => exact hq
    | ret => exact hq

/-! ### A function -/

def argE : List Value → Env
  | [], _ => undef
  | v :: _, 0 => v
  | _ :: l, n + 1 => argE l n

theorem argE_eq : ∀ (l : List Value) (t : Nat), argE l t = (l[t]?).getD undef
  | [], _ => by simp [argE]
  | v :: _, 0 => by simp [argE]
  | _ :: l, n + 1 => by simp [argE, argE_eq l n]

def resV (P : Program) (ρ : Env) (h : Heap) : ResultVar → Option Value
  | .tmp t => some (ρ t)
  | .cell a t => loadV (aggOf P t) (ρ a) h
def resX (P : Program) (rs : List ResultVar) (R : Value → Heap → Prop) (ρ : Env) (h : Heap) : Prop := match rs with
  | [r] => runO (resV P ρ h r) fun v => R v h
  | [] => R (.tuple #[]) h
  | [r, s] => runO (resV P ρ h r) fun v => runO (resV P ρ h s) fun u => R (.tuple #[v, u]) h
  | [r, s, t] => runO (resV P ρ h r) fun v => runO (resV P ρ h s) fun u => runO (resV P ρ h t) fun x => R (.tuple #[v, u, x]) h
  | [r, s, t, q] => runO (resV P ρ h r) fun v => runO (resV P ρ h s) fun u => runO (resV P ρ h t) fun x => runO (resV P ρ h q) fun y => R (.tuple #[v, u, x, y]) h
  | _ => False
def retX (P : Program) (rs : List ResultVar) (R : Value → Heap → Prop) : Exit → Env → Heap → Prop
  | .normal, ρ, h => resX P rs R ρ h
  | .ret, ρ, h => resX P rs R ρ h
  | _, _, _ => False

def resS (tmps : Array Value) : ResultVar → Sem Value
  | .tmp t => pure (tmps.getD t undef)
  | .cell a t => do loadVar t (← asAddr (tmps.getD a undef))

theorem results_eq (fn : Func) (tmps : Array Value) : results fn tmps = (do
  let vs ← fn.results.mapM (resS tmps)
  pure (if h : vs.size = 1 then vs[0] else .tuple vs)) := by
  unfold results
  congr 2

theorem resV_run {P : Program} {a : Act} {w : World} {r : ResultVar} {v : Value} (h : resV P (env a) w.heap r = some v) : (resS a.tmps r).run P w = .ok v w := by
  cases r with
  | tmp t => simp only [resV, Option.some.injEq] at h; subst h; rfl
  | cell x t =>
    have h' : loadV (aggOf P t) (env a x) w.heap = some v := h
    have hr := loadV_run (P := P) (w := w) h'
    have hp : ∃ ad, env a x = .pointer (some ad) := by
      cases hx : env a x with
      | pointer ad =>
        cases ad with
        | none => rw [hx] at h'; unfold loadV at h'; split at h' <;> simp_all
        | some ad => exact ⟨ad, rfl⟩
      | _ => rw [hx] at h'; unfold loadV at h'; split at h' <;> simp_all
    obtain ⟨ad, had⟩ := hp
    have had' : a.tmps.getD x undef = .pointer (some ad) := had
    rw [had] at hr
    simp only [Instr.loadAt, Instr.sureAddr, Sem.run_bind, Sem.run_pure, Result.andThen_ok] at hr
    simp only [resS, had', asAddr, Sem.run_bind, Sem.run_pure, Result.andThen_ok, hr]

theorem results_run {P : Program} {fn : Func} {a : Act} {w : World} {R : Value → Heap → Prop} (h : resX P fn.results.toList R (env a) w.heap) :
    ∃ v, (results fn a.tmps).run P w = .ok v w ∧ R v w.heap := by
  obtain ⟨rs, hrs⟩ : ∃ rs, fn.results = ⟨rs⟩ := ⟨fn.results.toList, rfl⟩
  rw [hrs] at h
  rw [results_eq, hrs]
  unfold resX at h
  split at h
  · rename_i r e
    simp only at e
    subst e
    obtain ⟨v, hv, hR⟩ := runO_elim h
    exact ⟨v, by simp only [List.mapM_toArray, List.mapM_cons, List.mapM_nil, map_eq_pure_bind, bind_assoc, pure_bind, Sem.run_bind, resV_run hv, Result.andThen_ok, Sem.run_pure]; simp, hR⟩
  · rename_i e
    simp only at e
    subst e
    exact ⟨_, by simp only [List.mapM_toArray, List.mapM_nil, map_eq_pure_bind, pure_bind, Sem.run_pure]; simp, h⟩
  · rename_i r s e
    simp only at e
    subst e
    obtain ⟨v, hv, h⟩ := runO_elim h
    obtain ⟨u, hu, hR⟩ := runO_elim h
    exact ⟨_, by simp only [List.mapM_toArray, List.mapM_cons, List.mapM_nil, map_eq_pure_bind, bind_assoc, pure_bind, Sem.run_bind, resV_run hv, resV_run hu, Result.andThen_ok, Sem.run_pure]; simp, hR⟩
  · rename_i r s t e
    simp only at e
    subst e
    obtain ⟨v, hv, h⟩ := runO_elim h
    obtain ⟨u, hu, h⟩ := runO_elim h
    obtain ⟨x, hx, hR⟩ := runO_elim h
    exact ⟨_, by simp only [List.mapM_toArray, List.mapM_cons, List.mapM_nil, map_eq_pure_bind, bind_assoc, pure_bind, Sem.run_bind, resV_run hv, resV_run hu, resV_run hx, Result.andThen_ok, Sem.run_pure]; simp, hR⟩
  · rename_i r s t q e
    simp only at e
    subst e
    obtain ⟨v, hv, h⟩ := runO_elim h
    obtain ⟨u, hu, h⟩ := runO_elim h
    obtain ⟨x, hx, h⟩ := runO_elim h
    obtain ⟨y, hy, hR⟩ := runO_elim h
    exact ⟨_, by simp only [List.mapM_toArray, List.mapM_cons, List.mapM_nil, map_eq_pure_bind, bind_assoc, pure_bind, Sem.run_bind, resV_run hv, resV_run hu, resV_run hx, resV_run hy, Result.andThen_ok, Sem.run_pure]; simp, hR⟩
  · exact h.elim

/-- **A FUNCTION's CONTRACT OUT OF ITS BODY.** -/
theorem calls_of {P : Program} {f : FuncId} {fn : Func} {c : Code} {vs : List Value} {h : Heap} {R : Value → Heap → Prop} (n : Nat) (rs : List ResultVar) (hf : P.funcs[f]? = some fn) (hb : fn.body = some c)
    (hn : fn.ntmps = n) (hrs : fn.results.toList = rs) (hx : wpX P n c (retX P rs R) (argE vs) h) (hok : (okCode n c && !(fn.name == "runtime.NumGoroutine")) = true := by kernel_rfl) (hl : vs.length ≤ n := by exact Nat.le_of_ble_eq_true rfl) : CallsH P f vs h R := by
  subst hn hrs
  simp only [Bool.and_eq_true, Bool.not_eq_true'] at hok
  obtain ⟨h1, h3⟩ := hok
  have h2 := hl
  refine ⟨⟨fn, hf, by rw [hb]; rfl, h3⟩, fun w hw => ?_⟩
  refine calls_of_wp hf hb ?_
  have hsz : (vs.toArray ++ Array.replicate (fn.ntmps - vs.toArray.size) undef).size = fn.ntmps := by simp; omega
  have henv : env { tmps := vs.toArray ++ Array.replicate (fn.ntmps - vs.toArray.size) undef, defers := [] } = argE vs := by
    funext t
    rw [argE_eq]
    simp only [env, Array.getD_eq_getD_getElem?, Array.getElem?_append, List.size_toArray, List.getElem?_toArray]
    split
    · rfl
    · rename_i hge
      rw [List.getElem?_eq_none (by omega)]
      rw [Array.getElem?_replicate]
      split <;> rfl
  refine wp_mono (wpX_sound c h1 _ _ _ hx w _ w rfl hsz henv hw (Like.refl w)) fun e a' w' hq => ?_
  have fin : a'.defers = [] ∧ a'.tmps.size = fn.ntmps ∧ Like w w' ∧ resX P fn.results.toList R (env a') w'.heap →
      a'.defers = [] ∧ ∃ v, (results fn a'.tmps).run P w' = .ok v w' ∧ ∃ v_1, Ending.returned v = .returned v_1 ∧ Like w w' ∧ R v_1 w'.heap := fun ⟨q1, _, q3, q4⟩ => by
    obtain ⟨v, hv, hR⟩ := results_run q4
    exact ⟨q1, v, hv, v, rfl, q3, hR⟩
  cases e with
  | normal => exact fin hq
  | ret => exact fin hq
  | panic _ => exact hq.elim
  | outgrown => exact hq.elim
  | exit _ => exact hq.2.2.2.elim
  | goto _ => exact hq.2.2.2.elim

end Xe
