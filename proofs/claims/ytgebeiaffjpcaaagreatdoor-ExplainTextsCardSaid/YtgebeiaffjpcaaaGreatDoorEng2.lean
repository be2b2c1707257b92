/- The engine, second part: loads, what acts, regions, code, calls. -/
import Derived.Test.YtgebeiaffjpcaaaGreatDoorEng
import Derived.Laws.BytesString
import Derived.Lib.ConvBytes
namespace Xe
open Go

/-! ### Loads -/

def loadN (h : Heap) (a : Addr) (i : Nat) : Nat → Option (List Value)
  | 0 => some []
  | n + 1 => (hcell h (a.add i)).bind fun v => (loadN h a (i + 1) n).map (v :: ·)
def loadV (g : Option (Option Nat)) (x : Value) (h : Heap) : Option Value := match g, x with
  | some none, .pointer (some a) => hcell h a
  | some (some n), .pointer (some a) => (loadN h a 0 n).map fun l => .agg l.toArray
  | _, _ => none

section
variable {P : Program} {w : World}

theorem load_run {a : Addr} {v : Value} (h : hcell w.heap a = some v) : (load a).run P w = .ok v w := by
  have h' : w.cell? a = some v := h
  simp only [load, Sem.run, h']

theorem loadN_run {a : Addr} : ∀ {n i : Nat} {l : List Value} (acc : Array Value), loadN w.heap a i n = some l → (loadCellsFrom a i n acc).run P w = .ok (acc ++ l.toArray) w
  | 0, i, l, acc, h => by
    simp only [loadN, Option.some.injEq] at h
    subst h
    simp [loadCellsFrom]
  | n + 1, i, l, acc, h => by
    simp only [loadN, Option.bind_eq_some_iff, Option.map_eq_some_iff] at h
    obtain ⟨v, hv, r, hr, rfl⟩ := h
    simp [loadCellsFrom, load_run hv, loadN_run (acc.push v) hr]

theorem loadV_run {t : TypeId} {x v : Value} (h : loadV (aggOf P t) x w.heap = some v) : (Instr.loadAt t x).run P w = .ok v w := by
  cases hg : aggOf P t with
  | none => rw [hg] at h; simp [loadV] at h
  | some g =>
    rw [hg] at h
    have hagg : (isAgg t).run P w = .ok g.isSome w ∧ ∀ n, g = some n → szOf P t = some n := by
      unfold aggOf at hg
      split at hg
      · rename_i hu
        simp only [Option.map_eq_some_iff] at hg
        obtain ⟨m, hm, rfl⟩ := hg
        exact ⟨by simp [isAgg, run_under hu], fun n hn => by simp only [Option.some.injEq] at hn; rw [← hn]; exact hm⟩
      · rename_i hu
        simp only [Option.map_eq_some_iff] at hg
        obtain ⟨m, hm, rfl⟩ := hg
        exact ⟨by simp [isAgg, run_under hu], fun n hn => by simp only [Option.some.injEq] at hn; rw [← hn]; exact hm⟩
      · rename_i d hd1 hd2 hu
        simp only [Option.some.injEq] at hg
        subst hg
        refine ⟨?_, by intro n hn; cases hn⟩
        simp only [isAgg, Sem.run_bind, run_under hu, Result.andThen_ok]
        cases d <;> simp_all
      · cases hg
    cases x with
    | pointer a =>
      cases a with
      | none => cases g <;> simp [loadV] at h
      | some a =>
        cases g with
        | none =>
          simp only [loadV] at h
          have e1 := hagg.1
          simp only [Option.isSome_none] at e1
          have e2 := load_run (P := P) h
          simp only [Instr.loadAt, Instr.sureAddr, loadVar, Sem.run_bind, Sem.run_pure, Result.andThen_ok, e1]
          exact e2
        | some n =>
          simp only [loadV, Option.map_eq_some_iff] at h
          obtain ⟨l, hl, rfl⟩ := h
          have e1 := hagg.1
          simp only [Option.isSome_some] at e1
          have e3 := loadN_run (P := P) (w := w) #[] hl
          simp [Instr.loadAt, Instr.sureAddr, loadVar, e1, run_cells (hagg.2 n rfl), loadCells, e3]
    | _ => cases g <;> simp [loadV] at h
end

/-! ### Maps whose keys are integers -/

def mapOf (h : Heap) (m : Value) : Option (Nat × Array MapEntry × Nat) := match m with
  | .map (some r) => (match h[r]? with
    | some (.map es c) => some (r, es, c)
    | _ => none)
  | _ => none
def intKey (P : Program) (kt : TypeId) : Bool := match P.underlying kt with
  | some (.int .i64) => true
  | _ => false
def keyI (v : Value) : Option Int := match v with
  | .int .i64 x => some x
  | _ => none
/-- of a map's type with integers as keys: the element's type and its zero -/
def mapT (P : Program) (t : TypeId) : Option (TypeId × TypeId) := match P.underlying t with
  | some (.map kt e) => if intKey P kt = true then some (kt, e) else none
  | _ => none
def findI (es : Array MapEntry) (x : Int) : Option (Option (Nat × Value)) := Instr.findNow (.int .i64) (.int .i64 x) es.toList 0
def lookV (P : Program) (t : TypeId) (m key : Value) (ok : Bool) (h : Heap) : Option Value :=
  (mapT P t).bind fun p => (zeroOf P p.2).bind fun z => (mapOf h m).bind fun q => (keyI key).bind fun x => (findI q.2.1 x).map fun o =>
    if ok then .tuple #[(o.map (·.2)).getD z, .bool o.isSome] else (o.map (·.2)).getD z

theorem mapT_spec {P : Program} {t kt e : TypeId} (h : mapT P t = some (kt, e)) : P.underlying t = some (.map kt e) ∧ P.underlying kt = some (.int .i64) := by
  unfold mapT at h
  split at h
  · rename_i kt' e' hu
    split at h
    · rename_i hk
      simp only [Option.some.injEq, Prod.mk.injEq] at h
      obtain ⟨rfl, rfl⟩ := h
      refine ⟨hu, ?_⟩
      unfold intKey at hk
      split at hk
      · assumption
      · cases hk
    · cases h
  · cases h
theorem mapOf_spec {h : Heap} {m : Value} {r : Nat} {es : Array MapEntry} {c : Nat} (hm : mapOf h m = some (r, es, c)) : m = .map (some r) ∧ h[r]? = some (.map es c) := by
  unfold mapOf at hm
  split at hm
  · split at hm
    · rename_i hr
      simp only [Option.some.injEq, Prod.mk.injEq] at hm
      obtain ⟨rfl, rfl, rfl⟩ := hm
      exact ⟨rfl, hr⟩
    · cases hm
  · cases hm
theorem keyI_spec {v : Value} {x : Int} (h : keyI v = some x) : v = .int .i64 x := by
  unfold keyI at h
  split at h
  · simp only [Option.some.injEq] at h; rw [h]
  · cases h

section
variable {P : Program} {w : World}
theorem checkKey_run {kt : TypeId} {b : Bool} {x : Int} (hk : P.underlying kt = some (.int .i64)) : (Instr.checkKey b 10000 kt (.int .i64 x)).run P w = .ok () w := by
  show (Instr.checkKey b (9999 + 1) kt (.int .i64 x)).run P w = .ok () w
  unfold Instr.checkKey
  simp [run_under hk]
theorem findKey_run {kt : TypeId} {es : Array MapEntry} {x : Int} {o : Option (Nat × Value)} (hk : P.underlying kt = some (.int .i64)) (hf : findI es x = some o) :
    (Instr.findKey kt (.int .i64 x) es.toList).run P w = .ok o w := by
  unfold findI at hf
  unfold Instr.findKey
  simp [run_under hk, hf]
theorem getObj_run {r : Nat} {es : Array MapEntry} {c : Nat} (h : w.heap[r]? = some (.map es c)) : (getObj r).run P w = .ok (.map es c) w := by
  simp [getObj, Sem.run, h]
theorem lookV_run {t : TypeId} {m key v : Value} {ok : Bool} (h : lookV P t m key ok w.heap = some v) : (Instr.lookup t m key ok).run P w = .ok v w := by
  simp only [lookV, Option.bind_eq_some_iff, Option.map_eq_some_iff] at h
  obtain ⟨⟨kt, e⟩, h1, z, h2, ⟨r, es, c⟩, h3, x, h4, o, h5, h6⟩ := h
  obtain ⟨hu, hk⟩ := mapT_spec h1
  obtain ⟨rfl, hr⟩ := mapOf_spec h3
  obtain rfl := keyI_spec h4
  simp only at h2 h5
  unfold Instr.lookup
  cases o with
  | none => simp [run_under hu, getObj_run hr, checkKey_run hk, findKey_run hk h5, run_zero h2, ← h6]
  | some p => obtain ⟨i, u⟩ := p; simp [run_under hu, getObj_run hr, checkKey_run hk, findKey_run hk h5, ← h6]
end

/-! ### Maps whose keys are strings -/
def strKey (P : Program) (kt : TypeId) : Bool := match P.underlying kt with
  | some .string => true
  | _ => false
def mapS (P : Program) (t : TypeId) : Option (TypeId × TypeId) := match P.underlying t with
  | some (.map kt e) => if strKey P kt = true then some (kt, e) else none
  | _ => none
def findS (es : Array MapEntry) (x : ByteArray) : Option (Option (Nat × Value)) := Instr.findNow .string (.string x) es.toList 0
def lookSV (P : Program) (t : TypeId) (m : Value) (x : ByteArray) (ok : Bool) (h : Heap) : Option Value :=
  (mapS P t).bind fun p => (zeroOf P p.2).bind fun z => (mapOf h m).bind fun q => (findS q.2.1 x).map fun o =>
    if ok then .tuple #[(o.map (·.2)).getD z, .bool o.isSome] else (o.map (·.2)).getD z
def lookQ (P : Program) (t : TypeId) (m key : Value) (ok : Bool) (h : Heap) : Option Value := match key with
  | .string x => lookSV P t m x ok h
  | key => lookV P t m key ok h
theorem mapS_spec {P : Program} {t kt e : TypeId} (h : mapS P t = some (kt, e)) : P.underlying t = some (.map kt e) ∧ P.underlying kt = some .string := by
  unfold mapS at h
  split at h
  · rename_i kt' e' hu
    split at h
    · rename_i hk
      simp only [Option.some.injEq, Prod.mk.injEq] at h
      obtain ⟨rfl, rfl⟩ := h
      refine ⟨hu, ?_⟩
      unfold strKey at hk
      split at hk
      · assumption
      · cases hk
    · cases h
  · cases h
section
variable {P : Program} {w : World}
theorem checkKeyS_run {kt : TypeId} {b : Bool} {x : ByteArray} (hk : P.underlying kt = some .string) : (Instr.checkKey b 10000 kt (.string x)).run P w = .ok () w := by
  show (Instr.checkKey b (9999 + 1) kt (.string x)).run P w = .ok () w
  unfold Instr.checkKey
  simp [run_under hk]
theorem findKeyS_run {kt : TypeId} {es : Array MapEntry} {x : ByteArray} {o : Option (Nat × Value)} (hk : P.underlying kt = some .string) (hf : findS es x = some o) :
    (Instr.findKey kt (.string x) es.toList).run P w = .ok o w := by
  unfold findS at hf
  unfold Instr.findKey
  simp [run_under hk, hf]
theorem lookSV_run {t : TypeId} {m v : Value} {x : ByteArray} {ok : Bool} (h : lookSV P t m x ok w.heap = some v) : (Instr.lookup t m (.string x) ok).run P w = .ok v w := by
  simp only [lookSV, Option.bind_eq_some_iff, Option.map_eq_some_iff] at h
  obtain ⟨⟨kt, e⟩, h1, z, h2, ⟨r, es, c⟩, h3, o, h5, h6⟩ := h
  obtain ⟨hu, hk⟩ := mapS_spec h1
  obtain ⟨rfl, hr⟩ := mapOf_spec h3
  simp only at h2 h5
  unfold Instr.lookup
  cases o with
  | none => simp [run_under hu, getObj_run hr, checkKeyS_run hk, findKeyS_run hk h5, run_zero h2, ← h6]
  | some p => obtain ⟨i, u⟩ := p; simp [run_under hu, getObj_run hr, checkKeyS_run hk, findKeyS_run hk h5, ← h6]
theorem lookQ_run {t : TypeId} {m key v : Value} {ok : Bool} (h : lookQ P t m key ok w.heap = some v) : (Instr.lookup t m key ok).run P w = .ok v w := by
  unfold lookQ at h
  split at h
  · exact lookSV_run h
  · exact lookV_run h
end

/-! ### Bytes and strings -/
def byteV (b : UInt8) : Value := .int .u8 (b.toNat : Int)
def byteT (P : Program) (e : TypeId) : Bool := match P.underlying e with
  | some (.int .u8) => true
  | _ => false
def bytesOf : List Value → Option (List UInt8)
  | [] => some []
  | .int .u8 n :: l => (bytesOf l).map (UInt8.ofNat n.toNat :: ·)
  | _ => none
def b2s (v : Value) (h : Heap) : Option Value := match v with
  | .slice none _ _ => some (S [])
  | .slice (some a) n _ => (loadN h a 0 n).bind fun l => (bytesOf l).map S
  | _ => none
def b2sD (P : Program) (s d : Option TypeDesc) (v : Value) (h : Heap) : Option Value := match s, d with
  | some (.slice e), some .string => if byteT P e = true then b2s v h else none
  | _, _ => none
theorem byteT_spec {P : Program} {e : TypeId} (h : byteT P e = true) : P.underlying e = some (.int .u8) := by
  unfold byteT at h
  split at h
  · assumption
  · cases h
theorem bytesOf_spec : ∀ {l : List Value} {b : List UInt8}, bytesOf l = some b → ∃ ns : List Int, l = ns.map (Value.int .u8) ∧ b = ns.map fun n => UInt8.ofNat n.toNat
  | [], b, h => by
    simp only [bytesOf, Option.some.injEq] at h
    subst h
    exact ⟨[], rfl, rfl⟩
  | v :: l, b, h => by
    unfold bytesOf at h
    split at h
    · rename_i e; cases e
    · rename_i n l' e
      cases e
      obtain ⟨b', hb, rfl⟩ := Option.map_eq_some_iff.1 h
      obtain ⟨ns, e1, e2⟩ := bytesOf_spec hb
      exact ⟨n :: ns, by rw [e1]; rfl, by rw [e2]; rfl⟩
    · cases h
theorem foldl_push (ns : List Int) : ∀ s : ByteArray, ns.foldl (fun r n => r.push (UInt8.ofNat n.toNat)) s = ⟨(s.data.toList ++ ns.map fun n => UInt8.ofNat n.toNat).toArray⟩ := by
  induction ns with
  | nil => intro s; simp
  | cons n ns ih =>
    intro s
    rw [List.foldl_cons, ih]
    simp [ByteArray.push]
section
variable {P : Program} {w : World}
theorem b2sD_run {s d : TypeId} {x v : Value} (h : b2sD P (P.underlying s) (P.underlying d) x w.heap = some v) : (convert s d x).run P w = .ok v w := by
  unfold b2sD at h
  split at h
  · rename_i e hs hd
    split at h
    · rename_i he
      have hu := byteT_spec he
      unfold b2s at h
      split at h
      · simp only [Option.some.injEq] at h
        subst h
        simp [convert, run_under hs, run_under hd, run_under hu, Conv.bytesToString, S]
        rfl
      · rename_i a n cp
        simp only [Option.bind_eq_some_iff, Option.map_eq_some_iff] at h
        obtain ⟨l, hl, b, hb, rfl⟩ := h
        obtain ⟨ns, rfl, rfl⟩ := bytesOf_spec hb
        have h1 := loadN_run (P := P) (w := w) #[] hl
        have h2 := run_bytesToString (P := P) w a n cp ns (by rw [loadCells, h1]; simp)
        have h3 : (convert s d (.slice (some a) n cp)).run P w = (Conv.bytesToString (.slice (some a) n cp)).run P w := by
          simp [convert, run_under hs, run_under hd, run_under hu]
        rw [h3, h2, foldl_push]
        simp [S]
      · cases h
    · cases h
  · cases h
end

def lv (P : Program) (ρ : Env) (o : Op) (h : Heap) : Option Value := match o with
  | .load t a => loadV (aggOf P t) (ev ρ a) h
  | .lookup t m x ok => lookQ P t (ev ρ m) (ev ρ x) ok h
  | .convert s d x => b2sD P (P.underlying s) (P.underlying d) (ev ρ x) h
  | _ => none

theorem lv_run {P : Program} {ρ : Env} {o : Oper} {v : Value} {w : World} (h : lv P ρ o.op w.heap = some v) : (execOp (ev ρ) o).run P w = .ok (.value v) w := by
  obtain ⟨dst, op, ty, pos, after, guard⟩ := o
  simp only at h
  cases op
  case load t a => simp only [execOp, Sem.run_bind, loadV_run h, Result.andThen_ok, Sem.run_pure]
  case lookup t m x ok => simp only [execOp, Sem.run_bind, lookQ_run h, Result.andThen_ok, Sem.run_pure]
  case convert s d x => simp only [execOp, Sem.run_bind, b2sD_run h, Result.andThen_ok, Sem.run_pure]
  all_goals simp [lv] at h

/-! ### Calls -/

/-- **A CONTRACT**: called so over that heap it returns a value and leaves a heap that R tells. -/
def CallsH (P : Program) (f : FuncId) (vs : List Value) (h : Heap) (R : Value → Heap → Prop) : Prop :=
  (∃ fn, P.funcs[f]? = some fn ∧ fn.body.isNone = false ∧ (fn.name == "runtime.NumGoroutine") = false) ∧
  ∀ w, w.heap = h → Calls P f vs.toArray w (fun e w' => ∃ v, e = .returned v ∧ Like w w' ∧ R v w'.heap)

theorem CallsH.mono {P : Program} {f : FuncId} {vs : List Value} {h : Heap} {R R' : Value → Heap → Prop} (c : CallsH P f vs h R) (hr : ∀ v h', R v h' → R' v h') : CallsH P f vs h R' :=
  ⟨c.1, fun w hw => (c.2 w hw).mono fun _ _ ⟨v, he, hl, hR⟩ => ⟨v, he, hl, hr _ _ hR⟩⟩

def invokeX (P : Program) (f : Value) (vs : List Value) (h : Heap) (k : Value → Heap → Prop) : Prop := match f with
  | .func (.func f) first captured => CallsH P f (first.toList ++ vs ++ captured.toList) h k
  | _ => False

/-! ### What acts -/

def storeN (h : Heap) (a : Addr) (i : Nat) : List Value → (Heap → Prop) → Prop
  | [], k => k h
  | v :: rest, k => v.oneCell' = true ∧ (hcell h (a.add i)).isSome = true ∧ hfrz h (a.add i) = false ∧ storeN (hset h (a.add i) v) a (i + 1) rest k
def storeX (n : Option Nat) (x v : Value) (h : Heap) (k : Heap → Prop) : Prop := match n, x with
  | some n, .pointer (some a) => v.cells.size = n ∧ storeN h a 0 v.cells.toList k
  | _, _ => False
def newX (cs : Array Value) (e : TypeId) (h : Heap) (k : Value → Heap → Prop) : Prop :=
  k (.pointer (some ⟨h.size, 0, none⟩)) (h.push (.cells cs e))
def allocX (z : Option Value) (e : TypeId) (h : Heap) (k : Value → Heap → Prop) : Prop := match z with
  | some z => newX z.cells e h k
  | none => False
/-- of a slice's type: the element's type, its cells, its bytes, its zero -/
def elemOfS (P : Program) (t : TypeId) : Option (TypeId × Nat × Nat × Value) := match P.underlying t with
  | some (.slice e) => (P.info? e).bind fun i => i.zero.bind fun z => if z.cells.size = i.size then some (e, i.size, i.bytes, z) else none
  | _ => none
def zerosOf (z : Array Value) (n : Nat) : Array Value := (Array.range n).map fun i => z[i % z.size]!
def buildSliceX (el : Option (TypeId × Nat × Nat × Value)) (n : Nat) (parts : List (Nat × Value)) (h : Heap) (k : Value → Heap → Prop) : Prop := match el with
  | some (e, s, _, z) => n * s ≤ 2 ^ 24 ∧ ∃ cs, Instr.fill (fun i => some (i * s, s)) (zerosOf z.cells (n * s)) parts = some cs ∧ k (.slice (some ⟨h.size, 0, none⟩) n n) (h.push (.cells cs e))
  | none => False
def makeSliceX (el : Option (TypeId × Nat × Nat × Value)) (l c : Value) (h : Heap) (k : Value → Heap → Prop) : Prop := match el, l, c with
  | some (e, s, b, z), .int _ l, .int _ c => 0 ≤ l ∧ l ≤ c ∧ c ≤ 9223372036854775807 ∧ b * c ≤ 2 ^ 48 ∧
      k (.slice (some ⟨h.size, 0, none⟩) l.toNat c.toNat) (h.push (.cells (zerosOf z.cells (c.toNat * s)) e))
  | _, _, _ => False
def rowN (h : Heap) (a : Option Addr) (n : Nat) : Option (List Value) := match a with
  | some a => loadN h a 0 n
  | none => some []
def appendX (el : Option (TypeId × Nat × Nat × Value)) (s x : Value) (h : Heap) (k : Value → Heap → Prop) : Prop := match el, s, x with
  | some (e, sz, b, _), .slice base len cap, .slice xb n _ =>
    ∃ new, rowN h xb (n * sz) = some new ∧
    (len + n ≤ cap → match base with
      | some a => storeN h (a.add (len * sz)) 0 new (fun h' => k (.slice base (len + n) cap) h')
      | none => k (.slice none (len + n) cap) h) ∧
    (cap < len + n → (len + n) * b ≤ 2 ^ 47 ∧ len + n ≤ maxLen ∧ ∃ old, rowN h base (len * sz) = some old ∧ ∀ c rest, len + n ≤ c →
      rest.length = (c - (len + n)) * sz → k (.slice (some ⟨h.size, 0, none⟩) (len + n) c) (h.push (.cells (old ++ new ++ rest).toArray e)))
  | _, _, _ => False

/-- what an operation that acts does, in the model's own words -/
def LoudSem (P : Program) (o : Oper) (ρ : Env) (h : Heap) (k : Value → Heap → Prop) : Prop :=
  ∀ a w, env a = ρ → w.heap = h → ∀ (K : Act → World → Prop) (Q : Exit → Act → World → Prop),
    (∀ v w', Like w w' → k v w'.heap → K (a.put o.dst v) w') → o.wp P a w K Q

theorem loud_value {P : Program} {o : Oper} {ρ : Env} {h : Heap} {k : Value → Heap → Prop}
    (hr : ∀ w, w.heap = h → ∃ v w', (execOp (ev ρ) o).run P w = .ok (.value v) w' ∧ Like w w' ∧ k v w'.heap) : LoudSem P o ρ h k := by
  intro a w ha hw K Q hK
  obtain ⟨v, w', h1, h2, h3⟩ := hr w hw
  unfold Oper.wp
  rw [eval_eq, ha, h1]
  exact hK v w' h2 h3

theorem loud_skip {P : Program} {o : Oper} {ρ : Env} {h : Heap} {k : Value → Heap → Prop}
    (hr : ∀ w, w.heap = h → ∃ w', (execOp (ev ρ) o).run P w = .ok .skip w' ∧ Like w w' ∧ k undef w'.heap) : LoudSem P o ρ h k := by
  intro a w ha hw K Q hK
  obtain ⟨w', h1, h2, h3⟩ := hr w hw
  unfold Oper.wp
  rw [eval_eq, ha, h1]
  exact hK undef w' h2 h3

theorem storeN_run {P : Program} {a : Addr} : ∀ {vs : List Value} {i : Nat} {w : World} {k : Heap → Prop}, storeN w.heap a i vs k →
    ∃ w', (storeCells a vs i).run P w = .ok () w' ∧ Like w w' ∧ k w'.heap
  | [], i, w, k, h => ⟨w, rfl, Like.refl w, h⟩
  | v :: rest, i, w, k, h => by
    obtain ⟨h1, h2, h3, h4⟩ := h
    obtain ⟨u, hu⟩ := Option.isSome_iff_exists.1 h2
    have hc : w.cell? (a.add i) = some u := hu
    have hf : w.frozen? (a.add i) = false := h3
    have hs : (store (a.add i) v).run P w = .ok () (w.setCell (a.add i) v) := by
      cases v <;> first
        | (simp [Value.oneCell'] at h1; done)
        | simp [store, Sem.run, hc, hf]
    obtain ⟨w', e1, e2, e3⟩ := storeN_run (P := P) (w := w.setCell (a.add i) v) (i := i + 1) (vs := rest) (k := k) h4
    refine ⟨w', ?_, (⟨rfl, rfl, rfl⟩ : Like w (w.setCell (a.add i) v)).trans e2, e3⟩
    simp [storeCells, hs, e1]

theorem storeX_loud {P : Program} {dst : Option Tmp} {t : TypeId} {a x : Operand} {ty : TypeId} {pos : String} {after : Array Edge} {guard : Option (Nat × Bool)}
    {ρ : Env} {h : Heap} {k : Value → Heap → Prop} (hx : storeX (szOf P t) (ev ρ a) (ev ρ x) h (k undef)) : LoudSem P ⟨dst, .store t a x, ty, pos, after, guard⟩ ρ h k := by
  refine loud_skip fun w hw => ?_
  unfold storeX at hx
  split at hx
  · rename_i n ad hn ha
    obtain ⟨h1, h2⟩ := hx
    subst hw
    obtain ⟨w', e1, e2, e3⟩ := storeN_run (P := P) h2
    refine ⟨w', ?_, e2, e3⟩
    simp [execOp, Instr.storeAt, Instr.sureAddr, ha, storeVar, run_cells hn, h1, e1]
  · exact hx.elim

theorem newRow_run {P : Program} {w : World} {e : TypeId} {cs : Array Value} : (newRow e cs).run P w = .ok ⟨w.heap.size, 0, none⟩ { w with heap := w.heap.push (.cells cs e) } := by
  simp [newRow, newObj, Sem.run]

theorem allocX_loud {P : Program} {dst : Option Tmp} {e : TypeId} {ty : TypeId} {pos : String} {after : Array Edge} {guard : Option (Nat × Bool)}
    {ρ : Env} {h : Heap} {k : Value → Heap → Prop} (hx : allocX (zeroOf P e) e h k) : LoudSem P ⟨dst, .alloc e, ty, pos, after, guard⟩ ρ h k := by
  refine loud_value fun w hw => ?_
  unfold allocX at hx
  split at hx
  · rename_i z hz
    subst hw
    refine ⟨_, { w with heap := w.heap.push (.cells z.cells e) }, ?_, ⟨rfl, rfl, rfl⟩, hx⟩
    simp [execOp, Instr.alloc, run_zero hz, newVar, newRow_run]
  · exact hx.elim

theorem boxX_loud {P : Program} {dst : Option Tmp} {e : TypeId} {x : Operand} {ty : TypeId} {pos : String} {after : Array Edge} {guard : Option (Nat × Bool)}
    {ρ : Env} {h : Heap} {k : Value → Heap → Prop} (hx : newX (ev ρ x).cells e h k) : LoudSem P ⟨dst, .box e x, ty, pos, after, guard⟩ ρ h k := by
  refine loud_value fun w hw => ?_
  subst hw
  refine ⟨_, { w with heap := w.heap.push (.cells (ev ρ x).cells e) }, ?_, ⟨rfl, rfl, rfl⟩, hx⟩
  simp [execOp, Instr.box, newVar, newRow_run]

theorem elem_spec {P : Program} {t e : TypeId} {s b : Nat} {z : Value} (h : elemOfS P t = some (e, s, b, z)) :
    P.underlying t = some (.slice e) ∧ ∃ i, P.info? e = some i ∧ i.size = s ∧ i.bytes = b ∧ i.zero = some z ∧ z.cells.size = s := by
  unfold elemOfS at h
  split at h
  · rename_i e' hu
    simp only [Option.bind_eq_some_iff] at h
    obtain ⟨i, hi, z', hz, h⟩ := h
    split at h
    · rename_i hc
      simp only [Option.some.injEq, Prod.mk.injEq] at h
      obtain ⟨h1, h2, h3, h4⟩ := h
      subst h1 h4
      exact ⟨hu, i, hi, h2, h3, hz, hc.trans h2⟩
    · cases h
  · cases h

theorem buildSliceX_loud {P : Program} {dst : Option Tmp} {t : TypeId} {n : Nat} {ps : Array (Nat × Operand)} {ty : TypeId} {pos : String} {after : Array Edge} {guard : Option (Nat × Bool)}
    {ρ : Env} {h : Heap} {k : Value → Heap → Prop} (hx : buildSliceX (elemOfS P t) n (ps.toList.map fun p => (p.1, ev ρ p.2)) h k) : LoudSem P ⟨dst, .buildSlice t n ps, ty, pos, after, guard⟩ ρ h k := by
  refine loud_value fun w hw => ?_
  unfold buildSliceX at hx
  split at hx
  · rename_i e s b z hel
    obtain ⟨hu, i, hi, h1, h2, hz, _⟩ := elem_spec hel
    obtain ⟨hle, cs, hf, hk⟩ := hx
    subst hw
    refine ⟨_, { w with heap := w.heap.push (.cells cs e) }, ?_, ⟨rfl, rfl, rfl⟩, hk⟩
    have hsz : (Go.sizeOf e).run P w = .ok s w := run_cells (by simp [szOf, hi, h1])
    have hng : ¬ n * s > 2 ^ 24 := by omega
    by_cases h0 : n * s = 0
    · have hzz : (Array.map (fun x => (#[] : Array Value)[x % (#[] : Array Value).size]!) (Array.range (n * s))) = zerosOf z.cells (n * s) := by simp [h0, zerosOf]
      simp only [execOp, Instr.buildSlice, Sem.run_bind, run_under hu, Result.andThen_ok, hsz, hng, if_false, if_pos h0, Sem.run_pure, hzz, Array.toList_map, hf, newRow_run]
    · have hzz : (Array.map (fun x => z.cells[x % z.cells.size]!) (Array.range (n * s))) = zerosOf z.cells (n * s) := rfl
      simp only [execOp, Instr.buildSlice, Sem.run_bind, run_under hu, Result.andThen_ok, hsz, hng, if_false, if_neg h0, run_zero (show zeroOf P e = some z by simp [zeroOf, hi, hz]), Sem.run_pure, hzz, Array.toList_map, hf, newRow_run]
  · exact hx.elim

theorem askRoom_run {P : Program} {w : World} {n : Nat} : (askRoom n).run P w = .ok () w := by
  unfold askRoom
  split <;> simp [mark, Sem.run]

theorem makeSliceX_loud {P : Program} {dst : Option Tmp} {t : TypeId} {l c : Operand} {ty : TypeId} {pos : String} {after : Array Edge} {guard : Option (Nat × Bool)}
    {ρ : Env} {h : Heap} {k : Value → Heap → Prop} (hx : makeSliceX (elemOfS P t) (ev ρ l) (ev ρ c) h k) : LoudSem P ⟨dst, .makeSlice t l c, ty, pos, after, guard⟩ ρ h k := by
  refine loud_value fun w hw => ?_
  unfold makeSliceX at hx
  split at hx
  · rename_i e s b z k1 L k2 C hel hl hc
    obtain ⟨hu, i, hi, h1, h2, hz, _⟩ := elem_spec hel
    obtain ⟨l0, lc, cm, hb, hk⟩ := hx
    subst hw
    refine ⟨_, { w with heap := w.heap.push (.cells (zerosOf z.cells (C.toNat * s)) e) }, ?_, ⟨rfl, rfl, rfl⟩, hk⟩
    have e1 : IntKind.i64.wrap L = L := IntWalk.i64_in _ (by omega)
    have e2 : IntKind.i64.wrap C = C := IntWalk.i64_in _ (by omega)
    have hsz : (Go.sizeOf e).run P w = .ok s w := run_cells (by simp [szOf, hi, h1])
    have hin := run_info (P := P) (w := w) hi
    have hcond : (decide (C < 0) || decide ((i.bytes : Int) * C > 2 ^ 48) || decide (L < 0) || decide (L > C)) = false := by
      simp only [Bool.or_eq_false_iff, decide_eq_false_iff_not]
      have : (i.bytes : Int) * C ≤ 2 ^ 48 := by rw [h2]; exact hb
      omega
    by_cases h0 : C.toNat * s = 0
    · have hzz : (Array.map (fun x => (#[] : Array Value)[x % (#[] : Array Value).size]!) (Array.range (C.toNat * s))) = zerosOf z.cells (C.toNat * s) := by simp [h0, zerosOf]
      simp only [execOp, Instr.makeSlice, Sem.run_bind, run_under hu, Result.andThen_ok, hl, hc, asInt, asIntOf, Sem.run_pure, hin, e1, e2, hcond, Bool.false_eq_true, if_false, askRoom_run, hsz, if_pos h0, hzz, newRow_run]
    · have hzz : (Array.map (fun x => z.cells[x % z.cells.size]!) (Array.range (C.toNat * s))) = zerosOf z.cells (C.toNat * s) := rfl
      simp only [execOp, Instr.makeSlice, Sem.run_bind, run_under hu, Result.andThen_ok, hl, hc, asInt, asIntOf, Sem.run_pure, hin, e1, e2, hcond, Bool.false_eq_true, if_false, askRoom_run, hsz, if_neg h0, run_zero (show zeroOf P e = some z by simp [zeroOf, hi, hz]), hzz, newRow_run]
  · exact hx.elim

/-! ### What acts upon a map -/

def mapUpX (P : Program) (t : TypeId) (m key v : Value) (h : Heap) (k : Heap → Prop) : Prop :=
  ∃ kt e r es c x o, mapT P t = some (kt, e) ∧ mapOf h m = some (r, es, c) ∧ keyI key = some x ∧ findI es x = some o ∧ (∀ i u, o = some (i, u) → (es[i]?).map (·.key) = some (.int .i64 x)) ∧
    k (h.setIfInBounds r (match o with
      | some (i, _) => .map (es.modify i fun e => { e with key := .int .i64 x, val := v }) c
      | none => .map (es.push { key := .int .i64 x, val := v, born := c }) (c + 1)))
def deleteX (P : Program) (t : TypeId) (m key : Value) (h : Heap) (k : Heap → Prop) : Prop :=
  ∃ kt e r es c x o, mapT P t = some (kt, e) ∧ mapOf h m = some (r, es, c) ∧ keyI key = some x ∧ findI es x = some o ∧
    k (h.setIfInBounds r (match o with
      | some (i, _) => .map (es.eraseIdxIfInBounds i) c
      | none => .map es c))
def clearX (P : Program) (t : TypeId) (m : Value) (h : Heap) (k : Heap → Prop) : Prop :=
  (∃ d r es c, P.underlying t = some d ∧ mapOf h m = some (r, es, c) ∧ k (h.setIfInBounds r (.map #[] c))) ∨
  (∃ e s b z a n cap, elemOfS P t = some (e, s, b, z) ∧ m = .slice (some a) n cap ∧ storeN h a 0 (zerosOf z.cells (n * s)).toList k)

section
variable {P : Program} {w : World}
theorem setObj_run {r : Nat} {Y : Obj} {es : Array MapEntry} {c : Nat} (h : w.heap[r]? = some (.map es c)) : (setObj r Y).run P w = .ok () { w with heap := w.heap.setIfInBounds r Y } := by
  simp [setObj, Sem.run, h]
theorem mapUpX_run {t : TypeId} {m key v : Value} {k : Heap → Prop} (hx : mapUpX P t m key v w.heap k) : ∃ w', (Instr.mapUpdate t m key v).run P w = .ok () w' ∧ Like w w' ∧ k w'.heap := by
  obtain ⟨kt, e, r, es, c, x, o, h1, h2, h3, h4, h5, h6⟩ := hx
  obtain ⟨hu, hk⟩ := mapT_spec h1
  obtain ⟨rfl, hr⟩ := mapOf_spec h2
  obtain rfl := keyI_spec h3
  unfold Instr.mapUpdate
  cases o with
  | none => exact ⟨{ w with heap := w.heap.setIfInBounds r (.map (es.push { key := .int .i64 x, val := v, born := c }) (c + 1)) }, by simp [run_under hu, getObj_run hr, checkKey_run hk, findKey_run hk h4, setObj_run hr], ⟨rfl, rfl, rfl⟩, h6⟩
  | some p =>
    obtain ⟨i, u⟩ := p
    have h7 := h5 i u rfl
    have hks : (Instr.keyThatStays (((es[i]?).map (·.key)).getD (.int .i64 x)) (.int .i64 x)).run P w = .ok (.int .i64 x) w := by
      rw [h7]
      unfold Instr.keyThatStays
      have : Instr.sameBits 10000 (.int .i64 x) (.int .i64 x) = true := by
        show Instr.sameBits (9999 + 1) (.int .i64 x) (.int .i64 x) = true
        unfold Instr.sameBits; simp
      simp [this]
    refine ⟨{ w with heap := w.heap.setIfInBounds r (.map (es.modify i fun e => { e with key := .int .i64 x, val := v }) c) }, ?_, ⟨rfl, rfl, rfl⟩, h6⟩
    simp only [run_under hu, getObj_run hr, checkKey_run hk, findKey_run hk h4, setObj_run hr, Sem.run_bind, Result.andThen_ok, hks]
theorem deleteX_run {t ty : TypeId} {ts : Array TypeId} {m key : Value} {k : Heap → Prop} (ht : ts[0]? = some t) (hx : deleteX P t m key w.heap k) :
    ∃ w', (Builtin.delete_ ts ty #[m, key]).run P w = .ok (.tuple #[]) w' ∧ Like w w' ∧ k w'.heap := by
  obtain ⟨kt, e, r, es, c, x, o, h1, h2, h3, h4, h6⟩ := hx
  obtain ⟨hu, hk⟩ := mapT_spec h1
  obtain ⟨rfl, hr⟩ := mapOf_spec h2
  obtain rfl := keyI_spec h3
  unfold Builtin.delete_
  cases o with
  | none => exact ⟨{ w with heap := w.heap.setIfInBounds r (.map es c) }, by simp [ht, run_under hu, getObj_run hr, checkKey_run hk, findKey_run hk h4, setObj_run hr], ⟨rfl, rfl, rfl⟩, h6⟩
  | some p =>
    obtain ⟨i, u⟩ := p
    exact ⟨{ w with heap := w.heap.setIfInBounds r (.map (es.eraseIdxIfInBounds i) c) }, by simp [ht, run_under hu, getObj_run hr, checkKey_run hk, findKey_run hk h4, setObj_run hr], ⟨rfl, rfl, rfl⟩, h6⟩
theorem clearX_run {t ty : TypeId} {ts : Array TypeId} {m : Value} {k : Heap → Prop} (ht : ts[0]? = some t) (hx : clearX P t m w.heap k) :
    ∃ w', (Builtin.clear_ ts ty #[m]).run P w = .ok (.tuple #[]) w' ∧ Like w w' ∧ k w'.heap := by
  rcases hx with ⟨d, r, es, c, h1, h2, h6⟩ | ⟨e, s, b, z, a, n, cap, hel, rfl, hst⟩
  · obtain ⟨rfl, hr⟩ := mapOf_spec h2
    unfold Builtin.clear_
    exact ⟨{ w with heap := w.heap.setIfInBounds r (.map #[] c) }, by simp [ht, run_under h1, getObj_run hr, setObj_run hr], ⟨rfl, rfl, rfl⟩, h6⟩
  · obtain ⟨hu, i, hi, h1, h2, hz, hzs⟩ := elem_spec hel
    unfold Builtin.clear_
    cases n with
    | zero =>
      have hk : k w.heap := by
        have e0 : (zerosOf z.cells (0 * s)).toList = [] := by simp [zerosOf]
        rw [e0] at hst; exact hst
      exact ⟨w, by simp [ht, run_under hu], Like.refl w, hk⟩
    | succ n =>
      obtain ⟨w', e1, e2, e3⟩ := storeN_run (P := P) hst
      refine ⟨w', ?_, e2, e3⟩
      have hzr : (zeroValue e).run P w = .ok z w := run_zero (by simp [zeroOf, hi, hz])
      have e4 : (Builtin.zeroCells z.cells (n + 1)).toList = (zerosOf z.cells ((n + 1) * s)).toList := by unfold Builtin.zeroCells zerosOf; rw [hzs]
      rw [← e4] at e1
      simp [ht, run_under hu, hzr, e1]
end

/-! ### Maps with strings as keys: what acts; bytes of a string -/
def mapUpSX (P : Program) (t : TypeId) (m : Value) (x : ByteArray) (v : Value) (h : Heap) (k : Heap → Prop) : Prop :=
  ∃ kt e r es c o, mapS P t = some (kt, e) ∧ mapOf h m = some (r, es, c) ∧ findS es x = some o ∧ (∀ i u, o = some (i, u) → (es[i]?).map (·.key) = some (.string x)) ∧
    k (h.setIfInBounds r (match o with
      | some (i, _) => .map (es.modify i fun e => { e with key := .string x, val := v }) c
      | none => .map (es.push { key := .string x, val := v, born := c }) (c + 1)))
def mapUpQ (P : Program) (t : TypeId) (m key v : Value) (h : Heap) (k : Heap → Prop) : Prop := match key with
  | .string x => mapUpSX P t m x v h k
  | key => mapUpX P t m key v h k
/-- the cells of a string's bytes, in a new row; behind them what room there is -/
def s2bX (e : TypeId) (l : List UInt8) (h : Heap) (k : Value → Heap → Prop) : Prop :=
  ∀ rest : List Value, k (.slice (some ⟨h.size, 0, none⟩) l.length (l.length + rest.length)) (h.push (.cells (l.map byteV ++ rest).toArray e (l.length + rest.length, l.length + rest.length + 1)))
def convX (P : Program) (s d : Option TypeDesc) (v : Value) (h : Heap) (k : Value → Heap → Prop) : Prop := match s, d, v with
  | some (.slice e), some .string, v => runO (b2sD P (some (.slice e)) (some .string) v h) fun v => k v h
  | some .string, some (.slice e), .string x => byteT P e = true ∧ s2bX e x.data.toList h k
  | s, d, v => runO (convV s d v) fun v => k v h
section
variable {P : Program} {w : World}
theorem mapUpQ_run {t : TypeId} {m key v : Value} {k : Heap → Prop} (hx : mapUpQ P t m key v w.heap k) : ∃ w', (Instr.mapUpdate t m key v).run P w = .ok () w' ∧ Like w w' ∧ k w'.heap := by
  unfold mapUpQ at hx
  split at hx
  · rename_i x
    obtain ⟨kt, e, r, es, c, o, h1, h2, h4, h5, h6⟩ := hx
    obtain ⟨hu, hk⟩ := mapS_spec h1
    obtain ⟨rfl, hr⟩ := mapOf_spec h2
    unfold Instr.mapUpdate
    cases o with
    | none => exact ⟨{ w with heap := w.heap.setIfInBounds r (.map (es.push { key := .string x, val := v, born := c }) (c + 1)) }, by simp [run_under hu, getObj_run hr, checkKeyS_run hk, findKeyS_run hk h4, setObj_run hr], ⟨rfl, rfl, rfl⟩, h6⟩
    | some p =>
      obtain ⟨i, u⟩ := p
      have h7 := h5 i u rfl
      have hks : (Instr.keyThatStays (((es[i]?).map (·.key)).getD (.string x)) (.string x)).run P w = .ok (.string x) w := by
        rw [h7]
        unfold Instr.keyThatStays
        have : Instr.sameBits 10000 (.string x) (.string x) = true := by
          show Instr.sameBits (9999 + 1) (.string x) (.string x) = true
          unfold Instr.sameBits
          show (x == x) = true
          rw [beq_toListBytes]; exact beq_self_eq_true _
        simp [this]
      refine ⟨{ w with heap := w.heap.setIfInBounds r (.map (es.modify i fun e => { e with key := .string x, val := v }) c) }, ?_, ⟨rfl, rfl, rfl⟩, h6⟩
      simp only [run_under hu, getObj_run hr, checkKeyS_run hk, findKeyS_run hk h4, setObj_run hr, Sem.run_bind, Result.andThen_ok, hks]
  · exact mapUpX_run hx
theorem bytesWorld_heap {e : TypeId} {s : ByteArray} : ∃ rest : List Value, (Lib.bytesWorld w e s).heap = w.heap.push (.cells (s.data.toList.map byteV ++ rest).toArray e (s.size + rest.length, s.size + rest.length + 1)) ∧
    grownCap w s.size 0 e = s.size + rest.length := by
  have hc : s.size ≤ grownCap w s.size 0 e := by
    unfold grownCap Question.cut
    simp only
    omega
  refine ⟨List.replicate (grownCap w s.size 0 e - s.size) (Value.int .u8 0), ?_, by rw [List.length_replicate]; omega⟩
  have hcs : Lib.bytesCells w e s = (s.data.toList.map byteV ++ List.replicate (grownCap w s.size 0 e - s.size) (Value.int .u8 0)).toArray := by
    unfold Lib.bytesCells
    apply Array.ext'
    simp [byteV]
  have hsz : (Lib.bytesCells w e s).size = s.size + (grownCap w s.size 0 e - s.size) := by
    rw [hcs]
    simp
  apply Array.ext_getElem?
  intro i
  rcases Nat.lt_trichotomy i w.heap.size with h | h | h
  · rw [Lib.bytesWorld_at_old w e s i h, Array.getElem?_push, if_neg (by omega)]
  · subst h
    rw [Lib.bytesWorld_at_new, Array.getElem?_push, if_pos rfl, hsz, hcs, List.length_replicate]
  · rw [Array.getElem?_eq_none (by rw [Lib.bytesWorld_size]; omega), Array.getElem?_eq_none (by rw [Array.size_push]; omega)]
theorem convX_run {s d : TypeId} {ds dd : Option TypeDesc} {x : Value} {k : Value → Heap → Prop} (hs : P.underlying s = ds) (hd : P.underlying d = dd) (hx : convX P ds dd x w.heap k) : ∃ v w', (convert s d x).run P w = .ok v w' ∧ Like w w' ∧ k v w'.heap := by
  have hp : ∀ ds dd x, P.underlying s = ds → P.underlying d = dd → runO (convV ds dd x) (fun v => k v w.heap) → ∃ v w', (convert s d x).run P w = .ok v w' ∧ Like w w' ∧ k v w'.heap := fun ds dd x hs hd hx => by
    cases hv : convV ds dd x with
    | none => rw [hv] at hx; exact hx.elim
    | some v =>
      rw [hv] at hx
      exact ⟨v, w, convV_run (by rw [hs, hd]; exact hv), Like.refl w, hx⟩
  have hb : ∀ e x, P.underlying s = some (.slice e) → P.underlying d = some .string → runO (b2sD P (some (.slice e)) (some .string) x w.heap) (fun v => k v w.heap) → ∃ v w', (convert s d x).run P w = .ok v w' ∧ Like w w' ∧ k v w'.heap := fun e x hs hd hx => by
    cases hv : b2sD P (some (.slice e)) (some .string) x w.heap with
    | none => rw [hv] at hx; exact hx.elim
    | some v =>
      rw [hv] at hx
      exact ⟨v, w, b2sD_run (by rw [hs, hd]; exact hv), Like.refl w, hx⟩
  unfold convX at hx
  split at hx
  · exact hb _ _ hs hd hx
  · rename_i e y
    obtain ⟨he, hk⟩ := hx
    obtain ⟨rest, h1, h2⟩ := bytesWorld_heap (w := w) (e := e) (s := y)
    refine ⟨_, Lib.bytesWorld w e y, Lib.run_convert_string_bytes w s d e y hs hd (byteT_spec he), ⟨by simp [Lib.bytesWorld, World.freeze, World.alloc, World.drew, -World.alloc_eq, -World.drew_eq], by simp [Lib.bytesWorld, World.freeze, World.alloc, World.drew, -World.alloc_eq, -World.drew_eq], by simp [Lib.bytesWorld, World.freeze, World.alloc, World.drew, -World.alloc_eq, -World.drew_eq]⟩, ?_⟩
    rw [h1, h2]
    exact hk rest
  · exact hp _ _ _ hs hd hx
end

/-! ### copy -/
def copyX (el : Option (TypeId × Nat × Nat × Value)) (d s : Value) (h : Heap) (k : Value → Heap → Prop) : Prop := match el, d, s with
  | some (_, sz, _, _), .slice base dl _, .slice sb sl _ => ∃ new, rowN h sb (min sl dl * sz) = some new ∧ (match base with
    | some a => storeN h a 0 new fun h' => k (.int .i64 (min sl dl : Nat)) h'
    | none => k (.int .i64 (min sl dl : Nat)) h)
  | _, _, _ => False

end Xe
