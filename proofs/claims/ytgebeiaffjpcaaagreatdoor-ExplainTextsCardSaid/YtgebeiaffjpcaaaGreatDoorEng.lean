/- The engine of the walks: slots as a function, the heap alone, what is pure as a function to an Option, what acts as a predicate transformer; sound over the model's own 'wp'. -/
import Derived.WalkKit
import Derived.Laws.StructEq
import Derived.Test.YtgebeiaffjpcaaaGreatDoorSched
namespace Xe
open Go

abbrev Env := Nat → Value
abbrev Heap := Array Obj

def env (a : Act) : Env := fun t => a.tmps.getD t undef
def ev (ρ : Env) : Operand → Value
  | .tmp t => ρ t
  | .const v => v
  | .global g => .pointer (some ⟨g, 0, none⟩)
  | .func f => .func (.func f) #[] #[]

theorem eval_eq (a : Act) : a.eval = ev (env a) := by funext x; cases x <;> rfl

def put (ρ : Env) (d : Nat) (v : Value) : Env := fun t => if t = d then v else ρ t
def puto (ρ : Env) (d : Option Tmp) (v : Value) : Env := match d with | some d => put ρ d v | none => ρ

theorem env_put {a : Act} {d : Option Tmp} {v : Value} (h : ∀ x, d = some x → x < a.tmps.size) : env (a.put d v) = puto (env a) d v := by
  cases d with
  | none => rfl
  | some d =>
    have hd := h d rfl
    funext t
    simp only [env, Act.put, puto, put, Array.getD_eq_getD_getElem?]
    by_cases e : t = d
    · subst e; simp [hd]
    · rw [Array.getElem?_setIfInBounds_ne (Ne.symm e), if_neg e]

/-- the world but for its heap and its draws -/
structure Like (w w' : World) : Prop where
  os : w'.os = w.os
  tape : w'.tape = w.tape
  output : w'.output = w.output
theorem Like.refl (w : World) : Like w w := ⟨rfl, rfl, rfl⟩
theorem Like.trans {a b c : World} (h : Like a b) (k : Like b c) : Like a c := ⟨k.os.trans h.os, k.tape.trans h.tape, k.output.trans h.output⟩

def hcell (h : Heap) (a : Addr) : Option Value :=
  match h[a.block]? with
  | some (.cells c _ _) => if a.spot.isSome then none else c[a.off]?
  | _ => none

def hfrz (h : Heap) (a : Addr) : Bool :=
  match h[a.block]? with
  | some (.cells _ _ (lo, hi)) => lo ≤ a.off && a.off < hi
  | _ => false

def hset (h : Heap) (a : Addr) (v : Value) : Heap :=
  h.modify a.block fun
    | .cells c elem frozen => .cells (if a.spot.isSome then c else c.setIfInBounds a.off v) elem frozen
    | o => o

/-! ### What is pure -/

def runO (o : Option Value) (k : Value → Prop) : Prop := match o with | some v => k v | none => False

def szOf (P : Program) (t : TypeId) : Option Nat := (P.info? t).map (·.size)
def zeroOf (P : Program) (t : TypeId) : Option Value := (P.info? t).bind (·.zero)
def offOf (P : Program) (s f : Nat) : Option Nat := match P.underlying s with
  | some (.struct fs) => (fs[f]?).bind fun x => match szOf P x.type with | some (_ + 1) => some x.offset | _ => none
  | _ => none
/-- of a field: its place, its cells, and whether it is read as one value -/
def fldOf (P : Program) (s f : Nat) : Option (Nat × Option Nat) := match P.underlying s with
  | some (.struct fs) => (fs[f]?).bind fun x => match P.underlying x.type with
    | some (.struct _) | some (.array _ _) => (szOf P x.type).map fun n => (x.offset, some n)
    | some _ => some (x.offset, none)
    | none => none
  | _ => none
/-- of a slice's or an array's type: the element's cells; and the array's length -/
def elOf (P : Program) (t : TypeId) : Option (Nat × Option Nat) := match P.underlying t with
  | some (.slice e) => (szOf P e).map fun n => (n, none)
  | some (.array k e) => (szOf P e).map fun n => (n, some k)
  | _ => none

/-- is a type read as one value? 'some none': one cell; 'some (some n)': n cells as one value -/
def aggOf (P : Program) (t : TypeId) : Option (Option Nat) := match P.underlying t with
  | some (.struct _) | some (.array _ _) => (szOf P t).map some
  | some _ => some none
  | none => none
/-- of an array's type: its length, the element's cells, and whether that is read as one value -/
def ixOf (P : Program) (t : TypeId) : Option (Nat × Nat × Option Nat) := match P.underlying t with
  | some (.array k e) => (szOf P e).bind fun n => (aggOf P e).map fun g => (k, n, g)
  | _ => none
def pickV : Value → Value → Value → Option Value
  | .bool b, x, y => some (if b then x else y)
  | _, _, _ => none
def nilV : Value → Option Value
  | .pointer (some a) => some (.pointer (some a))
  | _ => none
def fieldV (o : Option Nat) (x : Value) : Option Value := match o, x with
  | some k, .pointer (some a) => some (.pointer (some (a.add k)))
  | _, _ => none
def idxV (e : Option (Nat × Option Nat)) (x i : Value) : Option Value := match e, x, i with
  | some (n, none), .slice (some a) len _, .int _ i => if 0 ≤ i ∧ i < len then some (.pointer (some (a.add (i.toNat * n)))) else none
  | some (n, some len), .pointer (some a), .int _ i => if 0 ≤ i ∧ i < len then some (.pointer (some (a.add (i.toNat * n)))) else none
  | _, _, _ => none
def partV (cs : Array Value) (off : Nat) : Option Nat → Option Value
  | none => cs[off]?
  | some n => some (.agg (cs.extract off (off + n)))
def fldV (f : Option (Nat × Option Nat)) (x : Value) : Option Value := match f, x with
  | some (o, n), .agg cs => partV cs o n
  | _, _ => none
/-- a string out of its bytes -/
def S (l : List UInt8) : Value := .string ⟨l.toArray⟩
def strV (op : BinOp) (a b : List UInt8) : Option Value := match op with
  | .add => if a.length + b.length ≤ 9223372036854775807 then some (S (a ++ b)) else none
  | .eql => some (.bool (decide (a = b)))
  | .neq => some (.bool (decide (a ≠ b)))
  | .lss => some (.bool (Op.bytesLess a b))
  | .leq => some (.bool (Op.bytesLess a b || decide (a = b)))
  | .gtr => some (.bool !(Op.bytesLess a b || decide (a = b)))
  | .geq => some (.bool !(Op.bytesLess a b))
  | _ => none
def binV (op : BinOp) (x y : Value) : Option Value := match x, y with
  | .string a, .string b => strV op a.data.toList b.data.toList
  | .int k a, .int k' b => if k = k' then match op with
      | .add => some (.int k (k.wrap (a + b)))
      | .sub => some (.int k (k.wrap (a - b)))
      | .mul => some (.int k (k.wrap (a * b)))
      | .quo => if b = 0 then none else some (.int k (k.wrap (a.tdiv b)))
      | .rem => if b = 0 then none else some (.int k (a.tmod b))
      | .and => some (.int k (k.wrap ((BitVec.ofInt k.bits a &&& BitVec.ofInt k.bits b).toNat)))
      | .or => some (.int k (k.wrap ((BitVec.ofInt k.bits a ||| BitVec.ofInt k.bits b).toNat)))
      | .xor => some (.int k (k.wrap ((BitVec.ofInt k.bits a ^^^ BitVec.ofInt k.bits b).toNat)))
      | .andNot => some (.int k (k.wrap ((BitVec.ofInt k.bits a &&& ~~~ BitVec.ofInt k.bits b).toNat)))
      | .shl => if b < 0 then none else some (.int k (k.wrap (a * 2 ^ (min b.toNat k.bits))))
      | .shr => if b < 0 then none else some (.int k (a.fdiv (2 ^ (min b.toNat k.bits))))
      | .eql => some (.bool (a == b))
      | .neq => some (.bool (a != b))
      | .lss => some (.bool (a < b))
      | .leq => some (.bool (a ≤ b))
      | .gtr => some (.bool (a > b))
      | .geq => some (.bool (a ≥ b))
    else match op with
      | .shl => if b < 0 then none else some (.int k (k.wrap (a * 2 ^ (min b.toNat k.bits))))
      | .shr => if b < 0 then none else some (.int k (a.fdiv (2 ^ (min b.toNat k.bits))))
      | _ => none
  | .float k a, .float k' b => if k = k' then match op with
      | .add => (k.format.add a b).map (.float k ·)
      | .sub => (k.format.sub a b).map (.float k ·)
      | .mul => (k.format.mul a b).map (.float k ·)
      | .quo => (k.format.div a b).map (.float k ·)
      | .eql => some (.bool (k.format.order a b == some .eq))
      | .neq => some (.bool (k.format.order a b != some .eq))
      | .lss => some (.bool (k.format.order a b == some .lt))
      | .leq => some (.bool (k.format.order a b == some .lt || k.format.order a b == some .eq))
      | .gtr => some (.bool (k.format.order a b == some .gt))
      | .geq => some (.bool (k.format.order a b == some .gt || k.format.order a b == some .eq))
      | _ => none
    else none
  | .complex k a b, .complex k' c d => if k = k' then match op with
      | .add => (k.format.add a c).bind fun re => (k.format.add b d).map fun im => .complex k re im
      | .sub => (k.format.sub a c).bind fun re => (k.format.sub b d).map fun im => .complex k re im
      | .eql => some (.bool (k.format.order a c == some .eq && k.format.order b d == some .eq))
      | .neq => some (.bool !(k.format.order a c == some .eq && k.format.order b d == some .eq))
      | _ => none
    else none
  | _, _ => none
/-- '==' between what isn't a number: bools; pointers, slices, maps and functions against nil -/
def eqlV (d : Option TypeDesc) (x y : Value) : Option Bool := match d, x, y with
  | some .bool, .bool a, .bool b => some (a == b)
  | some (.pointer _), .pointer none, .pointer b => some b.isNone
  | some (.pointer _), .pointer (some _), .pointer none => some false
  | some (.slice _), .slice none _ _, .slice b _ _ => some b.isNone
  | some (.slice _), .slice (some _) _ _, .slice none _ _ => some false
  | some (.map _ _), .map none, .map b => some b.isNone
  | some (.map _ _), .map (some _), .map none => some false
  | some (.interface _), .iface _ _, .nilIface => some false
  | _, _, _ => none
/-- of a struct whose fields are integers, one behind the other -/
def intFs (P : Program) : Nat → List Field → Bool
  | _, [] => true
  | i, f :: fs => f.name != "_" && f.offset == i && (match P.underlying f.type with | some (.int _) => true | _ => false) && intFs P (i + 1) fs
def intsT (P : Program) (t : TypeId) : Option Nat := match P.underlying t with
  | some (.struct fs) => if intFs P 0 fs.toList && !P.stoodInHeld t && !P.eqGuardType P.depth t then some fs.size else none
  | _ => none
def eqInts : List Value → List Value → Option Bool
  | [], [] => some true
  | .int k x :: a, .int k' y :: b => if k = k' then (eqInts a b).map fun r => decide (x = y) && r else none
  | _, _ => none

def cmpV (P : Program) (op : BinOp) (t : TypeId) (x y : Value) : Option Value := match op, x, y with
  | .eql, .bool _, _ | .eql, .pointer _, _ | .eql, .slice .., _ | .eql, .map _, _ | .eql, .iface _ _, _ => (eqlV (P.underlying t) x y).map .bool
  | .neq, .bool _, _ | .neq, .pointer _, _ | .neq, .slice .., _ | .neq, .map _, _ | .neq, .iface _ _, _ => (eqlV (P.underlying t) x y).map fun b => .bool !b
  | .eql, .agg a, .agg b => if intsT P t = some a.size ∧ a.size = b.size then (eqInts a.toList b.toList).map .bool else none
  | .neq, .agg a, .agg b => if intsT P t = some a.size ∧ a.size = b.size then (eqInts a.toList b.toList).map fun r => .bool !r else none
  | op, x, y => binV op x y
/-- against the literal nil of an interface -/
def nilI (op : BinOp) (d : Option TypeDesc) (x : Value) : Option Value := match op, d, x with
  | .eql, some (.interface _), .nilIface => some (.bool true)
  | .neq, some (.interface _), .nilIface => some (.bool false)
  | .eql, some (.interface _), .iface _ _ => some (.bool false)
  | .neq, some (.interface _), .iface _ _ => some (.bool true)
  | _, _, _ => none
def binP (P : Program) (op : BinOp) (t : TypeId) (ρ : Env) (x : Value) : Operand → Option Value
  | .const .nilIface => nilI op (P.underlying t) x
  | y => cmpV P op t x (ev ρ y)
def ifaceV (d : Option TypeDesc) (t : TypeId) (x : Value) : Option Value := match d with
  | none | some (.interface _) => none
  | _ => some (.iface t x)
def unV (op : UnOp) (x : Value) : Option Value := match op, x with
  | .neg, .int k n => some (.int k (k.wrap (0 - n)))
  | .not, .bool b => some (.bool !b)
  | _, _ => none
def convV (s d : Option TypeDesc) (x : Value) : Option Value := match s, d, x with
  | some _, some (.int k), .int _ n => some (.int k (k.wrap n))
  | some _, some (.float k), .int _ n => some (.float k (k.nearest n))
  | some _, some (.int k), .float s b => match (s.decode b).toInt .zero with
    | some n => if k.min ≤ n ∧ n ≤ k.max then some (.int k n) else none
    | none => none
  | some _, some .string, .string s => some (.string s)
  | _, _, _ => none
def extractV (x : Value) (i : Nat) : Option Value := match x with | .tuple vs => vs[i]? | _ => none
def boundV (x : Option Value) (y d : Nat) : Option Nat := match x with
  | none => some d
  | some (.int _ i) => if 0 ≤ i ∧ i ≤ y then some i.toNat else none
  | _ => none
def sliceV (e : Option (Nat × Option Nat)) (x : Value) (lo hi : Option Value) : Option Value := match e, x with
  | some (n, none), .slice a len cap => (boundV hi cap len).bind fun h => (boundV lo h 0).map fun l => .slice (if cap = l then a else a.map (·.add (l * n))) (h - l) (cap - l)
  | some (n, some len), .pointer (some a) => (boundV hi len len).bind fun h => (boundV lo h 0).map fun l => .slice (some (if len = l then a else a.add (l * n))) (h - l) (len - l)
  | _, _ => none
def strT (P : Program) (t : TypeId) : Bool := match P.underlying t with
  | some .string => true
  | _ => false
def strSl (x : Value) (lo hi : Option Value) : Option Value := match x with
  | .string s => (boundV hi s.size s.size).bind fun h => (boundV lo h 0).map fun l => S ((s.data.toList.drop l).take (h - l))
  | _ => none
def sliceQ (q : Option (Nat × Option Nat)) (b : Bool) (x : Value) (lo hi : Option Value) : Option Value := match q with
  | some q => sliceV (some q) x lo hi
  | none => if b = true then strSl x lo hi else none
def slice3V (e : Option (Nat × Option Nat)) (x : Value) (lo : Option Value) (hi mx : Value) : Option Value := match e, x with
  | some (n, none), .slice a _ cap => (boundV (some mx) cap 0).bind fun m => (boundV (some hi) m 0).bind fun h => (boundV lo h 0).map fun l => .slice (if m = l then a else a.map (·.add (l * n))) (h - l) (m - l)
  | _, _ => none
def indexV (x : Option (Nat × Nat × Option Nat)) (v i : Value) : Option Value := match x, v, i with
  | some (k, n, g), .agg cs, .int _ i => if 0 ≤ i ∧ i < k then partV cs (i.toNat * n) g else none
  | _, _, _ => none
def strIx (v i : Value) : Option Value := match v, i with
  | .string s, .int _ i => if 0 ≤ i then (s[i.toNat]?).map fun b => .int .u8 b.toNat else none
  | _, _ => none
/-- of an array, or of a string -/
def idxS (q : Option (Nat × Nat × Option Nat)) (b : Bool) (v i : Value) : Option Value := match q with
  | some q => indexV (some q) v i
  | none => if b = true then strIx v i else none

def minV : Value → Value → Option Value
  | .int k x, .int _ y => some (.int k (if y < x then y else x))
  | .float k x, .float _ y => match k.format.order x y with
    | none => none
    | some .lt => some (.float k x)
    | some .gt => some (.float k y)
    | some .eq => some (.float k (if (k.decode x).neg then x else y))
  | _, _ => none
def maxV : Value → Value → Option Value
  | .int k x, .int _ y => some (.int k (if y > x then y else x))
  | .float k x, .float _ y => match k.format.order x y with
    | none => none
    | some .lt => some (.float k y)
    | some .gt => some (.float k x)
    | some .eq => some (.float k (if (k.decode x).neg then y else x))
  | _, _ => none
def lenV (d : Option TypeDesc) (x : Value) : Option Value := match d, x with
  | some (.slice _), .slice _ n _ => some (.int .i64 n)
  | some (.string), .string s => some (.int .i64 s.size)
  | _, _ => none
def capV (d : Option TypeDesc) (x : Value) : Option Value := match d, x with
  | some (.slice _), .slice _ _ n => some (.int .i64 n)
  | _, _ => none
def builtV (P : Program) (b : Builtin) (ts : List TypeId) (xs : List Value) : Option Value := match b, ts, xs with
  | .len, t :: _, x :: _ => lenV (P.underlying t) x
  | .cap, t :: _, x :: _ => capV (P.underlying t) x
  | .real, _, [.complex k re _] => some (.float k re)
  | .imag, _, [.complex k _ im] => some (.float k im)
  | .complex, _, [.float k re, .float k' im] => if k = k' then some (.complex k re im) else none
  | .min, _, [x, y] => minV x y
  | .max, _, [x, y] => maxV x y
  | .max, _, [.int k x, .int _ y, .int _ z] => (maxV (.int k x) (.int k y)).bind fun m => maxV m (.int k z)
  | _, _, _ => none

def pv (P : Program) (ρ : Env) (o : Op) : Option Value := match o with
  | .move x | .assign x => some (ev ρ x)
  | .pick c a b => pickV (ev ρ c) (ev ρ a) (ev ρ b)
  | .nilCheck x => nilV (ev ρ x)
  | .binOp op t x y _ => binP P op t ρ (ev ρ x) y
  | .makeInterface t x => ifaceV (P.underlying t) t (ev ρ x)
  | .unOp op _ x => unV op (ev ρ x)
  | .convert s d x => convV (P.underlying s) (P.underlying d) (ev ρ x)
  | .makeFunc fn first captured => some (.func fn (first.map (ev ρ)) (captured.map (ev ρ)))
  | .fieldAddr s x f => fieldV (offOf P s f) (ev ρ x)
  | .field s x f => fldV (fldOf P s f) (ev ρ x)
  | .indexAddr t x i => idxV (elOf P t) (ev ρ x) (ev ρ i)
  | .extract x i => extractV (ev ρ x) i
  | .index t x i => idxS (ixOf P t) (strT P t) (ev ρ x) (ev ρ i)
  | .build t ps => (P.built t (ps.toList.map fun p => (p.1, ev ρ p.2))).map .agg
  | .slice t x lo hi none => sliceQ (elOf P t) (strT P t) (ev ρ x) (lo.map (ev ρ)) (hi.map (ev ρ))
  | .slice t x lo (some hi) (some mx) => slice3V (elOf P t) (ev ρ x) (lo.map (ev ρ)) (ev ρ hi) (ev ρ mx)
  | .call { callee := .builtin b, args, argTypes } => builtV P b argTypes.toList (args.toList.map (ev ρ))
  | _ => none

section
variable {P : Program} {w : World}

theorem run_info {t : TypeId} {i : TypeInfo} (h : P.info? t = some i) : (typeInfo t).run P w = .ok i w := by
  simp [typeInfo, program, Sem.run, h]

theorem run_cells {t : TypeId} {n : Nat} (h : szOf P t = some n) : (Go.sizeOf t).run P w = .ok n w := by
  unfold szOf at h
  cases hi : P.info? t with
  | none => rw [hi] at h; cases h
  | some i =>
    rw [hi] at h
    simp only [Option.map_some, Option.some.injEq] at h
    subst h
    simp [Go.sizeOf, run_info hi]

theorem run_zero {t : TypeId} {v : Value} (h : zeroOf P t = some v) : (zeroValue t).run P w = .ok v w := by
  unfold zeroOf at h
  cases hi : P.info? t with
  | none => rw [hi] at h; cases h
  | some i =>
    rw [hi] at h
    simp only [Option.bind_some] at h
    simp [zeroValue, run_info hi, h]

theorem run_under {t : TypeId} {d : TypeDesc} (h : P.underlying t = some d) : (underlying t).run P w = .ok d w := by
  simp [underlying, program, Sem.run, h]

theorem shift_run {op : BinOp} {k k' : IntKind} {a b : Int} {v : Value} (hop : op = .shl ∨ op = .shr) (h : binV op (.int k a) (.int k' b) = some v) : (Op.shift op k a k' b).run P w = .ok v w := by
  rcases hop with rfl | rfl
  · simp only [binV] at h
    split at h <;> (split at h; · cases h) <;> (rename_i hb; simp only [Option.some.injEq] at h; subst h; simp [Op.shift, hb])
  · simp only [binV] at h
    split at h <;> (split at h; · cases h) <;> (rename_i hb; simp only [Option.some.injEq] at h; subst h; simp [Op.shift, hb])

theorem intBin_run {op : BinOp} {t : TypeId} {k k' : IntKind} {a b : Int} {v : Value} (h : binV op (.int k a) (.int k' b) = some v) : (binOp op t (.int k a) (.int k' b)).run P w = .ok v w := by
  by_cases hs : op = .shl ∨ op = .shr
  · rcases hs with rfl | rfl
    · exact shift_run (.inl rfl) h
    · exact shift_run (.inr rfl) h
  · by_cases hk : k = k'
    · subst hk
      simp only [binV, if_true] at h
      cases op <;> simp only [Option.some.injEq, reduceCtorEq, or_false, or_true, not_true_eq_false] at h hs <;>
        first
          | (subst h; simp [binOp, Op.intArith, Op.intBits, Op.intCmp]; done)
          | (split at h; · cases h
             rename_i hb; simp only [Option.some.injEq] at h; subst h; simp [binOp, Op.intDiv, hb]; done)
    · simp only [binV, if_neg hk] at h
      cases op <;> simp_all

theorem floatBin_run {op : BinOp} {t : TypeId} {k k' : FloatKind} {a b : Nat} {v : Value} (h : binV op (.float k a) (.float k' b) = some v) : (binOp op t (.float k a) (.float k' b)).run P w = .ok v w := by
  by_cases hk : k = k'
  · subst hk
    simp only [binV, if_true] at h
    cases op <;> simp only [Option.some.injEq, reduceCtorEq, Option.map_eq_some_iff] at h <;>
      first
        | (subst h; simp [binOp, Op.floatCmp]; done)
        | (obtain ⟨r, hr, rfl⟩ := h; simp [binOp, Op.floatArith, hr]; done)
  · simp only [binV, if_neg hk] at h
    cases h

theorem complexBin_run {op : BinOp} {t : TypeId} {k k' : FloatKind} {a b c d : Nat} {v : Value} (h : binV op (.complex k a b) (.complex k' c d) = some v) : (binOp op t (.complex k a b) (.complex k' c d)).run P w = .ok v w := by
  by_cases hk : k = k'
  · subst hk
    simp only [binV, if_true] at h
    cases op <;> simp only [Option.some.injEq, reduceCtorEq, Option.bind_eq_some_iff, Option.map_eq_some_iff] at h
    case add => obtain ⟨r, hr, i, hi, rfl⟩ := h; simp [binOp, Op.complexOp, Op.Complex.arith, Op.floatArith, hr, hi]
    case sub => obtain ⟨r, hr, i, hi, rfl⟩ := h; simp [binOp, Op.complexOp, Op.Complex.arith, Op.floatArith, hr, hi]
    case eql => subst h; simp [binOp, Op.complexOp, Op.Complex.cmp, Op.floatCmp, asBool]
    case neq => subst h; simp [binOp, Op.complexOp, Op.Complex.cmp, Op.floatCmp, asBool]
  · simp only [binV, if_neg hk] at h
    cases h

theorem strBin_run {op : BinOp} {t : TypeId} {a b : ByteArray} {v : Value} (h : binV op (.string a) (.string b) = some v) : (binOp op t (.string a) (.string b)).run P w = .ok v w := by
  have e1 : (a.data.toList == b.data.toList) = decide (a.data.toList = b.data.toList) := by
    by_cases e : a.data.toList = b.data.toList
    · rw [e, decide_eq_true rfl]; exact beq_self_eq_true _
    · rw [decide_eq_false e]; exact beq_eq_false_iff_ne.2 e
  have hb : binOp op t (.string a) (.string b) = Op.stringOp op a b := by simp [binOp]
  rw [hb]
  unfold Op.stringOp
  simp only [ByteArray.toList_eq, e1]
  simp only [binV] at h
  unfold strV at h
  cases op <;> simp only [reduceCtorEq, Option.some.injEq] at h
  case add =>
    split at h
    · rename_i hc
      simp only [Option.some.injEq] at h
      subst h
      have hc' : ¬ ((a.size + b.size : Nat) : Int) > IntKind.i64.max := by
        have e1 : a.data.toList.length = a.size := rfl
        have e2 : b.data.toList.length = b.size := rfl
        have : IntKind.i64.max = 9223372036854775807 := by decide
        rw [this]; omega
      have e3 : (a ++ b : ByteArray) = ⟨(a.data.toList ++ b.data.toList).toArray⟩ := by
        have : (a ++ b).data = a.data ++ b.data := by simp
        apply ByteArray.ext
        rw [this]
        simp
      simp only [if_neg hc', Sem.run_pure, S, e3]
    · cases h
  all_goals (subst h; simp only [Sem.run_pure, decide_not])

theorem eqlV_run {t : TypeId} {x y : Value} {b : Bool} (h : eqlV (P.underlying t) x y = some b) : (Op.equal t x y).run P w = .ok b w := by
  cases hu : P.underlying t with
  | none => rw [hu] at h; simp [eqlV] at h
  | some d =>
    rw [hu] at h
    unfold Op.equal Op.maxDepth Op.equalIn
    simp only [Sem.run_bind, run_under hu, Result.andThen_ok]
    unfold eqlV at h
    split at h <;> first | (cases h; done) | skip
    all_goals
      rename_i hd
      simp only [Option.some.injEq] at hd h
      subst hd h
      simp

theorem eqGuard_run {op : BinOp} {t : TypeId} {x y : Operand} {a b : Value} (h : a.cells.size = 1 ∧ a ≠ .nilIface ∧ ∀ c, a ≠ .agg c) : (eqGuard op t x y a b).run P w = .ok () w := by
  unfold eqGuard
  cases a <;> simp at h <;> (split <;> simp)

theorem eqFs_run {d : Nat} : ∀ {fs : List Field} {i : Nat} {xs ys : Array Value} {b : Bool}, intFs P i fs = true → fs.length + i = xs.size → fs.length + i = ys.size →
    eqInts (xs.toList.drop i) (ys.toList.drop i) = some b → (Op.eqFields (d + 1) xs ys fs).run P w = .ok b w
  | [], i, xs, ys, b, _, h1, h2, h => by
    rw [List.drop_eq_nil_of_le (by simpa using Nat.le_of_eq h1.symm), List.drop_eq_nil_of_le (by simpa using Nat.le_of_eq h2.symm)] at h
    simp only [eqInts, Option.some.injEq] at h
    subst h
    simp [Op.eqFields]
  | f :: fs, i, xs, ys, b, hf, h1, h2, h => by
    unfold intFs at hf
    simp only [Bool.and_eq_true, bne_iff_ne, ne_eq, beq_iff_eq] at hf
    obtain ⟨⟨⟨hn, ho⟩, hi⟩, hr⟩ := hf
    have hi1 : i < xs.size := by simp only [List.length_cons] at h1; omega
    have hi2 : i < ys.size := by simp only [List.length_cons] at h2; omega
    rw [List.drop_eq_getElem_cons (l := xs.toList) (by simpa using hi1), List.drop_eq_getElem_cons (l := ys.toList) (by simpa using hi2)] at h
    split at hi
    · rename_i kt hu
      unfold eqInts at h
      split at h
      · rename_i e1 e2; simp at e1
      · rename_i k x a k' y b' e1 e2
        simp only [List.cons.injEq] at e1 e2
        obtain ⟨e1, rfl⟩ := e1
        obtain ⟨e2, rfl⟩ := e2
        split at h
        · rename_i hk
          subst hk
          obtain ⟨r, hr', rfl⟩ := Option.map_eq_some_iff.1 h
          have hp : ∀ (zs : Array Value) (z : Int), (hz : i < zs.size) → zs[i] = .int k z → (part f.type zs f.offset).run P w = .ok (.int k z) w := fun zs z hz e => by
            rw [ho]
            have ha : (isAgg f.type).run P w = .ok false w := by simp [isAgg, run_under hu]
            simp [part, ha, hz, e]
          have e1' : xs[i] = .int k x := by simpa using e1
          have e2' : ys[i] = .int k y := by simpa using e2
          have hq : (Op.equalIn (d + 1) f.type (.int k x) (.int k y)).run P w = .ok (decide (x = y)) w := by
            unfold Op.equalIn
            simp [run_under hu]
            rfl
          unfold Op.eqFields
          simp only [ne_eq, hn, not_false_eq_true, if_true, Sem.run_bind, hp xs x hi1 e1', hp ys y hi2 e2', hq, Result.andThen_ok]
          by_cases exy : x = y
          · simp only [exy, decide_true, Bool.not_true, Bool.false_eq_true, if_false, Bool.true_and]
            exact eqFs_run hr (by simp only [List.length_cons] at h1; omega) (by simp only [List.length_cons] at h2; omega) hr'
          · simp [exy]
        · cases h
      · cases h
    · cases hi

theorem intsT_spec {t : TypeId} {n : Nat} (h : intsT P t = some n) : ∃ fs, P.underlying t = some (.struct fs) ∧ intFs P 0 fs.toList = true ∧ P.stoodInHeld t = false ∧ P.eqGuardType P.depth t = false ∧ fs.size = n := by
  unfold intsT at h
  split at h
  · rename_i fs hu
    split at h
    · rename_i hc
      simp only [Bool.and_eq_true, Bool.not_eq_true'] at hc
      simp only [Option.some.injEq] at h
      exact ⟨fs, hu, hc.1.1, hc.1.2, hc.2, h⟩
    · cases h
  · cases h

theorem eqAgg_run {op : BinOp} (hop : op = .eql ∨ op = .neq) {t : TypeId} {X Y : Operand} {a b : Array Value} {r : Bool} (h1 : intsT P t = some a.size) (h2 : a.size = b.size) (h : eqInts a.toList b.toList = some r) :
    (do eqGuard op t X Y (.agg a) (.agg b); binOp op t (.agg a) (.agg b) : Sem Value).run P w = .ok (.bool (if op = .eql then r else !r)) w := by
  obtain ⟨fs, hu, hf, hs, hg, hn⟩ := intsT_spec h1
  have hfo : P.fieldsOf t = fs := by simp [Program.fieldsOf, hu]
  have hq : (Op.equal t (.agg a) (.agg b)).run P w = .ok r w := by
    unfold Op.equal Op.maxDepth
    rw [run_equalIn_struct w 9999 t a b (by rw [hfo]; exact hu) hs, hfo]
    exact eqFs_run (i := 0) hf (by simp [hn]) (by simp [hn, h2]) (by simpa using h)
  rcases hop with rfl | rfl
  · simp only [Sem.run_bind, run_eqGuard_agg w .eql t X Y a b hg, Result.andThen_ok, if_true]
    simp [binOp, hq]
  · simp only [Sem.run_bind, run_eqGuard_agg w .neq t X Y a b hg, Result.andThen_ok]
    simp [binOp, hq]

theorem nilI_run {op : BinOp} {t : TypeId} {X : Operand} {x v : Value} (h : nilI op (P.underlying t) x = some v) : (do eqGuard op t X (.const .nilIface) x .nilIface; binOp op t x .nilIface : Sem Value).run P w = .ok v w := by
  cases hu : P.underlying t with
  | none => rw [hu] at h; unfold nilI at h; split at h <;> simp_all
  | some d =>
    rw [hu] at h
    unfold nilI at h
    split at h <;> first | (cases h; done) | skip
    all_goals
      rename_i hd
      simp only [Option.some.injEq] at hd h
      subst hd h
      have hg : ∀ (o : BinOp) (y : Value), (eqGuard o t X (.const .nilIface) y .nilIface).run P w = .ok () w := fun o y => by
        unfold eqGuard
        cases o <;> cases y <;> simp
      have he : ∀ y b, Op.equalIn 10000 t y .nilIface = Op.equalIn 10000 t y .nilIface → (Op.equalIn 10000 t y .nilIface).run P w = .ok b w → (Op.equal t y .nilIface).run P w = .ok b w := fun y b _ h => h
      simp only [Sem.run_bind, hg, Result.andThen_ok, binOp]
      first
        | rw [he _ true rfl (by show (Op.equalIn (9999 + 1) t _ _).run P w = _; unfold Op.equalIn; simp only [Sem.run_bind, run_under hu, Result.andThen_ok]; rfl)]; rfl
        | rw [he _ false rfl (by show (Op.equalIn (9999 + 1) t _ _).run P w = _; unfold Op.equalIn; simp only [Sem.run_bind, run_under hu, Result.andThen_ok]; rfl)]; rfl

theorem cmpV_run {op : BinOp} {t : TypeId} {X Y : Operand} {x y v : Value} (h : cmpV P op t x y = some v) : (do eqGuard op t X Y x y; binOp op t x y : Sem Value).run P w = .ok v w := by
  by_cases hag : ∃ a b, x = .agg a ∧ y = .agg b
  · obtain ⟨a, b, rfl, rfl⟩ := hag
    cases op
    case eql =>
      have h : (if intsT P t = some a.size ∧ a.size = b.size then (eqInts a.toList b.toList).map .bool else none) = some v := h
      split at h
      · rename_i hc
        obtain ⟨r, hr, rfl⟩ := Option.map_eq_some_iff.1 h
        exact eqAgg_run (.inl rfl) hc.1 hc.2 hr
      · cases h
    case neq =>
      have h : (if intsT P t = some a.size ∧ a.size = b.size then (eqInts a.toList b.toList).map fun r => .bool !r else none) = some v := h
      split at h
      · rename_i hc
        obtain ⟨r, hr, rfl⟩ := Option.map_eq_some_iff.1 h
        exact eqAgg_run (.inr rfl) hc.1 hc.2 hr
      · cases h
    all_goals simp [cmpV, binV] at h
  have hg : x.cells.size = 1 ∧ x ≠ .nilIface ∧ ∀ c, x ≠ .agg c := by
    cases x <;> first
      | (refine ⟨rfl, ?_, ?_⟩ <;> simp; done)
      | (exfalso; cases op <;> first | (simp [cmpV, binV] at h; done) | (cases y <;> first | (simp [cmpV, binV] at h; done) | exact hag ⟨_, _, rfl, rfl⟩))
  simp only [Sem.run_bind, eqGuard_run hg, Result.andThen_ok]
  unfold cmpV at h
  split at h
  case h_13 =>
    cases x <;> cases y <;> first
      | exact strBin_run h
      | exact intBin_run h
      | exact floatBin_run h
      | exact complexBin_run h
      | (simp [binV] at h)
  case h_11 | h_12 => exact absurd ⟨_, _, rfl, rfl⟩ hag
  all_goals
    simp only [Option.map_eq_some_iff] at h
    obtain ⟨b, hb, rfl⟩ := h
    have hr := eqlV_run (w := w) hb
    unfold eqlV at hb
    split at hb <;> first | (cases hb; done) | (simp [binOp, hr])

theorem fieldV_run {s f : Nat} {x v : Value} (h : fieldV (offOf P s f) x = some v) : (Instr.fieldAt s x f).run P w = .ok v w := by
  cases ho : offOf P s f with
  | none => rw [ho] at h; simp [fieldV] at h
  | some k =>
    rw [ho] at h
    cases x with
    | pointer a =>
      cases a with
      | none => simp [fieldV] at h
      | some a =>
        simp only [fieldV, Option.some.injEq] at h
        subst h
        unfold offOf at ho
        split at ho
        · rename_i fs hu
          simp only [Option.bind_eq_some_iff] at ho
          obtain ⟨x, hx, ho⟩ := ho
          split at ho
          · rename_i n hn
            simp only [Option.some.injEq] at ho
            subst ho
            simp [Instr.fieldAt, run_under hu, hx, Instr.sureAddr, fieldPlace, run_cells hn]
          · cases ho
        · cases ho
    | _ => simp [fieldV] at h

theorem part_run {t : TypeId} {cs : Array Value} {off : Nat} {n : Option Nat} {v : Value}
    (hn : (match P.underlying t with | some (.struct _) | some (.array _ _) => (szOf P t).map some | some _ => some none | none => none) = some n)
    (h : partV cs off n = some v) : (part t cs off).run P w = .ok v w := by
  cases hu : P.underlying t with
  | none => rw [hu] at hn; cases hn
  | some d =>
    rw [hu] at hn
    unfold part isAgg
    simp only [Sem.run_bind, run_under hu, Result.andThen_ok]
    split at hn
    case h_4 => cases hn
    case h_3 d' hd1 hd2 heq =>
      simp only [Option.some.injEq] at hn heq
      subst hn heq
      cases d <;> simp_all [partV]
    all_goals
      rename_i heq
      simp only [Option.some.injEq] at heq
      subst heq
      simp only [Option.map_eq_some_iff] at hn
      obtain ⟨m, hm, rfl⟩ := hn
      simp only [partV, Option.some.injEq] at h
      subst h
      simp [run_cells hm]

theorem fldV_run {s f : Nat} {x v : Value} (h : fldV (fldOf P s f) x = some v) : (Instr.field s x f).run P w = .ok v w := by
  cases ho : fldOf P s f with
  | none => rw [ho] at h; simp [fldV] at h
  | some p =>
    obtain ⟨off, n⟩ := p
    rw [ho] at h
    cases x with
    | agg cs =>
      simp only [fldV] at h
      unfold fldOf at ho
      split at ho
      · rename_i fs hu
        simp only [Option.bind_eq_some_iff] at ho
        obtain ⟨x, hx, ho⟩ := ho
        have hoff : x.offset = off ∧ (match P.underlying x.type with | some (.struct _) | some (.array _ _) => (szOf P x.type).map some | some _ => some none | none => none) = some n := by
          split at ho
          · simp only [Option.map_eq_some_iff, Prod.mk.injEq] at ho
            obtain ⟨m, hm, h1, h2⟩ := ho
            exact ⟨h1, by rw [hm, ← h2]; rfl⟩
          · simp only [Option.map_eq_some_iff, Prod.mk.injEq] at ho
            obtain ⟨m, hm, h1, h2⟩ := ho
            exact ⟨h1, by rw [hm, ← h2]; rfl⟩
          · simp only [Option.some.injEq, Prod.mk.injEq] at ho
            exact ⟨ho.1, by rw [ho.2]⟩
          · cases ho
        obtain ⟨h1, h2⟩ := hoff
        subst h1
        simp [Instr.field, run_under hu, hx, asAgg, part_run h2 h]
      · cases ho
    | _ => simp [fldV] at h

theorem idxV_run {t : TypeId} {x i v : Value} (h : idxV (elOf P t) x i = some v) : (Instr.indexAt t x i).run P w = .ok v w := by
  cases ho : elOf P t with
  | none => rw [ho] at h; simp [idxV] at h
  | some p =>
    rw [ho] at h
    unfold elOf at ho
    split at ho
    · rename_i e hu
      simp only [Option.map_eq_some_iff] at ho
      obtain ⟨n, hn, rfl⟩ := ho
      unfold idxV at h
      split at h
      · rename_i n' a len cap k i' heq
        simp only [Option.some.injEq, Prod.mk.injEq, and_true] at heq
        subst heq
        split at h
        · rename_i hb
          simp only [Option.some.injEq] at h
          subst h
          simp [Instr.indexAt, asIntOf, run_under hu, hb, run_cells hn]
        · cases h
      · rename_i heq
        simp at heq
      · cases h
    · rename_i m e hu
      simp only [Option.map_eq_some_iff] at ho
      obtain ⟨n, hn, rfl⟩ := ho
      unfold idxV at h
      split at h
      · rename_i heq
        simp at heq
      · rename_i n' len a k i' heq
        simp only [Option.some.injEq, Prod.mk.injEq] at heq
        obtain ⟨h1, h2⟩ := heq
        subst h1 h2
        split at h
        · rename_i hb
          simp only [Option.some.injEq] at h
          subst h
          simp [Instr.indexAt, asIntOf, run_under hu, hb, run_cells hn, Instr.sureAddr]
        · cases h
      · cases h
    · cases ho

theorem indexV_run {t : TypeId} {x i v : Value} (h : indexV (ixOf P t) x i = some v) : (Instr.index t x i).run P w = .ok v w := by
  cases ho : ixOf P t with
  | none => rw [ho] at h; simp [indexV] at h
  | some p =>
    obtain ⟨k, n, g⟩ := p
    rw [ho] at h
    unfold ixOf at ho
    split at ho
    · rename_i k' e hu
      simp only [Option.bind_eq_some_iff, Option.map_eq_some_iff, Prod.mk.injEq] at ho
      obtain ⟨m, hm, g', hg, h1, h2, h3⟩ := ho
      subst h1 h2 h3
      cases x with
      | agg cs =>
        cases i with
        | int kd i =>
          simp only [indexV] at h
          by_cases hb : 0 ≤ i ∧ i < k'
          · rw [if_pos hb] at h
            simp [Instr.index, asIntOf, run_under hu, hb, run_cells hm, part_run hg h]
          · rw [if_neg hb] at h; cases h
        | _ => simp [indexV] at h
      | _ => simp [indexV] at h
    · cases ho

theorem idxS_run {t : TypeId} {x i v : Value} (h : idxS (ixOf P t) (strT P t) x i = some v) : (Instr.index t x i).run P w = .ok v w := by
  unfold idxS at h
  split at h
  · rename_i q hq
    exact indexV_run (by rw [hq]; exact h)
  · split at h
    · rename_i hs
      have hu : P.underlying t = some .string := by
        unfold strT at hs
        split at hs
        · assumption
        · cases hs
      unfold strIx at h
      split at h
      · rename_i s k i'
        split at h
        · rename_i h0
          obtain ⟨b, hb, rfl⟩ := Option.map_eq_some_iff.1 h
          simp [Instr.index, asIntOf, run_under hu, h0, hb]
        · cases h
      · cases h
    · cases h

theorem convV_run {s d : TypeId} {x v : Value} (h : convV (P.underlying s) (P.underlying d) x = some v) : (convert s d x).run P w = .ok v w := by
  unfold convV at h
  split at h <;> first | (cases h; done) | skip
  · rename_i hs hd
    simp only [Option.some.injEq] at h
    subst h
    simp [convert, run_under hs, run_under hd, Conv.intToInt]
  · rename_i hs hd
    simp only [Option.some.injEq] at h
    subst h
    simp [convert, run_under hs, run_under hd, Conv.intToFloat]
  · rename_i hs hd
    split at h
    · rename_i n hn
      split at h
      · rename_i hb
        simp only [Option.some.injEq] at h
        subst h
        simp [convert, run_under hs, run_under hd, Conv.floatToInt, hn, hb]
      · cases h
    · cases h
  · rename_i hs hd
    simp only [Option.some.injEq] at h
    subst h
    simp [convert, run_under hs, run_under hd]

theorem boundV_some {v : Value} {y d n : Nat} {c : BoundsCode} (h : boundV (some v) y d = some n) : (Instr.sliceBound v y c).run P w = .ok n w := by
  cases v with
  | int k i =>
    simp only [boundV] at h
    by_cases hb : 0 ≤ i ∧ i ≤ y
    · rw [if_pos hb] at h
      simp only [Option.some.injEq] at h
      subst h
      simp [Instr.sliceBound, asIntOf, hb]
    · rw [if_neg hb] at h; cases h
  | _ => simp [boundV] at h

theorem boundV_none {y d n : Nat} (h : boundV none y d = some n) : d = n := by simpa [boundV] using h

theorem sliceV_run {t : TypeId} {x v : Value} {lo hi : Option Value} (h : sliceV (elOf P t) x lo hi = some v) : (Instr.sliceAt t x lo hi none).run P w = .ok v w := by
  cases ho : elOf P t with
  | none => rw [ho] at h; simp [sliceV] at h
  | some p =>
    rw [ho] at h
    unfold elOf at ho
    split at ho
    · rename_i e hu
      simp only [Option.map_eq_some_iff] at ho
      obtain ⟨n, hn, rfl⟩ := ho
      unfold sliceV at h
      split at h
      · rename_i n' a len cap heq
        simp only [Option.some.injEq, Prod.mk.injEq, and_true] at heq
        subst heq
        simp only [Option.bind_eq_some_iff, Option.map_eq_some_iff] at h
        obtain ⟨H, hH, L, hL, rfl⟩ := h
        cases lo with
        | none =>
          have e2 := boundV_none hL
          subst e2
          cases hi with
          | none =>
            have e1 := boundV_none hH
            subst e1
            simp [Instr.sliceAt, Instr.slice, run_under hu, Instr.sliceBounds, run_cells hn]
          | some v =>
            have e1 := boundV_some (P := P) (w := w) (c := .sliceAcap) hH
            simp [Instr.sliceAt, Instr.slice, run_under hu, Instr.sliceBounds, e1, run_cells hn]
        | some u =>
          have e2 := boundV_some (P := P) (w := w) (c := .sliceB) hL
          cases hi with
          | none =>
            have e1 := boundV_none hH
            subst e1
            simp [Instr.sliceAt, Instr.slice, run_under hu, Instr.sliceBounds, e2, run_cells hn]
          | some v =>
            have e1 := boundV_some (P := P) (w := w) (c := .sliceAcap) hH
            simp [Instr.sliceAt, Instr.slice, run_under hu, Instr.sliceBounds, e1, e2, run_cells hn]
      · rename_i heq
        simp at heq
      · cases h
    · rename_i len e hu
      simp only [Option.map_eq_some_iff] at ho
      obtain ⟨n, hn, rfl⟩ := ho
      unfold sliceV at h
      split at h
      · rename_i heq
        simp at heq
      · rename_i n' len' a heq
        simp only [Option.some.injEq, Prod.mk.injEq] at heq
        obtain ⟨rfl, rfl⟩ := heq
        simp only [Option.bind_eq_some_iff, Option.map_eq_some_iff] at h
        obtain ⟨H, hH, L, hL, rfl⟩ := h
        cases lo with
        | none =>
          have e2 := boundV_none hL
          subst e2
          cases hi with
          | none =>
            have e1 := boundV_none hH
            subst e1
            simp [Instr.sliceAt, Instr.sureAddr, run_under hu, Instr.sliceBounds, run_cells hn]
          | some v =>
            have e1 := fun c => boundV_some (P := P) (w := w) (c := c) hH
            simp [Instr.sliceAt, Instr.sureAddr, run_under hu, Instr.sliceBounds, e1, run_cells hn]
        | some u =>
          have e2 := fun c => boundV_some (P := P) (w := w) (c := c) hL
          cases hi with
          | none =>
            have e1 := boundV_none hH
            subst e1
            simp [Instr.sliceAt, Instr.sureAddr, run_under hu, Instr.sliceBounds, e2, run_cells hn]
          | some v =>
            have e1 := fun c => boundV_some (P := P) (w := w) (c := c) hH
            simp [Instr.sliceAt, Instr.sureAddr, run_under hu, Instr.sliceBounds, e1, e2, run_cells hn]
      · cases h
    · cases ho

theorem sliceQ_run {t : TypeId} {x v : Value} {lo hi : Option Value} (h : sliceQ (elOf P t) (strT P t) x lo hi = some v) : (Instr.sliceAt t x lo hi none).run P w = .ok v w := by
  unfold sliceQ at h
  split at h
  · rename_i q hq
    exact sliceV_run (by rw [hq]; exact h)
  · split at h
    · rename_i hs
      have hu : P.underlying t = some .string := by
        unfold strT at hs
        split at hs
        · assumption
        · cases hs
      unfold strSl at h
      split at h
      · rename_i s
        simp only [Option.bind_eq_some_iff, Option.map_eq_some_iff] at h
        obtain ⟨H, hH, L, hL, rfl⟩ := h
        have ex : s.extract L H = ⟨((s.data.toList.drop L).take (H - L)).toArray⟩ := by
          apply ByteArray.ext
          apply Array.ext'
          simp [ByteArray.data_extract, List.extract]
        cases lo with
        | none =>
          have e2 := boundV_none hL
          subst e2
          cases hi with
          | none =>
            have e1 := boundV_none hH
            subst e1
            have e3 : s = ⟨(List.take s.size s.data.toList).toArray⟩ := by
              have e4 : List.take s.size s.data.toList = s.data.toList := List.take_of_length_le (Nat.le_refl _)
              rw [e4]
            simp [Instr.sliceAt, Instr.slice, run_under hu, Instr.sliceBounds, S, ← e3]
          | some v =>
            have e1 := boundV_some (P := P) (w := w) (c := .sliceAlen) hH
            simp [Instr.sliceAt, Instr.slice, run_under hu, Instr.sliceBounds, e1, S, ex]
        | some u =>
          have e2 := boundV_some (P := P) (w := w) (c := .sliceB) hL
          cases hi with
          | none =>
            have e1 := boundV_none hH
            subst e1
            simp [Instr.sliceAt, Instr.slice, run_under hu, Instr.sliceBounds, e2, S, ex]
          | some v =>
            have e1 := boundV_some (P := P) (w := w) (c := .sliceAlen) hH
            simp [Instr.sliceAt, Instr.slice, run_under hu, Instr.sliceBounds, e1, e2, S, ex]
      · cases h
    · cases h

theorem slice3V_run {t : TypeId} {x v hi mx : Value} {lo : Option Value} (h : slice3V (elOf P t) x lo hi mx = some v) : (Instr.sliceAt t x lo (some hi) (some mx)).run P w = .ok v w := by
  cases ho : elOf P t with
  | none => rw [ho] at h; simp [slice3V] at h
  | some p =>
    rw [ho] at h
    unfold elOf at ho
    split at ho
    · rename_i e hu
      simp only [Option.map_eq_some_iff] at ho
      obtain ⟨n, hn, rfl⟩ := ho
      unfold slice3V at h
      split at h
      · rename_i n' a len cap heq
        simp only [Option.some.injEq, Prod.mk.injEq, and_true] at heq
        subst heq
        simp only [Option.bind_eq_some_iff, Option.map_eq_some_iff] at h
        obtain ⟨M, hM, H, hH, L, hL, rfl⟩ := h
        have e0 := boundV_some (P := P) (w := w) (c := .slice3Acap) hM
        have e1 := boundV_some (P := P) (w := w) (c := .slice3B) hH
        cases lo with
        | none =>
          have e2 := boundV_none hL
          subst e2
          simp [Instr.sliceAt, Instr.slice, run_under hu, Instr.sliceBounds, e0, e1, run_cells hn]
        | some u =>
          have e2 := boundV_some (P := P) (w := w) (c := .slice3C) hL
          simp [Instr.sliceAt, Instr.slice, run_under hu, Instr.sliceBounds, e0, e1, e2, run_cells hn]
      · cases h
    · simp only [Option.map_eq_some_iff] at ho
      obtain ⟨n, hn, rfl⟩ := ho
      simp [slice3V] at h
    · cases ho

theorem extractV_run {x v : Value} {i : Nat} (h : extractV x i = some v) : (Instr.extract x i).run P w = .ok v w := by
  cases x <;> simp [extractV] at h
  simp [Instr.extract, h]

theorem unV_run {op : UnOp} {x v : Value} (h : unV op x = some v) : (Op.unary op x).run P w = .ok v w := by
  unfold unV at h
  split at h <;> first | (cases h; done) | (simp only [Option.some.injEq] at h; subst h; simp [Op.unary, Op.intArith])

theorem complex_run {ts : Array TypeId} {t : TypeId} {cs : Array Bool} {k : FloatKind} {re im : Nat} :
    (builtin .complex ts t cs #[.float k re, .float k im]).run P w = .ok (.value (.complex k re im)) w := by
  have e : Builtin.complex_ ts t #[.float k re, .float k im] = if k = k then pure (.complex k re im) else stuck "complex: parts of different kinds" := rfl
  simp [builtin, e]

theorem builtV_run {b : Builtin} {ts : Array TypeId} {xs : Array Value} {t : TypeId} {cs : Array Bool} {v : Value} (h : builtV P b ts.toList xs.toList = some v) :
    (builtin b ts t cs xs).run P w = .ok (.value v) w := by
  obtain ⟨ts⟩ := ts
  obtain ⟨xs⟩ := xs
  unfold builtV at h
  split at h
  · rename_i t ts' x xs' e1 e2
    simp only at e1 e2
    subst e1 e2
    unfold lenV at h
    split at h
    · rename_i hu
      simp only [Option.some.injEq] at h
      subst h
      simp [builtin, Builtin.len_, run_under hu, goInt]
    · rename_i hu
      simp only [Option.some.injEq] at h
      subst h
      simp [builtin, Builtin.len_, run_under hu, goInt]
    · cases h
  · rename_i t ts' x xs' e1 e2
    simp only at e1 e2
    subst e1 e2
    unfold capV at h
    split at h
    · rename_i hu
      simp only [Option.some.injEq] at h
      subst h
      simp [builtin, Builtin.cap_, run_under hu, goInt]
    · cases h
  · rename_i e1
    simp only at e1
    subst e1
    simp only [Option.some.injEq] at h
    subst h
    rfl
  · rename_i e1
    simp only at e1
    subst e1
    simp only [Option.some.injEq] at h
    subst h
    rfl
  · rename_i e1
    simp only at e1
    subst e1
    split at h
    · rename_i hk
      simp only [Option.some.injEq] at h
      subst h
      subst hk
      exact complex_run
    · cases h
  · rename_i x y e1
    simp only at e1
    subst e1
    unfold minV at h
    split at h
    · simp only [Option.some.injEq] at h
      subst h
      simp [builtin, Builtin.min_, Builtin.min2]
    · split at h <;> first | (cases h; done) | (rename_i ho; simp only [Option.some.injEq] at h; subst h; simp [builtin, Builtin.min_, Builtin.min2, ho])
    · cases h
  · rename_i x y e1
    simp only at e1
    subst e1
    unfold maxV at h
    split at h
    · simp only [Option.some.injEq] at h
      subst h
      simp [builtin, Builtin.max_, Builtin.max2]
    · split at h <;> first | (cases h; done) | (rename_i ho; simp only [Option.some.injEq] at h; subst h; simp [builtin, Builtin.max_, Builtin.max2, ho])
    · cases h
  · rename_i k x k1 y k2 z e1
    simp only at e1
    subst e1
    simp only [maxV, Option.bind_some, Option.some.injEq] at h
    subst h
    simp [builtin, Builtin.max_, Builtin.max2]
  · cases h

/-- **WHAT IS PURE IS SO IN EVERY WORLD.** -/
theorem pv_run {ρ : Env} {o : Oper} {v : Value} (h : pv P ρ o.op = some v) : (execOp (ev ρ) o).run P w = .ok (.value v) w := by
  obtain ⟨dst, op, ty, pos, after, guard⟩ := o
  simp only at h
  cases op
  case move x => simp only [pv, Option.some.injEq] at h; subst h; rfl
  case assign x => simp only [pv, Option.some.injEq] at h; subst h; rfl
  case pick c a b =>
    simp only [pv] at h
    cases hc : ev ρ c with
    | bool t => rw [hc] at h; simp only [pickV, Option.some.injEq] at h; subst h; simp [execOp, hc, asBool]
    | _ => rw [hc] at h; simp [pickV] at h
  case nilCheck x =>
    simp only [pv] at h
    cases hx : ev ρ x with
    | pointer a =>
      rw [hx] at h
      cases a with
      | none => simp [nilV] at h
      | some a => simp only [nilV, Option.some.injEq] at h; subst h; simp [execOp, hx]
    | _ => rw [hx] at h; simp [nilV] at h
  case binOp op t x y yt =>
    have : (do eqGuard op t x y (ev ρ x) (ev ρ y); Go.binOp op t (ev ρ x) (ev ρ y) : Sem Value).run P w = .ok v w := by
      simp only [pv] at h
      unfold binP at h
      split at h
      · exact nilI_run h
      · exact cmpV_run h
    simp only [Sem.run_bind] at this
    simp only [execOp, Sem.run_bind, this, Result.andThen_ok, Sem.run_pure]
  case makeInterface t x =>
    simp only [pv] at h
    have hr : (Instr.makeInterface t (ev ρ x)).run P w = .ok v w := by
      cases hu : P.underlying t with
      | none => rw [hu] at h; cases h
      | some d =>
        rw [hu] at h
        unfold ifaceV at h
        split at h
        · cases h
        · cases h
        · rename_i d1 d2
          simp only [Option.some.injEq] at h
          subst h
          unfold Instr.makeInterface
          simp only [Sem.run_bind, run_under hu, Result.andThen_ok]
          cases d <;> first | rfl | (simp at d2)
    simp only [execOp, Sem.run_bind, hr, Result.andThen_ok, Sem.run_pure]
  case unOp op t x => simp only [execOp, Sem.run_bind, unV_run h, Result.andThen_ok, Sem.run_pure]
  case convert s d x => simp only [execOp, Sem.run_bind, convV_run h, Result.andThen_ok, Sem.run_pure]
  case makeFunc fn first captured => simp only [pv, Option.some.injEq] at h; subst h; rfl
  case fieldAddr s x f => simp only [execOp, Sem.run_bind, fieldV_run h, Result.andThen_ok, Sem.run_pure]
  case field s x f => simp only [execOp, Sem.run_bind, fldV_run h, Result.andThen_ok, Sem.run_pure]
  case indexAddr t x i => simp only [execOp, Sem.run_bind, idxV_run h, Result.andThen_ok, Sem.run_pure]
  case extract x i => simp only [execOp, Sem.run_bind, extractV_run h, Result.andThen_ok, Sem.run_pure]
  case index t x i => simp only [execOp, Sem.run_bind, idxS_run h, Result.andThen_ok, Sem.run_pure]
  case build t ps =>
    simp only [pv, Option.map_eq_some_iff] at h
    obtain ⟨cs, hcs, rfl⟩ := h
    have hb := run_build w t (ps.map fun p => (p.1, ev ρ p.2)) cs (by rw [Array.toList_map]; exact hcs)
    simp only [execOp, Sem.run_bind, hb, Result.andThen_ok, Sem.run_pure]
  case slice t x lo hi mx =>
    cases mx with
    | none => simp only [execOp, Sem.run_bind, Option.map_none, sliceQ_run h, Result.andThen_ok, Sem.run_pure]
    | some m =>
      cases hi with
      | none => simp [pv] at h
      | some hi => simp only [execOp, Sem.run_bind, Option.map_some, slice3V_run h, Result.andThen_ok, Sem.run_pure]
  case call c =>
    obtain ⟨callee, args, ts⟩ := c
    cases callee with
    | builtin b =>
      simp only [pv] at h
      simp only [execOp, resolve, Sem.run_bind, Sem.run_pure, Result.andThen_ok, invoke]
      exact builtV_run (by rw [Array.toList_map]; exact h)
    | _ => simp [pv] at h
  all_goals simp [pv] at h
end
end Xe
