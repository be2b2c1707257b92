/- The engine, fifth part: the rules by which simp runs it. -/
import Derived.Test.YtgebeiaffjpcaaaGreatDoorEng4
import Derived.Test.YtgebeiaffjpcaaaGreatDoorFL
namespace Xe
open Go

section
variable {P : Program} {n : Nat} {Q : Exit → Env → Heap → Prop} {ρ : Env} {h : Heap} {k : Value → Heap → Prop}

/-! ### What is not gone into: simp leaves instance arguments alone -/
class Kp (α : Type) where
  f : α

def runK (o : Option Value) [k : Kp (Value → Prop)] : Prop := runO o k.f
def condK (v : Value) [A : Kp Prop] [B : Kp Prop] : Prop := condX v A.f B.f
def CallsK (P : Program) (f : FuncId) (vs : List Value) [h : Kp Heap] [k : Kp (Value → Heap → Prop)] : Prop := CallsH P f vs h.f k.f
def invokeK (P : Program) (f : Value) (vs : List Value) [h : Kp Heap] [k : Kp (Value → Heap → Prop)] : Prop := invokeX P f vs h.f k.f
def storeK (m : Option Nat) (x v : Value) [h : Kp Heap] [j : Kp (Heap → Prop)] : Prop := storeX m x v h.f j.f
def allocK (z : Option Value) (e : TypeId) [h : Kp Heap] [k : Kp (Value → Heap → Prop)] : Prop := allocX z e h.f k.f
def newK (z : Array Value) (e : TypeId) [h : Kp Heap] [k : Kp (Value → Heap → Prop)] : Prop := newX z e h.f k.f
def buildSliceK (el : Option (TypeId × Nat × Nat × Value)) (m : Nat) (ps : List (Nat × Value)) [h : Kp Heap] [k : Kp (Value → Heap → Prop)] : Prop := buildSliceX el m ps h.f k.f

def appendK (el : Option (TypeId × Nat × Nat × Value)) (l c : Value) [h : Kp Heap] [k : Kp (Value → Heap → Prop)] : Prop := appendX el l c h.f k.f
def appendZK (el : Option (TypeId × Nat × Nat × Value)) (l c : Value) [h : Kp Heap] [k : Kp (Value → Heap → Prop)] : Prop := appendZX el l c h.f k.f
def appSelK (d : Option TypeDesc) [A : Kp Prop] [B : Kp Prop] : Prop := appSel d A.f B.f
def builtK (P : Program) (b : Builtin) (ts : List TypeId) (xs : List Value) [h : Kp Heap] [k : Kp (Value → Heap → Prop)] : Prop := builtX P b ts xs h.f k.f

def mapUpK (P : Program) (t : TypeId) (m key v : Value) [h : Kp Heap] [j : Kp (Heap → Prop)] : Prop := mapUpQ P t m key v h.f j.f
def convK (P : Program) (s d : Option TypeDesc) (v : Value) [h : Kp Heap] [k : Kp (Value → Heap → Prop)] : Prop := convX P s d v h.f k.f
def s2bK (e : TypeId) (l : List UInt8) [h : Kp Heap] [k : Kp (Value → Heap → Prop)] : Prop := s2bX e l h.f k.f

def clearK (P : Program) (t : TypeId) (m : Value) [h : Kp Heap] [j : Kp (Heap → Prop)] : Prop := clearX P t m h.f j.f

def makeMapK [h : Kp Heap] [k : Kp (Value → Heap → Prop)] : Prop := makeMapX h.f k.f
def SemK (P : Program) (n : Nat) [c : Kp Code] [Q : Kp (Exit → Env → Heap → Prop)] [ρ : Kp Env] [h : Kp Heap] : Prop := SemX P n c.f Q.f ρ.f h.f

/-- a premise that is decided on the way -/
def guardK (b : Bool) [A : Kp Prop] : Prop := b = true ∧ A.f
@[go_sem] theorem guardK_true {A : Prop} : @guardK true ⟨A⟩ = A := by simp [guardK]

/-! ### Code -/
@[go_sem ↓] theorem wpX_skip : wpX P n .skip Q ρ h = Q .normal ρ h := rfl

@[go_sem ↓] theorem wpX_seq {a b : Code} : wpX P n (.seq a b) Q ρ h = wpX P n a (thenX (wpX P n b Q) Q) ρ h := rfl
@[go_sem ↓] theorem wpX_cond {c : Operand} {a b : Code} : wpX P n (.cond c a b) Q ρ h = @condK (ev ρ c) ⟨wpX P n a Q ρ h⟩ ⟨wpX P n b Q ρ h⟩ := rfl
@[go_sem ↓] theorem wpX_block {id : Nat} {c : Code} : wpX P n (.block id c) Q ρ h = wpX P n c (blockX id Q) ρ h := rfl
@[go_sem ↓] theorem wpX_exit {id : Nat} : wpX P n (.exit id) Q ρ h = Q (.exit id) ρ h := rfl
@[go_sem ↓] theorem wpX_goto {l : Nat} : wpX P n (.goto l) Q ρ h = Q (.goto l) ρ h := rfl
@[go_sem ↓] theorem wpX_ret : wpX P n .ret Q ρ h = Q .ret ρ h := rfl
@[go_sem ↓] theorem wpX_region {id : Nat} {ops : List Oper} : wpX P n (.region id ops.toArray false) Q ρ h = wpR P ops.toArray Q ops ρ h := rfl
@[go_sem ↓] theorem wpX_draw {id : Nat} {ops : Array Oper} : wpX P n (.region id ops true) Q ρ h = @SemK P n ⟨.region id ops true⟩ ⟨Q⟩ ⟨ρ⟩ ⟨h⟩ := rfl
@[go_sem ↓] theorem wpX_loop {c : Code} : wpX P n (.loop c) Q ρ h = @SemK P n ⟨.loop c⟩ ⟨Q⟩ ⟨ρ⟩ ⟨h⟩ := rfl
@[go_sem ↓] theorem wpX_scope {c : Code} : wpX P n (.scope c) Q ρ h = @SemK P n ⟨.scope c⟩ ⟨Q⟩ ⟨ρ⟩ ⟨h⟩ := rfl

section
variable {K J : Env → Heap → Prop} {id l : Nat}
@[go_sem ↓] theorem thenX_normal : thenX K Q .normal ρ h = K ρ h := rfl
@[go_sem ↓] theorem thenX_exit : thenX K Q (.exit id) ρ h = Q (.exit id) ρ h := rfl
@[go_sem ↓] theorem thenX_goto : thenX K Q (.goto l) ρ h = Q (.goto l) ρ h := rfl
@[go_sem ↓] theorem thenX_ret : thenX K Q .ret ρ h = Q .ret ρ h := rfl
@[go_sem ↓] theorem blockX_normal : blockX id Q .normal ρ h = Q .normal ρ h := rfl
@[go_sem ↓] theorem blockX_same : blockX id Q (.exit id) ρ h = Q .normal ρ h := if_pos rfl
@[go_sem] theorem blockX_exit {j : Nat} (hj : j ≠ id) : blockX id Q (.exit j) ρ h = Q (.exit j) ρ h := if_neg hj
@[go_sem ↓] theorem blockX_goto : blockX id Q (.goto l) ρ h = Q (.goto l) ρ h := rfl
@[go_sem ↓] theorem blockX_ret : blockX id Q .ret ρ h = Q .ret ρ h := rfl

@[go_sem ↓] theorem jumpX_ret : jumpX l J Q .ret ρ h = Q .ret ρ h := rfl
@[go_sem ↓] theorem jumpX_goto : jumpX l J Q (.goto l) ρ h = J ρ h := by simp [jumpX]
@[go_sem ↓] theorem retX_normal {rs : List ResultVar} : retX P rs k .normal ρ h = resX P rs k ρ h := rfl
@[go_sem ↓] theorem retX_ret {rs : List ResultVar} : retX P rs k .ret ρ h = resX P rs k ρ h := rfl
end

@[go_sem] theorem condK_true {A B : Prop} : @condK (.bool true) ⟨A⟩ ⟨B⟩ = A := rfl
@[go_sem] theorem condK_false {A B : Prop} : @condK (.bool false) ⟨A⟩ ⟨B⟩ = B := rfl

/-! ### Results -/
@[go_sem ↓] theorem resX_0 : resX P [] k ρ h = k (.tuple #[]) h := rfl
section
variable {r s' t' q' : ResultVar}
@[go_sem ↓] theorem resX_1 : resX P [r] k ρ h = @runK (resV P ρ h r) ⟨fun v => k v h⟩ := rfl
@[go_sem ↓] theorem resX_2 : resX P [r, s'] k ρ h = @runK (resV P ρ h r) ⟨fun v => @runK (resV P ρ h s') ⟨fun x => k (.tuple #[v, x]) h⟩⟩ := rfl
@[go_sem ↓] theorem resX_3 : resX P [r, s', t'] k ρ h = @runK (resV P ρ h r) ⟨fun v => @runK (resV P ρ h s') ⟨fun x => @runK (resV P ρ h t') ⟨fun y => k (.tuple #[v, x, y]) h⟩⟩⟩ := rfl

@[go_sem ↓] theorem resV_tmp {t : Nat} : resV P ρ h (.tmp t) = some (ρ t) := rfl
@[go_sem ↓] theorem resV_cell {t c : Nat} : resV P ρ h (.cell t c) = loadV (aggOf P c) (ρ t) h := rfl
end

/-! ### Regions -/
def gY (b : Option Bool) (want : Bool) [A : Kp Prop] [B : Kp Prop] : Prop := if b = some want then A.f else B.f
@[go_sem] theorem gY_tt {A B : Prop} : @gY (some true) true ⟨A⟩ ⟨B⟩ = A := if_pos rfl
@[go_sem] theorem gY_ff {A B : Prop} : @gY (some false) false ⟨A⟩ ⟨B⟩ = A := if_pos rfl
@[go_sem] theorem gY_tf {A B : Prop} : @gY (some true) false ⟨A⟩ ⟨B⟩ = B := if_neg (by decide)
@[go_sem] theorem gY_ft {A B : Prop} : @gY (some false) true ⟨A⟩ ⟨B⟩ = B := if_neg (by decide)
@[go_sem] theorem gY_n {A B : Prop} {want : Bool} : @gY none want ⟨A⟩ ⟨B⟩ = B := if_neg (by simp)

section
variable {ops : Array Oper} {d : Nat} {op : Op} {ty : TypeId} {pos : String} {after : Array Edge} {rest : List Oper} {j : Nat} {want : Bool}
@[go_sem ↓] theorem wpR_nil : wpR P ops Q [] ρ h = Q .normal ρ h := rfl
@[go_sem ↓] theorem wpR_some : wpR P ops Q (⟨some d, op, ty, pos, after, none⟩ :: rest) ρ h = stepX P ρ op h fun v h' => wpR P ops Q rest (put ρ d v) h' := rfl
@[go_sem ↓] theorem wpR_none : wpR P ops Q (⟨none, op, ty, pos, after, none⟩ :: rest) ρ h = stepX P ρ op h fun _ h' => wpR P ops Q rest ρ h' := rfl
@[go_sem ↓] theorem wpR_gsome : wpR P ops Q (⟨some d, op, ty, pos, after, some (j, want)⟩ :: rest) ρ h =
    @gY (yieldX ops ρ j) want ⟨stepX P ρ op h fun v h' => wpR P ops Q rest (put ρ d v) h'⟩ ⟨wpR P ops Q rest (put ρ d undef) h⟩ := rfl

/-- a slot as a guard reads it -/
def boolOf (v : Value) : Option Bool := match v with | .bool b => some b | _ => none
@[go_sem] theorem boolOf_bool {b : Bool} : boolOf (.bool b) = some b := rfl
@[go_sem] theorem boolOf_undef : boolOf undef = none := rfl
def slotAt : List Oper → Nat → Option Tmp
  | [], _ => none
  | o :: _, 0 => o.dst
  | _ :: l, n + 1 => slotAt l n
theorem slotAt_eq : ∀ (l : List Oper) (j : Nat), (l[j]?).bind (·.dst) = slotAt l j
  | [], _ => by simp [slotAt]
  | _ :: _, 0 => by simp [slotAt]
  | _ :: l, n + 1 => by simp [slotAt, slotAt_eq l n]
def slotB [ρ : Kp Env] (d : Option Tmp) : Option Bool := match d with | some d => boolOf (ρ.f d) | none => none
@[go_sem ↓] theorem yieldX_list {l : List Oper} : yieldX l.toArray ρ j = @slotB ⟨ρ⟩ (slotAt l j) := by
  unfold yieldX slotB
  rw [List.getElem?_toArray, slotAt_eq]
  cases slotAt l j <;> rfl
@[go_sem ↓] theorem slotAt_zero {o : Oper} {l : List Oper} : slotAt (o :: l) 0 = o.dst := rfl
@[go_sem ↓] theorem slotAt_succ {o : Oper} {l : List Oper} : slotAt (o :: l) (j + 1) = slotAt l j := rfl
@[go_sem] theorem slotB_some : @slotB ⟨ρ⟩ (some d) = boolOf (ρ d) := rfl

@[go_sem ↓] theorem seqX_nil {C : Heap → Prop} : seqX P ops Q C [] ρ h = Q .normal ρ h := rfl
end

/-! ### Draws: number by number -/
def opAt : List Oper → Nat → Option Oper
  | [], _ => none
  | o :: _, 0 => some o
  | _ :: l, n + 1 => opAt l n
theorem opAt_eq : ∀ (l : List Oper) (j : Nat), l[j]? = opAt l j
  | [], _ => by simp [opAt]
  | _ :: _, 0 => by simp [opAt]
  | _ :: l, n + 1 => by simp [opAt, opAt_eq l n]
@[go_sem ↓] theorem opAt_zero {o : Oper} {l : List Oper} : opAt (o :: l) 0 = some o := rfl
@[go_sem ↓] theorem opAt_succ {o : Oper} {l : List Oper} {j : Nat} : opAt (o :: l) (j + 1) = opAt l j := rfl
class SqY where
  P : Program
  ops : Array Oper
  Q : Exit → Env → Heap → Prop
  C : Heap → Prop
  rest : List (Nat × Nat)
  ρ : Env
  h : Heap
def gZ (ops : Array Oper) (ρ : Env) (g : Option (Nat × Bool)) (A B : Prop) : Prop := gX ops ρ g A B
def seqY [s : SqY] (k : Nat) (o : Option Oper) : Prop := match o with
  | none => False
  | some o => gZ s.ops s.ρ o.guard (match k with
        | 0 => runO (pv s.P s.ρ o.op) fun v => seqX s.P s.ops s.Q s.C s.rest (puto s.ρ o.dst v) s.h
        | 1 => runO (lv s.P s.ρ o.op s.h) fun v => seqX s.P s.ops s.Q s.C s.rest (puto s.ρ o.dst v) s.h
        | 2 => ∃ v, (∀ h', s.C h' → lv s.P s.ρ o.op h' = some v) ∧ seqX s.P s.ops s.Q s.C s.rest (puto s.ρ o.dst v) s.h
        | 3 => stepX s.P s.ρ o.op s.h fun v h' => s.C h' ∧ seqX s.P s.ops s.Q s.C s.rest (puto s.ρ o.dst v) h'
        | 4 => s.rest = [] ∧ stepX s.P s.ρ o.op s.h fun v h' => s.Q .normal (puto s.ρ o.dst v) h'
        | _ => False) (seqX s.P s.ops s.Q s.C s.rest (puto s.ρ o.dst undef) s.h)
@[go_sem ↓] theorem seqX_cons {l : List Oper} {C : Heap → Prop} {i m : Nat} {rest : List (Nat × Nat)} :
    seqX P l.toArray Q C ((i, m) :: rest) ρ h = @seqY ⟨P, l.toArray, Q, C, rest, ρ, h⟩ m (opAt l i) := by
  rw [← opAt_eq]
  rw [← List.getElem?_toArray]
  rfl
section
variable {ops : Array Oper} {C : Heap → Prop} {rest : List (Nat × Nat)} {d : Nat} {op : Op} {ty : TypeId} {pos : String} {after : Array Edge} {g : Option (Nat × Bool)} {j : Nat} {want : Bool}
@[go_sem ↓] theorem gZ_none {A B : Prop} : gZ ops ρ none A B = A := rfl
@[go_sem ↓] theorem gZ_some {A B : Prop} : gZ ops ρ (some (j, want)) A B = @gY (yieldX ops ρ j) want ⟨A⟩ ⟨B⟩ := rfl
@[go_sem] theorem seqY_0 : @seqY ⟨P, ops, Q, C, rest, ρ, h⟩ 0 (some ⟨some d, op, ty, pos, after, g⟩) =
    gZ ops ρ g (@runK (pv P ρ op) ⟨fun v => seqX P ops Q C rest (put ρ d v) h⟩) (seqX P ops Q C rest (put ρ d undef) h) := rfl
@[go_sem] theorem seqY_1 : @seqY ⟨P, ops, Q, C, rest, ρ, h⟩ 1 (some ⟨some d, op, ty, pos, after, g⟩) =
    gZ ops ρ g (@runK (lv P ρ op h) ⟨fun v => seqX P ops Q C rest (put ρ d v) h⟩) (seqX P ops Q C rest (put ρ d undef) h) := rfl
theorem seqY_2 : @seqY ⟨P, ops, Q, C, rest, ρ, h⟩ 2 (some ⟨some d, op, ty, pos, after, g⟩) =
    gZ ops ρ g (∃ v, (∀ h', C h' → lv P ρ op h' = some v) ∧ seqX P ops Q C rest (put ρ d v) h) (seqX P ops Q C rest (put ρ d undef) h) := rfl
@[go_sem] theorem seqY_3 : @seqY ⟨P, ops, Q, C, rest, ρ, h⟩ 3 (some ⟨some d, op, ty, pos, after, g⟩) =
    gZ ops ρ g (stepX P ρ op h fun v h' => C h' ∧ seqX P ops Q C rest (put ρ d v) h') (seqX P ops Q C rest (put ρ d undef) h) := rfl
@[go_sem] theorem seqY_3n : @seqY ⟨P, ops, Q, C, rest, ρ, h⟩ 3 (some ⟨none, op, ty, pos, after, g⟩) =
    gZ ops ρ g (stepX P ρ op h fun _ h' => C h' ∧ seqX P ops Q C rest ρ h') (seqX P ops Q C rest ρ h) := rfl
@[go_sem] theorem seqY_4 : @seqY ⟨P, ops, Q, C, [], ρ, h⟩ 4 (some ⟨some d, op, ty, pos, after, g⟩) =
    gZ ops ρ g (stepX P ρ op h fun v h' => Q .normal (put ρ d v) h') (Q .normal (put ρ d undef) h) := by
  show gZ ops ρ g ([] = [] ∧ _) _ = _
  rw [eq_self, true_and]; rfl
@[go_sem] theorem seqY_4n : @seqY ⟨P, ops, Q, C, [], ρ, h⟩ 4 (some ⟨none, op, ty, pos, after, g⟩) =
    gZ ops ρ g (stepX P ρ op h fun _ h' => Q .normal ρ h') (Q .normal ρ h) := by
  show gZ ops ρ g ([] = [] ∧ _) _ = _
  rw [eq_self, true_and]; rfl
/-- where the class is one heap alone, a floating load is a load -/
@[go_sem] theorem seqY_2e {h0 : Heap} : @seqY ⟨P, ops, Q, Eq h0, rest, ρ, h⟩ 2 (some ⟨some d, op, ty, pos, after, g⟩) =
    gZ ops ρ g (@runK (lv P ρ op h0) ⟨fun v => seqX P ops Q (Eq h0) rest (put ρ d v) h⟩) (seqX P ops Q (Eq h0) rest (put ρ d undef) h) := by
  rw [seqY_2]
  congr 1
  apply propext
  constructor
  · rintro ⟨v, h1, h2⟩
    rw [h1 h0 rfl]; exact h2
  · intro h1
    obtain ⟨v, h2, h3⟩ := runO_elim h1
    exact ⟨v, fun h' e => by rw [← e]; exact h2, h3⟩
class AcY where
  P : Program
  ops : Array Oper
  K : Env → Heap → Prop
  ρ : Env
  h : Heap
def actY [s : AcY] (o : Option Oper) : Prop := match o with
  | none => False
  | some o => gZ s.ops s.ρ o.guard (stepX s.P s.ρ o.op s.h fun v h' => s.K (puto s.ρ o.dst v) h') (s.K (puto s.ρ o.dst undef) s.h)
@[go_sem ↓] theorem actX_list {l : List Oper} {i : Nat} {K : Env → Heap → Prop} : actX P l.toArray i K ρ h = @actY ⟨P, l.toArray, K, ρ, h⟩ (opAt l i) := by
  rw [← opAt_eq]
  rw [← List.getElem?_toArray]
  rfl
@[go_sem] theorem actY_some {K : Env → Heap → Prop} : @actY ⟨P, ops, K, ρ, h⟩ (some ⟨some d, op, ty, pos, after, g⟩) = gZ ops ρ g (stepX P ρ op h fun v h' => K (put ρ d v) h') (K (put ρ d undef) h) := rfl

@[go_sem ↓] theorem trX_fin {sc : List (Nat × Nat)} : trX P ops Q (.fin sc) ρ h = seqX P ops Q (fun _ => True) sc ρ h := rfl
@[go_sem ↓] theorem trX_br2 {sc : List (Nat × Nat)} {i j : Nat} {x y : Tr} : trX P ops Q (.br2 sc i x j y) ρ h =
    seqX P ops (fun _ ρ h => actX P ops i (trX P ops Q x) ρ h ∧ actX P ops j (trX P ops Q y) ρ h) (fun _ => True) sc ρ h := rfl

end

/-! ### Slots -/
def selK (b : Bool) [x : Kp Value] [y : Kp Value] : Value := if b then x.f else y.f
@[go_sem] theorem selK_t {x y : Value} : @selK true ⟨x⟩ ⟨y⟩ = x := rfl
@[go_sem] theorem selK_f {x y : Value} : @selK false ⟨x⟩ ⟨y⟩ = y := rfl
@[go_sem ↓] theorem put_at {d t : Nat} {v : Value} : put ρ d v t = @selK (t == d) ⟨v⟩ ⟨ρ t⟩ := by
  unfold put selK
  by_cases e : t = d <;> simp [e]

@[go_sem ↓] theorem ev_tmp {t : Nat} : ev ρ (.tmp t) = ρ t := rfl
@[go_sem ↓] theorem ev_const {v : Value} : ev ρ (.const v) = v := rfl
@[go_sem ↓] theorem ev_func {f : Nat} : ev ρ (.func f) = .func (.func f) #[] #[] := rfl
@[go_sem ↓] theorem argE_zero {v : Value} {l : List Value} : argE (v :: l) 0 = v := rfl
@[go_sem ↓] theorem argE_succ {v : Value} {l : List Value} {m : Nat} : argE (v :: l) (m + 1) = argE l m := rfl

/-! ### Operations -/
section
variable {x y z : Operand} {t s m : Nat}
@[go_sem ↓] theorem stepX_move : stepX P ρ (.move x) h k = @runK (some (ev ρ x)) ⟨fun v => k v h⟩ := rfl
@[go_sem ↓] theorem stepX_assign : stepX P ρ (.assign x) h k = @runK (some (ev ρ x)) ⟨fun v => k v h⟩ := rfl
@[go_sem ↓] theorem stepX_pick : stepX P ρ (.pick x y z) h k = @runK (pickV (ev ρ x) (ev ρ y) (ev ρ z)) ⟨fun v => k v h⟩ := rfl
@[go_sem ↓] theorem stepX_nilCheck : stepX P ρ (.nilCheck x) h k = @runK (nilV (ev ρ x)) ⟨fun v => k v h⟩ := rfl
@[go_sem ↓] theorem stepX_binOp {op : BinOp} : stepX P ρ (.binOp op t x y s) h k = @runK (binP P op t ρ (ev ρ x) y) ⟨fun v => k v h⟩ := rfl
@[go_sem ↓] theorem stepX_unOp {op : UnOp} : stepX P ρ (.unOp op t x) h k = @runK (unV op (ev ρ x)) ⟨fun v => k v h⟩ := rfl
@[go_sem ↓] theorem stepX_convert : stepX P ρ (.convert s t x) h k = @convK P (P.underlying s) (P.underlying t) (ev ρ x) ⟨h⟩ ⟨k⟩ := rfl

@[go_sem ↓] theorem stepX_makeFunc {fn : Fn} {first captured : Array Operand} : stepX P ρ (.makeFunc fn first captured) h k = @runK (some (.func fn (first.map (ev ρ)) (captured.map (ev ρ)))) ⟨fun v => k v h⟩ := rfl
@[go_sem ↓] theorem stepX_fieldAddr {f : Nat} : stepX P ρ (.fieldAddr s x f) h k = @runK (fieldV (offOf P s f) (ev ρ x)) ⟨fun v => k v h⟩ := rfl

@[go_sem ↓] theorem stepX_indexAddr : stepX P ρ (.indexAddr t x y) h k = @runK (idxV (elOf P t) (ev ρ x) (ev ρ y)) ⟨fun v => k v h⟩ := rfl
@[go_sem ↓] theorem stepX_extract {i : Nat} : stepX P ρ (.extract x i) h k = @runK (extractV (ev ρ x) i) ⟨fun v => k v h⟩ := rfl
@[go_sem ↓] theorem stepX_index : stepX P ρ (.index t x y) h k = @runK (idxS (ixOf P t) (strT P t) (ev ρ x) (ev ρ y)) ⟨fun v => k v h⟩ := rfl

@[go_sem] theorem idxS_some {q : Nat × Nat × Option Nat} {b : Bool} {v i : Value} : idxS (some q) b v i = indexV (some q) v i := rfl
@[go_sem] theorem idxS_str {v i : Value} : idxS none true v i = strIx v i := rfl
@[go_sem ↓] theorem stepX_slice {lo hi : Option Operand} : stepX P ρ (.slice t x lo hi none) h k = @runK (sliceQ (elOf P t) (strT P t) (ev ρ x) (lo.map (ev ρ)) (hi.map (ev ρ))) ⟨fun v => k v h⟩ := rfl

@[go_sem ↓] theorem stepX_lookup {ok : Bool} : stepX P ρ (.lookup t x y ok) h k = @runK (lookQ P t (ev ρ x) (ev ρ y) ok h) ⟨fun v => k v h⟩ := rfl
@[go_sem ↓] theorem stepX_mapUp : stepX P ρ (.mapUpdate t x y z) h k = @mapUpK P t (ev ρ x) (ev ρ y) (ev ρ z) ⟨h⟩ ⟨k undef⟩ := rfl
@[go_sem ↓] theorem stepX_makeMap : stepX P ρ (.makeMap t none) h k = @makeMapK ⟨h⟩ ⟨k⟩ := rfl

@[go_sem ↓] theorem lv_convert : lv P ρ (.convert s t x) h = b2sD P (P.underlying s) (P.underlying t) (ev ρ x) h := rfl
@[go_sem ↓] theorem stepX_insert : stepX P ρ (.insert t x y z) h k = @mapUpK P t (ev ρ x) (ev ρ y) (ev ρ z) ⟨h⟩ ⟨k undef⟩ := rfl

@[go_sem ↓] theorem stepX_load : stepX P ρ (.load t x) h k = @runK (loadV (aggOf P t) (ev ρ x) h) ⟨fun v => k v h⟩ := rfl
@[go_sem ↓] theorem stepX_store : stepX P ρ (.store t x y) h k = @storeK (szOf P t) (ev ρ x) (ev ρ y) ⟨h⟩ ⟨k undef⟩ := rfl
@[go_sem ↓] theorem stepX_alloc : stepX P ρ (.alloc t) h k = @allocK (zeroOf P t) t ⟨h⟩ ⟨k⟩ := rfl
@[go_sem ↓] theorem stepX_box : stepX P ρ (.box t x) h k = @newK (ev ρ x).cells t ⟨h⟩ ⟨k⟩ := rfl
def evp (ρ : Env) : List (Nat × Operand) → List (Nat × Value)
  | [] => []
  | (i, x) :: l => (i, ev ρ x) :: evp ρ l
theorem evp_eq : ∀ l : List (Nat × Operand), l.map (fun p => (p.1, ev ρ p.2)) = evp ρ l
  | [] => rfl
  | (i, x) :: l => by simp [evp, evp_eq l]
def evs (ρ : Env) : List Operand → List Value
  | [] => []
  | x :: l => ev ρ x :: evs ρ l
theorem evs_eq : ∀ l : List Operand, l.map (ev ρ) = evs ρ l
  | [] => rfl
  | x :: l => by simp [evs, evs_eq l]
@[go_sem] theorem evp_nil : evp ρ [] = [] := rfl
@[go_sem] theorem evp_cons {i : Nat} {l : List (Nat × Operand)} : evp ρ ((i, x) :: l) = (i, ev ρ x) :: evp ρ l := rfl
@[go_sem] theorem evs_nil : evs ρ [] = [] := rfl
@[go_sem] theorem evs_cons {l : List Operand} : evs ρ (x :: l) = ev ρ x :: evs ρ l := rfl
@[go_sem ↓] theorem stepX_buildSlice {ps : List (Nat × Operand)} : stepX P ρ (.buildSlice t m ps.toArray) h k = @buildSliceK (elemOfS P t) m (evp ρ ps) ⟨h⟩ ⟨k⟩ := by
  rw [← evp_eq]; rfl
@[go_sem ↓] theorem stepX_build {ps : List (Nat × Operand)} : stepX P ρ (.build t ps.toArray) h k = @runK ((P.built t (evp ρ ps)).map .agg) ⟨fun v => k v h⟩ := by
  rw [← evp_eq]; rfl
@[go_sem ↓] theorem pv_build {ps : List (Nat × Operand)} : pv P ρ (.build t ps.toArray) = (P.built t (evp ρ ps)).map .agg := by
  rw [← evp_eq]; rfl

@[go_sem ↓] theorem stepX_call {f : Operand} {l : List Operand} {ts : Array TypeId} : stepX P ρ (.call ⟨.value f, l.toArray, ts⟩) h k = @invokeK P (ev ρ f) (evs ρ l) ⟨h⟩ ⟨k⟩ := by
  rw [← evs_eq]; rfl
@[go_sem ↓] theorem stepX_built {b : Builtin} {l : List Operand} {ts : List TypeId} : stepX P ρ (.call ⟨.builtin b, l.toArray, ts.toArray⟩) h k = @builtK P b ts (evs ρ l) ⟨h⟩ ⟨k⟩ := by
  rw [← evs_eq]; rfl
@[go_sem ↓] theorem pv_move : pv P ρ (.move x) = some (ev ρ x) := rfl
@[go_sem ↓] theorem pv_assign : pv P ρ (.assign x) = some (ev ρ x) := rfl
@[go_sem ↓] theorem pv_pick : pv P ρ (.pick x y z) = pickV (ev ρ x) (ev ρ y) (ev ρ z) := rfl
@[go_sem ↓] theorem pv_nilCheck : pv P ρ (.nilCheck x) = nilV (ev ρ x) := rfl
@[go_sem ↓] theorem pv_binOp {op : BinOp} : pv P ρ (.binOp op t x y s) = binP P op t ρ (ev ρ x) y := rfl
@[go_sem ↓] theorem pv_unOp {op : UnOp} : pv P ρ (.unOp op t x) = unV op (ev ρ x) := rfl
@[go_sem ↓] theorem pv_convert : pv P ρ (.convert s t x) = convV (P.underlying s) (P.underlying t) (ev ρ x) := rfl

@[go_sem ↓] theorem pv_fieldAddr {f : Nat} : pv P ρ (.fieldAddr s x f) = fieldV (offOf P s f) (ev ρ x) := rfl

@[go_sem ↓] theorem pv_indexAddr : pv P ρ (.indexAddr t x y) = idxV (elOf P t) (ev ρ x) (ev ρ y) := rfl
@[go_sem ↓] theorem pv_extract {i : Nat} : pv P ρ (.extract x i) = extractV (ev ρ x) i := rfl
@[go_sem ↓] theorem pv_slice {lo hi : Option Operand} : pv P ρ (.slice t x lo hi none) = sliceQ (elOf P t) (strT P t) (ev ρ x) (lo.map (ev ρ)) (hi.map (ev ρ)) := rfl
@[go_sem ↓] theorem pv_built {b : Builtin} {l : List Operand} {ts : List TypeId} : pv P ρ (.call ⟨.builtin b, l.toArray, ts.toArray⟩) = builtV P b ts (evs ρ l) := by
  rw [← evs_eq]; rfl
@[go_sem ↓] theorem lv_load : lv P ρ (.load t x) h = loadV (aggOf P t) (ev ρ x) h := rfl
end

/-! ### Strings, interfaces, conversions -/
section
variable {P : Program} {op : BinOp} {t e d : Nat} {u v : Value} {ρ : Env} {h : Heap} {k : Value → Heap → Prop} {q : Nat × Option Nat} {a b l : List UInt8}
@[go_sem] theorem binP_tmp {m : Nat} : binP P op t ρ u (.tmp m) = cmpV P op t u (ρ m) := rfl
@[go_sem] theorem binP_int {kd : IntKind} {n : Int} : binP P op t ρ u (.const (.int kd n)) = cmpV P op t u (.int kd n) := rfl

@[go_sem] theorem binP_S : binP P op t ρ u (.const (S l)) = cmpV P op t u (S l) := rfl
@[go_sem] theorem binP_slice {n : Option Addr} {i j : Nat} : binP P op t ρ u (.const (.slice n i j)) = cmpV P op t u (.slice n i j) := rfl
@[go_sem] theorem binP_ptr {n : Option Addr} : binP P op t ρ u (.const (.pointer n)) = cmpV P op t u (.pointer n) := rfl

@[go_sem] theorem binP_nil : binP P op t ρ u (.const .nilIface) = nilI op (P.underlying t) u := rfl

@[go_sem] theorem nilI_nn {m : Array (String × TypeId)} : nilI .neq (some (.interface m)) .nilIface = some (.bool false) := rfl

@[go_sem] theorem nilI_ni {m : Array (String × TypeId)} {i : Nat} : nilI .neq (some (.interface m)) (.iface i v) = some (.bool true) := rfl
@[go_sem] theorem sliceQ_some {x : Value} {lo hi : Option Value} {c : Bool} : sliceQ (some q) c x lo hi = sliceV (some q) x lo hi := rfl

@[go_sem] theorem lookQ_S {m : Value} {ok : Bool} : lookQ P t m (S l) ok h = lookSV P t m ⟨l.toArray⟩ ok h := rfl
@[go_sem] theorem convK_int {ds : TypeDesc} {kd : IntKind} : @convK P (some ds) (some (.int kd)) v ⟨h⟩ ⟨k⟩ = @runK (convV (some ds) (some (.int kd)) v) ⟨fun v => k v h⟩ := by
  unfold convK convX
  split
  · rename_i e _; simp at *
  · rename_i e; simp at *
  · rfl
@[go_sem] theorem convK_float {ds : TypeDesc} {kd : FloatKind} : @convK P (some ds) (some (.float kd)) v ⟨h⟩ ⟨k⟩ = @runK (convV (some ds) (some (.float kd)) v) ⟨fun v => k v h⟩ := by
  unfold convK convX
  split
  · rename_i e _; simp at *
  · rename_i e; simp at *
  · rfl

def b2sB (b : Bool) (v : Value) (h : Heap) : Option Value := if b = true then b2s v h else none
@[go_sem] theorem b2sB_t : b2sB true v h = b2s v h := rfl
@[go_sem] theorem convK_bs : @convK P (some (.slice e)) (some .string) v ⟨h⟩ ⟨k⟩ = @runK (b2sB (byteT P e) v h) ⟨fun v => k v h⟩ := rfl
@[go_sem] theorem b2sD_eq : b2sD P (some (.slice e)) (some .string) v h = b2sB (byteT P e) v h := rfl
@[go_sem] theorem convK_sb : @convK P (some .string) (some (.slice e)) (S l) ⟨h⟩ ⟨k⟩ = @guardK (byteT P e) ⟨@s2bK e l ⟨h⟩ ⟨k⟩⟩ := rfl
@[go_sem] theorem S_of {l : List UInt8} : Value.string ⟨l.toArray⟩ = S l := rfl

@[go_sem] theorem cmpV_sadd (hl : a.length + b.length ≤ 9223372036854775807) : cmpV P .add t (S a) (S b) = some (S (a ++ b)) := by
  show strV .add a b = _
  exact if_pos hl
@[go_sem] theorem cmpV_seq : cmpV P .eql t (S a) (S b) = some (.bool (decide (a = b))) := rfl
@[go_sem] theorem cmpV_sne : cmpV P .neq t (S a) (S b) = some (.bool (decide (a ≠ b))) := rfl

@[go_sem] theorem lenV_S : lenV (some .string) (S a) = some (.int .i64 a.length) := rfl
theorem strIx_S {kd : IntKind} {i : Nat} (hi : i < a.length) : strIx (S a) (.int kd (i : Int)) = some (byteV a[i]) := by
  have h0 : (0 : Int) ≤ (i : Int) := Int.natCast_nonneg i
  show (if (0 : Int) ≤ (i : Int) then ((⟨a.toArray⟩ : ByteArray)[((i : Int)).toNat]?).map (fun b => Value.int .u8 b.toNat) else none) = _
  rw [if_pos h0]
  have : (⟨a.toArray⟩ : ByteArray)[((i : Int)).toNat]? = some a[i] := by
    show (⟨a.toArray⟩ : ByteArray)[i]? = some a[i]
    have hs : i < (⟨a.toArray⟩ : ByteArray).size := hi
    rw [getElem?_pos (⟨a.toArray⟩ : ByteArray) i hs]
    rfl
  rw [this]; rfl

end

/-! ### Values -/
section
variable {a b : Int} {i j : Nat} {v w : Value} {p q : Bool} {ad : Addr} {kd : IntKind} {A B : Option Addr} {len cap off : Nat}
@[go_sem] theorem runK_some {c : Value → Prop} : @runK (some v) ⟨c⟩ = c v := rfl
@[go_sem] theorem pickV_t : pickV (.bool true) v w = some v := rfl
@[go_sem] theorem pickV_f : pickV (.bool false) v w = some w := rfl
@[go_sem] theorem pickV_b : pickV (.bool p) (.bool q) (.bool false) = some (.bool (p && q)) := by cases p <;> rfl
@[go_sem] theorem pickV_o : pickV (.bool p) (.bool true) (.bool q) = some (.bool (p || q)) := by cases p <;> rfl
@[go_sem] theorem nilV_p : nilV (.pointer (some ad)) = some (.pointer (some ad)) := rfl
theorem addA : (⟨i, off, none⟩ : Addr).add j = ⟨i, off + j, none⟩ := by
  unfold Addr.add; split
  · rename_i h; subst h; rfl
  · rfl
@[go_sem] theorem fieldV_p : fieldV (some j) (.pointer (some ⟨i, off, none⟩)) = some (.pointer (some ⟨i, off + j, none⟩)) := by simp [fieldV, addA]
@[go_sem] theorem idxV_s {A : Nat} (h0 : 0 ≤ a) (h1 : a < len) : idxV (some (j, none)) (.slice (some ⟨A, off, none⟩) len cap) (.int kd a) = some (.pointer (some ⟨A, off + a.toNat * j, none⟩)) := by
  simp [idxV, h0, h1, addA]
@[go_sem] theorem idxV_a {A : Nat} (h0 : 0 ≤ a) (h1 : a < len) : idxV (some (j, some len)) (.pointer (some ⟨A, off, none⟩)) (.int kd a) = some (.pointer (some ⟨A, off + a.toNat * j, none⟩)) := by
  simp [idxV, h0, h1, addA]
@[go_sem] theorem loadV_1 : loadV (some none) (.pointer (some ad)) h = hcell h ad := rfl
theorem add_n {b o i : Nat} : Addr.add ⟨b, o, none⟩ i = ⟨b, o + i, none⟩ := by
  unfold Addr.add
  by_cases h : i = 0
  · simp [h]
  · simp [h]
def load2 : Option Value → Option Value → Option Value
  | some x, some y => some (.agg #[x, y])
  | _, _ => none
def load3 : Option Value → Option Value → Option Value → Option Value
  | some x, some y, some z => some (.agg #[x, y, z])
  | _, _, _ => none

section
variable {b o : Nat} {x y z u : Value}
@[go_sem] theorem loadV_2 : loadV (some (some 2)) (.pointer (some ⟨b, o, none⟩)) h = load2 (hcell h ⟨b, o, none⟩) (hcell h ⟨b, o + 1, none⟩) := by
  simp only [loadV, loadN, add_n, Nat.add_zero, load2]
  cases hcell h ⟨b, o, none⟩ <;> cases hcell h ⟨b, o + 1, none⟩ <;> rfl
@[go_sem] theorem loadV_3 : loadV (some (some 3)) (.pointer (some ⟨b, o, none⟩)) h = load3 (hcell h ⟨b, o, none⟩) (hcell h ⟨b, o + 1, none⟩) (hcell h ⟨b, o + 2, none⟩) := by
  simp only [loadV, loadN, add_n, Nat.add_zero, load3]
  cases hcell h ⟨b, o, none⟩ <;> cases hcell h ⟨b, o + 1, none⟩ <;> cases hcell h ⟨b, o + 2, none⟩ <;> rfl
def load5 : Option Value → Option Value → Option Value → Option Value → Option Value → Option Value
  | some a0, some a1, some a2, some a3, some a4 => some (.agg #[a0, a1, a2, a3, a4])
  | _, _, _, _, _ => none
@[go_sem] theorem load5_some {a0 a1 a2 a3 a4 : Value} : load5 (some a0) (some a1) (some a2) (some a3) (some a4) = some (.agg #[a0, a1, a2, a3, a4]) := rfl
@[go_sem] theorem loadV_5 : loadV (some (some 5)) (.pointer (some ⟨b, o, none⟩)) h = load5 (hcell h ⟨b, o, none⟩) (hcell h ⟨b, o + 1, none⟩) (hcell h ⟨b, o + 2, none⟩) (hcell h ⟨b, o + 3, none⟩) (hcell h ⟨b, o + 4, none⟩) := by
  simp only [loadV, loadN, add_n, Nat.add_zero, load5]
  cases hcell h ⟨b, o, none⟩ <;> cases hcell h ⟨b, o + 1, none⟩ <;> cases hcell h ⟨b, o + 2, none⟩ <;> cases hcell h ⟨b, o + 3, none⟩ <;> cases hcell h ⟨b, o + 4, none⟩ <;> rfl
def load6 : Option Value → Option Value → Option Value → Option Value → Option Value → Option Value → Option Value
  | some a0, some a1, some a2, some a3, some a4, some a5 => some (.agg #[a0, a1, a2, a3, a4, a5])
  | _, _, _, _, _, _ => none
@[go_sem] theorem load6_some {a0 a1 a2 a3 a4 a5 : Value} : load6 (some a0) (some a1) (some a2) (some a3) (some a4) (some a5) = some (.agg #[a0, a1, a2, a3, a4, a5]) := rfl
@[go_sem] theorem loadV_6 : loadV (some (some 6)) (.pointer (some ⟨b, o, none⟩)) h = load6 (hcell h ⟨b, o, none⟩) (hcell h ⟨b, o + 1, none⟩) (hcell h ⟨b, o + 2, none⟩) (hcell h ⟨b, o + 3, none⟩) (hcell h ⟨b, o + 4, none⟩) (hcell h ⟨b, o + 5, none⟩) := by
  simp only [loadV, loadN, add_n, Nat.add_zero, load6]
  cases hcell h ⟨b, o, none⟩ <;> cases hcell h ⟨b, o + 1, none⟩ <;> cases hcell h ⟨b, o + 2, none⟩ <;> cases hcell h ⟨b, o + 3, none⟩ <;> cases hcell h ⟨b, o + 4, none⟩ <;> cases hcell h ⟨b, o + 5, none⟩ <;> rfl
def load10 : Option Value → Option Value → Option Value → Option Value → Option Value → Option Value → Option Value → Option Value → Option Value → Option Value → Option Value
  | some a0, some a1, some a2, some a3, some a4, some a5, some a6, some a7, some a8, some a9 => some (.agg #[a0, a1, a2, a3, a4, a5, a6, a7, a8, a9])
  | _, _, _, _, _, _, _, _, _, _ => none
@[go_sem] theorem load10_some {a0 a1 a2 a3 a4 a5 a6 a7 a8 a9 : Value} : load10 (some a0) (some a1) (some a2) (some a3) (some a4) (some a5) (some a6) (some a7) (some a8) (some a9) = some (.agg #[a0, a1, a2, a3, a4, a5, a6, a7, a8, a9]) := rfl
@[go_sem] theorem loadV_10 : loadV (some (some 10)) (.pointer (some ⟨b, o, none⟩)) h = load10 (hcell h ⟨b, o, none⟩) (hcell h ⟨b, o + 1, none⟩) (hcell h ⟨b, o + 2, none⟩) (hcell h ⟨b, o + 3, none⟩) (hcell h ⟨b, o + 4, none⟩) (hcell h ⟨b, o + 5, none⟩) (hcell h ⟨b, o + 6, none⟩) (hcell h ⟨b, o + 7, none⟩) (hcell h ⟨b, o + 8, none⟩) (hcell h ⟨b, o + 9, none⟩) := by
  simp only [loadV, loadN, add_n, Nat.add_zero, load10]
  cases hcell h ⟨b, o, none⟩ <;> cases hcell h ⟨b, o + 1, none⟩ <;> cases hcell h ⟨b, o + 2, none⟩ <;> cases hcell h ⟨b, o + 3, none⟩ <;> cases hcell h ⟨b, o + 4, none⟩ <;> cases hcell h ⟨b, o + 5, none⟩ <;> cases hcell h ⟨b, o + 6, none⟩ <;> cases hcell h ⟨b, o + 7, none⟩ <;> cases hcell h ⟨b, o + 8, none⟩ <;> cases hcell h ⟨b, o + 9, none⟩ <;> rfl

@[go_sem] theorem load2_s : load2 (some x) (some y) = some (.agg #[x, y]) := rfl
@[go_sem] theorem load3_s : load3 (some x) (some y) (some z) = some (.agg #[x, y, z]) := rfl

end
@[go_sem] theorem unV_not : unV .not (.bool p) = some (.bool !p) := rfl
@[go_sem] theorem unV_neg : unV .neg (.int .i64 a) = some (.int .i64 (IntKind.i64.wrap (0 - a))) := rfl
@[go_sem] theorem cmpV_add {t : Nat} : cmpV P .add t (.int kd a) (.int kd b) = some (.int kd (kd.wrap (a + b))) := by simp [cmpV, binV]
@[go_sem] theorem cmpV_sub {t : Nat} : cmpV P .sub t (.int kd a) (.int kd b) = some (.int kd (kd.wrap (a - b))) := by simp [cmpV, binV]
@[go_sem] theorem cmpV_mul {t : Nat} : cmpV P .mul t (.int kd a) (.int kd b) = some (.int kd (kd.wrap (a * b))) := by simp [cmpV, binV]
@[go_sem] theorem cmpV_quo {t : Nat} (hb : b ≠ 0) : cmpV P .quo t (.int kd a) (.int kd b) = some (.int kd (kd.wrap (a.tdiv b))) := by simp [cmpV, binV, hb]
@[go_sem] theorem cmpV_rem {t : Nat} (hb : b ≠ 0) : cmpV P .rem t (.int kd a) (.int kd b) = some (.int kd (a.tmod b)) := by simp [cmpV, binV, hb]
@[go_sem] theorem cmpV_eql {t : Nat} : cmpV P .eql t (.int kd a) (.int kd b) = some (.bool (decide (a = b))) := by
  simp [cmpV, binV]; rfl
@[go_sem] theorem cmpV_neq {t : Nat} : cmpV P .neq t (.int kd a) (.int kd b) = some (.bool (decide (a ≠ b))) := by
  simp [cmpV, binV]
  by_cases e : a = b <;> simp [e]
@[go_sem] theorem cmpV_lss {t : Nat} : cmpV P .lss t (.int kd a) (.int kd b) = some (.bool (decide (a < b))) := by simp [cmpV, binV]
@[go_sem] theorem cmpV_leq {t : Nat} : cmpV P .leq t (.int kd a) (.int kd b) = some (.bool (decide (a ≤ b))) := by simp [cmpV, binV]
@[go_sem] theorem cmpV_gtr {t : Nat} : cmpV P .gtr t (.int kd a) (.int kd b) = some (.bool (decide (b < a))) := by simp [cmpV, binV]
@[go_sem] theorem cmpV_geq {t : Nat} : cmpV P .geq t (.int kd a) (.int kd b) = some (.bool (decide (b ≤ a))) := by simp [cmpV, binV]
@[go_sem] theorem convV_ii {s : TypeDesc} {kd' : IntKind} : convV (some s) (some (.int kd)) (.int kd' a) = some (.int kd (kd.wrap a)) := rfl
@[go_sem] theorem convV_if {s : TypeDesc} {kd' : IntKind} : convV (some s) (some (.float .f64)) (.int kd' a) = some (.float .f64 (Fx.enc a)) := rfl

@[go_sem] theorem lenV_s {e : TypeId} : lenV (some (.slice e)) (.slice A len cap) = some (.int .i64 len) := rfl
@[go_sem ↓] theorem builtX_len {t : Nat} : @builtK P .len [t] [v] ⟨h⟩ ⟨k⟩ = @runK (lenV (P.underlying t) v) ⟨fun v => k v h⟩ := rfl
@[go_sem] theorem builtV_len {t : Nat} : builtV P .len [t] [v] = lenV (P.underlying t) v := rfl

@[go_sem] theorem builtX_imag {t : Nat} {f : FloatKind} {re im : Nat} : @builtK P .imag [t] [.complex f re im] ⟨h⟩ ⟨k⟩ = k (.float f im) h := rfl

@[go_sem] theorem builtV_complex {t u : Nat} {f : FloatKind} {re im : Nat} : builtV P .complex [t, u] [.float f re, .float f im] = some (.complex f re im) := by simp [builtV]
@[go_sem] theorem builtX_max {t u : Nat} : @builtK P .max [t, u] [.int kd a, .int kd b] ⟨h⟩ ⟨k⟩ = k (.int kd (max a b)) h := by
  have : (if b > a then b else a) = max a b := by omega
  simp [builtK, builtX, builtV, runO, maxV, this]
@[go_sem] theorem builtX_max3 {t u v : Nat} {c : Int} : @builtK P .max [t, u, v] [.int kd a, .int kd b, .int kd c] ⟨h⟩ ⟨k⟩ = k (.int kd (max (max a b) c)) h := by
  have e1 : (if b > a then b else a) = max a b := by omega
  have e2 : (if c > max a b then c else max a b) = max (max a b) c := by omega
  simp [builtK, builtX, builtV, runO, maxV, e1, e2]

@[go_sem] theorem builtV_max {t u : Nat} : builtV P .max [t, u] [.int kd a, .int kd b] = some (.int kd (max a b)) := by
  have : (if b > a then b else a) = max a b := by omega
  simp [builtV, maxV, this]

@[go_sem] theorem builtX_append {t u : Nat} : @builtK P .append [t, u] [v, w] ⟨h⟩ ⟨k⟩ = @appSelK (P.underlying u) ⟨@appendK (elemOfS P t) v w ⟨h⟩ ⟨k⟩⟩ ⟨@appendZK (elemOfS P t) v w ⟨h⟩ ⟨k⟩⟩ := rfl
@[go_sem] theorem appSelK_slice {e : TypeId} {A B : Prop} : @appSelK (some (.slice e)) ⟨A⟩ ⟨B⟩ = A := rfl

@[go_sem] theorem builtX_clear {t : Nat} : @builtK P .clear [t] [v] ⟨h⟩ ⟨k⟩ = @clearK P t v ⟨h⟩ ⟨fun h' => k (.tuple #[]) h'⟩ := rfl
@[go_sem] theorem slice_arr {m len : Nat} {a : Addr} {kd : IntKind} {j : Int} (h0 : 0 ≤ j) (h1 : j ≤ len) : sliceV (some (m, some len)) (.pointer (some a)) none (some (.int kd j)) = some (.slice (some a) j.toNat len) := by
  have g : (0 ≤ j ∧ j ≤ len) := ⟨h0, h1⟩
  have e : a.add 0 = a := by unfold Addr.add; simp
  simp only [sliceV, boundV, if_pos g, Option.bind_some, Option.map_some, Nat.zero_mul, Nat.sub_zero, e, ite_self]

@[go_sem] theorem invokeX_c {f : Nat} {vs cs : List Value} : @invokeK P (.func (.func f) #[] cs.toArray) vs ⟨h⟩ ⟨k⟩ = @CallsK P f (vs ++ cs) ⟨h⟩ ⟨k⟩ := by simp [invokeK, CallsK, invokeX]
@[go_sem] theorem extractV_0 {l : List Value} : extractV (.tuple (v :: l).toArray) 0 = some v := by simp [extractV]
@[go_sem] theorem extractV_1 {u : Value} {l : List Value} : extractV (.tuple (u :: v :: l).toArray) 1 = some v := by simp [extractV]
@[go_sem] theorem extractV_2 {u u' : Value} {l : List Value} : extractV (.tuple (u :: u' :: v :: l).toArray) 2 = some v := by simp [extractV]
@[go_sem] theorem indexV_1 {cs : List Value} {q : Nat} (h0 : 0 ≤ a) (h1 : a < q) : indexV (some (q, 1, none)) (.agg cs.toArray) (.int kd a) = cs[a.toNat]? := by simp [indexV, h0, h1, partV]
/- pointers and slices against nil -/
def eqM (d : Option TypeDesc) (x y : Value) : Option Value := (eqlV d x y).map .bool
def neM (d : Option TypeDesc) (x y : Value) : Option Value := (eqlV d x y).map fun b => .bool !b
section
variable {t e u l c l' c' : Nat} {y : Value}
@[go_sem] theorem cmpV_ptr_e : cmpV P .eql t (.pointer B) y = eqM (P.underlying t) (.pointer B) y := rfl

@[go_sem] theorem cmpV_slice_e : cmpV P .eql t (.slice B l c) y = eqM (P.underlying t) (.slice B l c) y := rfl

@[go_sem] theorem cmpV_bool_n : cmpV P .neq t (.bool p) y = neM (P.underlying t) (.bool p) y := rfl
@[go_sem] theorem eqM_ps : eqM (some (.pointer e)) (.pointer (some ad)) (.pointer none) = some (.bool false) := rfl

@[go_sem] theorem eqM_ss : eqM (some (.slice e)) (.slice (some ad) l c) (.slice none l' c') = some (.bool false) := rfl

@[go_sem] theorem eqM_sn : eqM (some (.slice e)) (.slice none l c) (.slice B l' c') = some (.bool B.isNone) := rfl

@[go_sem] theorem neM_b : neM (some .bool) (.bool p) (.bool q) = some (.bool (p != q)) := rfl
end
end

/-! ### Structs and arrays out of parts -/
def atL {α : Type} : List α → Nat → Option α
  | [], _ => none
  | x :: _, 0 => some x
  | _ :: l, n + 1 => atL l n
theorem atL_eq {α : Type} : ∀ (l : List α) (j : Nat), l[j]? = atL l j
  | [], _ => by simp [atL]
  | _ :: _, 0 => by simp [atL]
  | _ :: l, n + 1 => by simp [atL, atL_eq l n]
section
variable {α : Type} {x : α} {l : List α} {j : Nat}
@[go_sem ↓] theorem atL_zero : atL (x :: l) 0 = some x := rfl
@[go_sem ↓] theorem atL_succ : atL (x :: l) (j + 1) = atL l j := rfl

end
def setL : List Value → Nat → Value → Option (List Value)
  | [], _, _ => none
  | _ :: cs, 0, v => some (v :: cs)
  | c :: cs, n + 1, v => (setL cs n v).map (c :: ·)
theorem setL_eq : ∀ (cs : List Value) (n : Nat) (v : Value), setL cs n v = if n < cs.length then some (cs.set n v) else none
  | [], _, _ => by simp [setL]
  | c :: cs, 0, v => by simp [setL]
  | c :: cs, n + 1, v => by
    rw [setL, setL_eq cs n v]
    by_cases h : n < cs.length <;> simp [h]
def consO (c : Value) (o : Option (List Value)) : Option (List Value) := o.map (c :: ·)
def fillA (pl : List (Nat × Nat)) (cs : List Value) (ps : List (Nat × Value)) : Option (Array Value) := Instr.fill (fun i => pl.toArray[i]?) cs.toArray ps
def fillC (pl : List (Nat × Nat)) (cs : Option (List Value)) (ps : List (Nat × Value)) : Option (Array Value) := match cs with
  | some cs => fillA pl cs ps
  | none => none
def fill1 (pl : List (Nat × Nat)) (cs : List Value) (p : Option (Nat × Nat)) (v : Value) (rest : List (Nat × Value)) : Option (Array Value) := match p with
  | some (off, 1) => fillC pl (setL cs off v) rest
  | _ => none
theorem fillA_one {pl : List (Nat × Nat)} {cs : List Value} {i : Nat} {v : Value} {rest : List (Nat × Value)} (hv : v.cells = #[v]) : fillA pl cs ((i, v) :: rest) = fill1 pl cs (atL pl i) v rest := by
  unfold fillA fill1
  rw [← atL_eq]
  simp only [Instr.fill, hv, List.getElem?_toArray]
  cases hp : pl[i]? with
  | none => rfl
  | some p =>
    obtain ⟨off, size⟩ := p
    by_cases h1 : size = 1
    · subst h1
      simp only [setL_eq]
      by_cases h2 : off < cs.length
      · have : ¬ (off + 1 > cs.length) := by omega
        simp [h2, this, fillC, fillA]
      · have : off + 1 > cs.length := by omega
        simp [h2, this, fillC]
    · have h3 : ¬ 1 = size := fun e => h1 e.symm
      simp only [List.size_toArray, List.length_singleton, ne_eq, h3, not_false_eq_true, true_or, if_true]
      cases size with
      | zero => rfl
      | succ n => cases n with
        | zero => exact absurd rfl h1
        | succ n => rfl
section
variable {pl : List (Nat × Nat)} {cs : List Value} {c w : Value} {rest : List (Nat × Value)} {i j : Nat} {kd : IntKind} {fk : FloatKind} {a : Int} {b : Bool} {A : Option Addr} {len cap re im off : Nat} {mp : Option Nat}
@[go_sem ↓] theorem fillA_nil : fillA pl cs [] = some cs.toArray := rfl
@[go_sem ↓] theorem fillA_int : fillA pl cs ((i, .int kd a) :: rest) = fill1 pl cs (atL pl i) (.int kd a) rest := fillA_one rfl

@[go_sem ↓] theorem fillA_slice : fillA pl cs ((i, .slice A len cap) :: rest) = fill1 pl cs (atL pl i) (.slice A len cap) rest := fillA_one rfl

@[go_sem] theorem fill1_s : fill1 pl cs (some (off, 1)) w rest = fillC pl (setL cs off w) rest := rfl
@[go_sem] theorem fillC_s : fillC pl (some cs) rest = fillA pl cs rest := rfl
@[go_sem ↓] theorem setL_zero : setL (c :: cs) 0 w = some (w :: cs) := rfl
@[go_sem ↓] theorem setL_succ : setL (c :: cs) (j + 1) w = consO c (setL cs j w) := rfl
@[go_sem] theorem consO_s : consO c (some cs) = some (c :: cs) := rfl
end

/-! ### Tests that linear arithmetic decides -/
section
variable {a b : Int} {m n : Nat}
@[go_sem] theorem dec_lt_t [Decidable (a < b)] (h : a < b) : decide (a < b) = true := decide_eq_true h
@[go_sem] theorem dec_lt_f [Decidable (a < b)] (h : b ≤ a) : decide (a < b) = false := decide_eq_false (by omega)
@[go_sem] theorem dec_le_t [Decidable (a ≤ b)] (h : a ≤ b) : decide (a ≤ b) = true := decide_eq_true h
@[go_sem] theorem dec_le_f [Decidable (a ≤ b)] (h : b < a) : decide (a ≤ b) = false := decide_eq_false (by omega)
@[go_sem] theorem dec_eq_t [Decidable (a = b)] (h : a = b) : decide (a = b) = true := decide_eq_true h
@[go_sem] theorem dec_eq_f [Decidable (a = b)] (h : a ≠ b) : decide (a = b) = false := decide_eq_false h
@[go_sem] theorem dec_nlt_t [Decidable (m < n)] (h : m < n) : decide (m < n) = true := decide_eq_true h
@[go_sem] theorem dec_nlt_f [Decidable (m < n)] (h : n ≤ m) : decide (m < n) = false := decide_eq_false (by omega)
@[go_sem] theorem dec_nle_t [Decidable (m ≤ n)] (h : m ≤ n) : decide (m ≤ n) = true := decide_eq_true h
@[go_sem] theorem dec_nle_f [Decidable (m ≤ n)] (h : n < m) : decide (m ≤ n) = false := decide_eq_false (by omega)
@[go_sem] theorem dec_neq_t [Decidable (m = n)] (h : m = n) : decide (m = n) = true := decide_eq_true h
@[go_sem] theorem dec_neq_f [Decidable (m = n)] (h : m ≠ n) : decide (m = n) = false := decide_eq_false h
end

/-! ### Floats that are whole numbers -/
section
variable {a b c d : Int} {t u : Nat}
theorem ford (h1 : -9007199254740992 < a) (h2 : a < 9007199254740992) (h3 : -9007199254740992 < b) (h4 : b < 9007199254740992) :
    FloatKind.f64.format.order (Fx.enc a) (Fx.enc b) = some (compare a b) := Fx.order_enc ⟨h1, h2⟩ ⟨h3, h4⟩
theorem cmp_gt : (some (compare a b) == some Ordering.gt) = decide (b < a) := by
  rw [Bool.eq_iff_iff]; simp [Int.compare_eq_gt]

theorem cmp_eq : (some (compare a b) == some Ordering.eq) = decide (a = b) := by
  rw [Bool.eq_iff_iff]; simp

theorem enc_0 : Fx.enc 0 = 0 := by decide +kernel

@[go_sem] theorem cst_c0 : Value.complex .f64 0 0 = .complex .f64 (Fx.enc 0) (Fx.enc 0) := by rw [enc_0]

end

/-! ### The heap -/
section
variable {b o b' o' : Nat} {v : Value} {cs : Array Value} {e : TypeId} {fz : Nat × Nat} {X : Obj}
@[go_sem] theorem hset_size {ad : Addr} : (hset h ad v).size = h.size := by simp [hset]
@[go_sem] theorem push_size : (h.push X).size = h.size + 1 := Array.size_push ..
theorem hset_other {ad : Addr} (hb : b ≠ ad.block) : (hset h ad v)[b]? = h[b]? := by
  unfold hset
  rw [Array.getElem?_modify]
  rw [if_neg (Ne.symm hb)]
theorem hset_block (hx : h[b]? = some (.cells cs e fz)) : (hset h ⟨b, o, none⟩ v)[b]? = some (.cells (cs.setIfInBounds o v) e fz) := by
  unfold hset
  rw [Array.getElem?_modify, if_pos rfl, hx]
  rfl
@[go_sem ↓] theorem hcell_hset : hcell (hset h ⟨b, o, none⟩ v) ⟨b', o', none⟩ = if b' = b ∧ o' = o then (hcell h ⟨b, o, none⟩).map (fun _ => v) else hcell h ⟨b', o', none⟩ := by
  by_cases hb : b' = b
  · subst hb
    unfold hcell
    cases hx : h[b']? with
    | none =>
      have : (hset h ⟨b', o, none⟩ v)[b']? = none := by
        unfold hset; rw [Array.getElem?_modify, if_pos rfl, hx]; rfl
      simp [this]
    | some X =>
      cases X with
      | cells c e fz =>
        have := hset_block (o := o) (v := v) hx
        simp only [this, Option.isSome_none, Bool.false_eq_true, if_false]
        by_cases ho : o' = o
        · subst ho
          simp only [Array.getElem?_setIfInBounds, if_true, true_and]
          by_cases hl : o' < c.size
          · simp [hl]
          · simp [hl]
        · rw [if_neg (fun h => ho (by simpa using h)), Array.getElem?_setIfInBounds_ne (Ne.symm ho)]
      | _ =>
        have : (hset h ⟨b', o, none⟩ v)[b']? = h[b']? := by
          unfold hset; rw [Array.getElem?_modify, if_pos rfl, hx]; rfl
        simp only [this, hx]
        simp
  · rw [if_neg (fun h => hb h.1)]
    unfold hcell
    rw [hset_other (by exact hb)]
@[go_sem ↓] theorem hfrz_hset {ad : Addr} : hfrz (hset h ad v) ⟨b', o', none⟩ = hfrz h ⟨b', o', none⟩ := by
  by_cases hb : ad.block = b'
  · subst hb
    unfold hfrz hset
    simp only [Array.getElem?_modify, if_true]
    cases h[ad.block]? with
    | none => rfl
    | some X => cases X <;> rfl
  · have : (hset h ad v)[b']? = h[b']? := hset_other (Ne.symm hb)
    unfold hfrz
    rw [this]
theorem push_old (hb : b < h.size) : (h.push X)[b]? = h[b]? := by rw [Array.getElem?_push, if_neg (by omega)]

@[go_sem ↓ high] theorem hcell_push_lit {vs : List Value} : hcell (h.push (.cells vs.toArray e fz)) ⟨h.size, o, none⟩ = atL vs o := by rw [← atL_eq]; simp [hcell]
@[go_sem ↓] theorem hcell_push_new : hcell (h.push (.cells cs e fz)) ⟨h.size, o, none⟩ = cs[o]? := by simp [hcell]
@[go_sem ↓] theorem hcell_push_at {vs : List Value} (hb : b = h.size) : hcell (h.push (.cells vs.toArray e fz)) ⟨b, o, none⟩ = atL vs o := by subst hb; exact hcell_push_lit
@[go_sem ↓] theorem hfrz_push_at (hb : b = h.size) : hfrz (h.push (.cells cs e (0, 0))) ⟨b, o, none⟩ = false := by subst hb; simp [hfrz]
@[go_sem ↓] theorem hcell_push_old (hb : b < h.size) : hcell (h.push X) ⟨b, o, none⟩ = hcell h ⟨b, o, none⟩ := by unfold hcell; rw [push_old hb]
@[go_sem ↓] theorem hfrz_push_new : hfrz (h.push (.cells cs e (0, 0))) ⟨h.size, o, none⟩ = false := by simp [hfrz]
@[go_sem ↓] theorem hfrz_push_old (hb : b < h.size) : hfrz (h.push X) ⟨b, o, none⟩ = hfrz h ⟨b, o, none⟩ := by unfold hfrz; rw [push_old hb]

/-- a store of one cell -/
theorem store_1 {j : Heap → Prop} (hv : v.cells = #[v]) : @storeK (some 1) (.pointer (some ⟨b, o, none⟩)) v ⟨h⟩ ⟨j⟩ =
    @guardK (v.oneCell' && (hcell h ⟨b, o, none⟩).isSome && !hfrz h ⟨b, o, none⟩) ⟨j (hset h ⟨b, o, none⟩ v)⟩ := by
  have e1 : (⟨b, o, none⟩ : Addr).add 0 = ⟨b, o, none⟩ := rfl
  apply propext
  simp only [storeK, storeX, storeN, hv, guardK, Bool.and_eq_true, Bool.not_eq_true', e1]
  constructor
  · rintro ⟨_, h1, h2, h3, h4⟩; exact ⟨⟨⟨h1, h2⟩, h3⟩, h4⟩
  · rintro ⟨⟨⟨h1, h2⟩, h3⟩, h4⟩; exact ⟨rfl, h1, h2, h3, h4⟩
section
variable {j : Heap → Prop} {kd : IntKind} {a : Int} {p : Bool} {f g l c m : Nat} {A : Option Addr} {M : Option Nat}
@[go_sem] theorem store_int : @storeK (some 1) (.pointer (some ⟨b, o, none⟩)) (.int kd a) ⟨h⟩ ⟨j⟩ = @guardK ((hcell h ⟨b, o, none⟩).isSome && !hfrz h ⟨b, o, none⟩) ⟨j (hset h ⟨b, o, none⟩ (.int kd a))⟩ := store_1 rfl

@[go_sem] theorem store_slice : @storeK (some 1) (.pointer (some ⟨b, o, none⟩)) (.slice A l c) ⟨h⟩ ⟨j⟩ = @guardK ((hcell h ⟨b, o, none⟩).isSome && !hfrz h ⟨b, o, none⟩) ⟨j (hset h ⟨b, o, none⟩ (.slice A l c))⟩ := store_1 rfl

end
def storesX : List Value → Nat → Nat → Heap → (Heap → Prop) → Prop
  | [], _, _, h, j => j h
  | v :: l, b, o, h, j => (v.oneCell' && (hcell h ⟨b, o, none⟩).isSome && !hfrz h ⟨b, o, none⟩) = true ∧ storesX l b (o + 1) (hset h ⟨b, o, none⟩ v) j
def storesK (l : List Value) (b o : Nat) [h : Kp Heap] [j : Kp (Heap → Prop)] : Prop := storesX l b o h.f j.f
theorem storeN_eq {a : Nat} {j : Heap → Prop} : ∀ {l : List Value} {i : Nat} {h : Heap}, storeN h ⟨b, a, none⟩ i l j = storesX l b (a + i) h j
  | [], i, h => rfl
  | v :: l, i, h => by
    rw [storeN, storesX, storeN_eq, add_n]
    apply propext
    simp only [Bool.and_eq_true, Bool.not_eq_true', and_assoc, Nat.add_assoc]
@[go_sem] theorem store_agg {l : List Value} {n : Nat} {j : Heap → Prop} : @storeK (some n) (.pointer (some ⟨b, o, none⟩)) (.agg l.toArray) ⟨h⟩ ⟨j⟩ = (l.length = n ∧ @storesK l b o ⟨h⟩ ⟨j⟩) := by
  show (_ ∧ storeN h ⟨b, o, none⟩ 0 l j) = _
  rw [storeN_eq]; rfl
@[go_sem] theorem stores_nil {j : Heap → Prop} : @storesK [] b o ⟨h⟩ ⟨j⟩ = j h := rfl
@[go_sem] theorem stores_cons {l : List Value} {j : Heap → Prop} : @storesK (v :: l) b o ⟨h⟩ ⟨j⟩ = @guardK (v.oneCell' && (hcell h ⟨b, o, none⟩).isSome && !hfrz h ⟨b, o, none⟩) ⟨@storesK l b (o + 1) ⟨hset h ⟨b, o, none⟩ v⟩ ⟨j⟩⟩ := rfl
@[go_sem] theorem newK_eq : @newK cs e ⟨h⟩ ⟨k⟩ = k (.pointer (some ⟨h.size, 0, none⟩)) (h.push (.cells cs e)) := rfl
@[go_sem] theorem allocK_eq {z : Value} : @allocK (some z) e ⟨h⟩ ⟨k⟩ = @newK z.cells e ⟨h⟩ ⟨k⟩ := rfl
end
section
variable {a : Int} {b : Bool} {f g : Nat} {A : Option Addr} {l c : Nat}
@[go_sem] theorem one_int {kd : IntKind} : (Value.int kd a).oneCell' = true := rfl

@[go_sem] theorem one_slice : (Value.slice A l c).oneCell' = true := rfl

end
attribute [go_sem] IntWalk.i64_in IntWalk.i64_quo IntWalk.rem_in IntWalk.u8_in IntWalk.u64_in

/-! ### At the stops -/
theorem useC {f : FuncId} {vs : List Value} {R : Value → Heap → Prop} (c : CallsH P f vs h R) (hk : ∀ v h', R v h' → k v h') : @CallsK P f vs ⟨h⟩ ⟨k⟩ := c.mono hk
theorem loopK {c : Code} (I : Env → Heap → Prop) (μ : Env → Heap → Nat) (hok : okCode n c = true) (h0 : I ρ h)
    (round : ∀ ρ h, I ρ h → wpX P n c (thenX (fun ρ' h' => I ρ' h' ∧ μ ρ' h' < μ ρ h) Q) ρ h) : @SemK P n ⟨.loop c⟩ ⟨Q⟩ ⟨ρ⟩ ⟨h⟩ := loop_inv I μ hok h0 round
theorem scopeK {c rest : Code} (l : Nat) (J : Env → Heap → Prop) (μ : Env → Heap → Nat) (hf : findLabel c l = some rest)
    (hok : (okCode n c && okCode n rest) = true) (first : wpX P n c (jumpX l J Q) ρ h)
    (pass : ∀ ρ h, J ρ h → wpX P n rest (jumpX l (fun ρ' h' => J ρ' h' ∧ μ ρ' h' < μ ρ h) Q) ρ h) : @SemK P n ⟨.scope c⟩ ⟨Q⟩ ⟨ρ⟩ ⟨h⟩ := scope_jumps l J μ hf hok first pass
theorem scopeL {c : Code} (l : Nat) (J : Env → Heap → Prop) (μ : Env → Heap → Nat) (hok : okCode n c = true) (h0 : J ρ h)
    (pass : ∀ ρ h, J ρ h → wpX P n c (jumpX l (fun ρ' h' => J ρ' h' ∧ μ ρ' h' < μ ρ h) Q) ρ h) : @SemK P n ⟨.scope (.seq (.label l) c)⟩ ⟨Q⟩ ⟨ρ⟩ ⟨h⟩ := scope_first l J μ hok h0 pass
/-- the number in a slot -/
def intOf : Value → Int | .int _ q => q | _ => 0
@[go_sem] theorem intOf_int {kd : IntKind} {a : Int} : intOf (.int kd a) = a := rfl
theorem drawK {id : Nat} {ops : Array Oper} (sc : List (Nat × Nat))
    (hs : seqX P ops Q (fun _ => True) sc ρ h) (hm : P.follows .mixedOrders = true := by kernel_rfl)
    (hok : (sc.length == ops.size && Region.noSelect ops && chk .any ops (loudIn sc) sc (Array.replicate ops.size false) && ops.toList.all (dstOk n)) = true := by kernel_rfl) : @SemK P n ⟨.region id ops true⟩ ⟨Q⟩ ⟨ρ⟩ ⟨h⟩ := by
  rw [Bool.and_eq_true] at hok
  exact draw_seq sc (fun _ => True) hm hok.1 hok.2 trivial hs
theorem drawC {id : Nat} {ops : Array Oper} (sc : List (Nat × Nat)) (C : Heap → Prop)
    (hC : C h) (hs : seqX P ops Q C sc ρ h) (hm : P.follows .mixedOrders = true := by kernel_rfl)
    (hok : (sc.length == ops.size && Region.noSelect ops && chk .any ops (loudIn sc) sc (Array.replicate ops.size false) && ops.toList.all (dstOk n)) = true := by kernel_rfl) : @SemK P n ⟨.region id ops true⟩ ⟨Q⟩ ⟨ρ⟩ ⟨h⟩ := by
  rw [Bool.and_eq_true] at hok
  exact draw_seq sc C hm hok.1 hok.2 hC hs
theorem drawT {id : Nat} {ops : Array Oper} (t : Tr)
    (hs : trX P ops Q t ρ h) (hm : P.follows .mixedOrders = true := by kernel_rfl)
    (hok : ((t.size == ops.size && Region.noSelect ops && chkT .any ops t.loud t (Array.replicate ops.size false)) && ops.toList.all (dstOk n)) = true := by kernel_rfl) : @SemK P n ⟨.region id ops true⟩ ⟨Q⟩ ⟨ρ⟩ ⟨h⟩ := by
  rw [Bool.and_eq_true] at hok
  exact draw_tree t hm hok.1 hok.2 hs

end
end Xe
