/- Steps as rows of cells. -/
import Derived.Test.YtkghjecglmmloaaSl2
import Derived.Test.YtkghjecglmmloaaTP
namespace Xe
open Go Tp

def stV (s : St) : List Value := [.int .i64 s.lit, .int .i64 s.rs, .int .i64 (s.lv : Int)]
def stVs : List St → List Value
  | [] => []
  | s :: l => .int .i64 s.lit :: .int .i64 s.rs :: .int .i64 (s.lv : Int) :: stVs l
theorem stVs_len : ∀ l : List St, (stVs l).length = l.length * 3
  | [] => rfl
  | s :: l => by simp [stVs, stVs_len l]; omega
theorem stVs_append : ∀ l m : List St, stVs (l ++ m) = stVs l ++ stVs m
  | [], _ => rfl
  | s :: l, m => by simp [stVs, stVs_append l m]
theorem stVs_at : ∀ {l : List St} {i : Nat} {s : St}, l[i]? = some s → (stVs l)[i * 3]? = some (.int .i64 s.lit) ∧ (stVs l)[i * 3 + 1]? = some (.int .i64 s.rs) ∧ (stVs l)[i * 3 + 2]? = some (.int .i64 (s.lv : Int))
  | [], _, _, h => (nomatch h)
  | s :: l, 0, x, h => by
    simp only [List.getElem?_cons_zero, Option.some.injEq] at h
    subst h
    exact ⟨rfl, rfl, rfl⟩
  | s :: l, i + 1, x, h => by
    have := stVs_at (l := l) (i := i) (s := x) (by simpa using h)
    rw [show (i + 1) * 3 = i * 3 + 1 + 1 + 1 by omega]
    simp only [stVs, List.getElem?_cons_succ]
    exact this
theorem stVs_one {l : List St} : ∀ w ∈ stVs l, w.oneCell' = true := by
  induction l with
  | nil => exact fun _ h => (nomatch h)
  | cons s l ih =>
    intro w hw
    simp only [stVs, List.mem_cons] at hw
    rcases hw with rfl | rfl | rfl | hw
    · rfl
    · rfl
    · rfl
    · exact ih w hw

/-- integers as a row of cells -/
def ints (l : List Int) : List Value := l.map (Value.int .i64)
theorem ints_len (l : List Int) : (ints l).length = l.length := List.length_map ..
theorem ints_at {l : List Int} {i : Nat} {x : Int} (h : l[i]? = some x) : (ints l)[i]? = some (.int .i64 x) := by simp [ints, h]
theorem ints_append (l m : List Int) : ints (l ++ m) = ints l ++ ints m := by simp [ints]
theorem ints_one {l : List Int} : ∀ w ∈ ints l, w.oneCell' = true := by
  intro w hw
  obtain ⟨x, _, rfl⟩ := List.mem_map.1 hw
  rfl
def lits (l : List St) : List Int := l.map (·.lit)
end Xe
