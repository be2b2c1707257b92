/- The plain law of cleaning a clause: sorted, each once. -/
import Derived.Test.YtkghjecglmmloaaT17a
namespace Xe

/-- the first so many, of each row of like ones the first -/
def cN (l : List Int) : Nat → List Int
  | 0 => []
  | n + 1 => if 0 < n ∧ gt l n = gt l (n - 1) then cN l n else cN l n ++ [gt l n]
theorem cN_dup {l : List Int} {n : Nat} (h0 : 0 < n) (h : gt l n = gt l (n - 1)) : cN l (n + 1) = cN l n := if_pos ⟨h0, h⟩
theorem cN_new {l : List Int} {n : Nat} (h : n = 0 ∨ gt l n ≠ gt l (n - 1)) : cN l (n + 1) = cN l n ++ [gt l n] := if_neg (fun ⟨h1, h2⟩ => h.elim (fun h => by omega) (fun h => h h2))
theorem cN_le (l : List Int) : ∀ n, (cN l n).length ≤ n
  | 0 => Nat.le_refl _
  | n + 1 => by
    have := cN_le l n
    unfold cN; split
    · omega
    · rw [List.length_append]; simp; omega
theorem cN_lt {l : List Int} {k : Nat} (h0 : 0 < k) (h : gt l k = gt l (k - 1)) : ∀ n, k < n → (cN l n).length < n
  | 0, hn => by omega
  | n + 1, hn => by
    by_cases e : n = k
    · subst e; rw [cN_dup h0 h]; have := cN_le l n; omega
    · have := cN_lt h0 h n (by omega)
      unfold cN; split
      · omega
      · rw [List.length_append]; simp; omega
theorem cN_take {l : List Int} : ∀ n, n ≤ l.length → (∀ j, 1 ≤ j → j < n → gt l j ≠ gt l (j - 1)) → cN l n = l.take n
  | 0, _, _ => by simp [cN]
  | n + 1, hn, h => by
    rw [cN_new ((Nat.eq_zero_or_pos n).imp id fun e => h n e (by omega)), cN_take n (by omega) (fun j h1 h2 => h j h1 (by omega)), List.take_add_one, gt_at (by omega)]
    rfl

/-- by variable, then by sign -/
def lexLt (x y : Int) : Prop := x.natAbs < y.natAbs ∨ (x.natAbs = y.natAbs ∧ x < y)
theorem cN_spec {l : List Int} (hs : ∀ p q, p < q → q < l.length → ¬ lexLt (gt l q) (gt l p)) : ∀ n, n ≤ l.length →
    (∀ x, x ∈ cN l n ↔ ∃ j, j < n ∧ gt l j = x) ∧ (cN l n).Pairwise lexLt
  | 0, _ => ⟨fun x => by simp [cN], List.Pairwise.nil⟩
  | n + 1, hn => by
    obtain ⟨h1, h2⟩ := cN_spec hs n (by omega)
    by_cases e : 0 < n ∧ gt l n = gt l (n - 1)
    · rw [cN_dup e.1 e.2]
      refine ⟨fun x => ?_, h2⟩
      rw [h1 x]
      constructor
      · exact fun ⟨j, hj, hx⟩ => ⟨j, by omega, hx⟩
      · rintro ⟨j, hj, rfl⟩
        by_cases ej : j = n
        · exact ⟨n - 1, by omega, by rw [ej, e.2]⟩
        · exact ⟨j, by omega, rfl⟩
    · have hnew : n = 0 ∨ gt l n ≠ gt l (n - 1) := by
        rcases Nat.eq_zero_or_pos n with h | h
        · exact .inl h
        · exact .inr fun h3 => e ⟨h, h3⟩
      rw [cN_new hnew]
      refine ⟨fun x => ?_, ?_⟩
      · rw [List.mem_append, List.mem_singleton, h1 x]
        constructor
        · rintro (⟨j, hj, hx⟩ | rfl)
          · exact ⟨j, by omega, hx⟩
          · exact ⟨n, by omega, rfl⟩
        · rintro ⟨j, hj, rfl⟩
          by_cases ej : j = n
          · exact .inr (by rw [ej])
          · exact .inl ⟨j, by omega, rfl⟩
      · rw [List.pairwise_append]
        refine ⟨h2, List.pairwise_singleton _ _, fun a ha b hb => ?_⟩
        rw [List.mem_singleton] at hb
        subst hb
        obtain ⟨j, hj, rfl⟩ := (h1 a).1 ha
        have hn0 : n ≠ 0 := by omega
        have hne := hnew.resolve_left hn0
        have g1 := hs (n - 1) n (by omega) (by omega)
        have g2 : j = n - 1 ∨ ¬ lexLt (gt l (n - 1)) (gt l j) := by
          by_cases ej : j = n - 1
          · exact .inl ej
          · exact .inr (hs j (n - 1) (by omega) (by omega))
        unfold lexLt at *
        rcases g2 with rfl | g2 <;> omega

def okL (x : Int) : Prop := 1 ≤ x.natAbs ∧ x.natAbs ≤ 16777216
instance : DecidablePred okL := fun x => by unfold okL; exact inferInstance

/-- a clean clause: of each variable one literal at most, rising -/
def Rise (l : List Int) : Prop := l.Pairwise fun a b => a.natAbs < b.natAbs
/-- from one to the next, so from each to all -/
theorem pairwise_adj {R : Int → Int → Prop} (tr : ∀ a b c, R a b → R b c → R a c) {l : List Int} (h : ∀ j, j + 1 < l.length → R (gt l j) (gt l (j + 1))) : l.Pairwise R := by
  rw [List.pairwise_iff_getElem]
  have key : ∀ d i, i + (d + 1) < l.length → R (gt l i) (gt l (i + (d + 1))) := by
    intro d
    induction d with
    | zero => exact fun i hi => h i hi
    | succ d ih => exact fun i hi => tr _ _ _ (ih i (by omega)) (h (i + (d + 1)) (by omega))
  intro i j hi hj hij
  have := key (j - i - 1) i (by omega)
  rw [show i + (j - i - 1 + 1) = j by omega] at this
  have e1 := gt_at hi
  have e2 := gt_at hj
  rw [List.getElem?_eq_getElem hi, Option.some.injEq] at e1
  rw [List.getElem?_eq_getElem hj, Option.some.injEq] at e2
  rw [e1, e2]; exact this
theorem rise_uniq : ∀ {a b : List Int}, Rise a → Rise b → (∀ x, x ∈ a ↔ x ∈ b) → a = b
  | [], [], _, _, _ => rfl
  | [], y :: b, _, _, h => absurd ((h y).2 (List.mem_cons_self ..)) List.not_mem_nil
  | x :: a, [], _, _, h => absurd ((h x).1 (List.mem_cons_self ..)) List.not_mem_nil
  | x :: a, y :: b, h1, h2, h => by
    unfold Rise at h1 h2
    rw [List.pairwise_cons] at h1 h2
    have e : x = y := by
      have hx := (h x).1 (List.mem_cons_self ..)
      have hy := (h y).2 (List.mem_cons_self ..)
      rw [List.mem_cons] at hx hy
      rcases hx with hx | hx
      · exact hx
      · rcases hy with hy | hy
        · exact hy.symm
        · have := h1.1 y hy; have := h2.1 x hx; omega
    subst e
    rw [rise_uniq h1.2 h2.2 fun z => ?_]
    have hz := h z
    rw [List.mem_cons, List.mem_cons] at hz
    constructor
    · intro hm
      rcases hz.1 (.inr hm) with rfl | h
      · have := h1.1 z hm; omega
      · exact h
    · intro hm
      rcases hz.2 (.inr hm) with rfl | h
      · have := h2.1 z hm; omega
      · exact h
end Xe
