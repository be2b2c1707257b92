/- The law's own answers: truth, State, Close. -/
import Derived.Test.YtkghjecglmmloaaT17l
namespace Xe
open Go Tp Go.Proofs
set_option maxRecDepth 16000
set_option maxHeartbeats 1000000

theorem some_at {l : List Int} {i : Nat} (h : i < l.length) : ∃ x, l[i]? = some x := ⟨_, List.getElem?_eq_getElem h⟩
theorem take_at {α : Type} {l : List α} {i : Nat} {x : α} (h : l[i]? = some x) : l.take (i + 1) = l.take i ++ [x] := by
  rw [List.take_add_one, h]; rfl
def lastI (l : List Int) : Int := l.getLast?.getD 0
theorem lastI_append (l : List Int) (x : Int) : lastI (l ++ [x]) = x := by simp [lastI]
theorem lits_len (l : List St) : (lits l).length = l.length := List.length_map ..
def lenOf : Value → Nat
  | .slice _ n _ => n
  | _ => 0
def flagOf : Value → Nat
  | .bool true => 1
  | _ => 0

section
variable {h : Heap}
theorem truth17_ok {B : Option Addr} {m d : Nat} {l : List St} {x : Int} (R : RowAt h B (ints (lits l))) (hm : m = l.length) (hs : m < 2 ^ 40) (h0 : -9223372036854775808 < x) (h1 : x ≤ 9223372036854775807) :
    CallsH Try.prog 112 [.slice B m d, .int .i64 x] h fun r h' => r = .int .i64 (trI l x) ∧ h' = h := by
  have hl := lits_len l
  refine calls_of 12 [.tmp 4] Go.Proofs.Try.func112 rfl rfl rfl (by kernel_rfl) (Nat.le_of_ble_eq_true rfl) ?_
  simp -implicitDefEqProofs (disch := omega) [go_sem]
  refine useC (has12_ok R (by omega) hs x) ?_
  rintro _ h' ⟨rfl, rfl⟩
  by_cases e : x ∈ lits l
  · have ht : trI l x = 1 := tr_one.2 e
    simp -implicitDefEqProofs (disch := omega) [go_sem, e, ht]
  · simp -implicitDefEqProofs (disch := omega) [go_sem, e]
    refine useC (has12_ok R (by omega) hs (-x)) ?_
    rintro _ h' ⟨rfl, rfl⟩
    by_cases e2 : -x ∈ lits l
    · have ht : trI l x = -1 := tr_m1.2 ⟨e, e2⟩
      simp -implicitDefEqProofs (disch := omega) [go_sem, e2, ht]
    · have ht : trI l x = 0 := tr_zero.2 ⟨e, e2⟩
      simp -implicitDefEqProofs (disch := omega) [go_sem, e2, ht]

theorem freeL_push (l : List St) (c : List Int) (x : Int) : freeL l (c ++ [x]) = freeL l c ++ if trI l x = 0 then [x] else [] := by
  unfold freeL
  rw [List.filter_append, List.filter_cons]
  by_cases e : trI l x = 0
  · rw [if_pos e, if_pos (by rw [e]; rfl)]; rfl
  · rw [if_neg e, if_neg (by rw [decide_eq_true_eq]; exact e)]; rfl
theorem freeL_len (l : List St) (c : List Int) : (freeL l c).length ≤ c.length := List.length_filter_le ..
theorem stI_one {l : List St} {c : List Int} {x : Int} (hx : x ∈ c) (h : trI l x = 1) : stI l c = (1, 0) := by
  unfold stI; rw [if_pos]; exact List.any_eq_true.2 ⟨x, hx, by rw [h]; rfl⟩
theorem stI_none {l : List St} {c : List Int} (hn : ∀ y ∈ c, trI l y ≠ 1) : stI l c = if (freeL l c).length = 0 then (0, 0) else if (freeL l c).length = 1 then (2, lastI (freeL l c)) else (3, 0) := by
  unfold stI
  rw [if_neg]
  · match freeL l c with
    | [] => rfl
    | [x] => rfl
    | x :: y :: t => simp
  · intro ha
    obtain ⟨y, hy, h1⟩ := List.any_eq_true.1 ha
    exact hn y hy (of_decide_eq_true h1)
theorem state17_ok {A B : Option Addr} {n c m d : Nat} {l : List St} {k : List Int} (Rc : RowAt h A (ints k)) (hn : n = k.length) (hk : n < 2 ^ 40) (R : RowAt h B (ints (lits l))) (hm : m = l.length) (hs : m < 2 ^ 40) (hr : ∀ x ∈ k, x.natAbs ≤ 16777216) :
    CallsH Try.prog 93 [.slice A n c, .slice B m d] h fun r h' => r = .tuple #[.int .i64 (stI l k).1, .int .i64 (stI l k).2] ∧ h' = h := by
  subst hn
  refine calls_of 37 [.tmp 4, .tmp 5] Go.Proofs.Try.func93 rfl rfl rfl (by kernel_rfl) (Nat.le_of_ble_eq_true rfl) ?_
  simp -implicitDefEqProofs (disch := omega) [go_sem]
  refine loopK (fun ρ h' => ρ 0 = .slice A k.length c ∧ ρ 1 = .slice B m d ∧ h' = h ∧ ∃ i : Nat, ρ 8 = .int .i64 i ∧ i ≤ k.length ∧ ρ 6 = .int .i64 ((freeL l (k.take i)).length : Nat) ∧ ρ 7 = .int .i64 (lastI (freeL l (k.take i))) ∧ ∀ y ∈ k.take i, trI l y ≠ 1)
    (fun ρ _ => k.length - (intOf (ρ 8)).toNat) (by kernel_rfl) ?_ ?_
  · exact ⟨rfl, rfl, rfl, 0, rfl, by omega, rfl, rfl, fun y hy => by simp at hy⟩
  · rintro ρ h' ⟨r0, r1, rfl, i, r8, hi, r6, r7, hnt⟩
    by_cases him : i < k.length
    · obtain ⟨x, hx⟩ := some_at him
      obtain ⟨bk, off, rfl, hc⟩ := Rc.get (by rw [ints_len]; omega)
      have c0 := hc _ _ (ints_at hx)
      have hxm := List.mem_of_getElem? hx
      have hxr := hr x hxm
      have hfl := freeL_len l (k.take i)
      have htl : (k.take i).length = i := by rw [List.length_take]; omega
      simp -implicitDefEqProofs (disch := omega) [go_sem, r0, r1, r8, c0]
      refine useC (truth17_ok R hm hs (by omega) (by omega)) ?_
      rintro _ h' ⟨rfl, rfl⟩
      have etk := take_at hx
      have efl := freeL_push l (k.take i) x
      rcases trI_cases l x with e | e | e
      · have est := stI_one hxm e
        simp -implicitDefEqProofs (disch := omega) [go_sem, r0, r1, r8, e, est]
      · rw [if_neg (by omega), List.append_nil] at efl
        simp -implicitDefEqProofs (disch := omega) [go_sem, r0, r1, r8, e]
        refine ⟨⟨i + 1, by omega, by omega, ?_, ?_, ?_⟩, by omega⟩
        · rw [etk, efl]; exact r6
        · rw [etk, efl]; exact r7
        · intro y hy
          rw [etk, List.mem_append, List.mem_singleton] at hy
          rcases hy with hy | rfl
          · exact hnt y hy
          · omega
      · rw [if_pos e] at efl
        simp -implicitDefEqProofs (disch := omega) [go_sem, r0, r1, r6, r7, r8, e, c0]
        refine ⟨⟨i + 1, by omega, by omega, ?_, ?_, ?_⟩, by omega⟩
        · rw [etk, efl]; simp
        · rw [etk, efl, lastI_append]
        · intro y hy
          rw [etk, List.mem_append, List.mem_singleton] at hy
          rcases hy with hy | rfl
          · exact hnt y hy
          · omega
    · have e : i = k.length := by omega
      subst e
      rw [List.take_length] at r6 r7 hnt
      have est := stI_none hnt
      by_cases e0 : (freeL l k).length = 0
      · rw [if_pos e0] at est
        simp -implicitDefEqProofs (disch := omega) [go_sem, r0, r1, r6, r7, r8, e0, est]
      · rw [if_neg e0] at est
        by_cases e1 : (freeL l k).length = 1
        · rw [if_pos e1] at est
          simp -implicitDefEqProofs (disch := omega) [go_sem, r0, r1, r6, r7, r8, e0, e1, est]
        · rw [if_neg e1] at est
          have hfl := freeL_len l k
          simp -implicitDefEqProofs (disch := omega) [go_sem, r0, r1, r6, r7, r8, e0, e1, est]
end
end Xe
