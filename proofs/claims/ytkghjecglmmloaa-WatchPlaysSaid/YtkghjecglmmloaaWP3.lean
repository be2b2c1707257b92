/- The plain law of propagation by two watched literals, third part: what is new, added, decided; where nothing follows any more. -/
import Derived.Test.YtkghjecglmmloaaT17f
namespace Xe
open Tp

def newW (vars : Nat) : WS := ⟨vars, [], 0, [], fun _ => [], [], 0⟩
theorem newW_inv {vars : Nat} (hv : vars ≤ 16777216) : WInv (newW vars) where
  good := Good.nil _
  lvs := .nil
  hv := hv
  cl e he := absurd he List.not_mem_nil
  head := Nat.le_refl _
  todoN := List.nodup_nil
  todoL id h := absurd h List.not_mem_nil
  wN _ := List.nodup_nil
  wL _ id h := absurd h List.not_mem_nil
  w1 _ id h := absurd h List.not_mem_nil
  main id e he := by simp [newW] at he
  rs i t ht := by simp [newW] at ht

section
variable {s : WS}
theorem WInv.add (I : WInv s) {L : List Int} (hr : Rise L) (hL : ∀ x ∈ L, 1 ≤ x.natAbs ∧ x.natAbs ≤ s.vars) : WInv { s with cs := s.cs ++ [⟨L, 0, 0, false⟩], todo := s.todo ++ [s.cs.length] } := by
  have old : ∀ {id : Nat} {e : Ent}, (s.cs ++ [⟨L, 0, 0, false⟩])[id]? = some e → id ≠ s.cs.length → s.cs[id]? = some e := fun {id e} h hn => by
    have hl := (List.getElem?_eq_some_iff.1 h).1
    rw [List.length_append] at hl
    simp at hl
    rwa [List.getElem?_append_left (by omega)] at h
  exact {
    good := I.good
    lvs := I.lvs
    hv := I.hv
    cl := fun e he => by
      have he' : e ∈ s.cs ++ [⟨L, 0, 0, false⟩] := he
      rw [List.mem_append, List.mem_singleton] at he'
      rcases he' with h | rfl
      · exact I.cl e h
      · exact ⟨hr, hL⟩
    head := I.head
    todoN := by
      show (s.todo ++ [s.cs.length]).Nodup
      rw [List.nodup_append]
      exact ⟨I.todoN, by simp, fun a ha b hb => by rw [List.mem_singleton] at hb; have := I.todoL a ha; omega⟩
    todoL := fun id h => by
      have h' : id ∈ s.todo ++ [s.cs.length] := h
      rw [List.mem_append, List.mem_singleton] at h'
      show id < (s.cs ++ [_]).length
      rw [List.length_append]
      rcases h' with h | rfl
      · have := I.todoL id h; simp; omega
      · simp
    wN := I.wN
    wL := fun x id h => by
      obtain ⟨h1, h2⟩ := I.wL x id h
      refine ⟨by show id < (s.cs ++ [_]).length; rw [List.length_append]; omega, ?_⟩
      show id ∉ s.todo ++ [s.cs.length]
      rw [List.mem_append, List.mem_singleton]
      exact fun h3 => h3.elim h2 fun h4 => by omega
    w1 := fun x id h e he hg => I.w1 x id h e (old he (by have := (I.wL x id h).1; omega)) hg
    main := fun id e he hg hn => by
      have hn' : id ∉ s.todo ++ [s.cs.length] := hn
      rw [List.mem_append, List.mem_singleton] at hn'
      exact I.main id e (old he (fun h => hn' (.inr h))) hg (fun h => hn' (.inl h))
    rs := fun i t ht hp => by
      obtain ⟨e, he, hg, hu⟩ := I.rs i t ht hp
      exact ⟨e, by show (s.cs ++ [_])[_]? = _; rw [List.getElem?_append_left (List.getElem?_eq_some_iff.1 he).1]; exact he, hg, hu⟩ }

def decS (s : WS) (x : Int) : WS := { s with l := pushL s.vars s.l x (-1) (s.level + 1), level := if pushE s.vars s.l x (-1) = 0 then s.level + 1 else s.level }
theorem varI_of {vars : Nat} {x : Int} (h : ¬ varI vars x = 0) : 1 ≤ x.natAbs ∧ x.natAbs ≤ vars := by
  unfold varI at h
  split at h
  · assumption
  · exact absurd rfl h
theorem pushE_ok {vars : Nat} {l : List St} {x r : Int} (e : pushE vars l x r = 0) : (1 ≤ x.natAbs ∧ x.natAbs ≤ vars) ∧ find l x.natAbs = none := by
  unfold pushE at e
  split at e
  · omega
  · rename_i h
    split at e
    · omega
    · rename_i h2
      exact ⟨varI_of fun h3 => h (.inl h3), by simpa using h2⟩
theorem WInv.dec (I : WInv s) (x : Int) : WInv (decS s x) := by
  unfold decS pushL
  by_cases e : pushE s.vars s.l x (-1) = 0
  · rw [if_pos e, if_pos e]
    obtain ⟨h1, h2⟩ := pushE_ok e
    exact I.grow (t := ⟨x, -1, s.level + 1⟩) (n := s.level + 1) h2 h1.1 h1.2 (.dec x I.lvs) (fun h => by simp at h)
  · rw [if_neg e, if_neg e]
    exact I

/-- nothing follows, and nothing fails -/
def Quiet (C : List (List Int × Bool)) (l : List St) : Prop := ∀ (id : Nat) c, C[id]? = some (c, false) → (∀ x, ¬ UnitAt l c x) ∧ ¬ FailAt l c
theorem absC_back {cs : List Ent} {id : Nat} {c : List Int} {g : Bool} (h : (absC cs)[id]? = some (c, g)) : ∃ e, cs[id]? = some e ∧ e.lits = c ∧ e.gone = g := by
  unfold absC at h
  rw [List.getElem?_map, Option.map_eq_some_iff] at h
  obtain ⟨e, he, h2⟩ := h
  simp only [Prod.mk.injEq] at h2
  exact ⟨e, he, h2.1, h2.2⟩
theorem WInv.quiet (I : WInv s) (ht : s.todo = []) (hh : s.head = s.l.length) : Quiet (absC s.cs) s.l := by
  intro id c hc
  obtain ⟨e, he, rfl, hg⟩ := absC_back hc
  have key : Sat s.l e.lits ∨ ∃ y z, y ∈ e.lits ∧ z ∈ e.lits ∧ y ≠ z ∧ trI s.l y ≠ -1 ∧ trI s.l z ≠ -1 := by
    rcases I.main id e he hg (by rw [ht]; exact List.not_mem_nil) with h | ⟨y, z, hp, h1, h2⟩
    · exact .inl h
    · have hl : (lits s.l).length = s.l.length := by unfold lits; rw [List.length_map]
      have nopend : ∀ w, okW s.l s.head w → trI s.l w ≠ -1 := fun w hw => hw.elim (fun h => h) fun ⟨k, hk, h⟩ => by
        have := (List.getElem?_eq_some_iff.1 h).1; omega
      exact .inr ⟨y, z, List.mem_of_getElem? hp.l1, List.mem_of_getElem? hp.l2, rise_ne (I.cl e (List.mem_of_getElem? he)).1 hp.l1 hp.l2 hp.ne, nopend y h1, nopend z h2⟩
  refine ⟨fun x ⟨hx, h0, hu⟩ => ?_, fun hf => ?_⟩
  · rcases key with ⟨w, hw, h1⟩ | ⟨y, z, hy, hz, hyz, h1, h2⟩
    · by_cases e : w = x
      · rw [e] at h1; omega
      · have := hu w hw e; omega
    · by_cases e : y = x
      · exact h2 (hu z hz (fun h => hyz (e.trans h.symm)))
      · exact h1 (hu y hy e)
  · rcases key with ⟨w, hw, h1⟩ | ⟨y, z, hy, hz, hyz, h1, h2⟩
    · have := hf w hw; omega
    · exact h1 (hf y hy)

/-- where nothing follows, nothing is pushed -/
theorem US.quiet {C : List (List Int × Bool)} {lev : Nat} {l l' : List St} (h : US C lev l l') (q : Quiet C l) : l' = l := by
  induction h with
  | refl => rfl
  | step _ hc hu ih =>
    have := ih
    subst this
    exact absurd hu ((q _ _ hc).1 _)
/-- what is pushed stands behind what was there -/
theorem US.pre {C : List (List Int × Bool)} {lev : Nat} {l l' : List St} (h : US C lev l l') : ∃ ext, l' = l ++ ext := by
  induction h with
  | refl => exact ⟨[], (List.append_nil _).symm⟩
  | step _ hc hu ih =>
    obtain ⟨ext, rfl⟩ := ih
    exact ⟨ext ++ [_], by rw [List.append_assoc]⟩
/-- what fails goes on to fail -/
theorem FailAt.mono {vars : Nat} {l ext : List St} {c : List Int} (G : Good vars (l ++ ext)) (h : FailAt l c) : FailAt (l ++ ext) c := by
  intro y hy
  have := h y hy
  rw [tr_m1] at this ⊢
  have e : lits (l ++ ext) = lits l ++ lits ext := by simp [lits]
  refine ⟨fun hm => ?_, by rw [e]; exact List.mem_append_left _ this.2⟩
  exact good_cons G hm (by rw [e]; exact List.mem_append_left _ this.2)
end
end Xe
