/- The plain law of propagation by two watched literals. -/
import Derived.Test.YtkghjecglmmloaaT17c
namespace Xe
open Tp

structure Ent where
  lits : List Int
  a1 : Nat
  a2 : Nat
  gone : Bool
structure WS where
  vars : Nat
  l : List St
  level : Nat
  cs : List Ent
  W : Int → List Nat
  todo : List Nat
  head : Nat

def updW (W : Int → List Nat) (x : Int) (v : List Nat) (y : Int) : List Nat := if y = x then v else W y
theorem updW_same (W : Int → List Nat) (x : Int) (v : List Nat) : updW W x v x = v := if_pos rfl
theorem updW_other (W : Int → List Nat) {x y : Int} (v : List Nat) (h : y ≠ x) : updW W x v y = W y := if_neg h
theorem updW_upd (W : Int → List Nat) (x : Int) (v w : List Nat) : updW (updW W x v) x w = updW W x w := by
  funext y; unfold updW; split <;> rfl
theorem updW_id (W : Int → List Nat) (x : Int) : updW W x (W x) = W := by
  funext y; unfold updW; split
  · rename_i h; rw [h]
  · rfl

theorem trI_cases (l : List St) (x : Int) : trI l x = 1 ∨ trI l x = -1 ∨ trI l x = 0 := by
  unfold trI
  by_cases h : x ∈ lits l
  · rw [if_pos h]; exact .inl rfl
  · rw [if_neg h]
    by_cases h2 : -x ∈ lits l
    · rw [if_pos h2]; exact .inr (.inl rfl)
    · rw [if_neg h2]; exact .inr (.inr rfl)
theorem tr_one {l : List St} {x : Int} : trI l x = 1 ↔ x ∈ lits l := by
  unfold trI
  constructor
  · intro h
    split at h
    · assumption
    · split at h <;> omega
  · intro h; rw [if_pos h]
theorem tr_m1 {l : List St} {x : Int} : trI l x = -1 ↔ x ∉ lits l ∧ -x ∈ lits l := by
  unfold trI
  constructor
  · intro h
    split at h
    · omega
    · split at h
      · exact ⟨by assumption, by assumption⟩
      · omega
  · intro ⟨h1, h2⟩; rw [if_neg h1, if_pos h2]
theorem tr_zero {l : List St} {x : Int} : trI l x = 0 ↔ x ∉ lits l ∧ -x ∉ lits l := by
  unfold trI
  constructor
  · intro h
    split at h
    · omega
    · split at h
      · omega
      · exact ⟨by assumption, by assumption⟩
  · intro ⟨h1, h2⟩; rw [if_neg h1, if_neg h2]
theorem lits_push (l : List St) (t : St) : lits (l ++ [t]) = lits l ++ [t.lit] := by simp [lits]
theorem good_cons {vars : Nat} {l : List St} (G : Good vars l) {x : Int} (h1 : x ∈ lits l) (h2 : -x ∈ lits l) : False := by
  obtain ⟨s, hs, rfl⟩ := List.mem_map.1 h1
  obtain ⟨k, hk⟩ := List.getElem?_of_mem hs
  have hr := G.rng s hs
  have := tr_at G hk (x := -s.lit) (by omega)
  rw [tr_one.2 h2] at this
  split at this <;> omega

/-- what stays so while the trail grows -/
theorem tr_one_mono {l : List St} {x : Int} (t : St) (h : trI l x = 1) : trI (l ++ [t]) x = 1 := by
  rw [tr_one] at h ⊢; rw [lits_push]; exact List.mem_append_left _ h
theorem tr_m1_mono {vars : Nat} {l : List St} {t : St} (G : Good vars (l ++ [t])) {x : Int} (h : trI l x = -1) : trI (l ++ [t]) x = -1 := by
  rw [tr_m1] at h ⊢
  rw [lits_push]
  refine ⟨fun hm => ?_, List.mem_append_left _ h.2⟩
  refine good_cons G (x := x) (by rw [lits_push]; exact hm) (by rw [lits_push]; exact List.mem_append_left _ h.2)

def Sat (l : List St) (c : List Int) : Prop := ∃ x ∈ c, trI l x = 1
/-- a literal isn't false, or the trail wasn't gone through as far as where it came to be so -/
def okW (l : List St) (head : Nat) (x : Int) : Prop := trI l x ≠ -1 ∨ ∃ k, head ≤ k ∧ (lits l)[k]? = some (-x)
def UnitAt (l : List St) (c : List Int) (x : Int) : Prop := x ∈ c ∧ trI l x = 0 ∧ ∀ y ∈ c, y ≠ x → trI l y = -1
def FailAt (l : List St) (c : List Int) : Prop := ∀ y ∈ c, trI l y = -1

theorem Sat.mono {l : List St} {c : List Int} (t : St) (h : Sat l c) : Sat (l ++ [t]) c := by
  obtain ⟨x, hx, h⟩ := h
  exact ⟨x, hx, tr_one_mono t h⟩
theorem okW.mono {l : List St} {head : Nat} {x : Int} (t : St) (hh : head ≤ l.length) (h : okW l head x) : okW (l ++ [t]) head x := by
  rcases h with h | ⟨k, hk, h⟩
  · by_cases e : t.lit = -x
    · refine .inr ⟨l.length, hh, ?_⟩
      rw [lits_push, ← e, List.getElem?_append_right (by unfold lits; rw [List.length_map]; exact Nat.le_refl _)]
      unfold lits; simp
    · refine .inl fun h2 => h ?_
      rw [tr_m1, lits_push, List.mem_append, List.mem_append, List.mem_singleton, List.mem_singleton] at h2
      rw [tr_m1]
      exact ⟨fun h3 => h2.1 (.inl h3), h2.2.resolve_right fun h3 => e h3.symm⟩
  · exact .inr ⟨k, hk, by rw [lits_push, List.getElem?_append_left (List.getElem?_eq_some_iff.1 h).1]; exact h⟩

/-- the pair that watches -/
structure Pair (W : Int → List Nat) (id : Nat) (e : Ent) (y z : Int) : Prop where
  ne : e.a1 ≠ e.a2
  l1 : e.lits[e.a1]? = some y
  l2 : e.lits[e.a2]? = some z
  m1 : id ∈ W y
  m2 : id ∈ W z
structure WInv (s : WS) : Prop where
  good : Good s.vars s.l
  lvs : Lvs s.l s.level
  hv : s.vars ≤ 16777216
  cl : ∀ e ∈ s.cs, Rise e.lits ∧ ∀ x ∈ e.lits, 1 ≤ x.natAbs ∧ x.natAbs ≤ s.vars
  head : s.head ≤ s.l.length
  todoN : s.todo.Nodup
  todoL : ∀ id ∈ s.todo, id < s.cs.length
  wN : ∀ x, (s.W x).Nodup
  wL : ∀ x, ∀ id ∈ s.W x, id < s.cs.length ∧ id ∉ s.todo
  w1 : ∀ x, ∀ id ∈ s.W x, ∀ e, s.cs[id]? = some e → e.gone = false → ∃ y z, Pair s.W id e y z ∧ (x = y ∨ x = z)
  main : ∀ id e, s.cs[id]? = some e → e.gone = false → id ∉ s.todo → Sat s.l e.lits ∨ ∃ y z, Pair s.W id e y z ∧ okW s.l s.head y ∧ okW s.l s.head z
  rs : ∀ i t, s.l[i]? = some t → 0 ≤ t.rs → ∃ e, s.cs[t.rs.toNat]? = some e ∧ e.gone = false ∧ UnitAt (s.l.take i) e.lits t.lit

theorem rise_nodup {l : List Int} (h : Rise l) : l.Nodup := List.Pairwise.imp (fun {a b} h e => by rw [e] at h; omega) h
theorem rise_ne {l : List Int} (h : Rise l) {i j : Nat} {y z : Int} (hi : l[i]? = some y) (hj : l[j]? = some z) (hn : i ≠ j) : y ≠ z := by
  intro e
  subst e
  obtain ⟨h1, e1⟩ := List.getElem?_eq_some_iff.1 hi
  obtain ⟨h2, e2⟩ := List.getElem?_eq_some_iff.1 hj
  have := List.pairwise_iff_getElem.1 h
  rcases Nat.lt_or_gt_of_ne hn with h3 | h3
  · have := this i j h1 h2 h3; rw [e1, e2] at this; omega
  · have := this j i h2 h1 h3; rw [e1, e2] at this; omega

/-- the trail grows -/
theorem WInv.grow {s : WS} (I : WInv s) {t : St} {n : Nat} (hf : find s.l t.lit.natAbs = none) (h1 : 1 ≤ t.lit.natAbs) (h2 : t.lit.natAbs ≤ s.vars) (hl : Lvs (s.l ++ [t]) n)
    (hr : 0 ≤ t.rs → ∃ e, s.cs[t.rs.toNat]? = some e ∧ e.gone = false ∧ UnitAt s.l e.lits t.lit) : WInv { s with l := s.l ++ [t], level := n } where
  good := I.good.push hf h1 h2
  lvs := hl
  hv := I.hv
  cl := I.cl
  head := by show s.head ≤ (s.l ++ [t]).length; rw [List.length_append]; have := I.head; omega
  todoN := I.todoN
  todoL := I.todoL
  wN := I.wN
  wL := I.wL
  w1 := I.w1
  main id e he hg hn := by
    rcases I.main id e he hg hn with h | ⟨y, z, hp, h3, h4⟩
    · exact .inl (h.mono t)
    · exact .inr ⟨y, z, hp, h3.mono t I.head, h4.mono t I.head⟩
  rs i u hu hp := by
    show ∃ e, s.cs[u.rs.toNat]? = some e ∧ e.gone = false ∧ UnitAt ((s.l ++ [t]).take i) e.lits u.lit
    have hu' : (s.l ++ [t])[i]? = some u := hu
    by_cases hi : i < s.l.length
    · rw [List.getElem?_append_left hi] at hu'
      rw [List.take_append_of_le_length (by omega)]
      exact I.rs i u hu' hp
    · rw [List.getElem?_append_right (by omega)] at hu'
      have hz : i - s.l.length = 0 := by
        cases hj : i - s.l.length with
        | zero => rfl
        | succ j => rw [hj] at hu'; cases hu'
      rw [hz] at hu'
      simp only [List.getElem?_cons_zero, Option.some.injEq] at hu'
      subst hu'
      rw [List.take_left' (by omega)]
      exact hr hp

/-- a first clause that is to be looked at: gone, or satisfied -/
theorem WInv.skip {s : WS} (I : WInv s) {id : Nat} {rest : List Nat} (ht : s.todo = id :: rest) (h : ∀ e, s.cs[id]? = some e → e.gone = false → Sat s.l e.lits) : WInv { s with todo := rest } where
  good := I.good
  lvs := I.lvs
  hv := I.hv
  cl := I.cl
  head := I.head
  todoN := by have := I.todoN; rw [ht, List.nodup_cons] at this; exact this.2
  todoL i hi := I.todoL i (by rw [ht]; exact List.mem_cons_of_mem _ hi)
  wN := I.wN
  wL x i hi := ⟨(I.wL x i hi).1, fun hm => (I.wL x i hi).2 (by rw [ht]; exact List.mem_cons_of_mem _ hm)⟩
  w1 := I.w1
  main i e he hg hn := by
    by_cases ei : i = id
    · subst ei; exact .inl (h e he hg)
    · exact I.main i e he hg (by rw [ht, List.mem_cons]; exact fun h => h.elim ei hn)
  rs := I.rs

def setE (cs : List Ent) (id i j : Nat) : List Ent := match cs[id]? with
  | some e => cs.set id { e with a1 := i, a2 := j }
  | none => cs
theorem setE_len (cs : List Ent) (id i j : Nat) : (setE cs id i j).length = cs.length := by unfold setE; split <;> simp
theorem setE_at {cs : List Ent} {id i j k : Nat} {e : Ent} (he : cs[id]? = some e) : (setE cs id i j)[k]? = if k = id then some { e with a1 := i, a2 := j } else cs[k]? := by
  unfold setE
  rw [he]
  simp only
  rw [List.getElem?_set]
  by_cases h : k = id
  · subst h; rw [if_pos rfl, if_pos (List.getElem?_eq_some_iff.1 he).1, if_pos rfl]
  · rw [if_neg (Ne.symm h), if_neg h]
/-- each entry but for where it is watched -/
theorem setE_back {cs : List Ent} {id i j k : Nat} {e e' : Ent} (he : cs[id]? = some e) (h : (setE cs id i j)[k]? = some e') : ∃ e0, cs[k]? = some e0 ∧ e0.lits = e'.lits ∧ e0.gone = e'.gone ∧ (k ≠ id → e0 = e') ∧ (k = id → e'.a1 = i ∧ e'.a2 = j) := by
  rw [setE_at he] at h
  split at h
  · rename_i hk
    cases h
    exact ⟨e, by rw [hk]; exact he, rfl, rfl, fun h => absurd hk h, fun _ => ⟨rfl, rfl⟩⟩
  · rename_i hk
    exact ⟨e', h, rfl, rfl, fun _ => rfl, fun h => absurd h hk⟩

/-- a first clause that is to be looked at comes to be watched -/
theorem WInv.watch {s : WS} (I : WInv s) {id i j : Nat} {rest : List Nat} {e : Ent} {y z : Int} (ht : s.todo = id :: rest) (he : s.cs[id]? = some e) (hy : e.lits[i]? = some y) (hz : e.lits[j]? = some z) (hn : y ≠ z)
    (ty : trI s.l y ≠ -1) (tz : trI s.l z ≠ -1) : WInv { s with cs := setE s.cs id i j, W := updW (updW s.W y (s.W y ++ [id])) z (s.W z ++ [id]), todo := rest } := by
  have hW : ∀ x, updW (updW s.W y (s.W y ++ [id])) z (s.W z ++ [id]) x = if x = y ∨ x = z then s.W x ++ [id] else s.W x := by
    intro x
    unfold updW
    by_cases h1 : x = z
    · subst h1; rw [if_pos rfl, if_pos (.inr rfl)]
    · rw [if_neg h1]
      by_cases h2 : x = y
      · subst h2; rw [if_pos rfl, if_pos (.inl rfl)]
      · rw [if_neg h2, if_neg (fun h => h.elim h2 h1)]
  have hnW : ∀ x, id ∉ s.W x := fun x hx => (I.wL x id hx).2 (by rw [ht]; exact List.mem_cons_self ..)
  have hmem : ∀ x k, k ∈ updW (updW s.W y (s.W y ++ [id])) z (s.W z ++ [id]) x ↔ k ∈ s.W x ∨ (k = id ∧ (x = y ∨ x = z)) := by
    intro x k
    rw [hW]
    split
    · rename_i h; rw [List.mem_append, List.mem_singleton]; exact ⟨fun h2 => h2.imp_right fun h3 => ⟨h3, h⟩, fun h2 => h2.imp_right fun h3 => h3.1⟩
    · rename_i h; exact ⟨.inl, fun h2 => h2.resolve_right fun h3 => h h3.2⟩
  have htn := I.todoN
  rw [ht, List.nodup_cons] at htn
  have hij : i ≠ j := fun h => hn (by subst h; rw [hy] at hz; exact Option.some.inj hz)
  have pair_id : Pair (updW (updW s.W y (s.W y ++ [id])) z (s.W z ++ [id])) id { e with a1 := i, a2 := j } y z := ⟨hij, hy, hz, (hmem _ _).2 (.inr ⟨rfl, .inl rfl⟩), (hmem _ _).2 (.inr ⟨rfl, .inr rfl⟩)⟩
  have pair_up : ∀ {k : Nat} {e' : Ent} {u v : Int}, Pair s.W k e' u v → Pair (updW (updW s.W y (s.W y ++ [id])) z (s.W z ++ [id])) k e' u v := fun hp => ⟨hp.ne, hp.l1, hp.l2, (hmem _ _).2 (.inl hp.m1), (hmem _ _).2 (.inl hp.m2)⟩
  exact {
    good := I.good
    lvs := I.lvs
    hv := I.hv
    cl := fun e' he' => by
      obtain ⟨k, hk⟩ := List.getElem?_of_mem he'
      obtain ⟨e0, h0, h1, _⟩ := setE_back he hk
      rw [← h1]; exact I.cl e0 (List.mem_of_getElem? h0)
    head := I.head
    todoN := htn.2
    todoL := fun k hk => by show k < (setE s.cs id i j).length; rw [setE_len]; exact I.todoL k (by rw [ht]; exact List.mem_cons_of_mem _ hk)
    wN := fun x => by
      show (updW (updW s.W y (s.W y ++ [id])) z (s.W z ++ [id]) x).Nodup
      rw [hW]
      split
      · rw [List.nodup_append]; exact ⟨I.wN x, by simp, fun a ha b hb => by rw [List.mem_singleton] at hb; subst hb; exact fun h => hnW x (h ▸ ha)⟩
      · exact I.wN x
    wL := fun x k hk => by
      show k < (setE s.cs id i j).length ∧ _
      rw [setE_len]
      rcases (hmem x k).1 hk with h | ⟨rfl, _⟩
      · exact ⟨(I.wL x k h).1, fun hm => (I.wL x k h).2 (by rw [ht]; exact List.mem_cons_of_mem _ hm)⟩
      · exact ⟨(List.getElem?_eq_some_iff.1 he).1, htn.1⟩
    w1 := fun x k hk e' he' hg => by
      obtain ⟨e0, h0, h1, h2, h3, h4⟩ := setE_back he he'
      rcases (hmem x k).1 hk with h | ⟨rfl, hx⟩
      · have hki : k ≠ id := fun h5 => hnW x (h5 ▸ h)
        have := h3 hki
        subst this
        obtain ⟨u, v, hp, hx⟩ := I.w1 x k h e0 h0 hg
        exact ⟨u, v, pair_up hp, hx⟩
      · rw [setE_at he, if_pos rfl] at he'
        cases he'
        exact ⟨y, z, pair_id, hx⟩
    main := fun k e' he' hg hk => by
      by_cases hki : k = id
      · subst hki
        rw [setE_at he, if_pos rfl] at he'
        cases he'
        exact .inr ⟨y, z, pair_id, .inl ty, .inl tz⟩
      · obtain ⟨e0, h0, h1, h2, h3, h4⟩ := setE_back he he'
        have := h3 hki
        subst this
        rcases I.main k e0 h0 hg (by rw [ht, List.mem_cons]; exact fun h => h.elim hki hk) with h | ⟨u, v, hp, h5⟩
        · exact .inl h
        · exact .inr ⟨u, v, pair_up hp, h5⟩
    rs := fun k t hk hp => by
      obtain ⟨e0, h0, h1, h2⟩ := I.rs k t hk hp
      by_cases hki : t.rs.toNat = id
      · rw [hki] at h0; rw [he] at h0; cases h0
        exact ⟨{ e with a1 := i, a2 := j }, by show (setE s.cs id i j)[_]? = _; rw [setE_at he, if_pos hki], h1, h2⟩
      · exact ⟨e0, by show (setE s.cs id i j)[_]? = _; rw [setE_at he, if_neg hki]; exact h0, h1, h2⟩ }
end Xe
