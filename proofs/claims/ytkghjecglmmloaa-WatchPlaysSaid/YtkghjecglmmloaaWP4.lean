/- The plain law of propagation by two watched literals, fourth part: what is taken back, what is let go; what follows at least. -/
import Derived.Test.YtkghjecglmmloaaWP3
import Derived.Test.YtkghjecglmmloaaT17e
namespace Xe
open Tp

def backS (s : WS) (k : Nat) : WS := { s with l := cutTo s.l k, level := k, head := min s.head (cutTo s.l k).length, todo := List.range s.cs.length, W := fun _ => [] }
section
variable {s : WS}
theorem WInv.back (I : WInv s) {k : Nat} (hk : k ≤ s.level) : WInv (backS s k) where
  good := I.good.sub List.filter_sublist
  lvs := I.lvs.cut k hk
  hv := I.hv
  cl := I.cl
  head := Nat.min_le_right _ _
  todoN := List.nodup_range
  todoL id h := List.mem_range.1 h
  wN _ := List.nodup_nil
  wL _ id h := absurd h List.not_mem_nil
  w1 _ id h := absurd h List.not_mem_nil
  main id e he hg hn := absurd (List.mem_range.2 (List.getElem?_eq_some_iff.1 he).1) hn
  rs i t ht hp := by
    have ht' : (cutTo s.l k)[i]? = some t := ht
    have hl := (List.getElem?_eq_some_iff.1 ht').1
    have e := cut_take I.lvs.mono k
    rw [e, List.getElem?_take] at ht'
    rw [if_pos hl] at ht'
    obtain ⟨e0, h1, h2, h3⟩ := I.rs i t ht' hp
    refine ⟨e0, h1, h2, ?_⟩
    show UnitAt ((cutTo s.l k).take i) e0.lits t.lit
    rw [e, List.take_take, Nat.min_eq_left (by omega)]
    exact h3

theorem setG_len (cs : List Ent) (id : Nat) : (setG cs id).length = cs.length := by unfold setG; split <;> simp
theorem setG_at {cs : List Ent} {id k : Nat} {e : Ent} (he : cs[id]? = some e) : (setG cs id)[k]? = if k = id then some { e with gone := true } else cs[k]? := by
  unfold setG
  rw [he]
  simp only
  rw [List.getElem?_set]
  by_cases h : k = id
  · subst h; rw [if_pos rfl, if_pos (List.getElem?_eq_some_iff.1 he).1, if_pos rfl]
  · rw [if_neg (Ne.symm h), if_neg h]
theorem WInv.drop (I : WInv s) {id : Nat} {e : Ent} (he : s.cs[id]? = some e) (hr : ∀ t ∈ s.l, t.rs ≠ id) : WInv { s with cs := setG s.cs id } := by
  have old : ∀ {k : Nat} {e' : Ent}, (setG s.cs id)[k]? = some e' → e'.gone = false → s.cs[k]? = some e' := fun {k e'} h hg => by
    rw [setG_at he] at h
    split at h
    · cases h; cases hg
    · exact h
  exact {
    good := I.good
    lvs := I.lvs
    hv := I.hv
    cl := fun e' he' => by
      obtain ⟨k, hk⟩ := List.getElem?_of_mem he'
      have hk' : (setG s.cs id)[k]? = some e' := hk
      rw [setG_at he] at hk'
      split at hk'
      · cases hk'; exact I.cl e (List.mem_of_getElem? he)
      · exact I.cl e' (List.mem_of_getElem? hk')
    head := I.head
    todoN := I.todoN
    todoL := fun k hk => by show k < (setG s.cs id).length; rw [setG_len]; exact I.todoL k hk
    wN := I.wN
    wL := fun x k hk => by show k < (setG s.cs id).length ∧ _; rw [setG_len]; exact I.wL x k hk
    w1 := fun x k hk e' he' hg => I.w1 x k hk e' (old he' hg) hg
    main := fun k e' he' hg hn => I.main k e' (old he' hg) hg hn
    rs := fun i t ht hp => by
      obtain ⟨e0, h1, h2, h3⟩ := I.rs i t ht hp
      refine ⟨e0, ?_, h2, h3⟩
      show (setG s.cs id)[t.rs.toNat]? = some e0
      rw [setG_at he, if_neg]
      · exact h1
      · intro h; exact hr t (List.mem_of_getElem? ht) (by omega) }
end

/-- what follows at least: it is part of each that holds as much and where nothing more follows -/
structure Least (vars : Nat) (K : List (List Int)) (l o : List St) : Prop where
  good : Good vars o
  sub : ∀ x ∈ lits l, x ∈ lits o
  least : ∀ q, Good vars q → (∀ x ∈ lits l, x ∈ lits q) → (∀ c ∈ K, (∀ x, ¬ UnitAt q c x) ∧ ¬ FailAt q c) → ∀ x ∈ lits o, x ∈ lits q
def QuietK (K : List (List Int)) (l : List St) : Prop := ∀ c ∈ K, (∀ x, ¬ UnitAt l c x) ∧ ¬ FailAt l c
section
variable {vars : Nat} {K : List (List Int)} {l o q : List St}
theorem Least.refl (G : Good vars l) : Least vars K l l := ⟨G, fun _ h => h, fun _ _ h _ => h⟩
theorem m1_sub (G : Good vars q) (h : ∀ x ∈ lits o, x ∈ lits q) {y : Int} (hy : trI o y = -1) : trI q y = -1 := by
  rw [tr_m1] at hy ⊢
  exact ⟨fun h2 => good_cons G h2 (h _ hy.2), h _ hy.2⟩
theorem Least.step (L : Least vars K l o) {c : List Int} (hc : c ∈ K) {x : Int} (hu : UnitAt o c x) (h1 : 1 ≤ x.natAbs) (h2 : x.natAbs ≤ vars) (r : Int) (n : Nat) : Least vars K l (o ++ [⟨x, r, n⟩]) := by
  refine ⟨?_, fun y hy => by rw [lits_push]; exact List.mem_append_left _ (L.sub y hy), fun q G hs hq y hy => ?_⟩
  · refine L.good.push ?_ h1 h2
    refine find_none' fun t ht e => ?_
    obtain ⟨_, h0, _⟩ := hu
    rw [tr_zero] at h0
    have hm : t.lit ∈ lits o := List.mem_map.2 ⟨t, ht, rfl⟩
    have e' : t.lit.natAbs = x.natAbs := e
    by_cases h : t.lit = x
    · exact h0.1 (h ▸ hm)
    · have : t.lit = -x := by omega
      exact h0.2 (this ▸ hm)
  · have ho := L.least q G hs hq
    rw [lits_push, List.mem_append, List.mem_singleton] at hy
    rcases hy with hy | rfl
    · exact ho y hy
    · show y ∈ lits q
      have hf : ∀ z ∈ c, z ≠ y → trI q z = -1 := fun z hz hn => m1_sub G ho (hu.2.2 z hz hn)
      rcases trI_cases q y with h | h | h
      · exact tr_one.1 h
      · exfalso
        refine (hq c hc).2 fun z hz => ?_
        by_cases e : z = y
        · rw [e]; exact h
        · exact hf z hz e
      · exact absurd ⟨hu.1, h, hf⟩ ((hq c hc).1 y)
theorem Least.fail (L : Least vars K l o) {c : List Int} (hc : c ∈ K) (hf : FailAt o c) {o' : List St} (L' : Least vars K l o') (q' : QuietK K o') : False := by
  have h := L.least o' L'.good L'.sub q'
  exact (q' c hc).2 fun y hy => m1_sub L'.good h (hf y hy)
theorem nodup_le' : ∀ {a b : List Int}, a.Nodup → (∀ x, x ∈ a → x ∈ b) → a.length ≤ b.length
  | [], _, _, _ => Nat.zero_le _
  | y :: a, b, hn, hs => by
    have hy := hs y (List.mem_cons_self ..)
    rw [List.nodup_cons] at hn
    have := nodup_le' (a := a) (b := b.erase y) hn.2 (fun x hx => (List.mem_erase_of_ne (fun e => hn.1 (by rw [← e]; exact hx))).2 (hs x (List.mem_cons_of_mem _ hx)))
    rw [List.length_erase_of_mem hy] at this
    have := List.length_pos_of_mem hy
    simp only [List.length_cons]; omega
theorem lits_nodup (G : Good vars l) : (lits l).Nodup := by
  unfold lits
  rw [List.Nodup, List.pairwise_map]
  exact G.nd.imp fun h e => h (by rw [e])
theorem Least.same {o' : List St} (L : Least vars K l o) (q : QuietK K o) (L' : Least vars K l o') (q' : QuietK K o') : (∀ x, x ∈ lits o ↔ x ∈ lits o') ∧ o.length = o'.length := by
  have h1 := L.least o' L'.good L'.sub q'
  have h2 := L'.least o L.good L.sub q
  have e1 := nodup_le' (lits_nodup L.good) h1
  have e2 := nodup_le' (lits_nodup L'.good) h2
  unfold lits at e1 e2
  rw [List.length_map, List.length_map] at e1 e2
  exact ⟨fun x => ⟨h1 x, h2 x⟩, by omega⟩
end

/-- the clauses that are there -/
def keptC (C : List (List Int × Bool)) : List (List Int) := (C.filter fun c => !c.2).map Prod.fst
theorem mem_kept {C : List (List Int × Bool)} {c : List Int} : c ∈ keptC C ↔ ∃ id : Nat, C[id]? = some (c, false) := by
  unfold keptC
  rw [List.mem_map]
  constructor
  · rintro ⟨⟨d, g⟩, h, rfl⟩
    rw [List.mem_filter] at h
    obtain ⟨h1, h2⟩ := h
    obtain ⟨k, hk⟩ := List.getElem?_of_mem h1
    simp at h2
    subst h2
    exact ⟨k, hk⟩
  · rintro ⟨id, h⟩
    exact ⟨(c, false), List.mem_filter.2 ⟨List.mem_of_getElem? h, rfl⟩, rfl⟩
theorem Quiet.kept {C : List (List Int × Bool)} {l : List St} (q : Quiet C l) : QuietK (keptC C) l := fun c hc => by
  obtain ⟨id, h⟩ := mem_kept.1 hc
  exact q id c h
theorem US.least {C : List (List Int × Bool)} {lev vars : Nat} {l l' : List St} (h : US C lev l l') (G : Good vars l) (hC : ∀ c ∈ keptC C, ∀ x ∈ c, 1 ≤ x.natAbs ∧ x.natAbs ≤ vars) : Least vars (keptC C) l l' := by
  induction h with
  | refl => exact Least.refl G
  | step _ hc hu ih =>
    have hm := mem_kept.2 ⟨_, hc⟩
    have hx := hC _ hm _ hu.1
    exact ih.step hm hu hx.1 hx.2 _ _

/-- a clause's state among true literals -/
def freeL (l : List St) (c : List Int) : List Int := c.filter fun x => decide (trI l x = 0)
def stI (l : List St) (c : List Int) : Int × Int := if c.any (fun x => decide (trI l x = 1)) then (1, 0) else match freeL l c with
  | [] => (0, 0)
  | [x] => (2, x)
  | _ => (3, 0)
theorem stI_0 {l : List St} {c : List Int} : (stI l c).1 = 0 ↔ FailAt l c := by
  unfold stI FailAt
  constructor
  · intro h y hy
    split at h
    · simp at h
    · rename_i h1
      have hn : trI l y ≠ 1 := fun e => h1 (List.any_eq_true.2 ⟨y, hy, by rw [e]; rfl⟩)
      split at h
      · rename_i h2
        have : trI l y ≠ 0 := fun e => by
          have hm : y ∈ freeL l c := List.mem_filter.2 ⟨hy, by rw [e]; rfl⟩
          rw [h2] at hm; cases hm
        have := trI_cases l y
        omega
      · simp at h
      · simp at h
  · intro h
    rw [if_neg]
    · have : freeL l c = [] := by
        unfold freeL
        rw [List.filter_eq_nil_iff]
        intro x hx
        rw [h x hx]; decide
      rw [this]
    · intro ha
      obtain ⟨x, hx, h1⟩ := List.any_eq_true.1 ha
      rw [h x hx] at h1; exact absurd h1 (by decide)
theorem stI_2 {l : List St} {c : List Int} (hn : c.Nodup) {x : Int} : stI l c = (2, x) ↔ UnitAt l c x := by
  unfold stI UnitAt
  constructor
  · intro h
    split at h
    · simp at h
    · rename_i h1
      split at h
      · simp at h
      · rename_i y h2
        simp only [Prod.mk.injEq, true_and] at h
        subst h
        have hm : y ∈ freeL l c := by rw [h2]; exact List.mem_singleton.2 rfl
        obtain ⟨hy, h0⟩ := List.mem_filter.1 hm
        refine ⟨hy, of_decide_eq_true h0, fun z hz hzn => ?_⟩
        have hz1 : trI l z ≠ 1 := fun e => h1 (List.any_eq_true.2 ⟨z, hz, by rw [e]; rfl⟩)
        have hz0 : trI l z ≠ 0 := fun e => by
          have hm : z ∈ freeL l c := List.mem_filter.2 ⟨hz, by rw [e]; rfl⟩
          rw [h2, List.mem_singleton] at hm; exact hzn hm
        have := trI_cases l z
        omega
      · simp at h
  · rintro ⟨hx, h0, hu⟩
    rw [if_neg]
    · have hp : freeL l c = [x] := by
        have hnd : (freeL l c).Nodup := hn.sublist List.filter_sublist
        have hall : ∀ y ∈ freeL l c, y = x := fun y hy => by
          obtain ⟨hy, h1⟩ := List.mem_filter.1 hy
          have h1 := of_decide_eq_true h1
          by_cases e : y = x
          · exact e
          · have := hu y hy e; omega
        have hmem : x ∈ freeL l c := List.mem_filter.2 ⟨hx, by rw [h0]; rfl⟩
        match hf : freeL l c with
        | [] => rw [hf] at hmem; cases hmem
        | [y] => rw [hf] at hall; rw [hall y (List.mem_singleton.2 rfl)]
        | y :: z :: _ =>
          rw [hf] at hall hnd
          have e1 := hall y (List.mem_cons_self ..)
          have e2 := hall z (List.mem_cons_of_mem _ (List.mem_cons_self ..))
          rw [e1, e2] at hnd
          simp at hnd
      rw [hp]
    · intro ha
      obtain ⟨y, hy, h1⟩ := List.any_eq_true.1 ha
      have h1 := of_decide_eq_true h1
      by_cases e : y = x
      · rw [e] at h1; omega
      · have := hu y hy e; omega
end Xe
