/- The plain law of the trail: a list of steps, each a literal, its reason and its level. -/
namespace Tp

theorem nodup_le : ∀ {a b : List Nat}, a.Nodup → (∀ x, x ∈ a → x ∈ b) → a.length ≤ b.length
  | [], _, _, _ => Nat.zero_le _
  | y :: a, b, hn, hs => by
    have hy := hs y (List.mem_cons_self ..)
    rw [List.nodup_cons] at hn
    have := nodup_le (a := a) (b := b.erase y) hn.2 (fun x hx => (List.mem_erase_of_ne (fun e => hn.1 (by rw [← e]; exact hx))).2 (hs x (List.mem_cons_of_mem _ hx)))
    rw [List.length_erase_of_mem hy] at this
    have := List.length_pos_of_mem hy
    simp only [List.length_cons]; omega

structure St where
  lit : Int
  rs : Int
  lv : Nat

/-- the place of a variable -/
def find (l : List St) (v : Nat) : Option Nat := l.findIdx? (fun s => s.lit.natAbs == v)
/-- its level, its place, its reason; none: -1 -/
def LV (l : List St) (v : Nat) : Int := match find l v with
  | some k => (match l[k]? with | some s => s.lv | none => -1)
  | none => -1
def PL (l : List St) (v : Nat) : Int := match find l v with
  | some k => k
  | none => -1
def RS (l : List St) (v : Nat) : Int := match find l v with
  | some k => (match l[k]? with | some s => s.rs | none => -1)
  | none => -1

theorem find_nil (v : Nat) : find [] v = none := rfl
theorem find_append (l : List St) (s : St) (v : Nat) : find (l ++ [s]) v = match find l v with
    | some k => some k
    | none => if s.lit.natAbs = v then some l.length else none := by
  unfold find
  rw [List.findIdx?_append]
  cases h : List.findIdx? (fun s => s.lit.natAbs == v) l with
  | some k => rfl
  | none =>
    by_cases e : s.lit.natAbs = v
    · simp [List.findIdx?_cons, e]
    · simp [List.findIdx?_cons, e]
theorem find_some {l : List St} {v k : Nat} (h : find l v = some k) : ∃ s, l[k]? = some s ∧ s.lit.natAbs = v ∧ k < l.length := by
  unfold find at h
  obtain ⟨hk, hp, _⟩ := List.findIdx?_eq_some_iff_getElem.1 h
  exact ⟨l[k], List.getElem?_eq_getElem hk, by simpa using hp, hk⟩
theorem find_none {l : List St} {v : Nat} (h : find l v = none) {k : Nat} {s : St} (hs : l[k]? = some s) : s.lit.natAbs ≠ v := by
  unfold find at h
  rw [List.findIdx?_eq_none_iff] at h
  have := h s (List.mem_of_getElem? hs)
  simpa using this
theorem find_none' {l : List St} {v : Nat} (h : ∀ s ∈ l, s.lit.natAbs ≠ v) : find l v = none := by
  unfold find
  rw [List.findIdx?_eq_none_iff]
  intro s hs
  simpa using h s hs

/-- no variable twice, each of the first so many -/
structure Good (vars : Nat) (l : List St) : Prop where
  nd : l.Pairwise fun a b => a.lit.natAbs ≠ b.lit.natAbs
  rng : ∀ s ∈ l, 1 ≤ s.lit.natAbs ∧ s.lit.natAbs ≤ vars

theorem Good.nil (vars : Nat) : Good vars [] := ⟨List.Pairwise.nil, fun _ h => (nomatch h)⟩
theorem Good.push {vars : Nat} {l : List St} (G : Good vars l) {s : St} (h : find l s.lit.natAbs = none) (h1 : 1 ≤ s.lit.natAbs) (h2 : s.lit.natAbs ≤ vars) : Good vars (l ++ [s]) := by
  refine ⟨?_, fun x hx => ?_⟩
  · rw [List.pairwise_append]
    refine ⟨G.nd, List.pairwise_singleton _ _, fun a ha b hb => ?_⟩
    rw [List.mem_singleton] at hb
    subst hb
    obtain ⟨k, hk, rfl⟩ := List.getElem_of_mem ha
    exact find_none h (List.getElem?_eq_getElem hk)
  · rw [List.mem_append, List.mem_singleton] at hx
    rcases hx with hx | rfl
    · exact G.rng x hx
    · exact ⟨h1, h2⟩
theorem Good.sub {vars : Nat} {l m : List St} (G : Good vars l) (h : m.Sublist l) : Good vars m := ⟨G.nd.sublist h, fun s hs => G.rng s (h.mem hs)⟩
theorem Good.find {vars : Nat} {l : List St} (G : Good vars l) {k : Nat} {s : St} (hs : l[k]? = some s) : find l s.lit.natAbs = some k := by
  unfold Tp.find
  obtain ⟨hk, rfl⟩ := List.getElem?_eq_some_iff.1 hs
  rw [List.findIdx?_eq_some_iff_getElem]
  refine ⟨hk, by simp, fun j hj => ?_⟩
  have := List.pairwise_iff_getElem.1 G.nd j k (by omega) hk hj
  simpa using this
theorem Good.lv {vars : Nat} {l : List St} (G : Good vars l) {k : Nat} {s : St} (hs : l[k]? = some s) : LV l s.lit.natAbs = s.lv := by
  unfold LV; rw [G.find hs]; simp only [hs]
theorem Good.pl {vars : Nat} {l : List St} (G : Good vars l) {k : Nat} {s : St} (hs : l[k]? = some s) : PL l s.lit.natAbs = k := by
  unfold PL; rw [G.find hs]
theorem Good.rs {vars : Nat} {l : List St} (G : Good vars l) {k : Nat} {s : St} (hs : l[k]? = some s) : RS l s.lit.natAbs = s.rs := by
  unfold RS; rw [G.find hs]; simp only [hs]

theorem LV_push {l : List St} {s : St} (h : find l s.lit.natAbs = none) (v : Nat) : LV (l ++ [s]) v = if v = s.lit.natAbs then (s.lv : Int) else LV l v := by
  unfold LV
  rw [find_append]
  by_cases e : v = s.lit.natAbs
  · subst e; rw [h]; simp
  · rw [if_neg e]
    cases hf : find l v with
    | none => simp [Ne.symm e]
    | some k =>
      obtain ⟨x, hx, _, hk⟩ := find_some hf
      simp only [List.getElem?_append_left hk]
theorem PL_push {l : List St} {s : St} (h : find l s.lit.natAbs = none) (v : Nat) : PL (l ++ [s]) v = if v = s.lit.natAbs then (l.length : Int) else PL l v := by
  unfold PL
  rw [find_append]
  by_cases e : v = s.lit.natAbs
  · subst e; rw [h]; simp
  · rw [if_neg e]
    cases hf : find l v with
    | none => simp [Ne.symm e]
    | some k => simp
theorem RS_push {l : List St} {s : St} (h : find l s.lit.natAbs = none) (v : Nat) : RS (l ++ [s]) v = if v = s.lit.natAbs then s.rs else RS l v := by
  unfold RS
  rw [find_append]
  by_cases e : v = s.lit.natAbs
  · subst e; rw [h]; simp
  · rw [if_neg e]
    cases hf : find l v with
    | none => simp [Ne.symm e]
    | some k =>
      obtain ⟨x, hx, _, hk⟩ := find_some hf
      simp only [List.getElem?_append_left hk]
theorem PL_lt (l : List St) (v : Nat) : -1 ≤ PL l v ∧ PL l v < l.length := by
  unfold PL
  cases hf : find l v with
  | none => simp only; omega
  | some k => obtain ⟨_, _, _, hk⟩ := find_some hf; simp only; omega
theorem PL_neg {l : List St} {v : Nat} : PL l v < 0 ↔ find l v = none := by
  unfold PL
  cases hf : find l v with
  | none => simp
  | some k => simp
theorem none_of {l : List St} {v : Nat} (h : find l v = none) : LV l v = -1 ∧ PL l v = -1 ∧ RS l v = -1 := by
  unfold LV PL RS; rw [h]; exact ⟨rfl, rfl, rfl⟩

/-- how many variables: as many steps at most -/
theorem Good.len {vars : Nat} {l : List St} (G : Good vars l) : l.length ≤ vars := by
  have h1 : (l.map fun s => s.lit.natAbs).Nodup := by rw [List.Nodup, List.pairwise_map]; exact G.nd
  have h2 : ∀ x ∈ l.map (fun s => s.lit.natAbs), x ∈ List.range' 1 vars := by
    intro x hx
    obtain ⟨s, hs, rfl⟩ := List.mem_map.1 hx
    have := G.rng s hs
    rw [List.mem_range'_1]; omega
  have := nodup_le h1 h2
  simpa using this

/-- levels: each further one begins with a decision -/
inductive Lvs : List St → Nat → Prop
  | nil : Lvs [] 0
  | push {l : List St} {n : Nat} (x r : Int) : Lvs l n → Lvs (l ++ [⟨x, r, n⟩]) n
  | dec {l : List St} {n : Nat} (x : Int) : Lvs l n → Lvs (l ++ [⟨x, -1, n + 1⟩]) (n + 1)

theorem Lvs.le {l : List St} {n : Nat} (h : Lvs l n) : ∀ s ∈ l, s.lv ≤ n := by
  induction h with
  | nil => exact fun _ h => (nomatch h)
  | push x r _ ih =>
    intro s hs
    rw [List.mem_append, List.mem_singleton] at hs
    rcases hs with hs | rfl
    · exact ih s hs
    · exact Nat.le_refl _
  | dec x _ ih =>
    intro s hs
    rw [List.mem_append, List.mem_singleton] at hs
    rcases hs with hs | rfl
    · have := ih s hs; omega
    · exact Nat.le_refl _
theorem Lvs.len {l : List St} {n : Nat} (h : Lvs l n) : n ≤ l.length := by
  induction h with
  | nil => exact Nat.le_refl _
  | push x r _ ih => rw [List.length_append]; simp; omega
  | dec x _ ih => rw [List.length_append]; simp; omega
/-- what is left behind going back to a level -/
def cutTo (l : List St) (k : Nat) : List St := l.filter fun s => decide (s.lv ≤ k)
theorem Lvs.cut {l : List St} {n : Nat} (h : Lvs l n) : ∀ k, k ≤ n → Lvs (cutTo l k) k := by
  induction h with
  | nil => intro k hk; obtain rfl : k = 0 := by omega
           exact .nil
  | @push l n x r h ih =>
    intro k hk
    unfold cutTo
    rw [List.filter_append]
    by_cases e : n ≤ k
    · obtain rfl : k = n := by omega
      have := ih k (Nat.le_refl _)
      simp only [List.filter_cons, Nat.le_refl, decide_true, if_true, List.filter_nil]
      exact .push x r this
    · simp only [List.filter_cons, decide_eq_true_eq, if_neg e, List.filter_nil, List.append_nil]
      exact ih k (by omega)
  | @dec l n x h ih =>
    intro k hk
    unfold cutTo
    rw [List.filter_append]
    by_cases e : n + 1 ≤ k
    · obtain rfl : k = n + 1 := by omega
      have hall : l.filter (fun s => decide (s.lv ≤ n + 1)) = l.filter (fun s => decide (s.lv ≤ n)) := by
        refine List.filter_congr fun s hs => ?_
        have := h.le s hs
        rw [decide_eq_true (by omega), decide_eq_true (by omega)]
      have := ih n (Nat.le_refl _)
      rw [hall]
      simp only [List.filter_cons, Nat.le_refl, decide_true, if_true, List.filter_nil]
      exact .dec x this
    · simp only [List.filter_cons, decide_eq_true_eq, if_neg e, List.filter_nil, List.append_nil]
      exact ih k (by omega)
/-- what stands behind one that is above a level is above it, too -/
theorem Lvs.mono {l : List St} {n : Nat} (h : Lvs l n) : l.Pairwise fun a b => a.lv ≤ b.lv := by
  induction h with
  | nil => exact .nil
  | push x r h ih =>
    rw [List.pairwise_append]
    exact ⟨ih, List.pairwise_singleton _ _, fun a ha b hb => by rw [List.mem_singleton] at hb; subst hb; exact h.le a ha⟩
  | dec x h ih =>
    rw [List.pairwise_append]
    exact ⟨ih, List.pairwise_singleton _ _, fun a ha b hb => by rw [List.mem_singleton] at hb; subst hb; have := h.le a ha; simp only; omega⟩
theorem cut_take {l : List St} (hp : l.Pairwise fun a b => a.lv ≤ b.lv) (k : Nat) : cutTo l k = l.take (cutTo l k).length := by
  induction l with
  | nil => rfl
  | cons s l ih =>
    unfold cutTo
    rw [List.pairwise_cons] at hp
    by_cases e : s.lv ≤ k
    · simp only [List.filter_cons, decide_eq_true e, if_true, List.length_cons, List.take_succ_cons]
      exact congrArg (s :: ·) (ih hp.2)
    · have : l.filter (fun s => decide (s.lv ≤ k)) = [] := by
        rw [List.filter_eq_nil_iff]
        intro x hx
        have := hp.1 x hx
        rw [decide_eq_true_eq]; omega
      simp [e, this]
theorem cut_all {l : List St} {n k : Nat} (h : Lvs l n) (hk : n ≤ k) : cutTo l k = l := by
  unfold cutTo
  rw [List.filter_eq_self]
  intro s hs
  have := h.le s hs
  exact decide_eq_true (by omega)
/-- the level of the last one -/
def lastLv (l : List St) : Nat := match l.getLast? with | some s => s.lv | none => 0
theorem Lvs.last {l : List St} {n : Nat} (h : Lvs l n) : lastLv l = n := by
  cases h <;> simp [lastLv]
/-- from one to the next: the same level, or one further and a decision -/
theorem Lvs.at {l : List St} {n : Nat} (h : Lvs l n) : ∀ i s, l[i]? = some s → lastLv (l.take i) ≤ s.lv ∧ s.lv ≤ lastLv (l.take i) + 1 ∧ (lastLv (l.take i) < s.lv → s.rs = -1) := by
  induction h with
  | nil => exact fun _ _ h => (nomatch h)
  | @push l n x r h ih =>
    intro i s hs
    by_cases hi : i < l.length
    · rw [List.getElem?_append_left hi] at hs
      rw [List.take_append_of_le_length (by omega)]
      exact ih i s hs
    · rw [List.getElem?_append_right (by omega)] at hs
      have : i - l.length = 0 := by
        cases hj : i - l.length with
        | zero => rfl
        | succ j => rw [hj] at hs; cases hs
      rw [this] at hs
      simp only [List.getElem?_cons_zero, Option.some.injEq] at hs
      subst hs
      have e : i = l.length := by omega
      subst e
      rw [List.take_left' rfl, h.last]
      simp only
      omega
  | @dec l n x h ih =>
    intro i s hs
    by_cases hi : i < l.length
    · rw [List.getElem?_append_left hi] at hs
      rw [List.take_append_of_le_length (by omega)]
      exact ih i s hs
    · rw [List.getElem?_append_right (by omega)] at hs
      have : i - l.length = 0 := by
        cases hj : i - l.length with
        | zero => rfl
        | succ j => rw [hj] at hs; cases hs
      rw [this] at hs
      simp only [List.getElem?_cons_zero, Option.some.injEq] at hs
      subst hs
      have e : i = l.length := by omega
      subst e
      rw [List.take_left' rfl, h.last]
      refine ⟨?_, ?_, fun _ => rfl⟩ <;> simp only <;> omega
end Tp
