/- The plain law of a binary heap over functions: no program in sight. -/
namespace Hp

def upd {α : Type} (f : Nat → α) (i : Nat) (x : α) : Nat → α := fun j => if j = i then x else f j

theorem upd_same {α : Type} (f : Nat → α) (i : Nat) (x : α) : upd f i x i = x := if_pos rfl
theorem upd_other {α : Type} (f : Nat → α) {i j : Nat} (x : α) (h : j ≠ i) : upd f i x j = f j := if_neg h

/-- v comes ahead of w -/
def bef (act : Nat → Int) (v w : Nat) : Prop := act v > act w ∨ (act v = act w ∧ v < w)

instance (act : Nat → Int) (v w : Nat) : Decidable (bef act v w) := inferInstanceAs (Decidable (_ ∨ _))

theorem bef_asymm {act : Nat → Int} {v w : Nat} (h : bef act v w) : ¬ bef act w v := by unfold bef at *; omega
theorem bef_irr (act : Nat → Int) (v : Nat) : ¬ bef act v v := by unfold bef; omega
theorem bef_trans {act : Nat → Int} {u v w : Nat} (h : bef act u v) (k : bef act v w) : bef act u w := by unfold bef at *; omega
theorem nbef_trans {act : Nat → Int} {u v w : Nat} (h : ¬ bef act v u) (k : ¬ bef act w v) : ¬ bef act w u := by unfold bef at *; omega
theorem bef_nbef {act : Nat → Int} {u v w : Nat} (h : bef act u v) (k : ¬ bef act w v) : ¬ bef act w u := by unfold bef at *; omega

/-- the list and the places fit -/
structure Wf (vars n : Nat) (l : Nat → Nat) (pl : Nat → Int) : Prop where
  low : ∀ i, i < n → 1 ≤ l i
  high : ∀ i, i < n → l i ≤ vars
  back : ∀ i, i < n → pl (l i) = i
  fore : ∀ v, 1 ≤ v → v ≤ vars → pl v = -1 ∨ ∃ i, i < n ∧ pl v = i ∧ l i = v

theorem Wf.inj {vars n : Nat} {l : Nat → Nat} {pl : Nat → Int} (h : Wf vars n l pl) {i j : Nat} (hi : i < n) (hj : j < n) (e : l i = l j) : i = j := by
  have a := h.back i hi
  have b := h.back j hj
  rw [e] at a; omega

def swapL (l : Nat → Nat) (i k : Nat) : Nat → Nat := upd (upd l i (l k)) k (l i)
def swapP (l : Nat → Nat) (pl : Nat → Int) (i k : Nat) : Nat → Int := upd (upd pl (l k) i) (l i) k

theorem swapL_at (l : Nat → Nat) (i k j : Nat) : swapL l i k j = if j = k then l i else if j = i then l k else l j := rfl
theorem swapP_at (l : Nat → Nat) (pl : Nat → Int) (i k v : Nat) : swapP l pl i k v = if v = l i then (k : Int) else if v = l k then (i : Int) else pl v := rfl

theorem Wf.swap {vars n : Nat} {l : Nat → Nat} {pl : Nat → Int} (h : Wf vars n l pl) {i k : Nat} (hi : i < n) (hk : k < n) :
    Wf vars n (swapL l i k) (swapP l pl i k) where
  low j hj := by rw [swapL_at]; split; exact h.low i hi; split; exact h.low k hk; exact h.low j hj
  high j hj := by rw [swapL_at]; split; exact h.high i hi; split; exact h.high k hk; exact h.high j hj
  back j hj := by
    rw [swapL_at, swapP_at]
    by_cases h1 : j = k
    · rw [if_pos h1, if_pos rfl, h1]
    · rw [if_neg h1]
      by_cases h2 : j = i
      · rw [if_pos h2]
        by_cases h3 : l k = l i
        · have := h.inj hk hi h3; omega
        · rw [if_neg h3, if_pos rfl, h2]
      · rw [if_neg h2, if_neg (fun e => h2 (h.inj hj hi e)), if_neg (fun e => h1 (h.inj hj hk e))]
        exact h.back j hj
  fore v h1 h2 := by
    rw [swapP_at]
    by_cases e1 : v = l i
    · rw [if_pos e1]; exact .inr ⟨k, hk, rfl, by rw [swapL_at, if_pos rfl, e1]⟩
    · rw [if_neg e1]
      by_cases e2 : v = l k
      · rw [if_pos e2]
        refine .inr ⟨i, hi, rfl, ?_⟩
        rw [swapL_at]
        by_cases e3 : i = k
        · rw [e3, ← e2] at e1; exact absurd rfl e1
        · rw [if_neg e3, if_pos rfl, e2]
      · rw [if_neg e2]
        rcases h.fore v h1 h2 with h3 | ⟨j, hj, hp, hl⟩
        · exact .inl h3
        · refine .inr ⟨j, hj, hp, ?_⟩
          rw [swapL_at, if_neg (fun e => e2 (by rw [← hl, e])), if_neg (fun e => e1 (by rw [← hl, e])), hl]

/-- who is in does not change by a swap -/
def In (n : Nat) (l : Nat → Nat) (v : Nat) : Prop := ∃ i, i < n ∧ l i = v

theorem In.swap {n : Nat} {l : Nat → Nat} {i k v : Nat} (hi : i < n) (hk : k < n) : In n (swapL l i k) v ↔ In n l v := by
  constructor
  · rintro ⟨j, hj, rfl⟩
    rw [swapL_at]
    split
    · exact ⟨i, hi, rfl⟩
    · split
      · exact ⟨k, hk, rfl⟩
      · exact ⟨j, hj, rfl⟩
  · rintro ⟨j, hj, rfl⟩
    by_cases h1 : j = i
    · exact ⟨k, hk, by rw [swapL_at, if_pos rfl, h1]⟩
    · by_cases h2 : j = k
      · refine ⟨i, hi, ?_⟩
        rw [swapL_at]
        by_cases h3 : i = k
        · omega
        · rw [if_neg h3, if_pos rfl, h2]
      · exact ⟨j, hj, by rw [swapL_at, if_neg h2, if_neg h1]⟩

theorem Wf.in_iff {vars n : Nat} {l : Nat → Nat} {pl : Nat → Int} (h : Wf vars n l pl) {v : Nat} (h1 : 1 ≤ v) (h2 : v ≤ vars) : In n l v ↔ 0 ≤ pl v := by
  constructor
  · rintro ⟨i, hi, rfl⟩; rw [h.back i hi]; omega
  · intro h3
    rcases h.fore v h1 h2 with h4 | ⟨i, hi, _, hl⟩
    · omega
    · exact ⟨i, hi, hl⟩

/-- no one comes ahead of the one above it -/
def Ord (act : Nat → Int) (n : Nat) (l : Nat → Nat) : Prop := ∀ j, 0 < j → j < n → ¬ bef act (l j) (l ((j - 1) / 2))

/-- all but place i, upwards -/
structure Up (act : Nat → Int) (n : Nat) (l : Nat → Nat) (i : Nat) : Prop where
  other : ∀ j, 0 < j → j < n → j ≠ i → ¬ bef act (l j) (l ((j - 1) / 2))
  under : ∀ j, 0 < j → j < n → (j - 1) / 2 = i → 0 < i → ¬ bef act (l j) (l ((i - 1) / 2))

theorem Up.of_ord {act : Nat → Int} {n : Nat} {l : Nat → Nat} (h : Ord act n l) (i : Nat) (hi : i < n) : Up act n l i where
  other j h0 hj _ := h j h0 hj
  under j h0 hj e hi0 := nbef_trans (h i hi0 hi) (by have := h j h0 hj; rwa [e] at this)

theorem Up.done {act : Nat → Int} {n : Nat} {l : Nat → Nat} {i : Nat} (h : Up act n l i) (hd : 0 < i → ¬ bef act (l i) (l ((i - 1) / 2))) : Ord act n l := by
  intro j h0 hj
  by_cases e : j = i
  · subst e; exact hd h0
  · exact h.other j h0 hj e

theorem Up.step {act : Nat → Int} {n : Nat} {l : Nat → Nat} {i : Nat} (h : Up act n l i) (h0 : 0 < i) (hi : i < n)
    (hb : bef act (l i) (l ((i - 1) / 2))) : Up act n (swapL l i ((i - 1) / 2)) ((i - 1) / 2) := by
  have hui : (i - 1) / 2 < i := by omega
  generalize hu : (i - 1) / 2 = u at *
  refine ⟨?_, ?_⟩
  · intro j j0 jn ju
    rw [swapL_at, swapL_at, if_neg ju]
    by_cases e : j = i
    · subst e
      rw [if_pos rfl, hu, if_pos rfl]
      exact bef_asymm hb
    · rw [if_neg e]
      by_cases e2 : (j - 1) / 2 = u
      · rw [if_pos e2]
        have := h.other j j0 jn e
        rw [e2] at this
        exact bef_nbef hb this
      · rw [if_neg e2]
        by_cases e3 : (j - 1) / 2 = i
        · rw [if_pos e3]
          have := h.under j j0 jn e3 h0
          rwa [hu] at this
        · rw [if_neg e3]; exact h.other j j0 jn e
  · intro j j0 jn e hu0
    rw [swapL_at, swapL_at]
    have hne : (u - 1) / 2 ≠ u := by omega
    have hne2 : (u - 1) / 2 ≠ i := by omega
    rw [if_neg hne, if_neg hne2]
    by_cases e1 : j = u
    · omega
    · rw [if_neg e1]
      have hpu : ¬ bef act (l u) (l ((u - 1) / 2)) := h.other u hu0 (by omega) (by omega)
      by_cases e2 : j = i
      · rw [if_pos e2]; exact hpu
      · rw [if_neg e2]
        have := h.other j j0 jn e2
        rw [e] at this
        exact nbef_trans hpu this

/-- from place s down all stand right, but at c -/
structure Down (act : Nat → Int) (n : Nat) (l : Nat → Nat) (s c : Nat) : Prop where
  other : ∀ j, 0 < j → j < n → s ≤ (j - 1) / 2 → (j - 1) / 2 ≠ c → ¬ bef act (l j) (l ((j - 1) / 2))
  under : ∀ j, 0 < j → j < n → (j - 1) / 2 = c → 0 < c → s ≤ (c - 1) / 2 → ¬ bef act (l j) (l ((c - 1) / 2))

def OrdFrom (act : Nat → Int) (n : Nat) (l : Nat → Nat) (s : Nat) : Prop := ∀ j, 0 < j → j < n → s ≤ (j - 1) / 2 → ¬ bef act (l j) (l ((j - 1) / 2))

theorem OrdFrom.zero {act : Nat → Int} {n : Nat} {l : Nat → Nat} : OrdFrom act n l 0 ↔ Ord act n l :=
  ⟨fun h j j0 jn => h j j0 jn (Nat.zero_le _), fun h j j0 jn _ => h j j0 jn⟩

theorem OrdFrom.start (act : Nat → Int) (n : Nat) (l : Nat → Nat) (s : Nat) (h : n ≤ s + 1) : OrdFrom act n l s := by
  intro j j0 jn h1; omega

theorem Down.start {act : Nat → Int} {n : Nat} {l : Nat → Nat} {s : Nat} (h : OrdFrom act n l (s + 1)) : Down act n l s s where
  other j j0 jn h1 h2 := h j j0 jn (by omega)
  under j j0 jn h1 h2 h3 := by omega

theorem Down.done {act : Nat → Int} {n : Nat} {l : Nat → Nat} {s c : Nat} (h : Down act n l s c)
    (hd : ∀ j, 0 < j → j < n → (j - 1) / 2 = c → ¬ bef act (l j) (l c)) : OrdFrom act n l s := by
  intro j j0 jn h1
  by_cases e : (j - 1) / 2 = c
  · rw [e]; exact hd j j0 jn e
  · exact h.other j j0 jn h1 e

theorem Down.step {act : Nat → Int} {n : Nat} {l : Nat → Nat} {s c b : Nat} (h : Down act n l s c) (hsc : s ≤ c) (hb0 : 0 < b) (hbn : b < n) (hbc : (b - 1) / 2 = c)
    (hb : bef act (l b) (l c)) (hbest : ∀ j, 0 < j → j < n → (j - 1) / 2 = c → ¬ bef act (l j) (l b)) : Down act n (swapL l c b) s b := by
  have hcb : c < b := by omega
  refine ⟨?_, ?_⟩
  · intro j j0 jn h1 h2
    rw [swapL_at, swapL_at]
    by_cases e : j = b
    · subst e
      rw [if_pos rfl, hbc, if_neg (by omega), if_pos rfl]
      exact bef_asymm hb
    · rw [if_neg e, if_neg h2]
      by_cases e2 : j = c
      · rw [if_pos e2, if_neg (by omega)]
        by_cases hs : s ≤ (c - 1) / 2
        · rw [e2]; exact h.under b hb0 hbn hbc (by omega) hs
        · rw [e2] at h1; omega
      · rw [if_neg e2]
        by_cases e3 : (j - 1) / 2 = c
        · rw [if_pos e3]; exact hbest j j0 jn e3
        · rw [if_neg e3]; exact h.other j j0 jn h1 e3
  · intro j j0 jn h1 h2 h3
    rw [swapL_at, swapL_at, hbc]
    rw [if_neg (by omega : ¬ c = b), if_pos rfl, if_neg (by omega : ¬ j = b), if_neg (by omega : ¬ j = c)]
    have := h.other j j0 jn (by omega) (by omega)
    rwa [h1] at this

/-- the first of a heap comes ahead of all -/
theorem Ord.first {act : Nat → Int} {n : Nat} {l : Nat → Nat} (h : Ord act n l) : ∀ j, j < n → ¬ bef act (l j) (l 0) := by
  intro j
  induction j using Nat.strongRecOn with
  | _ j ih =>
    intro hj
    by_cases j0 : j = 0
    · subst j0; exact bef_irr _ _
    · exact nbef_trans (ih ((j - 1) / 2) (by omega) (by omega)) (h j (by omega) hj)

/-! ### taking out the first, putting in one more -/

theorem Wf.drop {vars n : Nat} {l : Nat → Nat} {pl : Nat → Int} (h : Wf vars (n + 1) l pl) : Wf vars n l (upd pl (l n) (-1)) where
  low i hi := h.low i (by omega)
  high i hi := h.high i (by omega)
  back i hi := by
    rw [upd_other _ _ (fun e => by have := h.inj (by omega) (by omega) e; omega)]
    exact h.back i (by omega)
  fore v h1 h2 := by
    by_cases e : v = l n
    · rw [e, upd_same]; exact .inl rfl
    · rw [upd_other _ _ e]
      rcases h.fore v h1 h2 with h3 | ⟨i, hi, hp, hl⟩
      · exact .inl h3
      · refine .inr ⟨i, ?_, hp, hl⟩
        by_cases e2 : i = n
        · rw [e2] at hl; exact absurd hl.symm e
        · omega

theorem In.drop {vars n : Nat} {l : Nat → Nat} {pl : Nat → Int} (h : Wf vars (n + 1) l pl) (v : Nat) : In n l v ↔ In (n + 1) l v ∧ v ≠ l n := by
  constructor
  · rintro ⟨i, hi, rfl⟩
    exact ⟨⟨i, by omega, rfl⟩, fun e => by have := h.inj (by omega) (by omega) e; omega⟩
  · rintro ⟨⟨i, hi, rfl⟩, hne⟩
    refine ⟨i, ?_, rfl⟩
    by_cases e : i = n
    · rw [e] at hne; exact absurd rfl hne
    · omega

theorem Wf.put {vars n : Nat} {l : Nat → Nat} {pl : Nat → Int} (h : Wf vars n l pl) {v : Nat} (h1 : 1 ≤ v) (h2 : v ≤ vars) (hv : pl v = -1) :
    Wf vars (n + 1) (upd l n v) (upd pl v n) where
  low i hi := by
    by_cases e : i = n
    · rw [e, upd_same]; exact h1
    · rw [upd_other _ _ e]; exact h.low i (by omega)
  high i hi := by
    by_cases e : i = n
    · rw [e, upd_same]; exact h2
    · rw [upd_other _ _ e]; exact h.high i (by omega)
  back i hi := by
    by_cases e : i = n
    · rw [e, upd_same, upd_same]
    · rw [upd_other _ _ e, upd_other _ _ (fun e2 => by have := h.back i (by omega); rw [e2, hv] at this; omega)]
      exact h.back i (by omega)
  fore u u1 u2 := by
    by_cases e : u = v
    · rw [e, upd_same]; exact .inr ⟨n, by omega, rfl, upd_same _ _ _⟩
    · rw [upd_other _ _ e]
      rcases h.fore u u1 u2 with h3 | ⟨i, hi, hp, hl⟩
      · exact .inl h3
      · exact .inr ⟨i, by omega, hp, by rw [upd_other _ _ (by omega)]; exact hl⟩

theorem In.put {n : Nat} {l : Nat → Nat} {v : Nat} (u : Nat) : In (n + 1) (upd l n v) u ↔ In n l u ∨ u = v := by
  constructor
  · rintro ⟨i, hi, rfl⟩
    by_cases e : i = n
    · rw [e, upd_same]; exact .inr rfl
    · rw [upd_other _ _ e]; exact .inl ⟨i, by omega, rfl⟩
  · rintro (⟨i, hi, rfl⟩ | rfl)
    · exact ⟨i, by omega, upd_other _ _ (by omega)⟩
    · exact ⟨n, by omega, upd_same _ _ _⟩

theorem Ord.put {act : Nat → Int} {n : Nat} {l : Nat → Nat} (h : Ord act n l) (v : Nat) : Up act (n + 1) (upd l n v) n where
  other j j0 jn e := by
    rw [upd_other _ _ e, upd_other _ _ (by omega)]
    exact h j j0 (by omega)
  under j j0 jn e hn := by omega

/-- the last is laid at the head -/
theorem Ord.take {act : Nat → Int} {n : Nat} {l : Nat → Nat} (h : Ord act (n + 1) l) : Down act n (swapL l 0 n) 0 0 where
  other j j0 jn _ e := by
    rw [swapL_at, swapL_at, if_neg (by omega), if_neg (by omega), if_neg (by omega), if_neg e]
    exact h j j0 (by omega)
  under j j0 jn e hc := by omega

theorem Ord.less {act : Nat → Int} {n : Nat} {l : Nat → Nat} (h : Ord act (n + 1) l) : Ord act n l := fun j j0 jn => h j j0 (by omega)

/-- one more active: it may rise -/
theorem Ord.bump {act : Nat → Int} {n : Nat} {l : Nat → Nat} (h : Ord act n l) {i : Nat} (hi : i < n) (hinj : ∀ a, a < n → ∀ b, b < n → l a = l b → a = b)
    {x : Int} (hx : act (l i) ≤ x) : Up (upd act (l i) x) n l i where
  other j j0 jn e := by
    have h0 := h j j0 jn
    have hj : l j ≠ l i := fun e2 => e (hinj j jn i hi e2)
    unfold bef at *
    rw [upd_other _ _ hj]
    by_cases e2 : (j - 1) / 2 = i
    · rw [e2] at h0 ⊢; rw [upd_same]; omega
    · rw [upd_other _ _ (fun e3 => e2 (hinj _ (by omega) i hi e3))]; exact h0
  under j j0 jn e i0 := by
    have h0 := h j j0 jn
    have h1 := h i i0 hi
    rw [e] at h0
    have h2 := nbef_trans h1 h0
    have hj : l j ≠ l i := fun e2 => by have := hinj j jn i hi e2; omega
    have hp : l ((i - 1) / 2) ≠ l i := fun e2 => by have := hinj _ (by omega) i hi e2; omega
    unfold bef at *
    rw [upd_other _ _ hj, upd_other _ _ hp]; exact h2

theorem Ord.same {act act' : Nat → Int} {n : Nat} {l : Nat → Nat} (h : Ord act n l) (he : ∀ i, i < n → act' (l i) = act (l i)) : Ord act' n l := by
  intro j j0 jn
  have := h j j0 jn
  unfold bef at *
  rw [he j jn, he _ (by omega)]; exact this

end Hp
