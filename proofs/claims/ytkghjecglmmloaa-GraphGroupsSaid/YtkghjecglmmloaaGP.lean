/- The plain law of a graph's groups and their order. -/
import Derived.Test.YtkghjecglmmloaaGT2
import Derived.Test.YtkghjecglmmloaaGG
namespace Xe
namespace Gr

theorem sumR_le {f g : Nat → Nat} : ∀ {n : Nat}, (∀ i, i < n → f i ≤ g i) → sumR f n ≤ sumR g n
  | 0, _ => Nat.le_refl _
  | n + 1, h => by
    rw [sumR, sumR]
    exact Nat.add_le_add (sumR_le fun i hi => h i (by omega)) (h n (by omega))
theorem sumR_lt {f g : Nat → Nat} {k : Nat} : ∀ {n : Nat}, (∀ i, i < n → f i ≤ g i) → k < n → f k < g k → sumR f n < sumR g n
  | 0, _, h, _ => by omega
  | n + 1, h, hk, hlt => by
    rw [sumR, sumR]
    have hn := h n (by omega)
    by_cases e : k = n
    · subst e
      have := sumR_le (n := k) fun i hi => h i (by omega)
      omega
    · have := sumR_lt (n := n) (fun i hi => h i (by omega)) (by omega) hlt
      omega
/-- how many below n have a property -/
noncomputable def cntP (S : Nat → Prop) (n : Nat) : Nat := by
  classical
  exact sumR (fun x => if S x then 1 else 0) n
theorem cntP_le {S T : Nat → Prop} {n : Nat} (h : ∀ x, x < n → S x → T x) : cntP S n ≤ cntP T n := by
  classical
  unfold cntP
  refine sumR_le fun i hi => ?_
  by_cases hs : S i
  · simp [hs, h i hi hs]
  · simp [hs]
theorem cntP_lt {S T : Nat → Prop} {n k : Nat} (h : ∀ x, x < n → S x → T x) (hk : k < n) (h1 : ¬ S k) (h2 : T k) : cntP S n < cntP T n := by
  classical
  unfold cntP
  refine sumR_lt (k := k) (fun i hi => ?_) hk ?_
  · by_cases hs : S i
    · simp [hs, h i hi hs]
    · simp [hs]
  · simp [h1, h2]
theorem cntP_max (S : Nat → Prop) (n : Nat) : cntP S n ≤ n := by
  classical
  have : cntP S n ≤ sumR (fun _ => 1) n := by
    unfold cntP
    refine sumR_le fun i _ => ?_
    split <;> omega
  rw [sumR_one] at this
  exact this
theorem cntP_pos {S : Nat → Prop} {n k : Nat} (hk : k < n) (h : S k) : 0 < cntP S n := by
  have := cntP_lt (S := fun _ => False) (T := S) (n := n) (fun _ _ h => h.elim) hk id h
  omega

/-- rising rows with like members are one -/
theorem Inc.eq : ∀ {l m : List Nat}, Inc l → Inc m → (∀ x, x ∈ l ↔ x ∈ m) → l = m
  | [], [], _, _, _ => rfl
  | [], b :: m, _, _, h => absurd ((h b).2 (List.mem_cons_self ..)) (by simp)
  | a :: l, [], _, _, h => absurd ((h a).1 (List.mem_cons_self ..)) (by simp)
  | a :: l, b :: m, hl, hm, h => by
    unfold Inc at hl hm
    rw [List.pairwise_cons] at hl hm
    have e : a = b := by
      rcases List.mem_cons.1 ((h a).1 (List.mem_cons_self ..)) with h1 | h1
      · exact h1
      · rcases List.mem_cons.1 ((h b).2 (List.mem_cons_self ..)) with h2 | h2
        · exact h2.symm
        · have := hl.1 b h2
          have := hm.1 a h1
          omega
    subst e
    rw [Inc.eq hl.2 hm.2 fun x => ?_]
    constructor
    · intro hx
      rcases List.mem_cons.1 ((h x).1 (List.mem_cons_of_mem _ hx)) with h1 | h1
      · have := hl.1 x hx; omega
      · exact h1
    · intro hx
      rcases List.mem_cons.1 ((h x).2 (List.mem_cons_of_mem _ hx)) with h1 | h1
      · have := hm.1 x hx; omega
      · exact h1
/-- the rising row of those below n with a property -/
noncomputable def those (S : Nat → Prop) (n : Nat) : List Nat := by
  classical
  exact (List.range n).filter fun x => decide (S x)
theorem mem_those {S : Nat → Prop} {n x : Nat} : x ∈ those S n ↔ x < n ∧ S x := by
  classical
  unfold those
  rw [List.mem_filter, List.mem_range, decide_eq_true_eq]
theorem inc_range (n : Nat) : Inc (List.range n) := List.pairwise_lt_range
theorem inc_those (S : Nat → Prop) (n : Nat) : Inc (those S n) := by
  classical
  unfold those
  exact (inc_range n).filter _
theorem Inc.snoc {l : List Nat} {p : Nat} (h : Inc l) (hp : ∀ x ∈ l, x < p) : Inc (l ++ [p]) := by
  unfold Inc
  rw [List.pairwise_append]
  refine ⟨h, List.pairwise_singleton .., fun a ha b hb => ?_⟩
  rw [List.mem_singleton] at hb
  rw [hb]; exact hp a ha
theorem Inc.head {l : List Nat} {a : Nat} (h : Inc (a :: l)) : ∀ x ∈ a :: l, a ≤ x := fun x hx => by
  unfold Inc at h
  rw [List.pairwise_cons] at h
  rcases List.mem_cons.1 hx with rfl | h2
  · exact Nat.le_refl _
  · exact Nat.le_of_lt (h.1 x h2)
theorem Inc.nd {l : List Nat} (h : Inc l) : l.Nodup := h.imp fun h e => by omega

/-- a graph's points need points alone -/
def Gd (E : Nat → List Nat) (n : Nat) : Prop := ∀ p, p < n → ∀ q ∈ E p, q < n
section
variable {E : Nat → List Nat} {n : Nat}
theorem Rch.lt {p q : Nat} (G : Gd E n) (h : Rch E p q) (hp : p < n) : q < n := h.stay (S := fun x => x < n) hp fun x hx y hy => G x hx y hy
def GrpOf (E : Nat → List Nat) (l : List Nat) (p : Nat) : Prop := Inc l ∧ ∀ x, x ∈ l ↔ Rch E p x ∧ Rch E x p
def Rdy (E : Nat → List Nat) (T : Nat → Prop) (p : Nat) : Prop := ∀ x, Rch E p x → Rch E x p ∨ T x
theorem GrpOf.self {l : List Nat} {p : Nat} (h : GrpOf E l p) : p ∈ l := (h.2 p).2 ⟨.refl _, .refl _⟩
theorem GrpOf.uniq {l m : List Nat} {p : Nat} (h : GrpOf E l p) (h' : GrpOf E m p) : l = m := h.1.eq h'.1 fun x => (h.2 x).trans (h'.2 x).symm
theorem GrpOf.move {l : List Nat} {p q : Nat} (h : GrpOf E l p) (hq : q ∈ l) : GrpOf E l q := by
  have h1 := (h.2 q).1 hq
  exact ⟨h.1, fun x => (h.2 x).trans ⟨fun k => ⟨h1.2.trans k.1, k.2.trans h1.1⟩, fun k => ⟨h1.1.trans k.1, k.2.trans h1.2⟩⟩⟩
theorem IsG.at {l : List Nat} (h : IsG E l) {q : Nat} (hq : q ∈ l) : GrpOf E l q := by
  obtain ⟨h1, r, hr, h2⟩ := h
  exact GrpOf.move (p := r) ⟨h1, h2⟩ hq
theorem Rdy.move {T : Nat → Prop} {p q : Nat} (h : Rdy E T p) (h1 : Rch E q p) (h2 : Rch E p q) : Rdy E T q := fun x hx => (h x (h2.trans hx)).imp (fun k => k.trans h2) id
/-- which group comes next -/
def Nxt (E : Nat → List Nat) (n : Nat) (T : Nat → Prop) (l : List Nat) : Prop := ∃ p, p < n ∧ ¬ T p ∧ Rdy E T p ∧ (∀ q, q < p → ¬ T q → ¬ Rdy E T q) ∧ GrpOf E l p
theorem Nxt.uniq {T : Nat → Prop} {l m : List Nat} (h : Nxt E n T l) (h' : Nxt E n T m) : l = m := by
  obtain ⟨p, _, h2, h3, h4, h5⟩ := h
  obtain ⟨q, _, k2, k3, k4, k5⟩ := h'
  have e : p = q := by
    rcases Nat.lt_trichotomy p q with h | h | h
    · exact absurd h3 (k4 p h h2)
    · exact h
    · exact absurd k3 (h4 q h k2)
  subst e
  exact h5.uniq k5
def Tk (L : List (List Nat)) (x : Nat) : Prop := ∃ l ∈ L, x ∈ l
theorem Tk_snoc {L : List (List Nat)} {l : List Nat} {x : Nat} : Tk (L ++ [l]) x ↔ Tk L x ∨ x ∈ l := by
  constructor
  · rintro ⟨m, hm, hx⟩
    rcases List.mem_append.1 hm with h | h
    · exact .inl ⟨m, h, hx⟩
    · rw [List.mem_singleton] at h; exact .inr (h ▸ hx)
  · rintro (⟨m, hm, hx⟩ | h)
    · exact ⟨m, List.mem_append_left _ hm, hx⟩
    · exact ⟨l, List.mem_append_right _ (List.mem_singleton_self _), h⟩
/-- groups, each the next one behind those ahead -/
inductive GL (E : Nat → List Nat) (n : Nat) : List (List Nat) → Prop
  | nil : GL E n []
  | snoc {L : List (List Nat)} {l : List Nat} : GL E n L → Nxt E n (Tk L) l → GL E n (L ++ [l])
def Full (n : Nat) (L : List (List Nat)) : Prop := ∀ p, p < n → Tk L p
/-- what is taken needs what is taken alone -/
theorem GL.clo {L : List (List Nat)} (h : GL E n L) : ∀ x, Tk L x → ∀ y ∈ E x, Tk L y := by
  induction h with
  | nil => rintro x ⟨l, hl, _⟩; cases hl
  | @snoc L l _ hN ih =>
    intro x hx y hy
    rw [Tk_snoc] at hx ⊢
    rcases hx with h | h
    · exact .inl (ih x h y hy)
    · obtain ⟨p, _, _, h3, _, h5⟩ := hN
      have h6 := (h5.2 x).1 h
      rcases h3 y (.step h6.1 hy) with h7 | h7
      · exact .inr ((h5.2 y).2 ⟨.step h6.1 hy, h7⟩)
      · exact .inl h7
theorem GL.lt {L : List (List Nat)} (G : Gd E n) (h : GL E n L) : ∀ x, Tk L x → x < n := by
  induction h with
  | nil => rintro x ⟨l, hl, _⟩; cases hl
  | @snoc L l _ hN ih =>
    intro x hx
    rcases Tk_snoc.1 hx with h | h
    · exact ih x h
    · obtain ⟨p, hp, _, _, _, h5⟩ := hN
      exact ((h5.2 x).1 h).1.lt G hp
/-- a group of points that aren't taken has none that is -/
theorem GL.fresh {L : List (List Nat)} (h : GL E n L) {l : List Nat} {p : Nat} (hl : GrpOf E l p) (hp : ¬ Tk L p) : ∀ x ∈ l, ¬ Tk L x := fun x hx ht => hp (((hl.2 x).1 hx).2.stay (S := Tk L) ht h.clo)
theorem GL.disj {L : List (List Nat)} (h : GL E n L) : L.Pairwise fun a b => ∀ x ∈ a, x ∉ b := by
  induction h with
  | nil => exact .nil
  | @snoc L l hL hN ih =>
    rw [List.pairwise_append]
    refine ⟨ih, List.pairwise_singleton .., fun a ha b hb x hx hxb => ?_⟩
    rw [List.mem_singleton] at hb
    subst hb
    obtain ⟨p, _, h2, _, _, h5⟩ := hN
    exact hL.fresh h5 h2 x hxb ⟨a, ha, hx⟩
/-- one is the other's beginning -/
theorem GL.pre {L M : List (List Nat)} (h : GL E n L) (k : GL E n M) : (∃ R, M = L ++ R) ∨ ∃ R, L = M ++ R := by
  induction h with
  | nil => exact .inl ⟨M, rfl⟩
  | @snoc L l hL hN ih =>
    rcases ih with ⟨R, rfl⟩ | ⟨R, rfl⟩
    · cases R with
      | nil => exact .inr ⟨[l], by simp⟩
      | cons m R =>
        refine .inl ⟨R, ?_⟩
        have key : ∀ {X : List (List Nat)}, GL E n X → ∀ (A R : List (List Nat)) (m : List Nat), X = A ++ m :: R → Nxt E n (Tk A) m := by
          intro X hX
          induction hX with
          | nil => intro A R m e; cases A <;> cases e
          | @snoc X x hX hx ih =>
            intro A R m e
            rcases List.eq_nil_or_concat R with rfl | ⟨R', y, rfl⟩
            · have := List.append_inj' e rfl
              rw [← this.1]
              have h2 := this.2
              simp only [List.cons.injEq, and_true] at h2
              rw [← h2]; exact hx
            · rw [List.concat_eq_append] at e
              have e2 : A ++ m :: (R' ++ [y]) = (A ++ m :: R') ++ [y] := by simp
              rw [e2] at e
              exact ih A R' m (List.append_inj' e rfl).1
        have := key k L R m rfl
        rw [hN.uniq this]; simp
    · exact .inr ⟨R ++ [l], by simp⟩
theorem GL.uniq {L M : List (List Nat)} (G : Gd E n) (h : GL E n L) (k : GL E n M) (f : Full n L) (g : Full n M) : L = M := by
  have key : ∀ {A R : List (List Nat)}, GL E n (A ++ R) → Full n A → R = [] := by
    intro A R hA hf
    cases R with
    | nil => rfl
    | cons m R =>
      exfalso
      have hd := hA.disj
      have : ∀ {X : List (List Nat)}, GL E n X → ∀ l ∈ X, ∃ p ∈ l, p < n := by
        intro X hX
        induction hX with
        | nil => intro l hl; cases hl
        | snoc _ hN ih =>
          intro l hl
          rcases List.mem_append.1 hl with h | h
          · exact ih l h
          · rw [List.mem_singleton] at h
            obtain ⟨p, hp, _, _, _, h5⟩ := hN
            exact ⟨p, by rw [h]; exact h5.self, hp⟩
      obtain ⟨p, hp, hpn⟩ := this hA m (List.mem_append_right _ (List.mem_cons_self ..))
      obtain ⟨l, hl, hx⟩ := hf p hpn
      rw [List.pairwise_append] at hd
      exact hd.2.2 l hl m (List.mem_cons_self ..) p hx hp
  rcases h.pre k with ⟨R, rfl⟩ | ⟨R, rfl⟩
  · rw [key k f, List.append_nil]
  · rw [key h g, List.append_nil]

/-- where not all is taken, some point is ready -/
theorem ready_ex (G : Gd E n) {T : Nat → Prop} (hT : ∃ p, p < n ∧ ¬ T p) : ∃ p, p < n ∧ ¬ T p ∧ Rdy E T p := by
  have ex : ∃ c, ∃ p, p < n ∧ ¬ T p ∧ cntP (Rch E p) n = c := by
    obtain ⟨p, h1, h2⟩ := hT
    exact ⟨_, p, h1, h2, rfl⟩
  obtain ⟨p, h1, h2, h3⟩ := leastN_spec ex
  refine ⟨p, h1, h2, fun x hx => ?_⟩
  by_cases ht : T x
  · exact .inr ht
  · refine .inl ?_
    by_cases hxp : Rch E x p
    · exact hxp
    · exfalso
      have hle := leastN_le (p := fun c => ∃ p, p < n ∧ ¬ T p ∧ cntP (Rch E p) n = c) ⟨x, hx.lt G h1, ht, rfl⟩
      have := cntP_lt (S := Rch E x) (T := Rch E p) (n := n) (fun y _ hy => hx.trans hy) h1 hxp (.refl p)
      omega
/-- the parts of a graph, by their first points -/
structure Parts (E : Nat → List Nat) (n : Nat) (L : List (List Nat)) : Prop where
  g : ∀ l ∈ L, IsG E l
  dis : L.Pairwise fun a b => ∀ x ∈ a, x ∉ b
  all : ∀ p, p < n → Tk L p
  lt : ∀ p, Tk L p → p < n
def hd (l : List Nat) : Nat := l.headD 0
theorem hd_mem {l : List Nat} (h : IsG E l) : hd l ∈ l ∧ ∀ x ∈ l, hd l ≤ x := by
  obtain ⟨h1, r, hr, _⟩ := h
  cases l with
  | nil => cases hr
  | cons a l => exact ⟨List.mem_cons_self .., fun x hx => h1.head x hx⟩
/-- a part all of whose needs are taken is the next one, if no part ahead is -/
theorem Parts.nxt {L out : List (List Nat)} (P : Parts E n L) (hs : L.Pairwise fun a b => hd a < hd b) (hO : GL E n out) {i : Nat} {l : List Nat} (hi : L[i]? = some l) (hnt : ¬ Tk out (hd l))
    (hr : ∀ p ∈ l, ∀ q ∈ E p, q ∈ l ∨ Tk out q) (hmin : ∀ j m, j < i → L[j]? = some m → Tk out (hd m) ∨ ∃ p ∈ m, ∃ q ∈ E p, q ∉ m ∧ ¬ Tk out q) : Nxt E n (Tk out) l := by
  have hl := P.g l (List.mem_of_getElem? hi)
  obtain ⟨hd1, hd2⟩ := hd_mem hl
  refine ⟨hd l, P.lt _ ⟨l, List.mem_of_getElem? hi, hd1⟩, hnt, ?_, ?_, hl.at hd1⟩
  · intro x hx
    have := hx.stay (S := fun x => x ∈ l ∨ Tk out x) (.inl hd1) fun y hy z hz => hy.elim (fun h => hr y h z hz) fun h => .inr (hO.clo y h z hz)
    exact this.imp (fun h => (((hl.at hd1).2 x).1 h).2) id
  · intro q hq hqt hqr
    obtain ⟨m, hm, hqm⟩ := P.all q (Nat.lt_trans hq (P.lt _ ⟨l, List.mem_of_getElem? hi, hd1⟩))
    obtain ⟨j, hj⟩ := List.getElem?_of_mem hm
    have hmG := P.g m hm
    obtain ⟨hm1, hm2⟩ := hd_mem hmG
    have hq2 := hm2 q hqm
    have hji : j < i := by
      rcases Nat.lt_trichotomy j i with h | h | h
      · exact h
      · subst h
        rw [hi] at hj
        cases hj
        omega
      · have h1 := (List.getElem?_eq_some_iff.1 hi)
        have h2 := (List.getElem?_eq_some_iff.1 hj)
        have h3 := List.pairwise_iff_getElem.1 hs i j h1.1 h2.1 h
        rw [h1.2, h2.2] at h3
        omega
    have hmq := hmG.at hqm
    have fr := hO.fresh hmq hqt
    rcases hmin j m hji hj with h | ⟨p, hp, y, hy, h1, h2⟩
    · exact fr _ hm1 h
    · have hqp := (hmq.2 p).1 hp
      rcases hqr y (.step hqp.1 hy) with h3 | h3
      · exact h1 ((hmq.2 y).2 ⟨.step hqp.1 hy, h3⟩)
      · exact h2 h3
/-- where no part is left that is ready, all is taken -/
theorem Parts.full {L out : List (List Nat)} (G : Gd E n) (P : Parts E n L) (hO : GL E n out) (hno : ∀ m ∈ L, Tk out (hd m) ∨ ∃ p ∈ m, ∃ q ∈ E p, q ∉ m ∧ ¬ Tk out q) : Full n out := by
  intro p hp
  by_cases h : Tk out p
  · exact h
  · exfalso
    obtain ⟨q, h1, h2, h3⟩ := ready_ex G ⟨p, hp, h⟩
    obtain ⟨m, hm, hqm⟩ := P.all q h1
    have hmq := (P.g m hm).at hqm
    have fr := hO.fresh hmq h2
    rcases hno m hm with h4 | ⟨x, hx, y, hy, h5, h6⟩
    · exact fr _ (hd_mem (P.g m hm)).1 h4
    · have hqx := (hmq.2 x).1 hx
      rcases h3 y (.step hqx.1 hy) with h7 | h7
      · exact h5 ((hmq.2 y).2 ⟨.step hqx.1 hy, h7⟩)
      · exact h6 h7
end
end Gr
end Xe
