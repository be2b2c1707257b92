/- The plain law of the groups of a graph: points that are left, groups that are closed. -/
import Derived.Test.YtkghjecglmmloaaGT
namespace Xe
namespace Gr
section
variable {E : Nat → List Nat} {n : Nat} {s : TS}

/-- the top frame is left, its group isn't closed -/
theorem TI.drop (I : TI E n s) {p d : Nat} {r : List (Nat × Nat)} (e : s.st = (p, d) :: r) (hd : (E p).length ≤ d) (hlow : s.low p < s.num p) (hpar : ∀ f r', r = f :: r' → s.low f.1 ≤ s.low p) : TI E n { s with st := r } := by
  have hp : (p, d) ∈ s.st := by rw [e]; exact List.mem_cons_self ..
  have hr : ∀ f ∈ r, f ∈ s.st := fun f h => by rw [e]; exact List.mem_cons_of_mem _ h
  have hpo := (I.sto _ hp).1
  have hdec := I.dec
  rw [e, List.pairwise_cons] at hdec
  have hcs : ∀ f ∈ s.st, f = (p, d) ∨ f ∈ r := fun f h => by rw [e] at h; exact List.mem_cons.1 h
  obtain ⟨f0, r', hr0⟩ : ∃ f0 r', r = f0 :: r' := by
    obtain ⟨_, u, hu, h2, _⟩ := I.l1 p hpo
    obtain ⟨f, hf, hle⟩ := I.i6 u hu
    rcases hcs f hf with rfl | h3
    · have : s.num p ≤ s.num u := hle
      omega
    · cases r with
      | nil => cases h3
      | cons f0 r' => exact ⟨f0, r', rfl⟩
  have h00 : f0 ∈ r := by rw [hr0]; exact List.mem_cons_self ..
  have hmax : ∀ f ∈ r, s.num f.1 ≤ s.num f0.1 := fun f h => by
    have := hdec.2
    rw [hr0, List.pairwise_cons] at this
    rw [hr0] at h
    rcases List.mem_cons.1 h with rfl | h2
    · exact Nat.le_refl _
    · exact Nat.le_of_lt (this.1 f h2)
  have hf0 : s.num f0.1 < s.num p := hdec.1 f0 h00
  have hpl := hpar f0 r' hr0
  have same : ∀ f ∈ r, s.num f0.1 ≤ s.num f.1 → f.1 = f0.1 := fun f h hle => I.inj (I.sto f (hr f h)).1 (I.sto f0 (hr f0 h00)).1 (by have := hmax f h; omega)
  exact {
    lt := I.lt, z := I.z, nx := I.nx, cnt := I.cnt, inc := I.inc, pos := I.pos, met := I.met, cl0 := I.cl0, clE := I.clE, grp := I.grp, dis := I.dis, l1 := I.l1
    dec := hdec.2
    sto := fun f h => I.sto f (hr f h)
    i1 := fun f h => I.i1 f (hr f h)
    l2 := fun v hv hs => by
      by_cases ev : v = p
      · rw [ev]; exact hlow
      · exact I.l2 v hv fun f hf => by
          rcases hcs f hf with rfl | h
          · exact fun e => ev e.symm
          · exact hs f h
    l4 := fun u hu hs f hf hle hmx => by
      show s.low f.1 ≤ s.low u
      by_cases eu : u = p
      · rw [same f hf (hmx f0 h00 (by rw [eu]; exact Nat.le_of_lt hf0)), eu]; exact hpl
      · have hoff : ∀ f ∈ s.st, f.1 ≠ u := fun f hf => by
          rcases hcs f hf with rfl | h
          · exact fun e => eu e.symm
          · exact hs f h
        by_cases hpu : s.num p ≤ s.num u
        · have h1 := I.l4 u hu hoff (p, d) hp hpu fun f' hf' _ => by
            rcases hcs f' hf' with rfl | h
            · exact Nat.le_refl _
            · exact Nat.le_of_lt (hdec.1 f' h)
          have h2 : f.1 = f0.1 := same f hf (hmx f0 h00 (show s.num f0.1 ≤ s.num u by omega))
          rw [h2]
          exact Nat.le_trans hpl h1
        · refine I.l4 u hu hoff f (hr f hf) hle fun f' hf' hle' => ?_
          rcases hcs f' hf' with rfl | h
          · exact absurd hle' hpu
          · exact hmx f' h hle'
    l5 := fun f h => I.l5 f (hr f h)
    l5' := fun v hv hs w hw => by
      by_cases ev : v = p
      · rw [ev] at hw ⊢
        exact I.l5 (p, d) hp w (by rw [List.take_of_length_le hd]; exact hw)
      · exact I.l5' v hv (fun f hf => by
          rcases hcs f hf with rfl | h
          · exact fun e => ev e.symm
          · exact hs f h) w hw
    i6 := fun u hu => by
      obtain ⟨f, hf, hle⟩ := I.i6 u hu
      rcases hcs f hf with rfl | h
      · have h3 : s.num p ≤ s.num u := hle
        exact ⟨f0, h00, Nat.le_trans (Nat.le_of_lt hf0) h3⟩
      · exact ⟨f, h, hle⟩ }

/-- the parent may take the low number of a point that is left -/
theorem TI.par (I : TI E n s) {p d p' d' : Nat} {r : List (Nat × Nat)} (e : s.st = (p, d) :: (p', d') :: r) : TI E n (s.lower p' (s.low p)) := by
  have hp : (p, d) ∈ s.st := by rw [e]; exact List.mem_cons_self ..
  have hp' : (p', d') ∈ s.st := by rw [e]; exact List.mem_cons_of_mem _ (List.mem_cons_self ..)
  obtain ⟨_, u, hu, h2, h3⟩ := I.l1 p (I.sto _ hp).1
  have hdec := I.dec
  rw [e, List.pairwise_cons] at hdec
  have h4 := hdec.1 (p', d') (List.mem_cons_self ..)
  exact I.lower ⟨_, hp', rfl⟩ hu h2 ((I.i1 _ hp' p (I.sto _ hp).1 (Nat.le_of_lt h4)).trans h3)

/-- the top frame is left, its group is closed -/
theorem TI.close (I : TI E n s) {p d : Nat} {r : List (Nat × Nat)} {o1 o2 g : List Nat} (e : s.st = (p, d) :: r) (hd : (E p).length ≤ d) (hlow : s.num p ≤ s.low p) (ho : s.opn = o1 ++ p :: o2) (hg : Inc g) (hgm : ∀ x, x ∈ g ↔ x ∈ p :: o2) :
    TI E n { s with opn := o1, grp := s.grp ++ [g], st := r } := by
  have hp : (p, d) ∈ s.st := by rw [e]; exact List.mem_cons_self ..
  have hr : ∀ f ∈ r, f ∈ s.st := fun f h => by rw [e]; exact List.mem_cons_of_mem _ h
  have hpo := (I.sto _ hp).1
  have hdec := I.dec
  rw [e, List.pairwise_cons] at hdec
  have hcs : ∀ f ∈ s.st, f = (p, d) ∨ f ∈ r := fun f h => by rw [e] at h; exact List.mem_cons.1 h
  have hinc := I.inc
  rw [ho, List.pairwise_append, List.pairwise_cons] at hinc
  obtain ⟨i1, ⟨i2, i3⟩, i4⟩ := hinc
  have h1 : ∀ x ∈ o1, s.num x < s.num p := fun x hx => i4 x hx p (List.mem_cons_self ..)
  have hC : ∀ x, x ∈ p :: o2 → x ∈ s.opn ∧ s.num p ≤ s.num x := fun x hx => by
    refine ⟨by rw [ho]; exact List.mem_append_right _ hx, ?_⟩
    rcases List.mem_cons.1 hx with rfl | h
    · exact Nat.le_refl _
    · exact Nat.le_of_lt (i2 x h)
  have hC' : ∀ x, x ∈ s.opn → s.num p ≤ s.num x → x ∈ p :: o2 := fun x hx hle => by
    rw [ho] at hx
    rcases List.mem_append.1 hx with h | h
    · have := h1 x h; omega
    · exact h
  have hO : ∀ x, x ∈ o1 ↔ x ∈ s.opn ∧ s.num x < s.num p := fun x => by
    constructor
    · intro h; exact ⟨by rw [ho]; exact List.mem_append_left _ h, h1 x h⟩
    · rintro ⟨h, hl⟩
      rw [ho] at h
      rcases List.mem_append.1 h with h2 | h2
      · exact h2
      · have := (hC x h2).2; omega
  have top : ∀ f' ∈ s.st, s.num f'.1 ≤ s.num p := fun f' hf' => by
    rcases hcs f' hf' with rfl | h
    · exact Nat.le_refl _
    · exact Nat.le_of_lt (hdec.1 f' h)
  have off : ∀ x, x ∈ p :: o2 → x ≠ p → ∀ f ∈ s.st, f.1 ≠ x := fun x hx hxp f hf hfx => by
    have h2 := top f hf
    rw [hfx] at h2
    exact hxp (I.inj (hC x hx).1 hpo (by have := (hC x hx).2; omega))
  have low4 : ∀ x, x ∈ p :: o2 → s.num p ≤ s.low x := fun x hx => by
    by_cases exp : x = p
    · rw [exp]; exact hlow
    · exact Nat.le_trans hlow (I.l4 x (hC x hx).1 (off x hx exp) (p, d) hp (hC x hx).2 fun f' hf' _ => top f' hf')
  -- each reaches the point
  have back : ∀ (k : Nat) x, x ∈ p :: o2 → s.num x ≤ k → Rch E x p := by
    intro k
    induction k using Nat.strongRecOn with
    | _ k ih =>
      intro x hx hk
      by_cases exp : x = p
      · rw [exp]; exact .refl _
      · have hlt := I.l2 x (hC x hx).1 (off x hx exp)
        obtain ⟨_, u, hu, h2, h3⟩ := I.l1 x (hC x hx).1
        have hge := low4 x hx
        exact h3.trans (ih (s.num u) (by omega) u (hC' u hu (by omega)) (Nat.le_refl _))
  have fwd : ∀ x, x ∈ p :: o2 → Rch E p x := fun x hx => I.i1 (p, d) hp x (hC x hx).1 (hC x hx).2
  -- what they need is among them, or closed
  have clo : ∀ x, x ∈ p :: o2 → ∀ w ∈ E x, w ∈ p :: o2 ∨ ClB s w := fun x hx w hw => by
    have h5 : s.num w ≠ 0 ∧ (w ∈ s.opn → s.low x ≤ s.num w) := by
      by_cases exp : x = p
      · rw [exp] at hw ⊢
        exact I.l5 (p, d) hp w (by rw [List.take_of_length_le hd]; exact hw)
      · exact I.l5' x (hC x hx).1 (off x hx exp) w hw
    rcases I.met w h5.1 with h | h
    · exact .inl (hC' w h (Nat.le_trans (low4 x hx) (h5.2 h)))
    · exact .inr h
  have scc : ∀ x, x ∈ p :: o2 ↔ Rch E p x ∧ Rch E x p := fun x => by
    constructor
    · exact fun hx => ⟨fwd x hx, back _ x hx (Nat.le_refl _)⟩
    · rintro ⟨ha, hb⟩
      rcases ha.stay (S := fun x => x ∈ p :: o2 ∨ ClB s x) (.inl (List.mem_cons_self ..)) (fun y hy w hw => hy.elim (fun h => clo y h w hw) fun h => .inr (I.clE y h w hw)) with h | h
      · exact h
      · exact absurd hpo (I.cl0 p (hb.stay (S := ClB s) h I.clE)).2
  have hcl : ∀ x, ClB { s with opn := o1, grp := s.grp ++ [g], st := r } x ↔ ClB s x ∨ x ∈ p :: o2 := fun x => by
    constructor
    · rintro ⟨l, hl, hx⟩
      rcases List.mem_append.1 hl with h | h
      · exact .inl ⟨l, h, hx⟩
      · rw [List.mem_singleton] at h; exact .inr ((hgm x).1 (h ▸ hx))
    · rintro (⟨l, hl, hx⟩ | h)
      · exact ⟨l, List.mem_append_left _ hl, hx⟩
      · exact ⟨g, List.mem_append_right _ (List.mem_singleton_self _), (hgm x).2 h⟩
  have offr : ∀ v ∈ o1, (∀ f ∈ r, f.1 ≠ v) → ∀ f ∈ s.st, f.1 ≠ v := fun v hv hs f hf => by
    rcases hcs f hf with rfl | h
    · intro h2
      have := h1 v hv
      rw [← h2] at this
      exact Nat.lt_irrefl _ this
    · exact hs f h
  have sub : ∀ v ∈ o1, v ∈ s.opn := fun v hv => ((hO v).1 hv).1
  exact {
    lt := I.lt, z := I.z, nx := I.nx, cnt := I.cnt
    inc := i1
    pos := fun v hv => I.pos v (sub v hv)
    met := fun x hx => by
      rcases I.met x hx with h | h
      · by_cases hlt : s.num x < s.num p
        · exact .inl ((hO x).2 ⟨h, hlt⟩)
        · exact .inr ((hcl x).2 (.inr (hC' x h (by omega))))
      · exact .inr ((hcl x).2 (.inl h))
    cl0 := fun x hx => by
      rcases (hcl x).1 hx with h | h
      · exact ⟨(I.cl0 x h).1, fun hm => (I.cl0 x h).2 (sub x hm)⟩
      · exact ⟨I.pos x (hC x h).1, fun hm => by have := h1 x hm; have := (hC x h).2; omega⟩
    clE := fun x hx w hw => by
      rcases (hcl x).1 hx with h | h
      · exact (hcl w).2 (.inl (I.clE x h w hw))
      · exact (hcl w).2 ((clo x h w hw).symm)
    grp := fun l hl => by
      rcases List.mem_append.1 hl with h | h
      · exact I.grp l h
      · rw [List.mem_singleton] at h
        rw [h]
        exact ⟨hg, p, (hgm p).2 (List.mem_cons_self ..), fun x => (hgm x).trans (scc x)⟩
    dis := by
      show (s.grp ++ [g]).Pairwise _
      rw [List.pairwise_append]
      refine ⟨I.dis, List.pairwise_singleton .., fun a ha b hb x hx hxb => ?_⟩
      rw [List.mem_singleton] at hb
      exact (I.cl0 x ⟨a, ha, hx⟩).2 (hC x ((hgm x).1 (hb ▸ hxb))).1
    dec := hdec.2
    sto := fun f h => ⟨(hO f.1).2 ⟨(I.sto f (hr f h)).1, hdec.1 f h⟩, (I.sto f (hr f h)).2⟩
    i1 := fun f h u hu => I.i1 f (hr f h) u (sub u hu)
    l1 := fun v hv => by
      obtain ⟨h2, u, hu, h3, h4⟩ := I.l1 v (sub v hv)
      exact ⟨h2, u, (hO u).2 ⟨hu, by have := h1 v hv; omega⟩, h3, h4⟩
    l2 := fun v hv hs => I.l2 v (sub v hv) (offr v hv hs)
    l4 := fun u hu hs f hf hle hmx => I.l4 u (sub u hu) (offr u hu hs) f (hr f hf) hle fun f' hf' hle' => by
      rcases hcs f' hf' with rfl | h
      · have := h1 u hu
        have h9 : s.num p ≤ s.num u := hle'
        omega
      · exact hmx f' h hle'
    l5 := fun f h w hw => ⟨(I.l5 f (hr f h) w hw).1, fun hm => (I.l5 f (hr f h) w hw).2 (sub w hm)⟩
    l5' := fun v hv hs w hw => ⟨(I.l5' v (sub v hv) (offr v hv hs) w hw).1, fun hm => (I.l5' v (sub v hv) (offr v hv hs) w hw).2 (sub w hm)⟩
    i6 := fun u hu => by
      obtain ⟨f, hf, hle⟩ := I.i6 u (sub u hu)
      rcases hcs f hf with rfl | h
      · have := h1 u hu
        have h9 : s.num p ≤ s.num u := hle
        omega
      · exact ⟨f, h, hle⟩ }

/-- behind a closing, the parent's low number stays -/
theorem TI.par_same (I : TI E n s) {p d : Nat} {r : List (Nat × Nat)} (e : s.st = (p, d) :: r) (hlow : s.num p ≤ s.low p) {f : Nat × Nat} (hf : f ∈ r) : min (s.low f.1) (s.low p) = s.low f.1 := by
  have hdec := I.dec
  rw [e, List.pairwise_cons] at hdec
  have h1 := hdec.1 f hf
  have h2 := (I.l1 f.1 (I.sto f (by rw [e]; exact List.mem_cons_of_mem _ hf)).1).1
  have h3 : s.num f.1 < s.num p := h1
  omega

def ts0 : TS := ⟨fun _ => 0, fun _ => 0, [], [], [], 1⟩
theorem sumR_one : ∀ n, sumR (fun _ => 1) n = n
  | 0 => rfl
  | n + 1 => by rw [sumR, sumR_one n]
theorem TI.start : TI E n ts0 := by
  constructor
  case cnt => show 1 + sumR (fun p => if (0 : Nat) = 0 then 1 else 0) n = n + 1; simp only [if_true]; rw [sumR_one]; omega
  all_goals simp [ts0, ClB]

theorem TI.rest (I : TI E n s) (h : s.st = []) : s.opn = [] := by
  cases ho : s.opn with
  | nil => rfl
  | cons u l =>
    obtain ⟨f, hf, _⟩ := I.i6 u (by rw [ho]; exact List.mem_cons_self ..)
    rw [h] at hf; cases hf

/-- how much there is left to walk -/
def tm (E : Nat → List Nat) (n : Nat) (s : TS) : Nat := sumR (fun p => if s.num p = 0 then (E p).length + 2 else 0) n + (s.st.map fun f => (E f.1).length - f.2 + 1).sum
theorem tm_meet (hx : 0 < s.nxt) {q : Nat} (hq : q < n) (h0 : s.num q = 0) : tm E n (s.meet q) + 1 = tm E n s := by
  have h1 := sumR_upd (f := fun p => if s.num p = 0 then (E p).length + 2 else 0) (g := fun p => if (s.meet q).num p = 0 then (E p).length + 2 else 0) hq (fun i _ hi => by
    have : (s.meet q).num i = s.num i := upd_ne hi
    simp only [this])
  have nq : (s.meet q).num q = s.nxt := upd_same
  have hz : ¬ s.nxt = 0 := by omega
  simp only [nq, h0, if_true, hz, if_false] at h1
  have h2 : ((s.meet q).st.map fun f => (E f.1).length - f.2 + 1).sum = (E q).length + 1 + (s.st.map fun f => (E f.1).length - f.2 + 1).sum := by
    show (((q, 0) :: s.st).map fun f => (E f.1).length - f.2 + 1).sum = _
    rw [List.map_cons, List.sum_cons]; rfl
  unfold tm
  rw [h2]
  omega
theorem tm_lower {p v : Nat} : tm E n (s.lower p v) = tm E n s := rfl
theorem tm_edge {p d : Nat} {r : List (Nat × Nat)} (e : s.st = (p, d) :: r) (hd : d < (E p).length) : tm E n { s with st := (p, d + 1) :: r } + 1 = tm E n s := by
  unfold tm
  rw [e]
  simp only [List.map_cons, List.sum_cons]
  omega
theorem tm_drop {p d : Nat} {r : List (Nat × Nat)} {o : List Nat} {g : List (List Nat)} (e : s.st = (p, d) :: r) : tm E n { s with opn := o, grp := g, st := r } < tm E n s := by
  unfold tm
  rw [e]
  simp only [List.map_cons, List.sum_cons]
  omega
end
end Gr
end Xe
