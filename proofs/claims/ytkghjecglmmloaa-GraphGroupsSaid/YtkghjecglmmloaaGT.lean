/- The plain law of the groups of a graph: a walk that keeps numbers and low numbers finds them. -/
import Derived.Test.YtkghjecglmmloaaSl2
namespace Xe
namespace Gr

/-- reaches -/
inductive Rch (E : Nat → List Nat) : Nat → Nat → Prop
  | refl (p : Nat) : Rch E p p
  | step {p q r : Nat} : Rch E p q → r ∈ E q → Rch E p r
section
variable {E : Nat → List Nat} {p q r : Nat}
theorem Rch.trans (a : Rch E p q) (b : Rch E q r) : Rch E p r := by
  induction b with
  | refl => exact a
  | step _ h ih => exact .step ih h
theorem Rch.one (h : q ∈ E p) : Rch E p q := .step (.refl p) h
/-- what is closed under the edges is not left -/
theorem Rch.stay {S : Nat → Prop} (a : Rch E p q) (hp : S p) (hS : ∀ x, S x → ∀ y ∈ E x, S y) : S q := by
  induction a with
  | refl => exact hp
  | step _ h ih => exact hS _ ih _ h
theorem Rch.head (a : Rch E p q) : p = q ∨ ∃ x ∈ E p, Rch E x q := by
  induction a with
  | refl => exact .inl rfl
  | @step q r _ h ih =>
    rcases ih with rfl | ⟨x, hx, hr⟩
    · exact .inr ⟨r, h, .refl r⟩
    · exact .inr ⟨x, hx, .step hr h⟩
end

/-- a sum over numbers below n -/
def sumR (f : Nat → Nat) : Nat → Nat
  | 0 => 0
  | n + 1 => sumR f n + f n
theorem sumR_cong {f g : Nat → Nat} : ∀ {n : Nat}, (∀ i, i < n → f i = g i) → sumR f n = sumR g n
  | 0, _ => rfl
  | n + 1, h => by rw [sumR, sumR, sumR_cong (fun i hi => h i (by omega)), h n (by omega)]
theorem sumR_upd {f g : Nat → Nat} {q : Nat} : ∀ {n : Nat}, q < n → (∀ i, i < n → i ≠ q → g i = f i) → sumR g n + f q = sumR f n + g q
  | 0, h, _ => by omega
  | n + 1, h, hg => by
    rw [sumR, sumR]
    by_cases e : q = n
    · subst e
      have := sumR_cong (f := g) (g := f) (n := q) (fun i hi => hg i (by omega) (by omega))
      omega
    · have := sumR_upd (f := f) (g := g) (n := n) (q := q) (by omega) (fun i hi => hg i (by omega))
      have := hg n (by omega) (by omega)
      omega

/-- the walker's state: numbers, low numbers, what is open, the groups, the frames (the last one ahead), the next number -/
structure TS where
  num : Nat → Nat
  low : Nat → Nat
  opn : List Nat
  grp : List (List Nat)
  st : List (Nat × Nat)
  nxt : Nat
def upd (f : Nat → Nat) (p v : Nat) : Nat → Nat := fun x => if x = p then v else f x
theorem upd_same {f : Nat → Nat} {p v : Nat} : upd f p v p = v := if_pos rfl
theorem upd_ne {f : Nat → Nat} {p v x : Nat} (h : x ≠ p) : upd f p v x = f x := if_neg h
def TS.meet (s : TS) (q : Nat) : TS := { s with num := upd s.num q s.nxt, low := upd s.low q s.nxt, opn := s.opn ++ [q], st := (q, 0) :: s.st, nxt := s.nxt + 1 }
def TS.lower (s : TS) (p v : Nat) : TS := { s with low := upd s.low p (min (s.low p) v) }
def ClB (s : TS) (p : Nat) : Prop := ∃ l ∈ s.grp, p ∈ l

/-- rising -/
def Inc (l : List Nat) : Prop := l.Pairwise (· < ·)
/-- a group: those that reach one of it and are reached by it -/
def IsG (E : Nat → List Nat) (l : List Nat) : Prop := Inc l ∧ ∃ r ∈ l, ∀ x, x ∈ l ↔ Rch E r x ∧ Rch E x r

structure TI (E : Nat → List Nat) (n : Nat) (s : TS) : Prop where
  lt : ∀ p, s.num p ≠ 0 → p < n
  z : ∀ p, s.num p = 0 → s.low p = 0
  nx : ∀ p, s.num p < s.nxt
  cnt : s.nxt + sumR (fun p => if s.num p = 0 then 1 else 0) n = n + 1
  inc : s.opn.Pairwise (fun a b => s.num a < s.num b)
  pos : ∀ p ∈ s.opn, s.num p ≠ 0
  met : ∀ p, s.num p ≠ 0 → p ∈ s.opn ∨ ClB s p
  cl0 : ∀ p, ClB s p → s.num p ≠ 0 ∧ p ∉ s.opn
  clE : ∀ p, ClB s p → ∀ q ∈ E p, ClB s q
  grp : ∀ l ∈ s.grp, IsG E l
  dis : s.grp.Pairwise (fun a b => ∀ x ∈ a, x ∉ b)
  dec : s.st.Pairwise (fun a b => s.num b.1 < s.num a.1)
  sto : ∀ f ∈ s.st, f.1 ∈ s.opn ∧ f.2 ≤ (E f.1).length
  i1 : ∀ f ∈ s.st, ∀ u ∈ s.opn, s.num f.1 ≤ s.num u → Rch E f.1 u
  l1 : ∀ v ∈ s.opn, s.low v ≤ s.num v ∧ ∃ u ∈ s.opn, s.num u = s.low v ∧ Rch E v u
  l2 : ∀ v ∈ s.opn, (∀ f ∈ s.st, f.1 ≠ v) → s.low v < s.num v
  l4 : ∀ u ∈ s.opn, (∀ f ∈ s.st, f.1 ≠ u) → ∀ f ∈ s.st, s.num f.1 ≤ s.num u → (∀ f' ∈ s.st, s.num f'.1 ≤ s.num u → s.num f'.1 ≤ s.num f.1) → s.low f.1 ≤ s.low u
  l5 : ∀ f ∈ s.st, ∀ w ∈ (E f.1).take f.2, s.num w ≠ 0 ∧ (w ∈ s.opn → s.low f.1 ≤ s.num w)
  l5' : ∀ v ∈ s.opn, (∀ f ∈ s.st, f.1 ≠ v) → ∀ w ∈ E v, s.num w ≠ 0 ∧ (w ∈ s.opn → s.low v ≤ s.num w)
  i6 : ∀ u ∈ s.opn, ∃ f ∈ s.st, s.num f.1 ≤ s.num u

section
variable {E : Nat → List Nat} {n : Nat} {s : TS}
/-- open points with like numbers are one -/
theorem TI.inj (I : TI E n s) {a b : Nat} (ha : a ∈ s.opn) (hb : b ∈ s.opn) (e : s.num a = s.num b) : a = b := by
  have key : ∀ l : List Nat, l.Pairwise (fun a b => s.num a < s.num b) → a ∈ l → b ∈ l → a = b := by
    intro l
    induction l with
    | nil => intro _ h; cases h
    | cons x l ih =>
      intro hp h1 h2
      rw [List.pairwise_cons] at hp
      rcases List.mem_cons.1 h1 with rfl | h1'
      · rcases List.mem_cons.1 h2 with rfl | h2'
        · rfl
        · have := hp.1 b h2'; omega
      · rcases List.mem_cons.1 h2 with rfl | h2'
        · have := hp.1 a h1'; omega
        · exact ih hp.2 h1' h2'
  exact key _ I.inc ha hb
theorem TI.nd (I : TI E n s) : s.opn.Nodup := I.inc.imp fun h e => by rw [e] at h; omega

/-- meeting a point that wasn't met: from the top frame by an edge, or from nowhere -/
theorem TI.meet (I : TI E n s) {q : Nat} (hq : q < n) (h0 : s.num q = 0)
    (htop : s.st = [] ∨ ∃ p d r, s.st = (p, d) :: r ∧ q ∈ E p) : TI E n (s.meet q) := by
  have hx : 0 < s.nxt := by have := I.nx q; omega
  have hnq : q ∉ s.opn := fun h => I.pos q h h0
  have nold : ∀ x, x ≠ q → (s.meet q).num x = s.num x := fun x h => upd_ne h
  have nq : (s.meet q).num q = s.nxt := upd_same
  have lold : ∀ x, x ≠ q → (s.meet q).low x = s.low x := fun x h => upd_ne h
  have lq : (s.meet q).low q = s.nxt := upd_same
  have one : ∀ x ∈ s.opn, x ≠ q := fun x h e => hnq (e ▸ h)
  have sne : ∀ f ∈ s.st, f.1 ≠ q := fun f h => one _ (I.sto f h).1
  have hop : ∀ x, x ∈ (s.meet q).opn ↔ x ∈ s.opn ∨ x = q := fun x => by simp [TS.meet]
  have hst : ∀ f, f ∈ (s.meet q).st ↔ f = (q, 0) ∨ f ∈ s.st := fun f => by simp [TS.meet]
  have hcl : ∀ x, ClB (s.meet q) x ↔ ClB s x := fun x => Iff.rfl
  have hnx : (s.meet q).nxt = s.nxt + 1 := rfl
  have hlow : ∀ v ∈ s.opn, s.low v < s.nxt := fun v h => by have := (I.l1 v h).1; have := I.nx v; omega
  constructor
  · intro p hp
    by_cases e : p = q
    · rw [e]; exact hq
    · rw [nold p e] at hp; exact I.lt p hp
  · intro p hp
    by_cases e : p = q
    · rw [e, nq] at hp; omega
    · rw [nold p e] at hp; rw [lold p e]; exact I.z p hp
  · intro p
    rw [hnx]
    by_cases e : p = q
    · rw [e, nq]; omega
    · rw [nold p e]; have := I.nx p; omega
  · have h1 := sumR_upd (f := fun p => if s.num p = 0 then 1 else 0) (g := fun p => if (s.meet q).num p = 0 then 1 else 0) hq (fun i _ hi => by simp only [nold i hi])
    have hz : ¬ s.nxt = 0 := by omega
    simp only [nq, h0, if_true, hz, if_false] at h1
    have := I.cnt
    rw [hnx]; omega
  · show (s.opn ++ [q]).Pairwise _
    rw [List.pairwise_append]
    refine ⟨I.inc.imp_of_mem fun {a b} ha hb h => by rw [nold a (one a ha), nold b (one b hb)]; exact h, List.pairwise_singleton .., fun a ha b hb => ?_⟩
    rw [List.mem_singleton] at hb
    rw [hb, nq, nold a (one a ha)]; exact I.nx a
  · intro p hp
    rcases (hop p).1 hp with h | rfl
    · rw [nold p (one p h)]; exact I.pos p h
    · rw [nq]; omega
  · intro p hp
    by_cases e : p = q
    · exact .inl ((hop p).2 (.inr e))
    · rw [nold p e] at hp
      exact (I.met p hp).imp (fun h => (hop p).2 (.inl h)) id
  · intro p hp
    have h := I.cl0 p hp
    have e : p ≠ q := fun e => h.1 (e ▸ h0)
    exact ⟨by rw [nold p e]; exact h.1, fun hm => ((hop p).1 hm).elim h.2 e⟩
  · exact I.clE
  · exact I.grp
  · exact I.dis
  · show ((q, 0) :: s.st).Pairwise _
    rw [List.pairwise_cons]
    refine ⟨fun f hf => ?_, I.dec.imp_of_mem fun {a b} ha hb h => by rw [nold _ (sne a ha), nold _ (sne b hb)]; exact h⟩
    rw [nq, nold _ (sne f hf)]; exact I.nx _
  · intro f hf
    rcases (hst f).1 hf with rfl | h
    · exact ⟨(hop q).2 (.inr rfl), Nat.zero_le _⟩
    · exact ⟨(hop _).2 (.inl (I.sto f h).1), (I.sto f h).2⟩
  · intro f hf u hu hle
    rcases (hst f).1 hf with rfl | h
    · rcases (hop u).1 hu with h2 | rfl
      · rw [nq, nold u (one u h2)] at hle
        have := I.nx u; omega
      · exact .refl _
    · rcases (hop u).1 hu with h2 | rfl
      · rw [nold _ (sne f h), nold u (one u h2)] at hle
        exact I.i1 f h u h2 hle
      · rcases htop with e | ⟨p, d, r, e, hpq⟩
        · rw [e] at h; cases h
        · have hp : (p, d) ∈ s.st := by rw [e]; exact List.mem_cons_self ..
          have hle2 : s.num f.1 ≤ s.num p := by
            rw [e] at h
            rcases List.mem_cons.1 h with rfl | h3
            · exact Nat.le_refl _
            · have := I.dec; rw [e, List.pairwise_cons] at this; exact Nat.le_of_lt (this.1 f h3)
          exact .step (I.i1 f h p (I.sto _ hp).1 hle2) hpq
  · intro v hv
    rcases (hop v).1 hv with h | rfl
    · obtain ⟨h1, u, hu, h2, h3⟩ := I.l1 v h
      rw [nold v (one v h), lold v (one v h)]
      exact ⟨h1, u, (hop u).2 (.inl hu), by rw [nold u (one u hu)]; exact h2, h3⟩
    · rw [nq, lq]; exact ⟨Nat.le_refl _, v, (hop v).2 (.inr rfl), nq, .refl _⟩
  · intro v hv hs
    rcases (hop v).1 hv with h | rfl
    · rw [nold v (one v h), lold v (one v h)]
      exact I.l2 v h fun f hf => hs f ((hst f).2 (.inr hf))
    · exact absurd rfl (hs (v, 0) ((hst _).2 (.inl rfl)))
  · intro u hu hs f hf hle hmx
    rcases (hop u).1 hu with h | rfl
    · rcases (hst f).1 hf with rfl | h2
      · rw [nq, nold u (one u h)] at hle
        have := I.nx u; omega
      · rw [lold _ (sne f h2), lold u (one u h)]
        rw [nold _ (sne f h2), nold u (one u h)] at hle
        refine I.l4 u h (fun f hf => hs f ((hst f).2 (.inr hf))) f h2 hle fun f' hf' hle' => ?_
        have := hmx f' ((hst f').2 (.inr hf')) (by rw [nold _ (sne f' hf'), nold u (one u h)]; exact hle')
        rwa [nold _ (sne f' hf'), nold _ (sne f h2)] at this
    · exact absurd rfl (hs (u, 0) ((hst _).2 (.inl rfl)))
  · intro f hf w hw
    rcases (hst f).1 hf with rfl | h
    · simp at hw
    · obtain ⟨h1, h2⟩ := I.l5 f h w hw
      have hwq : w ≠ q := fun e => h1 (e ▸ h0)
      rw [nold w hwq, lold _ (sne f h)]
      exact ⟨h1, fun hm => h2 (((hop w).1 hm).elim id fun e => absurd e hwq)⟩
  · intro v hv hs w hw
    rcases (hop v).1 hv with h | rfl
    · obtain ⟨h1, h2⟩ := I.l5' v h (fun f hf => hs f ((hst f).2 (.inr hf))) w hw
      have hwq : w ≠ q := fun e => h1 (e ▸ h0)
      rw [nold w hwq, lold _ (one v h)]
      exact ⟨h1, fun hm => h2 (((hop w).1 hm).elim id fun e => absurd e hwq)⟩
    · exact absurd rfl (hs (v, 0) ((hst _).2 (.inl rfl)))
  · intro u hu
    rcases (hop u).1 hu with h | rfl
    · obtain ⟨f, hf, hle⟩ := I.i6 u h
      exact ⟨f, (hst f).2 (.inr hf), by rw [nold _ (sne f hf), nold u (one u h)]; exact hle⟩
    · exact ⟨(u, 0), (hst _).2 (.inl rfl), Nat.le_refl _⟩

/-- one edge more of the top frame, whose end was met -/
theorem TI.edge (I : TI E n s) {p d q : Nat} {r : List (Nat × Nat)} (e : s.st = (p, d) :: r) (hd : (E p)[d]? = some q) (hq : s.num q ≠ 0 ∧ (q ∈ s.opn → s.low p ≤ s.num q)) :
    TI E n { s with st := (p, d + 1) :: r } := by
  have hd' : d < (E p).length := (List.getElem?_eq_some_iff.1 hd).1
  have hp : (p, d) ∈ s.st := by rw [e]; exact List.mem_cons_self ..
  have hr : ∀ f ∈ r, f ∈ s.st := fun f h => by rw [e]; exact List.mem_cons_of_mem _ h
  have all : ∀ {C : Nat → Prop}, (∀ f ∈ s.st, C f.1) → ∀ f ∈ (p, d + 1) :: r, C f.1 := fun h f hf => by
    rcases List.mem_cons.1 hf with rfl | h2
    · exact h (p, d) hp
    · exact h f (hr f h2)
  have all' : ∀ {C : Nat → Prop}, (∀ f ∈ (p, d + 1) :: r, C f.1) → ∀ f ∈ s.st, C f.1 := fun h f hf => by
    rw [e] at hf
    rcases List.mem_cons.1 hf with rfl | h2
    · exact h (p, d + 1) (List.mem_cons_self ..)
    · exact h f (List.mem_cons_of_mem _ h2)
  have I' := I
  exact {
    lt := I.lt, z := I.z, nx := I.nx, cnt := I.cnt, inc := I.inc, pos := I.pos, met := I.met, cl0 := I.cl0, clE := I.clE, grp := I.grp, dis := I.dis
    dec := by
      have := I.dec
      rw [e, List.pairwise_cons] at this
      show ((p, d + 1) :: r).Pairwise _
      rw [List.pairwise_cons]; exact this
    sto := fun f hf => by
      rcases List.mem_cons.1 hf with rfl | h2
      · exact ⟨(I.sto _ hp).1, hd'⟩
      · exact I.sto f (hr f h2)
    i1 := all (C := fun v => ∀ u ∈ s.opn, s.num v ≤ s.num u → Rch E v u) I.i1
    l1 := I.l1
    l2 := fun v hv hs => I.l2 v hv (all' (C := fun x => x ≠ v) hs)
    l4 := fun u hu hs => all (C := fun v => s.num v ≤ s.num u → (∀ f' ∈ (p, d + 1) :: r, s.num f'.1 ≤ s.num u → s.num f'.1 ≤ s.num v) → s.low v ≤ s.low u)
      (fun f hf hle hmx => I.l4 u hu (all' (C := fun x => x ≠ u) hs) f hf hle (all' (C := fun x => s.num x ≤ s.num u → s.num x ≤ s.num f.1) hmx))
    l5 := fun f hf w hw => by
      rcases List.mem_cons.1 hf with rfl | h2
      · rw [List.take_add_one, hd] at hw
        rcases List.mem_append.1 hw with h3 | h3
        · exact I.l5 _ hp w h3
        · simp at h3; subst h3; exact hq
      · exact I.l5 f (hr f h2) w hw
    l5' := fun v hv hs => I.l5' v hv (all' (C := fun x => x ≠ v) hs)
    i6 := fun u hu => by
      obtain ⟨f, hf, hle⟩ := I.i6 u hu
      rw [e] at hf
      rcases List.mem_cons.1 hf with rfl | h2
      · exact ⟨(p, d + 1), List.mem_cons_self .., hle⟩
      · exact ⟨f, List.mem_cons_of_mem _ h2, hle⟩ }

/-- a low number falls to a number that is reached -/
theorem TI.lower (I : TI E n s) {p v u : Nat} (hp : ∃ f ∈ s.st, f.1 = p) (hu : u ∈ s.opn) (hv : s.num u = v) (hr : Rch E p u) : TI E n (s.lower p v) := by
  obtain ⟨fp, hfp, rfl⟩ := hp
  have hpo := (I.sto _ hfp).1
  have hle : ∀ x, (s.lower fp.1 v).low x ≤ s.low x := fun x => by
    show upd _ _ _ x ≤ _
    by_cases e : x = fp.1
    · rw [e, upd_same]; exact Nat.min_le_left ..
    · rw [upd_ne e]; exact Nat.le_refl _
  have hne : ∀ x, x ≠ fp.1 → (s.lower fp.1 v).low x = s.low x := fun x h => upd_ne h
  exact {
    lt := I.lt, nx := I.nx, cnt := I.cnt, inc := I.inc, pos := I.pos, met := I.met, cl0 := I.cl0, clE := I.clE, grp := I.grp, dis := I.dis, dec := I.dec, sto := I.sto, i1 := I.i1, i6 := I.i6
    z := fun x hx => by have := hle x; have := I.z x hx; omega
    l1 := fun w hw => by
      obtain ⟨h1, u', hu', h2, h3⟩ := I.l1 w hw
      refine ⟨Nat.le_trans (hle w) h1, ?_⟩
      by_cases e : w = fp.1
      · have e2 : (s.lower fp.1 v).low w = min (s.low fp.1) v := by rw [e]; exact upd_same
        rw [e2]
        by_cases hm : s.low fp.1 ≤ v
        · rw [Nat.min_eq_left hm]; exact ⟨u', hu', by rw [← e]; exact h2, h3⟩
        · rw [Nat.min_eq_right (by omega)]; exact ⟨u, hu, hv, by rw [e]; exact hr⟩
      · rw [hne w e]; exact ⟨u', hu', h2, h3⟩
    l2 := fun w hw hs => Nat.lt_of_le_of_lt (hle w) (I.l2 w hw hs)
    l4 := fun w hw hs f hf h1 h2 => by
      rw [hne w (fun e => hs fp hfp e.symm)]
      exact Nat.le_trans (hle _) (I.l4 w hw hs f hf h1 h2)
    l5 := fun f hf w hw => ⟨(I.l5 f hf w hw).1, fun h => Nat.le_trans (hle _) ((I.l5 f hf w hw).2 h)⟩
    l5' := fun x hx hs w hw => ⟨(I.l5' x hx hs w hw).1, fun h => Nat.le_trans (hle _) ((I.l5' x hx hs w hw).2 h)⟩ }
end
end Gr
end Xe
