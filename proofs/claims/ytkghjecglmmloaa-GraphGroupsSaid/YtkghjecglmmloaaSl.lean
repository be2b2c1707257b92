/- Slices of one cell each, their growth; what a piece of code leaves alone. -/
import Derived.Test.YtkghjecglmmloaaTypes
namespace Xe
open Go

/-- blocks that S does not name are as they were -/
structure Fr (S : Nat → Prop) (h h' : Heap) : Prop where
  size : h.size ≤ h'.size
  same : ∀ x, x < h.size → ¬ S x → h'[x]? = h[x]?

theorem Fr.refl (S : Nat → Prop) (h : Heap) : Fr S h h := ⟨Nat.le_refl _, fun _ _ _ => rfl⟩
theorem Fr.trans {S : Nat → Prop} {a b c : Heap} (h1 : Fr S a b) (h2 : Fr S b c) : Fr S a c :=
  ⟨Nat.le_trans h1.size h2.size, fun x hx hs => (h2.same x (Nat.lt_of_lt_of_le hx h1.size) hs).trans (h1.same x hx hs)⟩
theorem Fr.mono {S T : Nat → Prop} {a b : Heap} (h : Fr S a b) (hst : ∀ x, x < a.size → S x → T x) : Fr T a b := ⟨h.size, fun x hx hs => h.same x hx (fun k => hs (hst x hx k))⟩
theorem Fr.set {S : Nat → Prop} {a b : Heap} (h : Fr S a b) {ad : Addr} {v : Value} (hs : S ad.block) : Fr S a (hset b ad v) :=
  ⟨by rw [hset_size]; exact h.size, fun x hx hn => (hset_other (fun e => hn (by rw [e]; exact hs))).trans (h.same x hx hn)⟩
/-- a store into a block that is new -/
theorem Fr.new {S : Nat → Prop} {a b : Heap} (h : Fr S a b) {ad : Addr} {v : Value} (hs : a.size ≤ ad.block) : Fr S a (hset b ad v) :=
  ⟨by rw [hset_size]; exact h.size, fun x hx hn => (hset_other (by omega)).trans (h.same x hx hn)⟩
theorem Fr.push {S : Nat → Prop} {a b : Heap} (h : Fr S a b) {X : Obj} : Fr S a (b.push X) :=
  ⟨by rw [push_size]; exact Nat.le_succ_of_le h.size, fun x hx hn => (push_old (Nat.lt_of_lt_of_le hx h.size)).trans (h.same x hx hn)⟩
theorem Fr.trans' {S T : Nat → Prop} {a b c : Heap} (h1 : Fr S a b) (h2 : Fr T b c) (hst : ∀ x, x < a.size → T x → S x) : Fr S a c :=
  ⟨Nat.le_trans h1.size h2.size, fun x hx hs => (h2.same x (Nat.lt_of_lt_of_le hx h1.size) (fun k => hs (hst x hx k))).trans (h1.same x hx hs)⟩
theorem Fr.cell {S : Nat → Prop} {a b : Heap} (h : Fr S a b) {x o : Nat} (hx : x < a.size) (hs : ¬ S x) : hcell b ⟨x, o, none⟩ = hcell a ⟨x, o, none⟩ := by
  unfold hcell; rw [h.same x hx hs]
theorem Fr.frz {S : Nat → Prop} {a b : Heap} (h : Fr S a b) {x o : Nat} (hx : x < a.size) (hs : ¬ S x) : hfrz b ⟨x, o, none⟩ = hfrz a ⟨x, o, none⟩ := by
  unfold hfrz; rw [h.same x hx hs]
theorem hcell_lt {h : Heap} {x o : Nat} {v : Value} (hc : hcell h ⟨x, o, none⟩ = some v) : x < h.size := by
  unfold hcell at hc
  by_cases hx : x < h.size
  · exact hx
  · simp [Array.getElem?_eq_none (Nat.le_of_not_lt hx)] at hc
theorem hfrz_ge {h : Heap} {x o : Nat} (hx : h.size ≤ x) : hfrz h ⟨x, o, none⟩ = false := by
  unfold hfrz; simp [Array.getElem?_eq_none hx]

theorem add_0 (a : Addr) : a.add 0 = a := by unfold Addr.add; simp
@[go_sem] theorem slice_to {m len cap : Nat} {A : Option Addr} {kd : IntKind} {i : Int} (h0 : 0 ≤ i) (h1 : i ≤ cap) : sliceV (some (m, none)) (.slice A len cap) none (some (.int kd i)) = some (.slice A i.toNat cap) := by
  unfold sliceV boundV
  simp only [Option.bind_some, if_pos (And.intro h0 h1), Option.map_some]
  by_cases hc : cap = 0
  · simp [hc]
  · simp only [hc, if_false]
    cases A <;> simp [add_0]
@[go_sem] theorem slice_all {m len cap : Nat} {A : Option Addr} (h1 : len ≤ cap) : sliceV (some (m, none)) (.slice A len cap) none none = some (.slice A len cap) := by
  unfold sliceV boundV
  simp only [Option.bind_some, Option.map_some]
  by_cases hc : cap = 0
  · simp [hc]
  · simp only [hc, if_false]
    cases A <;> simp [add_0]

/-- the block that a slice stands on -/
def blk (A : Option Addr) (x : Nat) : Prop := ∃ a, A = some a ∧ a.block = x

/-- a slice of one cell each, from its block's head on -/
structure SlAt (h : Heap) (A : Option Addr) (cap : Nat) (vs : List Value) : Prop where
  len : vs.length ≤ cap
  at' : (A = none ∧ cap = 0) ∨ ∃ bk, A = some ⟨bk, 0, none⟩ ∧ bk < h.size ∧ (∀ i, hfrz h ⟨bk, i, none⟩ = false) ∧ (∀ i, i < cap → (hcell h ⟨bk, i, none⟩).isSome = true) ∧ ∀ i v, vs[i]? = some v → hcell h ⟨bk, i, none⟩ = some v

theorem SlAt.nil (h : Heap) : SlAt h none 0 [] := ⟨Nat.le_refl _, .inl ⟨rfl, rfl⟩⟩

theorem SlAt.blk_lt {h : Heap} {A : Option Addr} {cap : Nat} {vs : List Value} (S : SlAt h A cap vs) {x : Nat} (hx : blk A x) : x < h.size := by
  obtain ⟨a, rfl, rfl⟩ := hx
  rcases S.at' with ⟨h1, _⟩ | ⟨bk, h1, h2, _⟩
  · cases h1
  · cases h1; exact h2

theorem SlAt.base {h : Heap} {A : Option Addr} {cap : Nat} {vs : List Value} (S : SlAt h A cap vs) (hv : 0 < vs.length) :
    ∃ bk, A = some ⟨bk, 0, none⟩ ∧ bk < h.size ∧ (∀ i, hfrz h ⟨bk, i, none⟩ = false) ∧ ∀ i v, vs[i]? = some v → hcell h ⟨bk, i, none⟩ = some v := by
  rcases S.at' with ⟨_, h2⟩ | ⟨bk, h1, h2, h3, _, h4⟩
  · have := S.len; omega
  · exact ⟨bk, h1, h2, h3, h4⟩

/-- it stands on while its block is left alone -/
theorem SlAt.keep {h h' : Heap} {A : Option Addr} {cap : Nat} {vs : List Value} (S : SlAt h A cap vs) (hk : ∀ x, blk A x → h'[x]? = h[x]?) (hz : h.size ≤ h'.size) : SlAt h' A cap vs := by
  refine ⟨S.len, ?_⟩
  rcases S.at' with h1 | ⟨bk, h1, h2, h3, h4, h5⟩
  · exact .inl h1
  · have e := hk bk ⟨_, h1, rfl⟩
    refine .inr ⟨bk, h1, Nat.lt_of_lt_of_le h2 hz, fun i => ?_, fun i hi => ?_, fun i v hv => ?_⟩
    · rw [← h3 i]; unfold hfrz; rw [e]
    · rw [← h4 i hi]; unfold hcell; rw [e]
    · rw [← h5 i v hv]; unfold hcell; rw [e]
theorem SlAt.fr {S : Nat → Prop} {h h' : Heap} {A : Option Addr} {cap : Nat} {vs : List Value} (L : SlAt h A cap vs) (f : Fr S h h') (hn : ∀ x, blk A x → ¬ S x) : SlAt h' A cap vs :=
  L.keep (fun x hx => f.same x (L.blk_lt hx) (hn x hx)) f.size

theorem SlAt.set {h : Heap} {bk cap : Nat} {vs : List Value} (S : SlAt h (some ⟨bk, 0, none⟩) cap vs) {i : Nat} (hi : i < vs.length) (v : Value) : SlAt (hset h ⟨bk, i, none⟩ v) (some ⟨bk, 0, none⟩) cap (vs.set i v) := by
  refine ⟨by rw [List.length_set]; exact S.len, ?_⟩
  rcases S.at' with ⟨h1, _⟩ | ⟨b', h1, h2, h3, h4, h5⟩
  · cases h1
  · cases h1
    refine .inr ⟨bk, rfl, by rw [hset_size]; exact h2, fun j => by rw [hfrz_hset]; exact h3 j, fun j hj => ?_, fun j x hx => ?_⟩
    · rw [hcell_hset]
      have := S.len
      by_cases e : j = i
      · rw [if_pos ⟨rfl, e⟩, Option.isSome_map]; exact h4 i (by omega)
      · rw [if_neg (fun h => e h.2)]; exact h4 j hj
    · rw [hcell_hset]
      rw [List.getElem?_set] at hx
      by_cases e : j = i
      · subst e
        rw [if_pos rfl, if_pos hi] at hx
        rw [if_pos ⟨rfl, rfl⟩, h5 j _ (List.getElem?_eq_getElem hi)]
        exact hx
      · rw [if_neg (Ne.symm e)] at hx
        rw [if_neg (fun h => e h.2)]; exact h5 j x hx

/-- its first so many -/
theorem SlAt.take {h : Heap} {A : Option Addr} {cap : Nat} {vs : List Value} (S : SlAt h A cap vs) (n : Nat) : SlAt h A cap (vs.take n) := by
  refine ⟨by rw [List.length_take]; have := S.len; omega, ?_⟩
  rcases S.at' with h1 | ⟨bk, h1, h2, h3, h4, h5⟩
  · exact .inl h1
  · refine .inr ⟨bk, h1, h2, h3, h4, fun i v hv => ?_⟩
    rw [List.getElem?_take] at hv
    split at hv
    · exact h5 i v hv
    · cases hv

/-- a slice of one, fresh -/
theorem build1 {e : TypeId} {b : Nat} {z v : Value} {h : Heap} {k : Value → Heap → Prop} (hv : v.cells = #[v]) (hz : z.cells.size = 1)
    (hk : k (.slice (some ⟨h.size, 0, none⟩) 1 1) (h.push (.cells #[v] e))) : @buildSliceK (some (e, 1, b, z)) 1 [(0, v)] ⟨h⟩ ⟨k⟩ := by
  refine ⟨by omega, #[v], ?_, hk⟩
  have hc : (zerosOf z.cells (1 * 1)).size = 1 := by simp [zerosOf]
  simp [Instr.fill, hv, hc]
  apply Array.ext
  · simp [hc]
  · intro i h1 h2
    have : i = 0 := by simp at h2; omega
    subst this
    simp

/-- append of one -/
theorem append1 {e : TypeId} {b : Nat} {z v : Value} {h : Heap} {A : Option Addr} {cap n xb : Nat} {vs : List Value} {k : Value → Heap → Prop} (S : SlAt h A cap vs) (hn : n = vs.length)
    (hx : hcell h ⟨xb, 0, none⟩ = some v) (hone : v.oneCell' = true) (hlen : (n + 1) * b ≤ 2 ^ 47) (hlm : n < 2 ^ 50)
    (hk : ∀ A' cap' h', SlAt h' A' cap' (vs ++ [v]) → Fr (blk A) h h' → (∀ x, blk A' x → blk A x ∨ h.size ≤ x) → k (.slice A' (n + 1) cap') h') :
    @appendK (some (e, 1, b, z)) (.slice A n cap) (.slice (some ⟨xb, 0, none⟩) 1 1) ⟨h⟩ ⟨k⟩ := by
  subst hn
  change appendX (some (e, 1, b, z)) (.slice A vs.length cap) (.slice (some ⟨xb, 0, none⟩) 1 1) h k
  have hrow : rowN h (some ⟨xb, 0, none⟩) (1 * 1) = some [v] := by
    cases v <;> first
      | (simp [Value.oneCell'] at hone; done)
      | simp [rowN, loadN, add_n, hx]
  have hold : rowN h A (vs.length * 1) = some vs := by
    rcases S.at' with ⟨h1, h2⟩ | ⟨bk, h1, h2, h3, h4, h5⟩
    · have := S.len
      have hz : vs = [] := List.eq_nil_of_length_eq_zero (by omega)
      subst hz; subst h1; rfl
    · subst h1
      simp only [rowN, Nat.mul_one]
      suffices hs : ∀ (l : List Value) (i : Nat), (∀ j x, l[j]? = some x → hcell h ⟨bk, i + j, none⟩ = some x) → loadN h ⟨bk, 0, none⟩ i l.length = some l from
        hs vs 0 (by intro j x hj; rw [Nat.zero_add]; exact h5 j x hj)
      intro l
      induction l with
      | nil => intro i _; rfl
      | cons y l ih =>
        intro i hi
        have h0 := hi 0 y rfl
        have h1 := ih (i + 1) (by intro j x hj; have := hi (j + 1) x hj; rwa [show i + 1 + j = i + (j + 1) by omega])
        simp only [Nat.add_zero] at h0
        simp [loadN, add_n, h0, h1]
  refine ⟨[v], hrow, ?_, ?_⟩
  · intro hc
    rcases S.at' with ⟨h1, h2⟩ | ⟨bk, h1, h2, h3, h4, h5⟩
    · omega
    · subst h1
      have hs := h4 vs.length (by omega)
      refine ⟨hone, ?_, ?_, ?_⟩
      · simpa [add_n] using hs
      · simpa [add_n] using h3 vs.length
      · have e : (Addr.add (Addr.add ⟨bk, 0, none⟩ (vs.length * 1)) 0) = ⟨bk, vs.length, none⟩ := by simp [add_n]
        rw [e]
        refine hk _ _ _ ⟨by rw [List.length_append]; simpa using hc, .inr ⟨bk, rfl, by rw [hset_size]; exact h2, fun j => by rw [hfrz_hset]; exact h3 j, fun j hj => ?_, fun j x hx => ?_⟩⟩ ((Fr.refl _ _).set ⟨_, rfl, rfl⟩) (fun x hx => .inl hx)
        · rw [hcell_hset]
          by_cases e : j = vs.length
          · rw [if_pos ⟨rfl, e⟩, Option.isSome_map]; exact hs
          · rw [if_neg (fun h => e h.2)]; exact h4 j hj
        · rw [hcell_hset]
          by_cases e : j = vs.length
          · subst e
            rw [if_pos ⟨rfl, rfl⟩]
            rw [List.getElem?_append_right (Nat.le_refl _)] at hx
            simp only [Nat.sub_self, List.getElem?_cons_zero, Option.some.injEq] at hx
            subst hx
            obtain ⟨u, hu⟩ := Option.isSome_iff_exists.1 hs
            rw [hu]; rfl
          · rw [if_neg (fun h => e h.2)]
            by_cases e2 : j < vs.length
            · rw [List.getElem?_append_left e2] at hx; exact h5 j x hx
            · rw [List.getElem?_append_right (by omega), List.getElem?_eq_none (by simp; omega)] at hx; cases hx
  · intro hc
    refine ⟨hlen, by unfold maxLen; omega, vs, hold, fun c rest hc2 hr => ?_⟩
    refine hk _ _ _ ⟨by rw [List.length_append]; simpa using hc2, .inr ⟨h.size, rfl, by rw [push_size]; omega, fun j => hfrz_push_new, fun j hj => ?_, fun j x hx => ?_⟩⟩ ((Fr.refl _ _).push) (fun x hx => .inr ?_)
    · rw [hcell_push_new]
      simp only [List.getElem?_toArray]
      rw [List.getElem?_eq_getElem (by simp; omega)]; rfl
    · rw [hcell_push_new]
      simp only [List.getElem?_toArray]
      rw [List.getElem?_append_left (by simpa using (List.getElem?_eq_some_iff.1 hx).1)]
      exact hx
    · obtain ⟨a, ha, hx⟩ := hx
      cases ha; simp at hx; omega

/-- an argument: a row of values that are P's -/
structure ArgRow (h : Heap) (A : Option Addr) (m : Nat) (P : Nat → Value → Prop) : Prop where
  small : m < 2 ^ 63
  at' : ∀ i, i < m → ∃ bk off v, A = some ⟨bk, off, none⟩ ∧ hcell h ⟨bk, off + i, none⟩ = some v ∧ P i v

theorem ArgRow.fr {A : Option Addr} {m : Nat} {P : Nat → Value → Prop} {h : Heap} (R : ArgRow h A m P) {h' : Heap} (f : Fr (fun _ => False) h h') : ArgRow h' A m P :=
  ⟨R.small, fun i hi => by
    obtain ⟨bk, off, v, h1, h2, h3⟩ := R.at' i hi
    exact ⟨bk, off, v, h1, (f.cell (hcell_lt h2) id).trans h2, h3⟩⟩

/-- what is written lies in O, or is new -/
structure Nx (O O' : Nat → Prop) (h h' : Heap) : Prop where
  fr : Fr O h h'
  own : ∀ x, O' x → O x ∨ h.size ≤ x

theorem Nx.trans {O O' O'' : Nat → Prop} {a b c : Heap} (h1 : Nx O O' a b) (h2 : Nx O' O'' b c) : Nx O O'' a c where
  fr := h1.fr.trans' h2.fr fun x hx h => (h1.own x h).elim id fun h => by omega
  own x h := (h2.own x h).elim (h1.own x) fun h => .inr (Nat.le_trans h1.fr.size h)
theorem Nx.refl (O : Nat → Prop) (h : Heap) : Nx O O h h := ⟨Fr.refl _ _, fun _ hx => .inl hx⟩

end Xe
