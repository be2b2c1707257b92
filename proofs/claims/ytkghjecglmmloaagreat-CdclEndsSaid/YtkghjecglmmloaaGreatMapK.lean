/- Slices of one cell each, their growth; what a piece of code leaves alone. -/
import Derived.Test.YtkghjecglmmloaaGreatTypes
import Derived.Test.YtkghjecglmmloaaGreatRows
import Derived.WalkKit
import Derived.ProofKit
import Derived.OpenShut
import Derived.Carry
namespace Xe
open Go

/-- blocks that S does not name are as they were -/
structure Fr (S : Nat → Prop) (h h' : Heap) : Prop where
  size : h.size ≤ h'.size
  same : ∀ x, x < h.size → ¬ S x → h'[x]? = h[x]?

theorem Fr.refl (S : Nat → Prop) (h : Heap) : Fr S h h := ⟨Nat.le_refl _, fun _ _ _ => rfl⟩
theorem Fr.trans {S : Nat → Prop} {a b c : Heap} (h1 : Fr S a b) (h2 : Fr S b c) : Fr S a c :=
  ⟨Nat.le_trans h1.size h2.size, fun x hx hs => (h2.same x (Nat.lt_of_lt_of_le hx h1.size) hs).trans (h1.same x hx hs)⟩
theorem Fr.mono {S T : Nat → Prop} {a b : Heap} (h : Fr S a b) (hst : ∀ x, x < a.size → S x → T x) : Fr T a b := ⟨h.size, fun x hx hs => h.same x hx (fun k => hs (hst x hx k))⟩
theorem Fr.set {S : Nat → Prop} {a b : Heap} (h : Fr S a b) {ad : Addr} {v : Value} (hs : S ad.block) : Fr S a (hset b ad v) :=
  ⟨by rw [hset_size]; exact h.size, fun x hx hn => (hset_other (fun e => hn (by rw [e]; exact hs))).trans (h.same x hx hn)⟩
/-- a store into a block that is new -/
theorem Fr.new {S : Nat → Prop} {a b : Heap} (h : Fr S a b) {ad : Addr} {v : Value} (hs : a.size ≤ ad.block) : Fr S a (hset b ad v) :=
  ⟨by rw [hset_size]; exact h.size, fun x hx hn => (hset_other (by omega)).trans (h.same x hx hn)⟩
theorem Fr.push {S : Nat → Prop} {a b : Heap} (h : Fr S a b) {X : Obj} : Fr S a (b.push X) :=
  ⟨by rw [push_size]; exact Nat.le_succ_of_le h.size, fun x hx hn => (push_old (Nat.lt_of_lt_of_le hx h.size)).trans (h.same x hx hn)⟩
theorem Fr.trans' {S T : Nat → Prop} {a b c : Heap} (h1 : Fr S a b) (h2 : Fr T b c) (hst : ∀ x, x < a.size → T x → S x) : Fr S a c :=
  ⟨Nat.le_trans h1.size h2.size, fun x hx hs => (h2.same x (Nat.lt_of_lt_of_le hx h1.size) (fun k => hs (hst x hx k))).trans (h1.same x hx hs)⟩
theorem Fr.cell {S : Nat → Prop} {a b : Heap} (h : Fr S a b) {x o : Nat} (hx : x < a.size) (hs : ¬ S x) : hcell b ⟨x, o, none⟩ = hcell a ⟨x, o, none⟩ := by
  unfold hcell; rw [h.same x hx hs]
theorem Fr.frz {S : Nat → Prop} {a b : Heap} (h : Fr S a b) {x o : Nat} (hx : x < a.size) (hs : ¬ S x) : hfrz b ⟨x, o, none⟩ = hfrz a ⟨x, o, none⟩ := by
  unfold hfrz; rw [h.same x hx hs]
theorem hcell_lt {h : Heap} {x o : Nat} {v : Value} (hc : hcell h ⟨x, o, none⟩ = some v) : x < h.size := by
  unfold hcell at hc
  by_cases hx : x < h.size
  · exact hx
  · simp [Array.getElem?_eq_none (Nat.le_of_not_lt hx)] at hc
theorem hfrz_ge {h : Heap} {x o : Nat} (hx : h.size ≤ x) : hfrz h ⟨x, o, none⟩ = false := by
  unfold hfrz; simp [Array.getElem?_eq_none hx]

theorem add_0 (a : Addr) : a.add 0 = a := by unfold Addr.add; simp
@[go_sem] theorem slice_to {m len cap : Nat} {A : Option Addr} {kd : IntKind} {i : Int} (h0 : 0 ≤ i) (h1 : i ≤ cap) : sliceV (some (m, none)) (.slice A len cap) none (some (.int kd i)) = some (.slice A i.toNat cap) := by
  unfold sliceV boundV
  simp only [Option.bind_some, if_pos (And.intro h0 h1), Option.map_some]
  by_cases hc : cap = 0
  · simp [hc]
  · simp only [hc, if_false]
    cases A <;> simp [add_0]

/-- the block that a slice stands on -/
def blk (A : Option Addr) (x : Nat) : Prop := ∃ a, A = some a ∧ a.block = x

/-- a slice of one cell each, from its block's head on -/
structure SlAt (h : Heap) (A : Option Addr) (cap : Nat) (vs : List Value) : Prop where
  len : vs.length ≤ cap
  at' : (A = none ∧ cap = 0) ∨ ∃ bk, A = some ⟨bk, 0, none⟩ ∧ bk < h.size ∧ (∀ i, hfrz h ⟨bk, i, none⟩ = false) ∧ (∀ i, i < cap → (hcell h ⟨bk, i, none⟩).isSome = true) ∧ ∀ i v, vs[i]? = some v → hcell h ⟨bk, i, none⟩ = some v

theorem SlAt.nil (h : Heap) : SlAt h none 0 [] := ⟨Nat.le_refl _, .inl ⟨rfl, rfl⟩⟩

theorem SlAt.blk_lt {h : Heap} {A : Option Addr} {cap : Nat} {vs : List Value} (S : SlAt h A cap vs) {x : Nat} (hx : blk A x) : x < h.size := by
  obtain ⟨a, rfl, rfl⟩ := hx
  rcases S.at' with ⟨h1, _⟩ | ⟨bk, h1, h2, _⟩
  · cases h1
  · cases h1; exact h2

theorem SlAt.base {h : Heap} {A : Option Addr} {cap : Nat} {vs : List Value} (S : SlAt h A cap vs) (hv : 0 < vs.length) :
    ∃ bk, A = some ⟨bk, 0, none⟩ ∧ bk < h.size ∧ (∀ i, hfrz h ⟨bk, i, none⟩ = false) ∧ ∀ i v, vs[i]? = some v → hcell h ⟨bk, i, none⟩ = some v := by
  rcases S.at' with ⟨_, h2⟩ | ⟨bk, h1, h2, h3, _, h4⟩
  · have := S.len; omega
  · exact ⟨bk, h1, h2, h3, h4⟩

/-- it stands on while its block is left alone -/
theorem SlAt.keep {h h' : Heap} {A : Option Addr} {cap : Nat} {vs : List Value} (S : SlAt h A cap vs) (hk : ∀ x, blk A x → h'[x]? = h[x]?) (hz : h.size ≤ h'.size) : SlAt h' A cap vs := by
  refine ⟨S.len, ?_⟩
  rcases S.at' with h1 | ⟨bk, h1, h2, h3, h4, h5⟩
  · exact .inl h1
  · have e := hk bk ⟨_, h1, rfl⟩
    refine .inr ⟨bk, h1, Nat.lt_of_lt_of_le h2 hz, fun i => ?_, fun i hi => ?_, fun i v hv => ?_⟩
    · rw [← h3 i]; unfold hfrz; rw [e]
    · rw [← h4 i hi]; unfold hcell; rw [e]
    · rw [← h5 i v hv]; unfold hcell; rw [e]
theorem SlAt.fr {S : Nat → Prop} {h h' : Heap} {A : Option Addr} {cap : Nat} {vs : List Value} (L : SlAt h A cap vs) (f : Fr S h h') (hn : ∀ x, blk A x → ¬ S x) : SlAt h' A cap vs :=
  L.keep (fun x hx => f.same x (L.blk_lt hx) (hn x hx)) f.size

theorem SlAt.set {h : Heap} {bk cap : Nat} {vs : List Value} (S : SlAt h (some ⟨bk, 0, none⟩) cap vs) {i : Nat} (hi : i < vs.length) (v : Value) : SlAt (hset h ⟨bk, i, none⟩ v) (some ⟨bk, 0, none⟩) cap (vs.set i v) := by
  refine ⟨by rw [List.length_set]; exact S.len, ?_⟩
  rcases S.at' with ⟨h1, _⟩ | ⟨b', h1, h2, h3, h4, h5⟩
  · cases h1
  · cases h1
    refine .inr ⟨bk, rfl, by rw [hset_size]; exact h2, fun j => by rw [hfrz_hset]; exact h3 j, fun j hj => ?_, fun j x hx => ?_⟩
    · rw [hcell_hset]
      have := S.len
      by_cases e : j = i
      · rw [if_pos ⟨rfl, e⟩, Option.isSome_map]; exact h4 i (by omega)
      · rw [if_neg (fun h => e h.2)]; exact h4 j hj
    · rw [hcell_hset]
      rw [List.getElem?_set] at hx
      by_cases e : j = i
      · subst e
        rw [if_pos rfl, if_pos hi] at hx
        rw [if_pos ⟨rfl, rfl⟩, h5 j _ (List.getElem?_eq_getElem hi)]
        exact hx
      · rw [if_neg (Ne.symm e)] at hx
        rw [if_neg (fun h => e h.2)]; exact h5 j x hx

/-- its first so many -/
theorem SlAt.take {h : Heap} {A : Option Addr} {cap : Nat} {vs : List Value} (S : SlAt h A cap vs) (n : Nat) : SlAt h A cap (vs.take n) := by
  refine ⟨by rw [List.length_take]; have := S.len; omega, ?_⟩
  rcases S.at' with h1 | ⟨bk, h1, h2, h3, h4, h5⟩
  · exact .inl h1
  · refine .inr ⟨bk, h1, h2, h3, h4, fun i v hv => ?_⟩
    rw [List.getElem?_take] at hv
    split at hv
    · exact h5 i v hv
    · cases hv

/-- a slice of one, fresh -/
theorem build1 {e : TypeId} {b : Nat} {z v : Value} {h : Heap} {k : Value → Heap → Prop} (hv : v.cells = #[v]) (hz : z.cells.size = 1)
    (hk : k (.slice (some ⟨h.size, 0, none⟩) 1 1) (h.push (.cells #[v] e))) : @buildSliceK (some (e, 1, b, z)) 1 [(0, v)] ⟨h⟩ ⟨k⟩ := by
  refine ⟨by omega, #[v], ?_, hk⟩
  have hc : (zerosOf z.cells (1 * 1)).size = 1 := by simp [zerosOf]
  simp [Instr.fill, hv, hc]
  apply Array.ext
  · simp [hc]
  · intro i h1 h2
    have : i = 0 := by simp at h2; omega
    subst this
    simp

/-- append of one -/
theorem append1 {e : TypeId} {b : Nat} {z v : Value} {h : Heap} {A : Option Addr} {cap n xb : Nat} {vs : List Value} {k : Value → Heap → Prop} (S : SlAt h A cap vs) (hn : n = vs.length)
    (hx : hcell h ⟨xb, 0, none⟩ = some v) (hone : v.oneCell' = true) (hlen : (n + 1) * b ≤ 2 ^ 47) (hlm : n < 2 ^ 50)
    (hk : ∀ A' cap' h', SlAt h' A' cap' (vs ++ [v]) → Fr (blk A) h h' → (∀ x, blk A' x → blk A x ∨ h.size ≤ x) → k (.slice A' (n + 1) cap') h') :
    @appendK (some (e, 1, b, z)) (.slice A n cap) (.slice (some ⟨xb, 0, none⟩) 1 1) ⟨h⟩ ⟨k⟩ := by
  subst hn
  change appendX (some (e, 1, b, z)) (.slice A vs.length cap) (.slice (some ⟨xb, 0, none⟩) 1 1) h k
  have hrow : rowN h (some ⟨xb, 0, none⟩) (1 * 1) = some [v] := by
    cases v <;> first
      | (simp [Value.oneCell'] at hone; done)
      | simp [rowN, loadN, add_n, hx]
  have hold : rowN h A (vs.length * 1) = some vs := by
    rcases S.at' with ⟨h1, h2⟩ | ⟨bk, h1, h2, h3, h4, h5⟩
    · have := S.len
      have hz : vs = [] := List.eq_nil_of_length_eq_zero (by omega)
      subst hz; subst h1; rfl
    · subst h1
      simp only [rowN, Nat.mul_one]
      suffices hs : ∀ (l : List Value) (i : Nat), (∀ j x, l[j]? = some x → hcell h ⟨bk, i + j, none⟩ = some x) → loadN h ⟨bk, 0, none⟩ i l.length = some l from
        hs vs 0 (by intro j x hj; rw [Nat.zero_add]; exact h5 j x hj)
      intro l
      induction l with
      | nil => intro i _; rfl
      | cons y l ih =>
        intro i hi
        have h0 := hi 0 y rfl
        have h1 := ih (i + 1) (by intro j x hj; have := hi (j + 1) x hj; rwa [show i + 1 + j = i + (j + 1) by omega])
        simp only [Nat.add_zero] at h0
        simp [loadN, add_n, h0, h1]
  refine ⟨[v], hrow, ?_, ?_⟩
  · intro hc
    rcases S.at' with ⟨h1, h2⟩ | ⟨bk, h1, h2, h3, h4, h5⟩
    · omega
    · subst h1
      have hs := h4 vs.length (by omega)
      refine ⟨hone, ?_, ?_, ?_⟩
      · simpa [add_n] using hs
      · simpa [add_n] using h3 vs.length
      · have e : (Addr.add (Addr.add ⟨bk, 0, none⟩ (vs.length * 1)) 0) = ⟨bk, vs.length, none⟩ := by simp [add_n]
        rw [e]
        refine hk _ _ _ ⟨by rw [List.length_append]; simpa using hc, .inr ⟨bk, rfl, by rw [hset_size]; exact h2, fun j => by rw [hfrz_hset]; exact h3 j, fun j hj => ?_, fun j x hx => ?_⟩⟩ ((Fr.refl _ _).set ⟨_, rfl, rfl⟩) (fun x hx => .inl hx)
        · rw [hcell_hset]
          by_cases e : j = vs.length
          · rw [if_pos ⟨rfl, e⟩, Option.isSome_map]; exact hs
          · rw [if_neg (fun h => e h.2)]; exact h4 j hj
        · rw [hcell_hset]
          by_cases e : j = vs.length
          · subst e
            rw [if_pos ⟨rfl, rfl⟩]
            rw [List.getElem?_append_right (Nat.le_refl _)] at hx
            simp only [Nat.sub_self, List.getElem?_cons_zero, Option.some.injEq] at hx
            subst hx
            obtain ⟨u, hu⟩ := Option.isSome_iff_exists.1 hs
            rw [hu]; rfl
          · rw [if_neg (fun h => e h.2)]
            by_cases e2 : j < vs.length
            · rw [List.getElem?_append_left e2] at hx; exact h5 j x hx
            · rw [List.getElem?_append_right (by omega), List.getElem?_eq_none (by simp; omega)] at hx; cases hx
  · intro hc
    refine ⟨hlen, by unfold maxLen; omega, vs, hold, fun c rest hc2 hr => ?_⟩
    refine hk _ _ _ ⟨by rw [List.length_append]; simpa using hc2, .inr ⟨h.size, rfl, by rw [push_size]; omega, fun j => hfrz_push_new, fun j hj => ?_, fun j x hx => ?_⟩⟩ ((Fr.refl _ _).push) (fun x hx => .inr ?_)
    · rw [hcell_push_new]
      simp only [List.getElem?_toArray]
      rw [List.getElem?_eq_getElem (by simp; omega)]; rfl
    · rw [hcell_push_new]
      simp only [List.getElem?_toArray]
      rw [List.getElem?_append_left (by simpa using (List.getElem?_eq_some_iff.1 hx).1)]
      exact hx
    · obtain ⟨a, ha, hx⟩ := hx
      cases ha; simp at hx; omega

/-- what is written lies in O, or is new -/
structure Nx (O O' : Nat → Prop) (h h' : Heap) : Prop where
  fr : Fr O h h'
  own : ∀ x, O' x → O x ∨ h.size ≤ x

theorem Nx.trans {O O' O'' : Nat → Prop} {a b c : Heap} (h1 : Nx O O' a b) (h2 : Nx O' O'' b c) : Nx O O'' a c where
  fr := h1.fr.trans' h2.fr fun x hx h => (h1.own x h).elim id fun h => by omega
  own x h := (h2.own x h).elim (h1.own x) fun h => .inr (Nat.le_trans h1.fr.size h)
theorem Nx.refl (O : Nat → Prop) (h : Heap) : Nx O O h h := ⟨Fr.refl _ _, fun _ hx => .inl hx⟩

end Xe

/- From a walk to a row: what every law of these seats has alike. -/
namespace Xe
open Go Go.ChangeShapes Go.WideShapes Go.ChangeAt Go.RowKit

theorem CallsH.below {P : Program} {f : FuncId} {vs : List Value} {w : World} (c : CallsH P f vs w.heap fun r h' => r = .bool true ∧ Fr (fun _ => False) w.heap h') :
    Calls P f vs.toArray w fun e w' => e = .returned (.bool true) ∧ Below w.heap.size w w' :=
  (c.2 w rfl).mono fun e w' ⟨v, he, hl, hv, hf⟩ => ⟨by rw [he, hv], ⟨hl.os, hl.tape, hl.output, hf.size, fun k hk => hf.same k hk id⟩⟩

theorem args_stay {H : Type} {enc : TypeId × Value → H} {P : Program} {W W' : World} (hl : laidOutB P = true) (hb : Below W.heap.size W W') :
    ∀ {ts : List TypeId} {vs : List Value} {ds : List (DataW H)} {ps : List MemPlace}, (ts.all fun t => P.readableRec t && decide (t < P.types.size)) = true → (∀ x ∈ ps, x.block < W.heap.size) →
      DataW.TrodAll enc P W 0 (fun _ => true) true ts vs ds ps → DataW.TrodAll enc P W' 0 (fun b => decide (b < W.heap.size)) true ts vs ds ps
  | [], _, _, _, _, _, h => by
    obtain ⟨rfl, rfl, rfl⟩ := trodAll_nil h
    exact trodAll_mk0
  | t :: ts, _, _, _, hr, hlt, h => by
    obtain ⟨v, vs, d, ds, p, q, rfl, rfl, rfl, h1, h2⟩ := trodAll_cons h
    rw [List.all_cons, Bool.and_eq_true, Bool.and_eq_true, decide_eq_true_eq] at hr
    exact ⟨p, q, Below.trod hl hr.1.1 hr.1.2 h1 hb (fun x hx => hlt x (List.mem_append_left _ hx)), args_stay hl hb hr.2 (fun x hx => hlt x (List.mem_append_right _ hx)) h2, rfl⟩

/-- **THE END OF A LAW's ROW** -/
theorem law_post {H : Type} {enc : TypeId × Value → H} {P : Program} {f : Func} {s : ChangeSpec} {W W' : World} {args : Array Value} {ds gs : List (DataW H)} {before : List MemPlace} {t : TypeId}
    (hW : DataW.Whole enc P f.params.toList s.vars false W args.toList ds gs before) (hv : s.vars = []) (hb : Below W.heap.size W W') (hl : laidOutB P = true)
    (hr : (f.params.toList.all fun t => P.readableRec t && decide (t < P.types.size)) = true) (ht : f.resultTypes = #[t]) (hu : P.underlying t = some .bool)
    (h1 : (s.fn H (ds ++ gs)).results = [.lit (.bool true)]) (h2 : (s.fn H (ds ++ gs)).args = ds) (h3 : (s.fn H (ds ++ gs)).vars = []) :
    s.post enc P f false true false false W args (.bool true) W' := by
  have hW' := hW
  obtain ⟨p, q, hA, hV, rfl, hfz, hnd⟩ := hW
  have hlt := hW'.lt
  refine ⟨ds, gs, p ++ q, [], p, [], hW', ?_, ?_, ?_, hb.frame _, (fun h => nomatch h)⟩
  · rw [h1, ht]
    exact trodAll_cons_mk (shut_bool hu true) trodAll_mk0
  · rw [h2]
    exact args_stay hl hb hr (fun x hx => hlt x (List.mem_append_left _ hx)) hA
  · rw [h3, hv]; rfl

/-! ### Arguments, opened -/
section
variable {H : Type} {enc : TypeId × Value → H} {P : Program} {w : World} {sp : Nat → Bool} {held : Bool} {r : Reach} {b0 : Nat} {t e : TypeId}

/-- a slice: its elements' cells, and how each reads -/
theorem open_slice {n : Nat} {v : Value} {d : DataW H} {ps : List MemPlace} (ht : P.underlying t = some (.slice e)) (hc : P.cellsOf e = n) (hn : 0 < n) (hval : Value.okWide P w r b0 t v) (h : DataW.Trod enc P w 0 sp held t v d ps) :
    ∃ A len cap, v = .slice A len cap ∧ len < 2 ^ 63 ∧ ∀ i, i < len → ∃ bk off cs fuel x, A = some ⟨bk, off, none⟩ ∧ cs.length = n ∧ (∀ j u, cs[j]? = some u → hcell w.heap ⟨bk, off + i * n + j, none⟩ = some u) ∧
      DataW.trod enc P w 0 sp held fuel e cs = some x := by
  obtain ⟨a, len, cap, rfl⟩ := okWide_slice ht hval
  obtain ⟨fuel, hf⟩ := h
  refine ⟨a, len, cap, rfl, ?_⟩
  rcases DataW.trod_slice ht hf with ⟨hcs, _⟩ | ⟨a', len', cap', elems, rest, m, _, hcs, _, _, hl, hm, hlen, hel, _, _⟩
  · simp [Value.cells] at hcs
    obtain ⟨_, rfl, _⟩ := hcs
    exact ⟨by decide, fun i hi => by omega⟩
  · simp [Value.cells] at hcs
    obtain ⟨rfl, rfl, rfl⟩ := hcs
    have hm2 : cap ≤ 2 ^ 63 - 1 := hm
    refine ⟨by omega, fun i hi => ?_⟩
    have h1 := hel i hi
    rw [List.getElem?_eq_getElem (by omega), Option.bind_eq_some_iff] at h1
    obtain ⟨cs, h2, h3⟩ := h1
    rw [hc] at h2
    obtain ⟨_, hl2, hcell⟩ := World.cells?_some h2
    have hspot : a'.spot = none := by
      have g1 := hel 0 (by omega)
      rw [List.getElem?_eq_getElem (by omega), Option.bind_eq_some_iff] at g1
      obtain ⟨cs0, g2, _⟩ := g1
      rw [hc] at g2
      obtain ⟨_, gl, gcell⟩ := World.cells?_some g2
      have h0 := gcell 0 hn
      rw [List.getElem?_eq_getElem (by omega), Nat.zero_mul, add_0, add_0] at h0
      unfold World.cell? at h0
      split at h0
      · split at h0
        · cases h0
        · rename_i hns
          simpa using hns
      · cases h0
    obtain ⟨bk, off, spot⟩ := a'
    simp only at hspot
    subst hspot
    refine ⟨bk, off, cs, m, _, rfl, hl2, fun j u hj => ?_, h3⟩
    have hj' := (List.getElem?_eq_some_iff.1 hj).1
    have h4 := hcell j (by omega)
    rw [add_n, add_n] at h4
    exact h4.trans hj

end
end Xe

/- What a piece of code does, with a weaker end: so two ways may meet in one condition. -/
namespace Xe
open Go

theorem runO_mono {o : Option Value} {k k' : Value → Prop} (hk : ∀ v, k v → k' v) (h : runO o k) : runO o k' := by
  cases o with
  | none => exact h
  | some v => exact hk v h
theorem storeN_mono {a : Addr} : ∀ {vs : List Value} {i : Nat} {h : Heap} {k k' : Heap → Prop}, (∀ h, k h → k' h) → storeN h a i vs k → storeN h a i vs k'
  | [], _, _, _, _, hk, h => hk _ h
  | _ :: _, _, _, _, _, hk, ⟨h1, h2, h3, h4⟩ => ⟨h1, h2, h3, storeN_mono hk h4⟩
theorem appendX_mono {el : Option (TypeId × Nat × Nat × Value)} {s x : Value} {h : Heap} {k k' : Value → Heap → Prop} (hk : ∀ v h, k v h → k' v h) (hx : appendX el s x h k) : appendX el s x h k' := by
  unfold appendX at hx ⊢
  split at hx
  · obtain ⟨new, h1, h2, h3⟩ := hx
    refine ⟨new, h1, fun hl => ?_, fun hl => ?_⟩
    · have := h2 hl
      split at this
      · exact storeN_mono (fun h => hk _ h) this
      · exact hk _ _ this
    · obtain ⟨g1, g2, old, g3, g4⟩ := h3 hl
      exact ⟨g1, g2, old, g3, fun c rest hc hr => hk _ _ (g4 c rest hc hr)⟩
  · exact hx.elim
theorem appendZX_mono {el : Option (TypeId × Nat × Nat × Value)} {s x : Value} {h : Heap} {k k' : Value → Heap → Prop} (hk : ∀ v h, k v h → k' v h) (hx : appendZX el s x h k) : appendZX el s x h k' := by
  unfold appendZX at hx ⊢
  split at hx
  · obtain ⟨h0, hm, hs, hb, g⟩ := hx
    exact ⟨h0, hm, hs, hb, fun c rest hc hr => hk _ _ (g c rest hc hr)⟩
  · exact hx.elim
theorem appSel_mono {d : Option TypeDesc} {A B A' B' : Prop} (h1 : A → A') (h2 : B → B') (h : appSel d A B) : appSel d A' B' := by
  unfold appSel at h ⊢
  split at h
  · exact h1 h
  · exact h2 h
  · exact h
theorem copyX_mono {el : Option (TypeId × Nat × Nat × Value)} {s x : Value} {h : Heap} {k k' : Value → Heap → Prop} (hk : ∀ v h, k v h → k' v h) (hx : copyX el s x h k) : copyX el s x h k' := by
  unfold copyX at hx ⊢
  split at hx
  · obtain ⟨new, h1, h2⟩ := hx
    refine ⟨new, h1, ?_⟩
    split at h2
    · exact storeN_mono (fun h => hk _ h) h2
    · exact hk _ _ h2
  · exact hx.elim
theorem stepX_mono {P : Program} {ρ : Env} {o : Op} {h : Heap} {k k' : Value → Heap → Prop} (hk : ∀ v h, k v h → k' v h) (hx : stepX P ρ o h k) : stepX P ρ o h k' := by
  unfold stepX at hx ⊢
  split at hx
  · exact runO_mono (fun v => hk v _) hx
  · obtain ⟨kt, e, r, es, c, x, o, h1, h2, h3, h4, h5, h6⟩ := hx
    exact ⟨kt, e, r, es, c, x, o, h1, h2, h3, h4, h5, hk _ _ h6⟩
  · exact hk _ _ hx
  · exact runO_mono (fun v => hk v _) hx
  · unfold storeX at hx ⊢
    split at hx
    · exact ⟨hx.1, storeN_mono (fun h => hk _ h) hx.2⟩
    · exact hx
  · unfold allocX newX at hx ⊢
    split at hx
    · exact hk _ _ hx
    · exact hx
  · exact hk _ _ hx
  · unfold buildSliceX at hx ⊢
    split at hx
    · obtain ⟨h1, cs, h2, h3⟩ := hx
      exact ⟨h1, cs, h2, hk _ _ h3⟩
    · exact hx
  · unfold makeSliceX at hx ⊢
    split at hx
    · obtain ⟨h1, h2, h3, h4, h5⟩ := hx
      exact ⟨h1, h2, h3, h4, hk _ _ h5⟩
    · exact hx
  · unfold invokeX at hx ⊢
    split at hx
    · exact hx.mono hk
    · exact hx
  · unfold builtX at hx ⊢
    split at hx
    · exact appSel_mono (appendX_mono hk) (appendZX_mono hk) hx
    · exact copyX_mono hk hx
    · obtain ⟨kt, e, r, es, c, x, o, h1, h2, h3, h4, h6⟩ := hx
      exact ⟨kt, e, r, es, c, x, o, h1, h2, h3, h4, hk _ _ h6⟩
    · rcases hx with ⟨d, r, es, c, h1, h2, h6⟩ | ⟨e, s, b, z, a, n, cap, hel, hm, hst⟩
      · exact .inl ⟨d, r, es, c, h1, h2, hk _ _ h6⟩
      · exact .inr ⟨e, s, b, z, a, n, cap, hel, hm, storeN_mono (fun h => hk _ h) hst⟩
    · exact runO_mono (fun v => hk v _) hx
  · exact runO_mono (fun v => hk v _) hx
theorem gX_mono {ops : Array Oper} {ρ : Env} {g : Option (Nat × Bool)} {A B A' B' : Prop} (h1 : A → A') (h2 : B → B') (h : gX ops ρ g A B) : gX ops ρ g A' B' := by
  unfold gX at h ⊢
  split at h
  · exact h1 h
  · split at h
    · rename_i hc; rw [if_pos hc]; exact h1 h
    · rename_i hc; rw [if_neg hc]; exact h2 h
theorem wpR_mono {P : Program} {ops : Array Oper} {Q Q' : Exit → Env → Heap → Prop} (hq : ∀ e ρ h, Q e ρ h → Q' e ρ h) : ∀ {l : List Oper} {ρ : Env} {h : Heap}, wpR P ops Q l ρ h → wpR P ops Q' l ρ h
  | [], _, _, hh => hq _ _ _ hh
  | _ :: _, _, _, hh => gX_mono (fun hx => stepX_mono (fun _ _ => wpR_mono hq) hx) (wpR_mono hq) hh
theorem wpX_mono {P : Program} {n : Nat} : ∀ (c : Code) {Q Q' : Exit → Env → Heap → Prop} {ρ : Env} {h : Heap}, (∀ e ρ h, Q e ρ h → Q' e ρ h) → wpX P n c Q ρ h → wpX P n c Q' ρ h := by
  intro c
  induction c with
  | seq a b iha ihb =>
    intro Q Q' ρ h hq hw
    refine iha (fun e ρ h he => ?_) hw
    cases e <;> first | exact ihb hq he | exact hq _ _ _ he
  | cond c a b iha ihb =>
    intro Q Q' ρ h hq hw
    unfold wpX at hw ⊢
    unfold condX at hw ⊢
    split at hw
    · exact iha hq hw
    · exact ihb hq hw
    · exact hw
  | block id c ih =>
    intro Q Q' ρ h hq hw
    refine ih (fun e ρ h he => ?_) hw
    unfold blockX at he ⊢
    split at he
    · split at he
      · rename_i hc; simp only [hc, if_true]; exact hq _ _ _ he
      · rename_i hc; simp only [hc, if_false]; exact hq _ _ _ he
    · exact hq _ _ _ he
  | region id ops d =>
    intro Q Q' ρ h hq hw
    cases d with
    | false => exact wpR_mono hq hw
    | true => exact SemX.mono hw hq
  | loop c ih => exact fun hq hw => SemX.mono hw hq
  | scope c ih => exact fun hq hw => SemX.mono hw hq
  | rangeFunc => exact fun _ hw => hw
  | refuse => exact fun _ hw => hw
  | _ => exact fun hq hw => hq _ _ _ hw

/-- **A MEETING PLACE** -/
theorem cut {P : Program} {n : Nat} {c : Code} {K : Env → Heap → Prop} {Q : Exit → Env → Heap → Prop} {ρ : Env} {h : Heap} (M : Env → Heap → Prop)
    (h1 : wpX P n c (thenX M Q) ρ h) (h2 : ∀ ρ h, M ρ h → K ρ h) : wpX P n c (thenX K Q) ρ h :=
  wpX_mono c (fun e ρ h he => by cases e <;> first | exact h2 _ _ he | exact he) h1

/-- a block, frozen: so a walk stands still ahead of it (given to simp as '↓ stop_block (id := ..)') -/
def BlockK (P : Program) (n : Nat) (id : Nat) [c : Kp Code] [Q : Kp (Exit → Env → Heap → Prop)] [ρ : Kp Env] [h : Kp Heap] : Prop := wpX P n (.block id c.f) Q.f ρ.f h.f
theorem stop_block {P : Program} {n id : Nat} {c : Code} {Q : Exit → Env → Heap → Prop} {ρ : Env} {h : Heap} : wpX P n (.block id c) Q ρ h = @BlockK P n id ⟨c⟩ ⟨Q⟩ ⟨ρ⟩ ⟨h⟩ := rfl
theorem cutK {P : Program} {n id : Nat} {c : Code} {K : Env → Heap → Prop} {Q : Exit → Env → Heap → Prop} {ρ : Env} {h : Heap} (M : Env → Heap → Prop)
    (h1 : wpX P n (.block id c) (thenX M Q) ρ h) (h2 : ∀ ρ h, M ρ h → K ρ h) : @BlockK P n id ⟨c⟩ ⟨thenX K Q⟩ ⟨ρ⟩ ⟨h⟩ := cut M h1 h2

/-- two arms that meet behind a test -/
theorem condCut {P : Program} {n : Nat} {v : Value} {a b : Code} {K : Env → Heap → Prop} {Q : Exit → Env → Heap → Prop} {ρ : Env} {h : Heap} (M : Env → Heap → Prop)
    (h1 : @condK v ⟨wpX P n a (thenX M Q) ρ h⟩ ⟨wpX P n b (thenX M Q) ρ h⟩) (h2 : ∀ ρ h, M ρ h → K ρ h) : @condK v ⟨wpX P n a (thenX K Q) ρ h⟩ ⟨wpX P n b (thenX K Q) ρ h⟩ := by
  unfold condK condX at *
  split at h1
  · exact cut M h1 h2
  · exact cut M h1 h2
  · exact h1

/-- a floating load: what it reads in every heap of the class -/
theorem float2 {P : Program} {ops : Array Oper} {Q : Exit → Env → Heap → Prop} {C : Heap → Prop} {rest : List (Nat × Nat)} {ρ : Env} {h : Heap} {d : Nat} {op : Op} {ty : TypeId} {pos : String} {after : Array Edge} (v : Value)
    (hl : ∀ h', C h' → lv P ρ op h' = some v) (hn : seqX P ops Q C rest (put ρ d v) h) : @seqY ⟨P, ops, Q, C, rest, ρ, h⟩ 2 (some ⟨some d, op, ty, pos, after, none⟩) := by
  rw [seqY_2]; exact ⟨v, hl, hn⟩

/-- what stands ahead of a label, and what behind it -/
def splitL : Code → Nat → Option (Code × Code)
  | .seq (.label l') b, l => if l' = l then some (.skip, b) else (splitL b l).map fun p => (.seq (.label l') p.1, p.2)
  | .seq a b, l => (splitL b l).map fun p => (.seq a p.1, p.2)
  | _, _ => none
theorem splitL_wp {P : Program} {n l : Nat} {K : Env → Heap → Prop} {Q : Exit → Env → Heap → Prop} (y : Code) (hK : ∀ ρ h, K ρ h → wpX P n y Q ρ h) : ∀ (c x : Code) (ρ : Env) (h : Heap), splitL c l = some (x, y) →
    wpX P n x (thenX K Q) ρ h → wpX P n c Q ρ h := by
  have step : ∀ (a b x : Code) (ρ : Env) (h : Heap), (∀ ρ h, wpX P n x (thenX K Q) ρ h → wpX P n b Q ρ h) → wpX P n (.seq a x) (thenX K Q) ρ h → wpX P n (.seq a b) Q ρ h := by
    intro a b x ρ h hb hw
    refine wpX_mono a (fun e ρ h he => ?_) hw
    cases e <;> first | exact hb _ _ he | exact he
  intro c
  induction c with
  | seq a b iha ihb =>
    intro x ρ h hs hw
    have gen : (splitL b l).map (fun p => (Code.seq a p.1, p.2)) = some (x, y) → wpX P n (.seq a b) Q ρ h := by
      intro hm
      obtain ⟨⟨x', y'⟩, h1, h2⟩ := Option.map_eq_some_iff.1 hm
      simp only [Prod.mk.injEq] at h2
      obtain ⟨rfl, rfl⟩ := h2
      exact step a b x' ρ h (fun ρ h => ihb x' ρ h h1) hw
    cases a <;> first
      | exact gen hs
      | skip
    rename_i l'
    unfold splitL at hs
    split at hs
    · simp only [Option.some.injEq, Prod.mk.injEq] at hs
      obtain ⟨rfl, rfl⟩ := hs
      exact hK _ _ hw
    · exact gen hs
  | _ => intro x ρ h hs; simp [splitL] at hs
/-- **A SCOPE WHOSE LABEL STANDS BEHIND A BEGINNING.** -/
theorem scopeM {P : Program} {n : Nat} {c x y : Code} {Q : Exit → Env → Heap → Prop} {ρ : Env} {h : Heap} (l : Nat) (J : Env → Heap → Prop) (μ : Env → Heap → Nat) (hs : splitL c l = some (x, y)) (hf : findLabel c l = some (.seq .skip y))
    (hok : (okCode n c && okCode n y) = true) (first : wpX P n x (thenX J (jumpX l J Q)) ρ h)
    (pass : ∀ ρ h, J ρ h → wpX P n y (jumpX l (fun ρ' h' => J ρ' h' ∧ μ ρ' h' < μ ρ h) Q) ρ h) : @SemK P n ⟨.scope c⟩ ⟨Q⟩ ⟨ρ⟩ ⟨h⟩ := by
  refine scopeK (rest := .seq .skip y) l J μ hf (by simpa [okCode] using hok) ?_ fun ρ h hJ => pass ρ h hJ
  refine splitL_wp y (fun ρ h hJ => ?_) c x ρ h hs first
  refine wpX_mono y (fun e ρ h he => ?_) (pass ρ h hJ)
  cases e <;> first | exact ⟨he.1, he.2.1⟩ | exact he

end Xe

/- Blocks, each by itself; rows of values read, appended, copied. -/
namespace Xe
open Go

/-- a block that holds a list of cells -/
structure ListB (h : Heap) (b : Nat) (vs : List Value) : Prop where
  at' : ∀ i v, vs[i]? = some v → hcell h ⟨b, i, none⟩ = some v
  fz : ∀ o, hfrz h ⟨b, o, none⟩ = false
  lt : b < h.size
/-- a block that holds so many cells -/
structure FnB (h : Heap) (b n : Nat) (f : Nat → Value) : Prop where
  at' : ∀ i, i < n → hcell h ⟨b, i, none⟩ = some (f i)
  fz : ∀ o, hfrz h ⟨b, o, none⟩ = false
  lt : b < h.size

section
variable {h h' : Heap} {b n : Nat} {f : Nat → Value} {vs : List Value}
theorem ListB.same (B : ListB h b vs) (e : h'[b]? = h[b]?) : ListB h' b vs where
  at' i v hv := by rw [← B.at' i v hv]; unfold hcell; rw [e]
  fz o := by rw [← B.fz o]; unfold hfrz; rw [e]
  lt := by
    have := B.lt
    rw [Array.getElem?_eq_getElem this] at e
    exact (Array.getElem?_eq_some_iff.1 e).1
theorem FnB.same (B : FnB h b n f) (e : h'[b]? = h[b]?) : FnB h' b n f where
  at' i hi := by rw [← B.at' i hi]; unfold hcell; rw [e]
  fz o := by rw [← B.fz o]; unfold hfrz; rw [e]
  lt := by
    have := B.lt
    rw [Array.getElem?_eq_getElem this] at e
    exact (Array.getElem?_eq_some_iff.1 e).1
theorem ListB.fr {S : Nat → Prop} (B : ListB h b vs) (r : Fr S h h') (hs : ¬ S b) : ListB h' b vs := B.same (r.same b B.lt hs)
theorem FnB.fr {S : Nat → Prop} (B : FnB h b n f) (r : Fr S h h') (hs : ¬ S b) : FnB h' b n f := B.same (r.same b B.lt hs)
theorem ListB.oth (B : ListB h b vs) {c o : Nat} {v : Value} (e : b ≠ c) : ListB (hset h ⟨c, o, none⟩ v) b vs := B.same (hset_other e)
theorem FnB.oth (B : FnB h b n f) {c o : Nat} {v : Value} (e : b ≠ c) : FnB (hset h ⟨c, o, none⟩ v) b n f := B.same (hset_other e)
theorem ListB.push (B : ListB h b vs) {X : Obj} : ListB (h.push X) b vs := B.same (push_old B.lt)
theorem FnB.push (B : FnB h b n f) {X : Obj} : FnB (h.push X) b n f := B.same (push_old B.lt)
theorem ListB.set (B : ListB h b vs) {i : Nat} (v : Value) (hi : i < vs.length) : ListB (hset h ⟨b, i, none⟩ v) b (vs.set i v) where
  at' j x hx := by
    rw [hcell_hset]
    rw [List.getElem?_set] at hx
    by_cases e : j = i
    · subst e
      rw [if_pos rfl, if_pos hi] at hx
      rw [if_pos ⟨rfl, rfl⟩, B.at' j _ (List.getElem?_eq_getElem hi)]
      exact hx
    · rw [if_neg (Ne.symm e)] at hx
      rw [if_neg (fun h => e h.2)]; exact B.at' j x hx
  fz o := by rw [hfrz_hset]; exact B.fz o
  lt := by rw [hset_size]; exact B.lt
theorem FnB.set (B : FnB h b n f) {i : Nat} (v : Value) (hi : i < n) : FnB (hset h ⟨b, i, none⟩ v) b n (fun j => if j = i then v else f j) where
  at' j hj := by
    rw [hcell_hset]
    by_cases e : j = i
    · subst e; rw [if_pos ⟨rfl, rfl⟩, B.at' j hj, if_pos rfl]; rfl
    · rw [if_neg (fun h => e h.2), if_neg e]; exact B.at' j hj
  fz o := by rw [hfrz_hset]; exact B.fz o
  lt := by rw [hset_size]; exact B.lt
theorem FnB.cong {g : Nat → Value} (B : FnB h b n f) (e : ∀ i, i < n → f i = g i) : FnB h b n g := ⟨fun i hi => by rw [← e i hi]; exact B.at' i hi, B.fz, B.lt⟩
theorem ListB.new {e : TypeId} : ListB (h.push (.cells vs.toArray e)) h.size vs where
  at' i v hv := by rw [hcell_push_lit, ← atL_eq]; exact hv
  fz o := hfrz_push_new
  lt := by rw [push_size]; omega
theorem FnB.zeros {z : Value} {m : Nat} {e : TypeId} : FnB (h.push (.cells (zerosOf #[z] m) e)) h.size m (fun _ => z) where
  at' i hi := by
    rw [hcell_push_new]
    unfold zerosOf
    rw [Array.getElem?_map, Array.getElem?_range, if_pos hi]
    simp [Nat.mod_one]
  fz o := hfrz_push_new
  lt := by rw [push_size]; omega

/-! ### Rows that are read -/
/-- a row of cells at a slice's base: nothing is said of what is nil -/
def RowAt (h : Heap) (A : Option Addr) (vs : List Value) : Prop := vs = [] ∨ ∃ bk off, A = some ⟨bk, off, none⟩ ∧ ∀ i v, vs[i]? = some v → hcell h ⟨bk, off + i, none⟩ = some v
theorem RowAt.nil {A : Option Addr} : RowAt h A [] := .inl rfl
theorem RowAt.get {A : Option Addr} (R : RowAt h A vs) (hv : 0 < vs.length) : ∃ bk off, A = some ⟨bk, off, none⟩ ∧ ∀ i v, vs[i]? = some v → hcell h ⟨bk, off + i, none⟩ = some v := by
  rcases R with rfl | R
  · simp at hv
  · exact R
theorem RowAt.fr {A : Option Addr} (R : RowAt h A vs) {S : Nat → Prop} (f : Fr S h h') (hs : ∀ x, blk A x → ¬ S x) : RowAt h' A vs := by
  rcases R with rfl | ⟨bk, off, rfl, hc⟩
  · exact .inl rfl
  · refine .inr ⟨bk, off, rfl, fun i v hv => ?_⟩
    have := hc i v hv
    exact (f.cell (hcell_lt this) (hs _ ⟨_, rfl, rfl⟩)).trans this
theorem RowAt.fr0 {A : Option Addr} (R : RowAt h A vs) (f : Fr (fun _ => False) h h') : RowAt h' A vs := R.fr f (fun _ _ => id)
theorem SlAt.row {A : Option Addr} {cap : Nat} (S : SlAt h A cap vs) : RowAt h A vs := by
  rcases S.at' with ⟨h1, h2⟩ | ⟨bk, h1, _, _, _, h5⟩
  · have := S.len
    exact .inl (List.eq_nil_of_length_eq_zero (by omega))
  · exact .inr ⟨bk, 0, h1, fun i v hv => by rw [Nat.zero_add]; exact h5 i v hv⟩

theorem loadN_some {bk off : Nat} : ∀ {vs : List Value} {i : Nat}, (∀ j x, vs[j]? = some x → hcell h ⟨bk, off + i + j, none⟩ = some x) → loadN h ⟨bk, off, none⟩ i vs.length = some vs := by
  intro vs
  induction vs with
  | nil => intro i _; rfl
  | cons y l ih =>
    intro i hi
    have h0 := hi 0 y rfl
    have h1 := ih (i := i + 1) (by intro j x hj; have := hi (j + 1) x hj; rwa [show off + (i + 1) + j = off + i + (j + 1) by omega])
    simp only [Nat.add_zero] at h0
    simp [loadN, add_n, h0, h1]
theorem RowAt.load {A : Option Addr} (R : RowAt h A vs) {n : Nat} (hn : n = vs.length) : rowN h A n = some vs := by
  subst hn
  rcases R with rfl | ⟨bk, off, rfl, hc⟩
  · cases A <;> rfl
  · exact loadN_some fun j x hx => by rw [Nat.add_zero]; exact hc j x hx

/-- many stores in a row -/
theorem storeN_some {b : Nat} : ∀ {ws : List Value} {o i : Nat} {h : Heap} {k : Heap → Prop}, (∀ w ∈ ws, w.oneCell' = true) → (∀ j, j < ws.length → (hcell h ⟨b, o + i + j, none⟩).isSome = true) → (∀ j, hfrz h ⟨b, j, none⟩ = false) →
    (∀ h', (∀ j v, ws[j]? = some v → hcell h' ⟨b, o + i + j, none⟩ = some v) → (∀ x, (x < o + i ∨ o + i + ws.length ≤ x) → hcell h' ⟨b, x, none⟩ = hcell h ⟨b, x, none⟩) → (∀ x, hfrz h' ⟨b, x, none⟩ = false) → Fr (fun x => x = b) h h' → k h') →
    storeN h ⟨b, o, none⟩ i ws k
  | [], o, i, h, k, _, _, hf, hk => hk h (fun _ _ h => (nomatch h)) (fun _ _ => rfl) hf (Fr.refl _ _)
  | w :: ws, o, i, h, k, h1, h2, hf, hk => by
    have c0 := h2 0 (by simp)
    rw [Nat.add_zero] at c0
    refine ⟨h1 w (List.mem_cons_self ..), by rw [add_n]; exact c0, by rw [add_n]; exact hf _, ?_⟩
    refine storeN_some (fun x hx => h1 x (List.mem_cons_of_mem _ hx)) (fun j hj => ?_) (fun j => by rw [hfrz_hset]; exact hf j) fun h' g1 g2 g3 g4 => ?_
    · rw [add_n, hcell_hset, if_neg (by omega)]
      have := h2 (j + 1) (by simp; omega)
      rwa [show o + (i + 1) + j = o + i + (j + 1) by omega]
    · rw [add_n] at g2 g4
      refine hk h' (fun j v hv => ?_) (fun x hx => ?_) g3 (((Fr.refl (fun x => x = b) h).set (show (fun x => x = b) b from rfl)).trans g4)
      · cases j with
        | zero =>
          simp only [List.getElem?_cons_zero, Option.some.injEq] at hv
          subst hv
          rw [Nat.add_zero, g2 (o + i) (.inl (by omega)), hcell_hset, if_pos ⟨rfl, rfl⟩]
          obtain ⟨u, hu⟩ := Option.isSome_iff_exists.1 c0
          rw [hu]; rfl
        | succ j =>
          have := g1 j v hv
          rwa [show o + (i + 1) + j = o + i + (j + 1) by omega] at this
      · rw [g2 x (by simp at hx; omega), hcell_hset, if_neg (by simp at hx; omega)]

@[go_sem] theorem slice_from {m len cap b o : Nat} {kd : IntKind} {i : Int} (h0 : 0 ≤ i) (h1 : i ≤ len) (h2 : i < cap) : sliceV (some (m, none)) (.slice (some ⟨b, o, none⟩) len cap) (some (.int kd i)) none = some (.slice (some ⟨b, o + i.toNat * m, none⟩) (len - i.toNat) (cap - i.toNat)) := by
  unfold sliceV boundV
  have e : ¬ cap = i.toNat := by omega
  simp only [Option.bind_some, if_pos (And.intro h0 h1), Option.map_some, e, if_false, add_n]

/-- append of many cells, 'sz' to an element -/
theorem appendN {e : TypeId} {sz bt : Nat} {z : Value} {A xb : Option Addr} {cap n m xc : Nat} {ws : List Value} {k : Value → Heap → Prop} (S : SlAt h A (cap * sz) vs) (hn : n * sz = vs.length)
    (hw : RowAt h xb ws) (hm : m * sz = ws.length) (hs : 0 < sz) (hone : ∀ w ∈ ws, w.oneCell' = true) (hlen : (n + m) * bt ≤ 2 ^ 47) (hlm : n + m < 2 ^ 50)
    (hk : ∀ A' cap' h', SlAt h' A' (cap' * sz) (vs ++ ws) → Fr (blk A) h h' → (∀ x, blk A' x → blk A x ∨ h.size ≤ x) → k (.slice A' (n + m) cap') h') :
    @appendK (some (e, sz, bt, z)) (.slice A n cap) (.slice xb m xc) ⟨h⟩ ⟨k⟩ := by
  change appendX (some (e, sz, bt, z)) (.slice A n cap) (.slice xb m xc) h k
  refine ⟨ws, hw.load hm, fun hc => ?_, fun hc => ⟨hlen, by unfold maxLen; omega, vs, S.row.load hn, fun c rest hc2 hr => ?_⟩⟩
  · rcases S.at' with ⟨rfl, h2⟩ | ⟨bk, rfl, h2, h3, h4, h5⟩
    · have hv : vs = [] := List.eq_nil_of_length_eq_zero (by have := S.len; omega)
      have hcap : cap = 0 := by
        rcases Nat.eq_zero_or_pos cap with h | h
        · exact h
        · have := Nat.mul_pos h hs; omega
      have hm0 : m = 0 := by omega
      subst hm0
      have hws : ws = [] := List.eq_nil_of_length_eq_zero (by omega)
      subst hws
      exact hk none cap h (by rw [List.append_nil]; exact S) (Fr.refl _ _) (fun x hx => .inl hx)
    · have hcs : (n + m) * sz ≤ cap * sz := Nat.mul_le_mul_right _ hc
      rw [Nat.add_mul] at hcs
      show storeN h (Addr.add ⟨bk, 0, none⟩ (n * sz)) 0 ws _
      rw [add_n]
      refine storeN_some hone (fun j hj => ?_) h3 fun h' g1 g2 g3 g4 => ?_
      · rw [Nat.add_zero, Nat.zero_add]
        exact h4 _ (by omega)
      · rw [Nat.add_zero, Nat.zero_add] at g1 g2
        refine hk _ _ _ ⟨by rw [List.length_append]; omega, .inr ⟨bk, rfl, Nat.lt_of_lt_of_le h2 g4.size, g3, fun j hj => ?_, fun j x hx => ?_⟩⟩ (g4.mono fun x _ hx => ⟨_, rfl, hx.symm⟩) (fun x hx => .inl hx)
        · by_cases hin : j < n * sz ∨ n * sz + ws.length ≤ j
          · rw [g2 j hin]; exact h4 j hj
          · have := g1 (j - n * sz) ws[j - n * sz] (List.getElem?_eq_getElem (by omega))
            rw [show n * sz + (j - n * sz) = j by omega] at this
            rw [this]; rfl
        · by_cases e : j < vs.length
          · rw [List.getElem?_append_left e] at hx
            rw [g2 j (.inl (by omega))]
            exact h5 j x hx
          · rw [List.getElem?_append_right (by omega)] at hx
            have := g1 _ _ hx
            rwa [show n * sz + (j - vs.length) = j by omega] at this
  · have hcs : (n + m) * sz ≤ c * sz := Nat.mul_le_mul_right _ hc2
    rw [Nat.add_mul] at hcs
    refine hk _ _ _ ⟨by rw [List.length_append]; omega, .inr ⟨h.size, rfl, by rw [push_size]; omega, fun j => hfrz_push_new, fun j hj => ?_, fun j x hx => ?_⟩⟩ ((Fr.refl _ _).push) (fun x hx => .inr ?_)
    · rw [hcell_push_new]
      simp only [List.getElem?_toArray]
      have hl : (vs ++ ws ++ rest).length = c * sz := by
        rw [List.length_append, List.length_append, hr, Nat.sub_mul, Nat.add_mul]; omega
      rw [List.getElem?_eq_getElem (by omega)]; rfl
    · rw [hcell_push_new]
      simp only [List.getElem?_toArray]
      rw [List.getElem?_append_left (by simpa using (List.getElem?_eq_some_iff.1 hx).1)]
      exact hx
    · obtain ⟨a, ha, hx⟩ := hx
      cases ha; simp at hx; omega

/-- a slice of a fresh block -/
theorem SlAt.new {e : TypeId} : SlAt (h.push (.cells vs.toArray e)) (some ⟨h.size, 0, none⟩) vs.length vs := by
  refine ⟨Nat.le_refl _, .inr ⟨h.size, rfl, by rw [push_size]; omega, fun j => hfrz_push_new, fun j hj => ?_, fun j x hx => ?_⟩⟩
  · rw [hcell_push_lit, ← atL_eq, List.getElem?_eq_getElem hj]; rfl
  · rw [hcell_push_lit, ← atL_eq]; exact hx
/-- a slice of none, fresh -/
theorem build0 {e : TypeId} {s b : Nat} {z : Value} {k : Value → Heap → Prop} (hk : k (.slice (some ⟨h.size, 0, none⟩) 0 0) (h.push (.cells #[] e))) : @buildSliceK (some (e, s, b, z)) 0 [] ⟨h⟩ ⟨k⟩ := by
  refine ⟨by omega, #[], ?_, hk⟩
  have hc : zerosOf z.cells (0 * s) = #[] := by simp [zerosOf]
  rw [hc]; rfl

/-- copy -/
theorem copyN {e : TypeId} {sz bt : Nat} {z : Value} {db off dl dc sl sc : Nat} {xb : Option Addr} {ws : List Value} {k : Value → Heap → Prop}
    (hw : RowAt h xb ws) (hm : min sl dl * sz = ws.length) (hone : ∀ w ∈ ws, w.oneCell' = true) (hc : ∀ j, j < ws.length → (hcell h ⟨db, off + j, none⟩).isSome = true) (hf : ∀ j, hfrz h ⟨db, j, none⟩ = false)
    (hk : ∀ h', (∀ j v, ws[j]? = some v → hcell h' ⟨db, off + j, none⟩ = some v) → (∀ x, (x < off ∨ off + ws.length ≤ x) → hcell h' ⟨db, x, none⟩ = hcell h ⟨db, x, none⟩) → (∀ x, hfrz h' ⟨db, x, none⟩ = false) → Fr (fun x => x = db) h h' →
      k (.int .i64 (min sl dl : Nat)) h') : @copyK (some (e, sz, bt, z)) (.slice (some ⟨db, off, none⟩) dl dc) (.slice xb sl sc) ⟨h⟩ ⟨k⟩ := by
  refine ⟨ws, hw.load hm, ?_⟩
  show storeN h ⟨db, off, none⟩ 0 ws _
  refine storeN_some hone (fun j hj => ?_) hf fun h' g1 g2 g3 g4 => ?_
  · rw [Nat.add_zero]; exact hc j hj
  · rw [Nat.add_zero] at g1 g2
    exact hk h' g1 g2 g3 g4
end
end Xe

/- Maps whose keys are integers, as functions; slices that begin anywhere in their block. -/
namespace Xe
open Go

def lk (m : List (Int × Value)) (x : Int) : Option Value := match m with
  | [] => none
  | (y, v) :: m => if x = y then some v else lk m x
def KeysOk (es : List MapEntry) (m : List (Int × Value)) : Prop := es.map (fun e => (e.key, e.val)) = m.map fun p => ((Value.int .i64 p.1 : Value), p.2)
theorem lk_none {m : List (Int × Value)} {x : Int} : lk m x = none ↔ x ∉ m.map Prod.fst := by
  induction m with
  | nil => simp [lk]
  | cons p m ih =>
    obtain ⟨y, v⟩ := p
    unfold lk
    by_cases e : x = y
    · simp [e]
    · simp [e, ih]
theorem findNow_spec {x : Int} : ∀ {m : List (Int × Value)} {es : List MapEntry} {i : Nat}, KeysOk es m → ∃ o, Instr.findNow (.int .i64) (.int .i64 x) es i = some o ∧
    match o with
    | none => lk m x = none
    | some (j, v) => ∃ t, j = i + t ∧ m[t]? = some (x, v) ∧ lk m x = some v
  | [], es, i, hk => by
    have : es = [] := by
      unfold KeysOk at hk
      simpa using hk
    subst this
    exact ⟨none, rfl, rfl⟩
  | (y, v) :: m, [], i, hk => by unfold KeysOk at hk; simp at hk
  | (y, v) :: m, e :: es, i, hk => by
    unfold KeysOk at hk
    simp only [List.map_cons, List.cons.injEq, Prod.mk.injEq] at hk
    obtain ⟨⟨h1, h2⟩, h3⟩ := hk
    unfold Instr.findNow
    rw [h1]
    by_cases exy : x = y
    · subst exy
      refine ⟨some (i, e.val), by simp [Instr.sameNow], 0, rfl, by rw [h2]; rfl, ?_⟩
      unfold lk; rw [if_pos rfl, h2]
    · obtain ⟨o, ho, hs⟩ := findNow_spec (x := x) (m := m) (es := es) (i := i + 1) h3
      have hb : (x == y) = false := by simpa using exy
      refine ⟨o, by simp [Instr.sameNow, hb, ho], ?_⟩
      cases o with
      | none => simp only at hs ⊢; unfold lk; rw [if_neg exy]; exact hs
      | some p =>
        obtain ⟨j, u⟩ := p
        obtain ⟨t, ht, hm, hl⟩ := hs
        exact ⟨t + 1, by omega, by simpa using hm, by unfold lk; rw [if_neg exy]; exact hl⟩
theorem lk_set {x : Int} {v w : Value} : ∀ {m : List (Int × Value)} {t : Nat}, (m.map Prod.fst).Nodup → m[t]? = some (x, w) → ∀ y, lk (m.set t (x, v)) y = if y = x then some v else lk m y
  | [], t, _, h, _ => by simp at h
  | (z, u) :: m, 0, hn, h, y => by
    simp only [List.getElem?_cons_zero, Option.some.injEq, Prod.mk.injEq] at h
    obtain ⟨rfl, rfl⟩ := h
    rw [List.set_cons_zero]
    unfold lk
    by_cases e : y = z <;> simp [e]
  | (z, u) :: m, t + 1, hn, h, y => by
    rw [List.map_cons, List.nodup_cons] at hn
    rw [List.getElem?_cons_succ] at h
    rw [List.set_cons_succ]
    unfold lk
    rw [lk_set hn.2 h y]
    by_cases e : y = z
    · subst e
      have : y ≠ x := fun e => hn.1 (List.mem_map.2 ⟨_, List.mem_of_getElem? h, e.symm⟩)
      rw [if_pos rfl, if_neg this, if_pos rfl]
    · rw [if_neg e, if_neg e]
theorem lk_push {x : Int} {v : Value} {m : List (Int × Value)} (h : lk m x = none) (y : Int) : lk (m ++ [(x, v)]) y = if y = x then some v else lk m y := by
  induction m with
  | nil => simp [lk]
  | cons p m ih =>
    obtain ⟨z, u⟩ := p
    unfold lk at h
    by_cases e : x = z
    · rw [if_pos e] at h; cases h
    · rw [if_neg e] at h
      rw [List.cons_append]
      unfold lk
      rw [ih h]
      by_cases e2 : y = z
      · subst e2; rw [if_pos rfl, if_neg (Ne.symm e), if_pos rfl]
      · rw [if_neg e2, if_neg e2]
theorem lk_erase {x : Int} {w : Value} : ∀ {m : List (Int × Value)} {t : Nat}, (m.map Prod.fst).Nodup → m[t]? = some (x, w) → ∀ y, lk (m.eraseIdx t) y = if y = x then none else lk m y
  | [], t, _, h, _ => by simp at h
  | (z, u) :: m, 0, hn, h, y => by
    simp only [List.getElem?_cons_zero, Option.some.injEq, Prod.mk.injEq] at h
    obtain ⟨rfl, rfl⟩ := h
    rw [List.map_cons, List.nodup_cons] at hn
    rw [List.eraseIdx_cons_zero]
    by_cases e : y = z
    · subst e; rw [if_pos rfl]; exact lk_none.2 hn.1
    · rw [if_neg e]; unfold lk; rw [if_neg e]; cases m <;> rfl
  | (z, u) :: m, t + 1, hn, h, y => by
    rw [List.map_cons, List.nodup_cons] at hn
    rw [List.getElem?_cons_succ] at h
    rw [List.eraseIdx_cons_succ]
    unfold lk
    rw [lk_erase hn.2 h y]
    by_cases e : y = z
    · subst e
      have : y ≠ x := fun e => hn.1 (List.mem_map.2 ⟨_, List.mem_of_getElem? h, e.symm⟩)
      rw [if_pos rfl, if_neg this, if_pos rfl]
    · rw [if_neg e, if_neg e]

theorem map_erase {α β : Type} (f : α → β) : ∀ (l : List α) (i : Nat), (l.eraseIdx i).map f = (l.map f).eraseIdx i
  | [], _ => rfl
  | _ :: _, 0 => rfl
  | a :: l, i + 1 => by simp [map_erase f l i]

/-- a map -/
structure MapAt (h : Heap) (r : Nat) (f : Int → Option Value) : Prop where
  ex : ∃ es clk m, h[r]? = some (.map es clk) ∧ KeysOk es.toList m ∧ (m.map Prod.fst).Nodup ∧ ∀ x, f x = lk m x

section
variable {h : Heap} {r : Nat} {f : Int → Option Value} {P : Program} {t kt e : TypeId}
theorem MapAt.lt (M : MapAt h r f) : r < h.size := by
  obtain ⟨es, clk, m, h1, _⟩ := M.ex
  exact (Array.getElem?_eq_some_iff.1 h1).1
theorem MapAt.same (M : MapAt h r f) {h' : Heap} (e : h'[r]? = h[r]?) : MapAt h' r f := by
  obtain ⟨es, clk, m, h1, h2⟩ := M.ex
  exact ⟨es, clk, m, by rw [e]; exact h1, h2⟩
theorem MapAt.fr (M : MapAt h r f) {S : Nat → Prop} {h' : Heap} (fr : Fr S h h') (hs : ¬ S r) : MapAt h' r f := M.same (fr.same r M.lt hs)

theorem mapOf_at {es : Array MapEntry} {clk : Nat} (h1 : h[r]? = some (.map es clk)) : mapOf h (.map (some r)) = some (r, es, clk) := by unfold mapOf; simp [h1]
theorem MapAt.look (M : MapAt h r f) {z : Value} (ht : mapT P t = some (kt, e)) (hz : zeroOf P e = some z) (x : Int) : lookV P t (.map (some r)) (.int .i64 x) false h = some ((f x).getD z) := by
  obtain ⟨es, clk, m, h1, h2, h3, h4⟩ := M.ex
  obtain ⟨o, ho, hs⟩ := findNow_spec (x := x) (i := 0) h2
  have ho' : findI es x = some o := ho
  unfold lookV
  rw [ht]
  simp only [Option.bind_some, hz, mapOf_at h1, keyI, ho', Option.map_some, Bool.false_eq_true, if_false]
  rw [h4]
  cases o with
  | none => simp only at hs; rw [hs]; rfl
  | some p => obtain ⟨j, v⟩ := p; obtain ⟨_, _, _, hl⟩ := hs; rw [hl]; rfl
theorem set_fr {X : Obj} : Fr (fun y => y = r) h (h.setIfInBounds r X) := ⟨by simp, fun x hx hn => by rw [Array.getElem?_setIfInBounds_ne (Ne.symm hn)]⟩
theorem set_at {X : Obj} (hr : r < h.size) : (h.setIfInBounds r X)[r]? = some X := by simp [hr]
theorem keys_set {es : Array MapEntry} {m : List (Int × Value)} {j t : Nat} {x : Int} {v : Value} (h2 : KeysOk es.toList m) (hj : j = 0 + t) : KeysOk (es.modify j fun e => { e with key := .int .i64 x, val := v }).toList (m.set t (x, v)) := by
  unfold KeysOk at *
  have hl : es.toList.length = m.length := by have := congrArg List.length h2; simpa using this
  apply List.ext_getElem?
  intro k
  have hk := congrArg (·[k]?) h2
  simp only [List.getElem?_map] at hk
  simp only [List.getElem?_map, List.getElem?_set, Array.getElem?_toList] at hk ⊢
  rw [Array.getElem?_modify]
  by_cases e : j = k
  · have e2 : t = k := by omega
    subst e2
    rw [if_pos e, if_pos rfl]
    by_cases hlt : t < m.length
    · have : t < es.size := by have hl2 : es.size = m.length := by simpa using hl
                               omega
      simp [hlt, this]
    · have : ¬ t < es.size := by have hl2 : es.size = m.length := by simpa using hl
                                 omega
      simp [hlt, this]
  · rw [if_neg e, if_neg (by omega)]
    exact hk
theorem MapAt.up (M : MapAt h r f) {x : Int} {v : Value} {j : Heap → Prop} (ht : mapT P t = some (kt, e)) (hk : ∀ h', MapAt h' r (fun y => if y = x then some v else f y) → Fr (fun y => y = r) h h' → j h') :
    @mapUpK P t (.map (some r)) (.int .i64 x) v ⟨h⟩ ⟨j⟩ := by
  obtain ⟨es, clk, m, h1, h2, h3, h4⟩ := M.ex
  obtain ⟨o, ho, hs⟩ := findNow_spec (x := x) (i := 0) h2
  have ho' : findI es x = some o := ho
  refine ⟨kt, e, r, es, clk, x, o, ht, mapOf_at h1, rfl, ho', fun i u hiu => ?_, ?_⟩
  · subst hiu
    obtain ⟨t, ht', hm, _⟩ := hs
    have hk := congrArg (·[i]?) h2
    simp only [List.getElem?_map, Array.getElem?_toList] at hk
    rw [show i = t by omega] at hk ⊢
    rw [hm] at hk
    cases he : es[t]? with
    | none => rw [he] at hk; cases hk
    | some a => rw [he] at hk; simp only [Option.map_some, Option.some.injEq, Prod.mk.injEq] at hk ⊢; exact hk.1
  · refine hk _ ?_ set_fr
    cases o with
    | none =>
      refine ⟨_, _, m ++ [(x, v)], set_at M.lt, ?_, ?_, fun y => ?_⟩
      · unfold KeysOk at *; simp [h2]
      · rw [List.map_append, List.nodup_append]
        refine ⟨h3, by simp, fun a ha b hb => ?_⟩
        simp only [List.map_cons, List.map_nil, List.mem_singleton] at hb
        subst hb
        exact fun e => (lk_none.1 hs) (e ▸ ha)
      · rw [lk_push hs y]; rw [h4]
    | some p =>
      obtain ⟨i, u⟩ := p
      obtain ⟨t, ht', hm, _⟩ := hs
      refine ⟨_, _, m.set t (x, v), set_at M.lt, keys_set h2 ht', ?_, fun y => ?_⟩
      · have : (m.set t (x, v)).map Prod.fst = m.map Prod.fst := by
          apply List.ext_getElem?
          intro k
          simp only [List.getElem?_map, List.getElem?_set]
          by_cases e : t = k
          · subst e; rw [if_pos rfl, if_pos (List.getElem?_eq_some_iff.1 hm).1, hm]; rfl
          · rw [if_neg e]
        rw [this]; exact h3
      · rw [lk_set h3 hm y]; rw [h4]
theorem MapAt.del (M : MapAt h r f) {x : Int} {j : Heap → Prop} (ht : mapT P t = some (kt, e)) (hk : ∀ h', MapAt h' r (fun y => if y = x then none else f y) → Fr (fun y => y = r) h h' → j h') :
    @deleteK P t (.map (some r)) (.int .i64 x) ⟨h⟩ ⟨j⟩ := by
  obtain ⟨es, clk, m, h1, h2, h3, h4⟩ := M.ex
  obtain ⟨o, ho, hs⟩ := findNow_spec (x := x) (i := 0) h2
  have ho' : findI es x = some o := ho
  refine ⟨kt, e, r, es, clk, x, o, ht, mapOf_at h1, rfl, ho', ?_⟩
  refine hk _ ?_ set_fr
  cases o with
  | none =>
    refine ⟨_, _, m, set_at M.lt, h2, h3, fun y => ?_⟩
    rw [h4]
    by_cases e : y = x
    · rw [if_pos e, e]; exact hs.symm
    · rw [if_neg e]
  | some p =>
    obtain ⟨i, u⟩ := p
    obtain ⟨t, ht', hm, _⟩ := hs
    have ei : i = t := by omega
    subst ei
    refine ⟨_, _, m.eraseIdx i, set_at M.lt, ?_, ?_, fun y => ?_⟩
    · unfold KeysOk at *
      have hlt : i < es.size := by
        have hl : es.toList.length = m.length := by have := congrArg List.length h2; simpa using this
        have := (List.getElem?_eq_some_iff.1 hm).1
        simp at hl; omega
      rw [Array.eraseIdxIfInBounds, dif_pos hlt, Array.toList_eraseIdx, map_erase, h2, ← map_erase]
    · exact h3.sublist ((List.eraseIdx_sublist m i).map _)
    · rw [lk_erase h3 hm y]; rw [h4]
theorem MapAt.clear (M : MapAt h r f) {d : TypeDesc} {j : Heap → Prop} (ht : P.underlying t = some d) (hk : ∀ h', MapAt h' r (fun _ => none) → Fr (fun y => y = r) h h' → j h') : @clearK P t (.map (some r)) ⟨h⟩ ⟨j⟩ := by
  obtain ⟨es, clk, m, h1, h2, h3, h4⟩ := M.ex
  exact .inl ⟨d, r, es, clk, ht, mapOf_at h1, hk _ ⟨_, _, [], set_at M.lt, rfl, List.nodup_nil, fun _ => rfl⟩ set_fr⟩
theorem MapAt.new : MapAt (h.push (.map #[] 0)) h.size (fun _ => none) := ⟨_, _, [], push_new, rfl, List.nodup_nil, fun _ => rfl⟩
@[go_sem] theorem makeMap_eq {k : Value → Heap → Prop} : @makeMapK ⟨h⟩ ⟨k⟩ = k (.map (some h.size)) (h.push (.map #[] 0)) := rfl
end

/-- a slice of one cell each, from anywhere in its block on -/
structure SlO (h : Heap) (A : Option Addr) (cap : Nat) (vs : List Value) : Prop where
  len : vs.length ≤ cap
  at' : (A = none ∧ cap = 0) ∨ ∃ bk off, A = some ⟨bk, off, none⟩ ∧ bk < h.size ∧ (∀ i, hfrz h ⟨bk, i, none⟩ = false) ∧ (∀ i, i < cap → (hcell h ⟨bk, off + i, none⟩).isSome = true) ∧ ∀ i v, vs[i]? = some v → hcell h ⟨bk, off + i, none⟩ = some v
section
variable {h : Heap} {A : Option Addr} {cap : Nat} {vs : List Value}

theorem SlO.nil : SlO h none 0 [] := ⟨Nat.le_refl _, .inl ⟨rfl, rfl⟩⟩
theorem SlO.blk_lt (S : SlO h A cap vs) {x : Nat} (hx : blk A x) : x < h.size := by
  obtain ⟨a, rfl, rfl⟩ := hx
  rcases S.at' with ⟨h1, _⟩ | ⟨bk, off, h1, h2, _⟩
  · cases h1
  · cases h1; exact h2
theorem SlO.base (S : SlO h A cap vs) (hv : 0 < cap) : ∃ bk off, A = some ⟨bk, off, none⟩ ∧ bk < h.size ∧ (∀ i, hfrz h ⟨bk, i, none⟩ = false) ∧ ∀ i v, vs[i]? = some v → hcell h ⟨bk, off + i, none⟩ = some v := by
  rcases S.at' with ⟨_, h2⟩ | ⟨bk, off, h1, h2, h3, _, h4⟩
  · omega
  · exact ⟨bk, off, h1, h2, h3, h4⟩
theorem SlO.keep (S : SlO h A cap vs) {h' : Heap} (hk : ∀ x, blk A x → h'[x]? = h[x]?) (hz : h.size ≤ h'.size) : SlO h' A cap vs := by
  refine ⟨S.len, ?_⟩
  rcases S.at' with h1 | ⟨bk, off, h1, h2, h3, h4, h5⟩
  · exact .inl h1
  · have e := hk bk ⟨_, h1, rfl⟩
    refine .inr ⟨bk, off, h1, Nat.lt_of_lt_of_le h2 hz, fun i => ?_, fun i hi => ?_, fun i v hv => ?_⟩
    · rw [← h3 i]; unfold hfrz; rw [e]
    · rw [← h4 i hi]; unfold hcell; rw [e]
    · rw [← h5 i v hv]; unfold hcell; rw [e]
theorem SlO.fr {S : Nat → Prop} {h' : Heap} (L : SlO h A cap vs) (f : Fr S h h') (hn : ∀ x, blk A x → ¬ S x) : SlO h' A cap vs :=
  L.keep (fun x hx => f.same x (L.blk_lt hx) (hn x hx)) f.size
theorem SlO.row (S : SlO h A cap vs) : RowAt h A vs := by
  rcases S.at' with ⟨h1, h2⟩ | ⟨bk, off, h1, _, _, _, h5⟩
  · have := S.len
    exact .inl (List.eq_nil_of_length_eq_zero (by omega))
  · exact .inr ⟨bk, off, h1, h5⟩
theorem SlO.tail {bk off : Nat} {v : Value} (S : SlO h (some ⟨bk, off, none⟩) cap (v :: vs)) : SlO h (some ⟨bk, if cap = 1 then off else off + 1, none⟩) (cap - 1) vs := by
  have hl := S.len
  rw [List.length_cons] at hl
  refine ⟨by omega, .inr ?_⟩
  rcases S.at' with ⟨h1, _⟩ | ⟨bk', off', h1, h2, h3, h4, h5⟩
  · cases h1
  · cases h1
    refine ⟨bk, _, rfl, h2, h3, fun i hi => ?_, fun i u hu => ?_⟩
    · rw [if_neg (by omega), show off + 1 + i = off + (i + 1) by omega]; exact h4 (i + 1) (by omega)
    · have hi := (List.getElem?_eq_some_iff.1 hu).1
      rw [if_neg (by omega), show off + 1 + i = off + (i + 1) by omega]; exact h5 (i + 1) u (by simpa using hu)

/-- append of a row -/
theorem appendQ {e : TypeId} {bt n m xc : Nat} {z : Value} {xb : Option Addr} {ws : List Value} {k : Value → Heap → Prop} (S : SlO h A cap vs) (hn : n = vs.length) (hw : RowAt h xb ws) (hm : m = ws.length) (hone : ∀ w ∈ ws, w.oneCell' = true)
    (hlen : (n + m) * bt ≤ 2 ^ 47) (hlm : n + m < 2 ^ 50)
    (hk : ∀ A' cap' h', SlO h' A' cap' (vs ++ ws) → Fr (blk A) h h' → (∀ x, blk A' x → blk A x ∨ h.size ≤ x) → k (.slice A' (n + m) cap') h') :
    @appendK (some (e, 1, bt, z)) (.slice A n cap) (.slice xb m xc) ⟨h⟩ ⟨k⟩ := by
  subst hn
  change appendX (some (e, 1, bt, z)) (.slice A vs.length cap) (.slice xb m xc) h k
  refine ⟨ws, hw.load (by omega), fun hc => ?_, fun hc => ⟨hlen, by unfold maxLen; omega, vs, S.row.load (by omega), fun c rest hc2 hr => ?_⟩⟩
  · rcases S.at' with ⟨rfl, h2⟩ | ⟨bk, off, rfl, h2, h3, h4, h5⟩
    · have hm0 : m = 0 := by omega
      subst hm0
      have hws : ws = [] := List.eq_nil_of_length_eq_zero (by omega)
      subst hws
      exact hk none cap h (by rw [List.append_nil]; exact S) (Fr.refl _ _) (fun x hx => .inl hx)
    · show storeN h (Addr.add ⟨bk, off, none⟩ (vs.length * 1)) 0 ws _
      rw [add_n, Nat.mul_one]
      refine storeN_some hone (fun j hj => ?_) h3 fun h' g1 g2 g3 g4 => ?_
      · rw [Nat.add_zero, Nat.add_assoc]; exact h4 _ (by omega)
      · rw [Nat.add_zero] at g1 g2
        refine hk _ _ _ ⟨by rw [List.length_append]; omega, .inr ⟨bk, off, rfl, Nat.lt_of_lt_of_le h2 g4.size, g3, fun j hj => ?_, fun j x hx => ?_⟩⟩ (g4.mono fun x _ hx => ⟨_, rfl, hx.symm⟩) (fun x hx => .inl hx)
        · by_cases hin : off + j < off + vs.length ∨ off + vs.length + ws.length ≤ off + j
          · rw [g2 _ hin]; exact h4 j hj
          · have := g1 (j - vs.length) ws[j - vs.length] (List.getElem?_eq_getElem (by omega))
            rw [show off + vs.length + (j - vs.length) = off + j by omega] at this
            rw [this]; rfl
        · by_cases e : j < vs.length
          · rw [List.getElem?_append_left e] at hx
            rw [g2 _ (.inl (by omega))]
            exact h5 j x hx
          · rw [List.getElem?_append_right (by omega)] at hx
            have := g1 _ _ hx
            rwa [show off + vs.length + (j - vs.length) = off + j by omega] at this
  · refine hk _ _ _ ⟨by rw [List.length_append]; omega, .inr ⟨h.size, 0, rfl, by rw [push_size]; omega, fun j => hfrz_push_new, fun j hj => ?_, fun j x hx => ?_⟩⟩ ((Fr.refl _ _).push) (fun x hx => .inr ?_)
    · rw [Nat.zero_add, hcell_push_new]
      simp only [List.getElem?_toArray]
      have hl : (vs ++ ws ++ rest).length = c := by rw [List.length_append, List.length_append, hr]; omega
      rw [List.getElem?_eq_getElem (by omega)]; rfl
    · rw [Nat.zero_add, hcell_push_new]
      simp only [List.getElem?_toArray]
      rw [List.getElem?_append_left (by simpa using (List.getElem?_eq_some_iff.1 hx).1)]
      exact hx
    · obtain ⟨a, ha, hx⟩ := hx
      cases ha; simp at hx; omega
end
end Xe
