/- Blocks, each by itself; rows of values read, appended, copied. -/
import Derived.Test.YtkghjecglmmloaaMono
import Derived.Test.YtkghjecglmmloaaSl
namespace Xe
open Go

/-- a block that holds a list of cells -/
structure ListB (h : Heap) (b : Nat) (vs : List Value) : Prop where
  at' : ∀ i v, vs[i]? = some v → hcell h ⟨b, i, none⟩ = some v
  fz : ∀ o, hfrz h ⟨b, o, none⟩ = false
  lt : b < h.size
/-- a block that holds so many cells -/
structure FnB (h : Heap) (b n : Nat) (f : Nat → Value) : Prop where
  at' : ∀ i, i < n → hcell h ⟨b, i, none⟩ = some (f i)
  fz : ∀ o, hfrz h ⟨b, o, none⟩ = false
  lt : b < h.size

section
variable {h h' : Heap} {b n : Nat} {f : Nat → Value} {vs : List Value}
theorem ListB.same (B : ListB h b vs) (e : h'[b]? = h[b]?) : ListB h' b vs where
  at' i v hv := by rw [← B.at' i v hv]; unfold hcell; rw [e]
  fz o := by rw [← B.fz o]; unfold hfrz; rw [e]
  lt := by
    have := B.lt
    rw [Array.getElem?_eq_getElem this] at e
    exact (Array.getElem?_eq_some_iff.1 e).1
theorem FnB.same (B : FnB h b n f) (e : h'[b]? = h[b]?) : FnB h' b n f where
  at' i hi := by rw [← B.at' i hi]; unfold hcell; rw [e]
  fz o := by rw [← B.fz o]; unfold hfrz; rw [e]
  lt := by
    have := B.lt
    rw [Array.getElem?_eq_getElem this] at e
    exact (Array.getElem?_eq_some_iff.1 e).1
theorem ListB.fr {S : Nat → Prop} (B : ListB h b vs) (r : Fr S h h') (hs : ¬ S b) : ListB h' b vs := B.same (r.same b B.lt hs)
theorem FnB.fr {S : Nat → Prop} (B : FnB h b n f) (r : Fr S h h') (hs : ¬ S b) : FnB h' b n f := B.same (r.same b B.lt hs)
theorem ListB.oth (B : ListB h b vs) {c o : Nat} {v : Value} (e : b ≠ c) : ListB (hset h ⟨c, o, none⟩ v) b vs := B.same (hset_other e)
theorem FnB.oth (B : FnB h b n f) {c o : Nat} {v : Value} (e : b ≠ c) : FnB (hset h ⟨c, o, none⟩ v) b n f := B.same (hset_other e)
theorem ListB.push (B : ListB h b vs) {X : Obj} : ListB (h.push X) b vs := B.same (push_old B.lt)
theorem FnB.push (B : FnB h b n f) {X : Obj} : FnB (h.push X) b n f := B.same (push_old B.lt)
theorem ListB.set (B : ListB h b vs) {i : Nat} (v : Value) (hi : i < vs.length) : ListB (hset h ⟨b, i, none⟩ v) b (vs.set i v) where
  at' j x hx := by
    rw [hcell_hset]
    rw [List.getElem?_set] at hx
    by_cases e : j = i
    · subst e
      rw [if_pos rfl, if_pos hi] at hx
      rw [if_pos ⟨rfl, rfl⟩, B.at' j _ (List.getElem?_eq_getElem hi)]
      exact hx
    · rw [if_neg (Ne.symm e)] at hx
      rw [if_neg (fun h => e h.2)]; exact B.at' j x hx
  fz o := by rw [hfrz_hset]; exact B.fz o
  lt := by rw [hset_size]; exact B.lt
theorem FnB.set (B : FnB h b n f) {i : Nat} (v : Value) (hi : i < n) : FnB (hset h ⟨b, i, none⟩ v) b n (fun j => if j = i then v else f j) where
  at' j hj := by
    rw [hcell_hset]
    by_cases e : j = i
    · subst e; rw [if_pos ⟨rfl, rfl⟩, B.at' j hj, if_pos rfl]; rfl
    · rw [if_neg (fun h => e h.2), if_neg e]; exact B.at' j hj
  fz o := by rw [hfrz_hset]; exact B.fz o
  lt := by rw [hset_size]; exact B.lt
theorem FnB.cong {g : Nat → Value} (B : FnB h b n f) (e : ∀ i, i < n → f i = g i) : FnB h b n g := ⟨fun i hi => by rw [← e i hi]; exact B.at' i hi, B.fz, B.lt⟩
theorem ListB.new {e : TypeId} : ListB (h.push (.cells vs.toArray e)) h.size vs where
  at' i v hv := by rw [hcell_push_lit, ← atL_eq]; exact hv
  fz o := hfrz_push_new
  lt := by rw [push_size]; omega
theorem FnB.zeros {z : Value} {m : Nat} {e : TypeId} : FnB (h.push (.cells (zerosOf #[z] m) e)) h.size m (fun _ => z) where
  at' i hi := by
    rw [hcell_push_new]
    unfold zerosOf
    rw [Array.getElem?_map, Array.getElem?_range, if_pos hi]
    simp [Nat.mod_one]
  fz o := hfrz_push_new
  lt := by rw [push_size]; omega

/-! ### Rows that are read -/
/-- a row of cells at a slice's base: nothing is said of what is nil -/
def RowAt (h : Heap) (A : Option Addr) (vs : List Value) : Prop := vs = [] ∨ ∃ bk off, A = some ⟨bk, off, none⟩ ∧ ∀ i v, vs[i]? = some v → hcell h ⟨bk, off + i, none⟩ = some v
theorem RowAt.nil {A : Option Addr} : RowAt h A [] := .inl rfl
theorem RowAt.get {A : Option Addr} (R : RowAt h A vs) (hv : 0 < vs.length) : ∃ bk off, A = some ⟨bk, off, none⟩ ∧ ∀ i v, vs[i]? = some v → hcell h ⟨bk, off + i, none⟩ = some v := by
  rcases R with rfl | R
  · simp at hv
  · exact R
theorem RowAt.fr {A : Option Addr} (R : RowAt h A vs) {S : Nat → Prop} (f : Fr S h h') (hs : ∀ x, blk A x → ¬ S x) : RowAt h' A vs := by
  rcases R with rfl | ⟨bk, off, rfl, hc⟩
  · exact .inl rfl
  · refine .inr ⟨bk, off, rfl, fun i v hv => ?_⟩
    have := hc i v hv
    exact (f.cell (hcell_lt this) (hs _ ⟨_, rfl, rfl⟩)).trans this
theorem RowAt.fr0 {A : Option Addr} (R : RowAt h A vs) (f : Fr (fun _ => False) h h') : RowAt h' A vs := R.fr f (fun _ _ => id)
theorem SlAt.row {A : Option Addr} {cap : Nat} (S : SlAt h A cap vs) : RowAt h A vs := by
  rcases S.at' with ⟨h1, h2⟩ | ⟨bk, h1, _, _, _, h5⟩
  · have := S.len
    exact .inl (List.eq_nil_of_length_eq_zero (by omega))
  · exact .inr ⟨bk, 0, h1, fun i v hv => by rw [Nat.zero_add]; exact h5 i v hv⟩
theorem RowAt.take {A : Option Addr} (R : RowAt h A vs) (n : Nat) : RowAt h A (vs.take n) := by
  rcases R with rfl | ⟨bk, off, rfl, hc⟩
  · exact .inl (by simp)
  · refine .inr ⟨bk, off, rfl, fun i v hv => hc i v ?_⟩
    rw [List.getElem?_take] at hv
    split at hv
    · exact hv
    · cases hv

theorem loadN_some {bk off : Nat} : ∀ {vs : List Value} {i : Nat}, (∀ j x, vs[j]? = some x → hcell h ⟨bk, off + i + j, none⟩ = some x) → loadN h ⟨bk, off, none⟩ i vs.length = some vs := by
  intro vs
  induction vs with
  | nil => intro i _; rfl
  | cons y l ih =>
    intro i hi
    have h0 := hi 0 y rfl
    have h1 := ih (i := i + 1) (by intro j x hj; have := hi (j + 1) x hj; rwa [show off + (i + 1) + j = off + i + (j + 1) by omega])
    simp only [Nat.add_zero] at h0
    simp [loadN, add_n, h0, h1]
theorem RowAt.load {A : Option Addr} (R : RowAt h A vs) {n : Nat} (hn : n = vs.length) : rowN h A n = some vs := by
  subst hn
  rcases R with rfl | ⟨bk, off, rfl, hc⟩
  · cases A <;> rfl
  · exact loadN_some fun j x hx => by rw [Nat.add_zero]; exact hc j x hx

/-- many stores in a row -/
theorem storeN_some {b : Nat} : ∀ {ws : List Value} {o i : Nat} {h : Heap} {k : Heap → Prop}, (∀ w ∈ ws, w.oneCell' = true) → (∀ j, j < ws.length → (hcell h ⟨b, o + i + j, none⟩).isSome = true) → (∀ j, hfrz h ⟨b, j, none⟩ = false) →
    (∀ h', (∀ j v, ws[j]? = some v → hcell h' ⟨b, o + i + j, none⟩ = some v) → (∀ x, (x < o + i ∨ o + i + ws.length ≤ x) → hcell h' ⟨b, x, none⟩ = hcell h ⟨b, x, none⟩) → (∀ x, hfrz h' ⟨b, x, none⟩ = false) → Fr (fun x => x = b) h h' → k h') →
    storeN h ⟨b, o, none⟩ i ws k
  | [], o, i, h, k, _, _, hf, hk => hk h (fun _ _ h => (nomatch h)) (fun _ _ => rfl) hf (Fr.refl _ _)
  | w :: ws, o, i, h, k, h1, h2, hf, hk => by
    have c0 := h2 0 (by simp)
    rw [Nat.add_zero] at c0
    refine ⟨h1 w (List.mem_cons_self ..), by rw [add_n]; exact c0, by rw [add_n]; exact hf _, ?_⟩
    refine storeN_some (fun x hx => h1 x (List.mem_cons_of_mem _ hx)) (fun j hj => ?_) (fun j => by rw [hfrz_hset]; exact hf j) fun h' g1 g2 g3 g4 => ?_
    · rw [add_n, hcell_hset, if_neg (by omega)]
      have := h2 (j + 1) (by simp; omega)
      rwa [show o + (i + 1) + j = o + i + (j + 1) by omega]
    · rw [add_n] at g2 g4
      refine hk h' (fun j v hv => ?_) (fun x hx => ?_) g3 (((Fr.refl (fun x => x = b) h).set (show (fun x => x = b) b from rfl)).trans g4)
      · cases j with
        | zero =>
          simp only [List.getElem?_cons_zero, Option.some.injEq] at hv
          subst hv
          rw [Nat.add_zero, g2 (o + i) (.inl (by omega)), hcell_hset, if_pos ⟨rfl, rfl⟩]
          obtain ⟨u, hu⟩ := Option.isSome_iff_exists.1 c0
          rw [hu]; rfl
        | succ j =>
          have := g1 j v hv
          rwa [show o + (i + 1) + j = o + i + (j + 1) by omega] at this
      · rw [g2 x (by simp at hx; omega), hcell_hset, if_neg (by simp at hx; omega)]

@[go_sem] theorem slice_from {m len cap b o : Nat} {kd : IntKind} {i : Int} (h0 : 0 ≤ i) (h1 : i ≤ len) (h2 : i < cap) : sliceV (some (m, none)) (.slice (some ⟨b, o, none⟩) len cap) (some (.int kd i)) none = some (.slice (some ⟨b, o + i.toNat * m, none⟩) (len - i.toNat) (cap - i.toNat)) := by
  unfold sliceV boundV
  have e : ¬ cap = i.toNat := by omega
  simp only [Option.bind_some, if_pos (And.intro h0 h1), Option.map_some, e, if_false, add_n]

/-- append of many cells, 'sz' to an element -/
theorem appendN {e : TypeId} {sz bt : Nat} {z : Value} {A xb : Option Addr} {cap n m xc : Nat} {ws : List Value} {k : Value → Heap → Prop} (S : SlAt h A (cap * sz) vs) (hn : n * sz = vs.length)
    (hw : RowAt h xb ws) (hm : m * sz = ws.length) (hs : 0 < sz) (hone : ∀ w ∈ ws, w.oneCell' = true) (hlen : (n + m) * bt ≤ 2 ^ 47) (hlm : n + m < 2 ^ 50)
    (hk : ∀ A' cap' h', SlAt h' A' (cap' * sz) (vs ++ ws) → Fr (blk A) h h' → (∀ x, blk A' x → blk A x ∨ h.size ≤ x) → k (.slice A' (n + m) cap') h') :
    @appendK (some (e, sz, bt, z)) (.slice A n cap) (.slice xb m xc) ⟨h⟩ ⟨k⟩ := by
  change appendX (some (e, sz, bt, z)) (.slice A n cap) (.slice xb m xc) h k
  refine ⟨ws, hw.load hm, fun hc => ?_, fun hc => ⟨hlen, by unfold maxLen; omega, vs, S.row.load hn, fun c rest hc2 hr => ?_⟩⟩
  · rcases S.at' with ⟨rfl, h2⟩ | ⟨bk, rfl, h2, h3, h4, h5⟩
    · have hv : vs = [] := List.eq_nil_of_length_eq_zero (by have := S.len; omega)
      have hcap : cap = 0 := by
        rcases Nat.eq_zero_or_pos cap with h | h
        · exact h
        · have := Nat.mul_pos h hs; omega
      have hm0 : m = 0 := by omega
      subst hm0
      have hws : ws = [] := List.eq_nil_of_length_eq_zero (by omega)
      subst hws
      exact hk none cap h (by rw [List.append_nil]; exact S) (Fr.refl _ _) (fun x hx => .inl hx)
    · have hcs : (n + m) * sz ≤ cap * sz := Nat.mul_le_mul_right _ hc
      rw [Nat.add_mul] at hcs
      show storeN h (Addr.add ⟨bk, 0, none⟩ (n * sz)) 0 ws _
      rw [add_n]
      refine storeN_some hone (fun j hj => ?_) h3 fun h' g1 g2 g3 g4 => ?_
      · rw [Nat.add_zero, Nat.zero_add]
        exact h4 _ (by omega)
      · rw [Nat.add_zero, Nat.zero_add] at g1 g2
        refine hk _ _ _ ⟨by rw [List.length_append]; omega, .inr ⟨bk, rfl, Nat.lt_of_lt_of_le h2 g4.size, g3, fun j hj => ?_, fun j x hx => ?_⟩⟩ (g4.mono fun x _ hx => ⟨_, rfl, hx.symm⟩) (fun x hx => .inl hx)
        · by_cases hin : j < n * sz ∨ n * sz + ws.length ≤ j
          · rw [g2 j hin]; exact h4 j hj
          · have := g1 (j - n * sz) ws[j - n * sz] (List.getElem?_eq_getElem (by omega))
            rw [show n * sz + (j - n * sz) = j by omega] at this
            rw [this]; rfl
        · by_cases e : j < vs.length
          · rw [List.getElem?_append_left e] at hx
            rw [g2 j (.inl (by omega))]
            exact h5 j x hx
          · rw [List.getElem?_append_right (by omega)] at hx
            have := g1 _ _ hx
            rwa [show n * sz + (j - vs.length) = j by omega] at this
  · have hcs : (n + m) * sz ≤ c * sz := Nat.mul_le_mul_right _ hc2
    rw [Nat.add_mul] at hcs
    refine hk _ _ _ ⟨by rw [List.length_append]; omega, .inr ⟨h.size, rfl, by rw [push_size]; omega, fun j => hfrz_push_new, fun j hj => ?_, fun j x hx => ?_⟩⟩ ((Fr.refl _ _).push) (fun x hx => .inr ?_)
    · rw [hcell_push_new]
      simp only [List.getElem?_toArray]
      have hl : (vs ++ ws ++ rest).length = c * sz := by
        rw [List.length_append, List.length_append, hr, Nat.sub_mul, Nat.add_mul]; omega
      rw [List.getElem?_eq_getElem (by omega)]; rfl
    · rw [hcell_push_new]
      simp only [List.getElem?_toArray]
      rw [List.getElem?_append_left (by simpa using (List.getElem?_eq_some_iff.1 hx).1)]
      exact hx
    · obtain ⟨a, ha, hx⟩ := hx
      cases ha; simp at hx; omega

/-- a slice of a fresh block -/
theorem SlAt.new {e : TypeId} : SlAt (h.push (.cells vs.toArray e)) (some ⟨h.size, 0, none⟩) vs.length vs := by
  refine ⟨Nat.le_refl _, .inr ⟨h.size, rfl, by rw [push_size]; omega, fun j => hfrz_push_new, fun j hj => ?_, fun j x hx => ?_⟩⟩
  · rw [hcell_push_lit, ← atL_eq, List.getElem?_eq_getElem hj]; rfl
  · rw [hcell_push_lit, ← atL_eq]; exact hx
/-- a slice of none, fresh -/
theorem build0 {e : TypeId} {s b : Nat} {z : Value} {k : Value → Heap → Prop} (hk : k (.slice (some ⟨h.size, 0, none⟩) 0 0) (h.push (.cells #[] e))) : @buildSliceK (some (e, s, b, z)) 0 [] ⟨h⟩ ⟨k⟩ := by
  refine ⟨by omega, #[], ?_, hk⟩
  have hc : zerosOf z.cells (0 * s) = #[] := by simp [zerosOf]
  rw [hc]; rfl

/-- copy -/
theorem copyN {e : TypeId} {sz bt : Nat} {z : Value} {db off dl dc sl sc : Nat} {xb : Option Addr} {ws : List Value} {k : Value → Heap → Prop}
    (hw : RowAt h xb ws) (hm : min sl dl * sz = ws.length) (hone : ∀ w ∈ ws, w.oneCell' = true) (hc : ∀ j, j < ws.length → (hcell h ⟨db, off + j, none⟩).isSome = true) (hf : ∀ j, hfrz h ⟨db, j, none⟩ = false)
    (hk : ∀ h', (∀ j v, ws[j]? = some v → hcell h' ⟨db, off + j, none⟩ = some v) → (∀ x, (x < off ∨ off + ws.length ≤ x) → hcell h' ⟨db, x, none⟩ = hcell h ⟨db, x, none⟩) → (∀ x, hfrz h' ⟨db, x, none⟩ = false) → Fr (fun x => x = db) h h' →
      k (.int .i64 (min sl dl : Nat)) h') : @copyK (some (e, sz, bt, z)) (.slice (some ⟨db, off, none⟩) dl dc) (.slice xb sl sc) ⟨h⟩ ⟨k⟩ := by
  refine ⟨ws, hw.load hm, ?_⟩
  show storeN h ⟨db, off, none⟩ 0 ws _
  refine storeN_some hone (fun j hj => ?_) hf fun h' g1 g2 g3 g4 => ?_
  · rw [Nat.add_zero]; exact hc j hj
  · rw [Nat.add_zero] at g1 g2
    exact hk h' g1 g2 g3 g4
end
end Xe
