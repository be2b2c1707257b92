/- What a piece of code does, with a weaker end: so two ways may meet in one condition. -/
import Derived.Test.YtgebeiaffjpcaaaGreatDoorEng5
import Derived.Test.YtgebeiaffjpcaaaGreatDoorEX0
import Derived.KernelRfl
import Derived.Below
namespace Xe
open Go

theorem runO_mono {o : Option Value} {k k' : Value → Prop} (hk : ∀ v, k v → k' v) (h : runO o k) : runO o k' := by
  cases o with
  | none => exact h
  | some v => exact hk v h
theorem storeN_mono {a : Addr} : ∀ {vs : List Value} {i : Nat} {h : Heap} {k k' : Heap → Prop}, (∀ h, k h → k' h) → storeN h a i vs k → storeN h a i vs k'
  | [], _, _, _, _, hk, h => hk _ h
  | _ :: _, _, _, _, _, hk, ⟨h1, h2, h3, h4⟩ => ⟨h1, h2, h3, storeN_mono hk h4⟩
theorem appendX_mono {el : Option (TypeId × Nat × Nat × Value)} {s x : Value} {h : Heap} {k k' : Value → Heap → Prop} (hk : ∀ v h, k v h → k' v h) (hx : appendX el s x h k) : appendX el s x h k' := by
  unfold appendX at hx ⊢
  split at hx
  · obtain ⟨new, h1, h2, h3⟩ := hx
    refine ⟨new, h1, fun hl => ?_, fun hl => ?_⟩
    · have := h2 hl
      split at this
      · exact storeN_mono (fun h => hk _ h) this
      · exact hk _ _ this
    · obtain ⟨g1, g2, old, g3, g4⟩ := h3 hl
      exact ⟨g1, g2, old, g3, fun c rest hc hr => hk _ _ (g4 c rest hc hr)⟩
  · exact hx.elim
theorem appendZX_mono {el : Option (TypeId × Nat × Nat × Value)} {s x : Value} {h : Heap} {k k' : Value → Heap → Prop} (hk : ∀ v h, k v h → k' v h) (hx : appendZX el s x h k) : appendZX el s x h k' := by
  unfold appendZX at hx ⊢
  split at hx
  · obtain ⟨h0, hm, hs, hb, g⟩ := hx
    exact ⟨h0, hm, hs, hb, fun c rest hc hr => hk _ _ (g c rest hc hr)⟩
  · exact hx.elim
theorem appSel_mono {d : Option TypeDesc} {A B A' B' : Prop} (h1 : A → A') (h2 : B → B') (h : appSel d A B) : appSel d A' B' := by
  unfold appSel at h ⊢
  split at h
  · exact h1 h
  · exact h2 h
  · exact h
theorem copyX_mono {el : Option (TypeId × Nat × Nat × Value)} {s x : Value} {h : Heap} {k k' : Value → Heap → Prop} (hk : ∀ v h, k v h → k' v h) (hx : copyX el s x h k) : copyX el s x h k' := by
  unfold copyX at hx ⊢
  split at hx
  · obtain ⟨new, h1, h2⟩ := hx
    refine ⟨new, h1, ?_⟩
    split at h2
    · exact storeN_mono (fun h => hk _ h) h2
    · exact hk _ _ h2
  · exact hx.elim
theorem mapUpQ_mono {P : Program} {t : TypeId} {m key v : Value} {h : Heap} {k k' : Heap → Prop} (hk : ∀ h, k h → k' h) (hx : mapUpQ P t m key v h k) : mapUpQ P t m key v h k' := by
  unfold mapUpQ at hx ⊢
  split at hx
  · obtain ⟨kt, e, r, es, c, o, h1, h2, h4, h5, h6⟩ := hx
    exact ⟨kt, e, r, es, c, o, h1, h2, h4, h5, hk _ h6⟩
  · obtain ⟨kt, e, r, es, c, x, o, h1, h2, h3, h4, h5, h6⟩ := hx
    exact ⟨kt, e, r, es, c, x, o, h1, h2, h3, h4, h5, hk _ h6⟩
theorem convX_mono {P : Program} {s d : Option TypeDesc} {v : Value} {h : Heap} {k k' : Value → Heap → Prop} (hk : ∀ v h, k v h → k' v h) (hx : convX P s d v h k) : convX P s d v h k' := by
  unfold convX at hx ⊢
  split at hx
  · exact runO_mono (fun v => hk v _) hx
  · exact ⟨hx.1, fun rest => hk _ _ (hx.2 rest)⟩
  · exact runO_mono (fun v => hk v _) hx
theorem stepX_mono {P : Program} {ρ : Env} {o : Op} {h : Heap} {k k' : Value → Heap → Prop} (hk : ∀ v h, k v h → k' v h) (hx : stepX P ρ o h k) : stepX P ρ o h k' := by
  unfold stepX at hx ⊢
  split at hx
  · exact runO_mono (fun v => hk v _) hx
  · exact mapUpQ_mono (fun h => hk _ h) hx
  · exact mapUpQ_mono (fun h => hk _ h) hx
  · exact convX_mono hk hx
  · exact hk _ _ hx
  · unfold rangeX at hx ⊢
    split at hx
    · split at hx
      · exact hk _ _ hx
      · exact hx
    · exact hx
  · unfold nextX at hx ⊢
    split at hx
    · split at hx
      · split at hx
        · obtain ⟨h1, h2, h3, h4⟩ := hx
          exact ⟨h1, h2, fun h => hk _ _ (h3 h), fun e he hs => hk _ _ (h4 e he hs)⟩
        · exact hx
      · exact hx
    · exact hx
  · exact runO_mono (fun v => hk v _) hx
  · exact runO_mono (fun v => hk v _) hx
  · unfold storeX at hx ⊢
    split at hx
    · exact ⟨hx.1, storeN_mono (fun h => hk _ h) hx.2⟩
    · exact hx
  · unfold allocX newX at hx ⊢
    split at hx
    · exact hk _ _ hx
    · exact hx
  · exact hk _ _ hx
  · unfold buildSliceX at hx ⊢
    split at hx
    · obtain ⟨h1, cs, h2, h3⟩ := hx
      exact ⟨h1, cs, h2, hk _ _ h3⟩
    · exact hx
  · unfold makeSliceX at hx ⊢
    split at hx
    · obtain ⟨h1, h2, h3, h4, h5⟩ := hx
      exact ⟨h1, h2, h3, h4, hk _ _ h5⟩
    · exact hx
  · unfold invokeX at hx ⊢
    split at hx
    · exact hx.mono hk
    · exact hx
  · unfold builtX at hx ⊢
    split at hx
    · exact appSel_mono (appendX_mono hk) (appendZX_mono hk) hx
    · exact copyX_mono hk hx
    · obtain ⟨kt, e, r, es, c, x, o, h1, h2, h3, h4, h6⟩ := hx
      exact ⟨kt, e, r, es, c, x, o, h1, h2, h3, h4, hk _ _ h6⟩
    · rcases hx with ⟨d, r, es, c, h1, h2, h6⟩ | ⟨e, s, b, z, a, n, cap, hel, hm, hst⟩
      · exact .inl ⟨d, r, es, c, h1, h2, hk _ _ h6⟩
      · exact .inr ⟨e, s, b, z, a, n, cap, hel, hm, storeN_mono (fun h => hk _ h) hst⟩
    · exact runO_mono (fun v => hk v _) hx
  · exact runO_mono (fun v => hk v _) hx
theorem gX_mono {ops : Array Oper} {ρ : Env} {g : Option (Nat × Bool)} {A B A' B' : Prop} (h1 : A → A') (h2 : B → B') (h : gX ops ρ g A B) : gX ops ρ g A' B' := by
  unfold gX at h ⊢
  split at h
  · exact h1 h
  · split at h
    · rename_i hc; rw [if_pos hc]; exact h1 h
    · rename_i hc; rw [if_neg hc]; exact h2 h
theorem wpR_mono {P : Program} {ops : Array Oper} {Q Q' : Exit → Env → Heap → Prop} (hq : ∀ e ρ h, Q e ρ h → Q' e ρ h) : ∀ {l : List Oper} {ρ : Env} {h : Heap}, wpR P ops Q l ρ h → wpR P ops Q' l ρ h
  | [], _, _, hh => hq _ _ _ hh
  | _ :: _, _, _, hh => gX_mono (fun hx => stepX_mono (fun _ _ => wpR_mono hq) hx) (wpR_mono hq) hh
theorem wpX_mono {P : Program} {n : Nat} : ∀ (c : Code) {Q Q' : Exit → Env → Heap → Prop} {ρ : Env} {h : Heap}, (∀ e ρ h, Q e ρ h → Q' e ρ h) → wpX P n c Q ρ h → wpX P n c Q' ρ h := by
  intro c
  induction c with
  | seq a b iha ihb =>
    intro Q Q' ρ h hq hw
    refine iha (fun e ρ h he => ?_) hw
    cases e <;> first | exact ihb hq he | exact hq _ _ _ he
  | cond c a b iha ihb =>
    intro Q Q' ρ h hq hw
    unfold wpX at hw ⊢
    unfold condX at hw ⊢
    split at hw
    · exact iha hq hw
    · exact ihb hq hw
    · exact hw
  | block id c ih =>
    intro Q Q' ρ h hq hw
    refine ih (fun e ρ h he => ?_) hw
    unfold blockX at he ⊢
    split at he
    · split at he
      · rename_i hc; simp only [hc, if_true]; exact hq _ _ _ he
      · rename_i hc; simp only [hc, if_false]; exact hq _ _ _ he
    · exact hq _ _ _ he
  | region id ops d =>
    intro Q Q' ρ h hq hw
    cases d with
    | false => exact wpR_mono hq hw
    | true => exact SemX.mono hw hq
  | loop c ih => exact fun hq hw => SemX.mono hw hq
  | scope c ih => exact fun hq hw => SemX.mono hw hq
  | rangeFunc => exact fun _ hw => hw
  | refuse => exact fun _ hw => hw
  | _ => exact fun hq hw => hq _ _ _ hw

/-- **A MEETING PLACE** -/
theorem cut {P : Program} {n : Nat} {c : Code} {K : Env → Heap → Prop} {Q : Exit → Env → Heap → Prop} {ρ : Env} {h : Heap} (M : Env → Heap → Prop)
    (h1 : wpX P n c (thenX M Q) ρ h) (h2 : ∀ ρ h, M ρ h → K ρ h) : wpX P n c (thenX K Q) ρ h :=
  wpX_mono c (fun e ρ h he => by cases e <;> first | exact h2 _ _ he | exact he) h1

/-- a block, frozen: so a walk stands still ahead of it (given to simp as '↓ stop_block (id := ..)') -/
def BlockK (P : Program) (n : Nat) (id : Nat) [c : Kp Code] [Q : Kp (Exit → Env → Heap → Prop)] [ρ : Kp Env] [h : Kp Heap] : Prop := wpX P n (.block id c.f) Q.f ρ.f h.f
theorem stop_block {P : Program} {n id : Nat} {c : Code} {Q : Exit → Env → Heap → Prop} {ρ : Env} {h : Heap} : wpX P n (.block id c) Q ρ h = @BlockK P n id ⟨c⟩ ⟨Q⟩ ⟨ρ⟩ ⟨h⟩ := rfl
theorem cutK {P : Program} {n id : Nat} {c : Code} {K : Env → Heap → Prop} {Q : Exit → Env → Heap → Prop} {ρ : Env} {h : Heap} (M : Env → Heap → Prop)
    (h1 : wpX P n (.block id c) (thenX M Q) ρ h) (h2 : ∀ ρ h, M ρ h → K ρ h) : @BlockK P n id ⟨c⟩ ⟨thenX K Q⟩ ⟨ρ⟩ ⟨h⟩ := cut M h1 h2

/-- two arms that meet behind a test -/
theorem condCut {P : Program} {n : Nat} {v : Value} {a b : Code} {K : Env → Heap → Prop} {Q : Exit → Env → Heap → Prop} {ρ : Env} {h : Heap} (M : Env → Heap → Prop)
    (h1 : @condK v ⟨wpX P n a (thenX M Q) ρ h⟩ ⟨wpX P n b (thenX M Q) ρ h⟩) (h2 : ∀ ρ h, M ρ h → K ρ h) : @condK v ⟨wpX P n a (thenX K Q) ρ h⟩ ⟨wpX P n b (thenX K Q) ρ h⟩ := by
  unfold condK condX at *
  split at h1
  · exact cut M h1 h2
  · exact cut M h1 h2
  · exact h1

/-- a floating load: what it reads in every heap of the class -/
theorem float2 {P : Program} {ops : Array Oper} {Q : Exit → Env → Heap → Prop} {C : Heap → Prop} {rest : List (Nat × Nat)} {ρ : Env} {h : Heap} {d : Nat} {op : Op} {ty : TypeId} {pos : String} {after : Array Edge} (v : Value)
    (hl : ∀ h', C h' → lv P ρ op h' = some v) (hn : seqX P ops Q C rest (put ρ d v) h) : @seqY ⟨P, ops, Q, C, rest, ρ, h⟩ 2 (some ⟨some d, op, ty, pos, after, none⟩) := by
  rw [seqY_2]; exact ⟨v, hl, hn⟩
theorem float2g {P : Program} {ops : Array Oper} {Q : Exit → Env → Heap → Prop} {C : Heap → Prop} {rest : List (Nat × Nat)} {ρ : Env} {h : Heap} {d j : Nat} {want : Bool} {op : Op} {ty : TypeId} {pos : String} {after : Array Edge} (v : Value)
    (hg : yieldX ops ρ j = some want) (hl : ∀ h', C h' → lv P ρ op h' = some v) (hn : seqX P ops Q C rest (put ρ d v) h) : @seqY ⟨P, ops, Q, C, rest, ρ, h⟩ 2 (some ⟨some d, op, ty, pos, after, some (j, want)⟩) := by
  rw [seqY_2]
  show gX ops ρ (some (j, want)) _ _
  unfold gX
  simp only [hg, if_true]
  exact ⟨v, hl, hn⟩

/-- what stands ahead of a label, and what behind it -/
def splitL : Code → Nat → Option (Code × Code)
  | .seq (.label l') b, l => if l' = l then some (.skip, b) else (splitL b l).map fun p => (.seq (.label l') p.1, p.2)
  | .seq a b, l => (splitL b l).map fun p => (.seq a p.1, p.2)
  | _, _ => none
theorem splitL_wp {P : Program} {n l : Nat} {K : Env → Heap → Prop} {Q : Exit → Env → Heap → Prop} (y : Code) (hK : ∀ ρ h, K ρ h → wpX P n y Q ρ h) : ∀ (c x : Code) (ρ : Env) (h : Heap), splitL c l = some (x, y) →
    wpX P n x (thenX K Q) ρ h → wpX P n c Q ρ h := by
  have step : ∀ (a b x : Code) (ρ : Env) (h : Heap), (∀ ρ h, wpX P n x (thenX K Q) ρ h → wpX P n b Q ρ h) → wpX P n (.seq a x) (thenX K Q) ρ h → wpX P n (.seq a b) Q ρ h := by
    intro a b x ρ h hb hw
    refine wpX_mono a (fun e ρ h he => ?_) hw
    cases e <;> first | exact hb _ _ he | exact he
  intro c
  induction c with
  | seq a b iha ihb =>
    intro x ρ h hs hw
    have gen : (splitL b l).map (fun p => (Code.seq a p.1, p.2)) = some (x, y) → wpX P n (.seq a b) Q ρ h := by
      intro hm
      obtain ⟨⟨x', y'⟩, h1, h2⟩ := Option.map_eq_some_iff.1 hm
      simp only [Prod.mk.injEq] at h2
      obtain ⟨rfl, rfl⟩ := h2
      exact step a b x' ρ h (fun ρ h => ihb x' ρ h h1) hw
    cases a <;> first
      | exact gen hs
      | skip
    rename_i l'
    unfold splitL at hs
    split at hs
    · simp only [Option.some.injEq, Prod.mk.injEq] at hs
      obtain ⟨rfl, rfl⟩ := hs
      exact hK _ _ hw
    · exact gen hs
  | _ => intro x ρ h hs; simp [splitL] at hs
/-- **A SCOPE WHOSE LABEL STANDS BEHIND A BEGINNING.** -/
theorem scopeM {P : Program} {n : Nat} {c x y : Code} {Q : Exit → Env → Heap → Prop} {ρ : Env} {h : Heap} (l : Nat) (J : Env → Heap → Prop) (μ : Env → Heap → Nat) (hs : splitL c l = some (x, y)) (hf : findLabel c l = some (.seq .skip y))
    (hok : (okCode n c && okCode n y) = true) (first : wpX P n x (thenX J (jumpX l J Q)) ρ h)
    (pass : ∀ ρ h, J ρ h → wpX P n y (jumpX l (fun ρ' h' => J ρ' h' ∧ μ ρ' h' < μ ρ h) Q) ρ h) : @SemK P n ⟨.scope c⟩ ⟨Q⟩ ⟨ρ⟩ ⟨h⟩ := by
  refine scopeK (rest := .seq .skip y) l J μ hf (by simpa [okCode] using hok) ?_ fun ρ h hJ => pass ρ h hJ
  refine splitL_wp y (fun ρ h hJ => ?_) c x ρ h hs first
  refine wpX_mono y (fun e ρ h he => ?_) (pass ρ h hJ)
  cases e <;> first | exact ⟨he.1, he.2.1⟩ | exact he

end Xe

/- Blocks, each by itself; rows of values read, appended, copied. -/
namespace Xe
open Go

/-- a block that holds a list of cells -/
structure ListB (h : Heap) (b : Nat) (vs : List Value) : Prop where
  at' : ∀ i v, vs[i]? = some v → hcell h ⟨b, i, none⟩ = some v
  fz : ∀ o, hfrz h ⟨b, o, none⟩ = false
  lt : b < h.size

section
variable {h h' : Heap} {b n : Nat} {f : Nat → Value} {vs : List Value}
theorem ListB.same (B : ListB h b vs) (e : h'[b]? = h[b]?) : ListB h' b vs where
  at' i v hv := by rw [← B.at' i v hv]; unfold hcell; rw [e]
  fz o := by rw [← B.fz o]; unfold hfrz; rw [e]
  lt := by
    have := B.lt
    rw [Array.getElem?_eq_getElem this] at e
    exact (Array.getElem?_eq_some_iff.1 e).1

theorem ListB.fr {S : Nat → Prop} (B : ListB h b vs) (r : Fr S h h') (hs : ¬ S b) : ListB h' b vs := B.same (r.same b B.lt hs)

theorem ListB.set (B : ListB h b vs) {i : Nat} (v : Value) (hi : i < vs.length) : ListB (hset h ⟨b, i, none⟩ v) b (vs.set i v) where
  at' j x hx := by
    rw [hcell_hset]
    rw [List.getElem?_set] at hx
    by_cases e : j = i
    · subst e
      rw [if_pos rfl, if_pos hi] at hx
      rw [if_pos ⟨rfl, rfl⟩, B.at' j _ (List.getElem?_eq_getElem hi)]
      exact hx
    · rw [if_neg (Ne.symm e)] at hx
      rw [if_neg (fun h => e h.2)]; exact B.at' j x hx
  fz o := by rw [hfrz_hset]; exact B.fz o
  lt := by rw [hset_size]; exact B.lt

theorem ListB.new {e : TypeId} : ListB (h.push (.cells vs.toArray e)) h.size vs where
  at' i v hv := by rw [hcell_push_lit, ← atL_eq]; exact hv
  fz o := hfrz_push_new
  lt := by rw [push_size]; omega

/-! ### Rows that are read -/
/-- a row of cells at a slice's base: nothing is said of what is nil -/
def RowAt (h : Heap) (A : Option Addr) (vs : List Value) : Prop := vs = [] ∨ ∃ bk off, A = some ⟨bk, off, none⟩ ∧ ∀ i v, vs[i]? = some v → hcell h ⟨bk, off + i, none⟩ = some v
theorem RowAt.nil {A : Option Addr} : RowAt h A [] := .inl rfl
theorem RowAt.get {A : Option Addr} (R : RowAt h A vs) (hv : 0 < vs.length) : ∃ bk off, A = some ⟨bk, off, none⟩ ∧ ∀ i v, vs[i]? = some v → hcell h ⟨bk, off + i, none⟩ = some v := by
  rcases R with rfl | R
  · simp at hv
  · exact R
theorem RowAt.fr {A : Option Addr} (R : RowAt h A vs) {S : Nat → Prop} (f : Fr S h h') (hs : ∀ x, blk A x → ¬ S x) : RowAt h' A vs := by
  rcases R with rfl | ⟨bk, off, rfl, hc⟩
  · exact .inl rfl
  · refine .inr ⟨bk, off, rfl, fun i v hv => ?_⟩
    have := hc i v hv
    exact (f.cell (hcell_lt this) (hs _ ⟨_, rfl, rfl⟩)).trans this
theorem RowAt.fr0 {A : Option Addr} (R : RowAt h A vs) (f : Fr (fun _ => False) h h') : RowAt h' A vs := R.fr f (fun _ _ => id)
theorem SlAt.row {A : Option Addr} {cap : Nat} (S : SlAt h A cap vs) : RowAt h A vs := by
  rcases S.at' with ⟨h1, h2⟩ | ⟨bk, h1, _, _, _, h5⟩
  · have := S.len
    exact .inl (List.eq_nil_of_length_eq_zero (by omega))
  · exact .inr ⟨bk, 0, h1, fun i v hv => by rw [Nat.zero_add]; exact h5 i v hv⟩
theorem RowAt.take {A : Option Addr} (R : RowAt h A vs) (n : Nat) : RowAt h A (vs.take n) := by
  rcases R with rfl | ⟨bk, off, rfl, hc⟩
  · exact .inl (by simp)
  · refine .inr ⟨bk, off, rfl, fun i v hv => hc i v ?_⟩
    rw [List.getElem?_take] at hv
    split at hv
    · exact hv
    · cases hv

theorem loadN_some {bk off : Nat} : ∀ {vs : List Value} {i : Nat}, (∀ j x, vs[j]? = some x → hcell h ⟨bk, off + i + j, none⟩ = some x) → loadN h ⟨bk, off, none⟩ i vs.length = some vs := by
  intro vs
  induction vs with
  | nil => intro i _; rfl
  | cons y l ih =>
    intro i hi
    have h0 := hi 0 y rfl
    have h1 := ih (i := i + 1) (by intro j x hj; have := hi (j + 1) x hj; rwa [show off + (i + 1) + j = off + i + (j + 1) by omega])
    simp only [Nat.add_zero] at h0
    simp [loadN, add_n, h0, h1]
theorem RowAt.load {A : Option Addr} (R : RowAt h A vs) {n : Nat} (hn : n = vs.length) : rowN h A n = some vs := by
  subst hn
  rcases R with rfl | ⟨bk, off, rfl, hc⟩
  · cases A <;> rfl
  · exact loadN_some fun j x hx => by rw [Nat.add_zero]; exact hc j x hx

/-- many stores in a row -/
theorem storeN_some {b : Nat} : ∀ {ws : List Value} {o i : Nat} {h : Heap} {k : Heap → Prop}, (∀ w ∈ ws, w.oneCell' = true) → (∀ j, j < ws.length → (hcell h ⟨b, o + i + j, none⟩).isSome = true) → (∀ j, hfrz h ⟨b, j, none⟩ = false) →
    (∀ h', (∀ j v, ws[j]? = some v → hcell h' ⟨b, o + i + j, none⟩ = some v) → (∀ x, (x < o + i ∨ o + i + ws.length ≤ x) → hcell h' ⟨b, x, none⟩ = hcell h ⟨b, x, none⟩) → (∀ x, hfrz h' ⟨b, x, none⟩ = false) → Fr (fun x => x = b) h h' → k h') →
    storeN h ⟨b, o, none⟩ i ws k
  | [], o, i, h, k, _, _, hf, hk => hk h (fun _ _ h => (nomatch h)) (fun _ _ => rfl) hf (Fr.refl _ _)
  | w :: ws, o, i, h, k, h1, h2, hf, hk => by
    have c0 := h2 0 (by simp)
    rw [Nat.add_zero] at c0
    refine ⟨h1 w (List.mem_cons_self ..), by rw [add_n]; exact c0, by rw [add_n]; exact hf _, ?_⟩
    refine storeN_some (fun x hx => h1 x (List.mem_cons_of_mem _ hx)) (fun j hj => ?_) (fun j => by rw [hfrz_hset]; exact hf j) fun h' g1 g2 g3 g4 => ?_
    · rw [add_n, hcell_hset, if_neg (by omega)]
      have := h2 (j + 1) (by simp; omega)
      rwa [show o + (i + 1) + j = o + i + (j + 1) by omega]
    · rw [add_n] at g2 g4
      refine hk h' (fun j v hv => ?_) (fun x hx => ?_) g3 (((Fr.refl (fun x => x = b) h).set (show (fun x => x = b) b from rfl)).trans g4)
      · cases j with
        | zero =>
          simp only [List.getElem?_cons_zero, Option.some.injEq] at hv
          subst hv
          rw [Nat.add_zero, g2 (o + i) (.inl (by omega)), hcell_hset, if_pos ⟨rfl, rfl⟩]
          obtain ⟨u, hu⟩ := Option.isSome_iff_exists.1 c0
          rw [hu]; rfl
        | succ j =>
          have := g1 j v hv
          rwa [show o + (i + 1) + j = o + i + (j + 1) by omega] at this
      · rw [g2 x (by simp at hx; omega), hcell_hset, if_neg (by simp at hx; omega)]

@[go_sem] theorem slice_from {m len cap b o : Nat} {kd : IntKind} {i : Int} (h0 : 0 ≤ i) (h1 : i ≤ len) (h2 : i < cap) : sliceV (some (m, none)) (.slice (some ⟨b, o, none⟩) len cap) (some (.int kd i)) none = some (.slice (some ⟨b, o + i.toNat * m, none⟩) (len - i.toNat) (cap - i.toNat)) := by
  unfold sliceV boundV
  have e : ¬ cap = i.toNat := by omega
  simp only [Option.bind_some, if_pos (And.intro h0 h1), Option.map_some, e, if_false, add_n]

/-- append of many cells, 'sz' to an element -/
theorem appendN {e : TypeId} {sz bt : Nat} {z : Value} {A xb : Option Addr} {cap n m xc : Nat} {ws : List Value} {k : Value → Heap → Prop} (S : SlAt h A (cap * sz) vs) (hn : n * sz = vs.length)
    (hw : RowAt h xb ws) (hm : m * sz = ws.length) (hs : 0 < sz) (hone : ∀ w ∈ ws, w.oneCell' = true) (hlen : (n + m) * bt ≤ 2 ^ 47) (hlm : n + m < 2 ^ 50)
    (hk : ∀ A' cap' h', SlAt h' A' (cap' * sz) (vs ++ ws) → Fr (blk A) h h' → (∀ x, blk A' x → blk A x ∨ h.size ≤ x) → k (.slice A' (n + m) cap') h') :
    @appendK (some (e, sz, bt, z)) (.slice A n cap) (.slice xb m xc) ⟨h⟩ ⟨k⟩ := by
  change appendX (some (e, sz, bt, z)) (.slice A n cap) (.slice xb m xc) h k
  refine ⟨ws, hw.load hm, fun hc => ?_, fun hc => ⟨hlen, by unfold maxLen; omega, vs, S.row.load hn, fun c rest hc2 hr => ?_⟩⟩
  · rcases S.at' with ⟨rfl, h2⟩ | ⟨bk, rfl, h2, h3, h4, h5⟩
    · have hv : vs = [] := List.eq_nil_of_length_eq_zero (by have := S.len; omega)
      have hcap : cap = 0 := by
        rcases Nat.eq_zero_or_pos cap with h | h
        · exact h
        · have := Nat.mul_pos h hs; omega
      have hm0 : m = 0 := by omega
      subst hm0
      have hws : ws = [] := List.eq_nil_of_length_eq_zero (by omega)
      subst hws
      exact hk none cap h (by rw [List.append_nil]; exact S) (Fr.refl _ _) (fun x hx => .inl hx)
    · have hcs : (n + m) * sz ≤ cap * sz := Nat.mul_le_mul_right _ hc
      rw [Nat.add_mul] at hcs
      show storeN h (Addr.add ⟨bk, 0, none⟩ (n * sz)) 0 ws _
      rw [add_n]
      refine storeN_some hone (fun j hj => ?_) h3 fun h' g1 g2 g3 g4 => ?_
      · rw [Nat.add_zero, Nat.zero_add]
        exact h4 _ (by omega)
      · rw [Nat.add_zero, Nat.zero_add] at g1 g2
        refine hk _ _ _ ⟨by rw [List.length_append]; omega, .inr ⟨bk, rfl, Nat.lt_of_lt_of_le h2 g4.size, g3, fun j hj => ?_, fun j x hx => ?_⟩⟩ (g4.mono fun x _ hx => ⟨_, rfl, hx.symm⟩) (fun x hx => .inl hx)
        · by_cases hin : j < n * sz ∨ n * sz + ws.length ≤ j
          · rw [g2 j hin]; exact h4 j hj
          · have := g1 (j - n * sz) ws[j - n * sz] (List.getElem?_eq_getElem (by omega))
            rw [show n * sz + (j - n * sz) = j by omega] at this
            rw [this]; rfl
        · by_cases e : j < vs.length
          · rw [List.getElem?_append_left e] at hx
            rw [g2 j (.inl (by omega))]
            exact h5 j x hx
          · rw [List.getElem?_append_right (by omega)] at hx
            have := g1 _ _ hx
            rwa [show n * sz + (j - vs.length) = j by omega] at this
  · have hcs : (n + m) * sz ≤ c * sz := Nat.mul_le_mul_right _ hc2
    rw [Nat.add_mul] at hcs
    refine hk _ _ _ ⟨by rw [List.length_append]; omega, .inr ⟨h.size, rfl, by rw [push_size]; omega, fun j => hfrz_push_new, fun j hj => ?_, fun j x hx => ?_⟩⟩ ((Fr.refl _ _).push) (fun x hx => .inr ?_)
    · rw [hcell_push_new]
      simp only [List.getElem?_toArray]
      have hl : (vs ++ ws ++ rest).length = c * sz := by
        rw [List.length_append, List.length_append, hr, Nat.sub_mul, Nat.add_mul]; omega
      rw [List.getElem?_eq_getElem (by omega)]; rfl
    · rw [hcell_push_new]
      simp only [List.getElem?_toArray]
      rw [List.getElem?_append_left (by simpa using (List.getElem?_eq_some_iff.1 hx).1)]
      exact hx
    · obtain ⟨a, ha, hx⟩ := hx
      cases ha; simp at hx; omega

/-- a slice of a fresh block -/
theorem SlAt.new {e : TypeId} : SlAt (h.push (.cells vs.toArray e)) (some ⟨h.size, 0, none⟩) vs.length vs := by
  refine ⟨Nat.le_refl _, .inr ⟨h.size, rfl, by rw [push_size]; omega, fun j => hfrz_push_new, fun j hj => ?_, fun j x hx => ?_⟩⟩
  · rw [hcell_push_lit, ← atL_eq, List.getElem?_eq_getElem hj]; rfl
  · rw [hcell_push_lit, ← atL_eq]; exact hx
/-- a slice of none, fresh -/
theorem build0 {e : TypeId} {s b : Nat} {z : Value} {k : Value → Heap → Prop} (hk : k (.slice (some ⟨h.size, 0, none⟩) 0 0) (h.push (.cells #[] e))) : @buildSliceK (some (e, s, b, z)) 0 [] ⟨h⟩ ⟨k⟩ := by
  refine ⟨by omega, #[], ?_, hk⟩
  have hc : zerosOf z.cells (0 * s) = #[] := by simp [zerosOf]
  rw [hc]; rfl

end
end Xe

/- What of Go's library is called: the kit's contracts in my words (over a heap). -/
namespace Xe
open Go Go.Proofs Go.RowKit
set_option maxRecDepth 16000

/-- nothing that was there turns -/
abbrev Gr (h h' : Heap) : Prop := Fr (fun _ => False) h h'
/-- .. but for what lies from a block on -/
abbrev Gb (b : Nat) (h h' : Heap) : Prop := Fr (fun x => b ≤ x) h h'

theorem below_gb {w w' : World} {B : Nat} (h : Below B w w') : Like w w' ∧ Gb B w.heap w'.heap :=
  ⟨⟨h.os, h.tape, h.output⟩, h.size, fun x _ hn => h.block x (by omega)⟩
theorem below_gr {w w' : World} (h : Below w.heap.size w w') : Like w w' ∧ Gr w.heap w'.heap :=
  ⟨⟨h.os, h.tape, h.output⟩, h.size, fun x hx _ => h.block x hx⟩

/-- what the variables hold that are read -/
structure Glob (h : Heap) : Prop where
  size : 11 ≤ h.size
  maxLen : ∃ m, hcell h ⟨1, 0, none⟩ = some (.int .i64 m)
  pow10 : ∃ e fz, h[2]? = some (.cells (Lib.pow10Tab.map fun z => Value.int .u64 z).toArray e fz)
  errS : ∃ t p, hcell h ⟨3, 0, none⟩ = some (.iface t p)
  errR : ∃ t p, hcell h ⟨4, 0, none⟩ = some (.iface t p)
  steps : hcell h ⟨0, 0, none⟩ = some (S [116, 104, 101, 111, 114, 121]) ∧ hcell h ⟨0, 1, none⟩ = some (S [102, 111, 108, 108, 111, 119]) ∧ hcell h ⟨0, 2, none⟩ = some (S [103, 111, 110, 101])

theorem Glob.fr {h h' : Heap} {U : Nat → Prop} (G : Glob h) (f : Fr U h h') (hu : ∀ x, x < 11 → ¬ U x) : Glob h' := by
  have hs := G.size
  have g : ∀ x, x < 11 → h'[x]? = h[x]? := fun x hx => f.same x (by omega) (hu x hx)
  have c : ∀ x o, x < 11 → hcell h' ⟨x, o, none⟩ = hcell h ⟨x, o, none⟩ := fun x o hx => f.cell (by omega) (hu x hx)
  obtain ⟨m, h1⟩ := G.maxLen
  obtain ⟨e, fz, h2⟩ := G.pow10
  obtain ⟨t, p, h3⟩ := G.errS
  obtain ⟨t', p', h4⟩ := G.errR
  obtain ⟨h5, h6, h7⟩ := G.steps
  exact ⟨by have := f.size; omega, ⟨m, by rw [c _ _ (by decide)]; exact h1⟩, ⟨e, fz, by rw [g _ (by decide)]; exact h2⟩, ⟨t, p, by rw [c _ _ (by decide)]; exact h3⟩, ⟨t', p', by rw [c _ _ (by decide)]; exact h4⟩,
    by rw [c _ _ (by decide)]; exact h5, by rw [c _ _ (by decide)]; exact h6, by rw [c _ _ (by decide)]; exact h7⟩
theorem Glob.gr {h h' : Heap} (G : Glob h) (f : Gr h h') : Glob h' := G.fr f fun _ _ => id
theorem Glob.gb {h h' : Heap} {b : Nat} (G : Glob h) (f : Gb b h h') (hb : 11 ≤ b) : Glob h' := G.fr f fun x hx hx' => by omega

section
variable {h : Heap}

theorem itoa_ok (G : Glob h) (n : Int) (h0 : -9223372036854775808 ≤ n) (h1 : n ≤ 9223372036854775807) :
    CallsH Tryz.prog 48 [.int .i64 n] h fun r h' => r = S (Lib.itoa n) ∧ Gr h h' := by
  refine ⟨⟨_, Tryz.func48, rfl, by kernel_rfl⟩, fun w hw => ?_⟩
  subst hw
  obtain ⟨e, fz, hp⟩ := G.pow10
  have ht : Lib.TabIs Tryz.prog w "internal/strconv.uint64pow10" .u64 Lib.pow10Tab := by
    unfold Lib.TabIs World.var?
    rw [show Tryz.prog.globalNamed "internal/strconv.uint64pow10" = some 2 by kernel_rfl]
    simp only [Option.bind_some, hp]
  refine Calls.mono (Any.strconv_Itoa Tryz.laysM171 n h0 h1 w ht) ?_
  rintro e w' ⟨rfl, k, os, rfl⟩
  exact ⟨_, rfl, ⟨rfl, rfl, rfl⟩, rfl, by show w.heap.size ≤ (w.heap ++ os).size; rw [Array.size_append]; omega, fun x hx _ => by show (w.heap ++ os)[x]? = _; rw [Array.getElem?_append_left hx]⟩

/-- what strconv.Atoi hands back -/
def AtoiR (l : List UInt8) (r : Value) : Prop := match Lib.atoiAll l with
  | .ok v => r = .tuple #[.int .i64 v, .nilIface] ∧ -9223372036854775808 ≤ v ∧ v ≤ 9223372036854775807
  | _ => ∃ v t p, r = .tuple #[.int .i64 v, .iface t p]
theorem atoi_ok (G : Glob h) (l : List UInt8) (hl : l.length ≤ 281474976710656) :
    CallsH Tryz.prog 100 [S l] h fun r h' => AtoiR l r ∧ Gr h h' := by
  refine ⟨⟨_, Tryz.func100, rfl, by kernel_rfl⟩, fun w hw => ?_⟩
  subst hw
  obtain ⟨t, p, hs⟩ := G.errS
  obtain ⟨t', p', hr⟩ := G.errR
  rcases he : Lib.atoiAll l with v | _ | _
  · skip
    refine Calls.mono (Any.strconv_Atoi_ok Tryz.laysC172 ⟨l.toArray⟩ (by show l.length ≤ _; omega) v he w) ?_
    rintro e w' ⟨rfl, hw⟩
    have hb := Lib.atoiAll_bounds he
    have hR : AtoiR l (.tuple #[.int .i64 v, .nilIface]) := by unfold AtoiR; rw [he]; exact ⟨rfl, by omega, by omega⟩
    rcases hw with rfl | ⟨t, rfl⟩
    · exact ⟨_, rfl, Like.refl _, hR, Fr.refl _ _⟩
    · obtain ⟨rest, h1, h2⟩ := bytesWorld_heap (w := w) (e := 5) (s := t)
      refine ⟨_, rfl, ⟨by simp [Lib.bytesWorld, World.freeze, World.alloc, World.drew, -World.alloc_eq, -World.drew_eq], by simp [Lib.bytesWorld, World.freeze, World.alloc, World.drew, -World.alloc_eq, -World.drew_eq], by simp [Lib.bytesWorld, World.freeze, World.alloc, World.drew, -World.alloc_eq, -World.drew_eq]⟩, hR, ?_⟩
      show Fr _ _ (Lib.bytesWorld w 5 t).heap
      rw [h1]
      exact (Fr.refl _ _).push
  · refine Calls.mono (Any.strconv_Atoi_syntax Tryz.laysC172 ⟨l.toArray⟩ hl he _ w hs (.inr ⟨_, _, rfl⟩)) ?_
    rintro e w' ⟨N, rfl, _, _, hb⟩
    exact ⟨_, rfl, (below_gr hb).1, by unfold AtoiR; rw [he]; exact ⟨_, _, _, rfl⟩, (below_gr hb).2⟩
  · refine Calls.mono (Any.strconv_Atoi_range Tryz.laysC172 ⟨l.toArray⟩ hl he _ w hr (.inr ⟨_, _, rfl⟩)) ?_
    rintro e w' ⟨N, rfl, _, _, hb⟩
    exact ⟨_, rfl, (below_gr hb).1, by unfold AtoiR; rw [he]; exact ⟨_, _, _, rfl⟩, (below_gr hb).2⟩

/-- texts as cells -/
def strs (l : List (List UInt8)) : List Value := l.map S
theorem strs_len (l : List (List UInt8)) : (strs l).length = l.length := List.length_map _

theorem split_ok (G : Glob h) (l : List UInt8) (c : UInt8) (hl : l.length < 4294967281) :
    CallsH Tryz.prog 58 [S l, S [c]] h fun r h' => r = .slice (some ⟨h.size, 0, none⟩) (splitOn c l).length (splitOn c l).length ∧ SlAt h' (some ⟨h.size, 0, none⟩) (splitOn c l).length (strs (splitOn c l)) ∧ Gr h h' := by
  refine ⟨⟨_, Tryz.func58, rfl, by kernel_rfl⟩, fun w hw => ?_⟩
  subst hw
  obtain ⟨m, hm⟩ := G.maxLen
  refine Calls.mono (Any.strings_Split Tryz.lays146 (by kernel_rfl) ⟨l.toArray⟩ ⟨#[c]⟩ m w hl hm (Nat.le_refl 1)) ?_
  rintro e w' ⟨rfl, rfl⟩
  have h1 := splitB_on c l.length ⟨l.toArray⟩ (Nat.le_refl _)
  have h2 := countB_on c l.length ⟨l.toArray⟩ (Nat.le_refl _)
  have h3 : Lib.countB ⟨l.toArray⟩ ⟨#[c]⟩ + 1 = (splitOn c l).length := by rw [splitOn_len, h2]
  have h4 : (Lib.splitB ⟨#[c]⟩ 0 (Lib.countB ⟨l.toArray⟩ ⟨#[c]⟩) ⟨l.toArray⟩).map Value.string = strs (splitOn c l) := by
    rw [← h1]
    unfold strs
    rw [List.map_map]
    rfl
  refine ⟨_, rfl, ⟨by simp [World.alloc, -World.alloc_eq], by simp [World.alloc, -World.alloc_eq], by simp [World.alloc, -World.alloc_eq]⟩, by rw [h3], ?_, ?_⟩
  · show SlAt (w.heap.push _) _ _ _
    rw [h4, ← strs_len]
    exact SlAt.new
  · exact (Fr.refl _ _).push

/-- bytes as cells -/
theorem indexByte_spec (c : UInt8) : ∀ l : List UInt8, Lib.indexByte l c = if c ∈ l then ((l.idxOf c : Nat) : Int) else -1
  | [] => rfl
  | b :: l => by
    unfold Lib.indexByte
    rw [indexByte_spec c l]
    by_cases e : b = c
    · subst e; simp
    · have hb : (b == c) = false := beq_eq_false_iff_ne.2 e
      have hc : c ≠ b := fun x => e x.symm
      simp only [hb, Bool.false_eq_true, if_false, List.mem_cons, hc, false_or, List.idxOf_cons, cond_false]
      by_cases hm : c ∈ l
      · have : ((l.idxOf c : Nat) : Int) ≠ -1 := by omega
        simp [hm, this]
      · simp [hm]
theorem bytesOf_map (l : List UInt8) : Lib.bytesOf (l.map fun b => (b.toNat : Int)) = l := by
  unfold Lib.bytesOf
  rw [List.map_map]
  conv => rhs; rw [← List.map_id l]
  refine List.map_congr_left fun b _ => ?_
  show UInt8.ofNat ((b.toNat : Int)).toNat = b
  simp
theorem indexByte_ok {A : Addr} {n cp : Nat} {l : List UInt8} (R : RowAt h (some A) (l.map byteV)) (hn : n = l.length) (c : UInt8) :
    CallsH Tryz.prog 177 [.slice (some A) n cp, byteV c] h fun r h' => r = .int .i64 (if c ∈ l then ((l.idxOf c : Nat) : Int) else -1) ∧ h' = h := by
  refine ⟨⟨_, Tryz.func177, rfl, by kernel_rfl⟩, fun w hw => ?_⟩
  subst hw hn
  have hcv : ((c.toNat : Int)).toNat.toUInt8 = c := by simp
  rcases R with hnil | ⟨bk, off, he, hc⟩
  · have : l = [] := by simpa using hnil
    subst this
    refine Calls.mono (Any.bytes_IndexByte_at Tryz.lays187 A 0 cp [] _ w rfl (fun i hi => by omega)) ?_
    rintro e w' ⟨rfl, rfl⟩
    exact ⟨_, rfl, Like.refl _, rfl, rfl⟩
  · obtain rfl := Option.some.inj he
    refine Calls.mono (Any.bytes_IndexByte_at Tryz.lays187 ⟨bk, off, none⟩ l.length cp (l.map fun b => (b.toNat : Int)) _ w (by simp) (fun i hi => ?_)) ?_
    · have := hc i (byteV l[i]) (by simp [hi])
      rw [show (⟨bk, off, none⟩ : Addr).add i = ⟨bk, off + i, none⟩ by simp [Addr.add]]
      exact this.trans (by simp [byteV, hi])
    · rintro e w' ⟨rfl, rfl⟩
      refine ⟨_, rfl, Like.refl _, ?_, rfl⟩
      rw [bytesOf_map, indexByte_spec, hcv]
end
end Xe

/- The library, second part: a builder; texts put together; FormatUint. -/
namespace Xe
open Go Go.Proofs Go.RowKit
set_option maxRecDepth 16000
set_option maxHeartbeats 1000000

section
variable {h : Heap}

/-! ### A builder: its block is b; its buffer lies behind it -/
def Bld (b : Nat) (l : List UInt8) (h : Heap) : Prop := ∀ w : World, w.heap = h → Lib.IsBuilderF 61 5 b b (Lib.byteCells l) w
theorem isB_heap {w w' : World} {T e : TypeId} {B b : Nat} {bs : List Value} (hh : w'.heap = w.heap) (i : Lib.IsBuilderF T e B b bs w) : Lib.IsBuilderF T e B b bs w' := by
  obtain ⟨h1, t1, d1, o1, u1⟩ := w
  obtain ⟨h2, t2, d2, o2, u2⟩ := w'
  simp only at hh
  subst hh
  exact i
theorem Bld.of {w : World} {b : Nat} {l : List UInt8} (i : Lib.IsBuilderF 61 5 b b (Lib.byteCells l) w) : Bld b l w.heap := fun _ hw => isB_heap hw i
theorem Bld.new : Bld h.size [] (h.push (.cells #[.pointer none, .slice none 0 0] 61)) := fun w hw =>
  .inl ⟨Nat.le_refl _, .slice none 0 0, by rw [hw, Array.getElem?_push_size], World.ownsRowF_nil _ _ _ _, by simp [Value.ownBlock]⟩
theorem Bld.lt {b : Nat} {l : List UInt8} (B : Bld b l h) : b < h.size := by
  have i := B { heap := h, tape := fun _ _ => 0, drawn := 0, os := default, output := #[] } rfl
  rcases i with i | i <;> exact i.lt
theorem Bld.gr {b : Nat} {l : List UInt8} (B : Bld b l h) {h' : Heap} (f : Gr h h') : Bld b l h' := fun w hw => by
  have i := B { heap := h, tape := fun _ _ => 0, drawn := 0, os := default, output := #[] } rfl
  have hb : ∀ (k : Nat) o, h[k]? = some o → w.heap[k]? = some o := fun k o e => by rw [hw, f.same k (Array.getElem?_eq_some_iff.1 e).1 id]; exact e
  have key : ∀ p, Lib.BuilderAtF 61 5 b b p (Lib.byteCells l) { heap := h, tape := fun _ _ => 0, drawn := 0, os := default, output := #[] } → Lib.BuilderAtF 61 5 b b p (Lib.byteCells l) w := fun p ⟨h1, v, h2, ⟨h3, h4⟩, h5⟩ => by
    refine ⟨h1, v, hb _ _ h2, ⟨h3, ?_⟩, h5⟩
    rcases h4 with h4 | ⟨g, cap, cur, fz, e1, e2, e3, e4⟩
    · exact .inl h4
    · exact .inr ⟨g, cap, cur, fz, e1, e2, hb _ _ e3, e4⟩
  rcases i with i | i
  · exact .inl (key _ i)
  · exact .inr (key _ i)
theorem cells_str (l s : List UInt8) : Lib.byteCells l ++ Lib.strCells ⟨s.toArray⟩ = Lib.byteCells (l ++ s) := by
  unfold Lib.byteCells Lib.strCells
  rw [List.map_append]
theorem writeString_ok {b : Nat} {l : List UInt8} (B : Bld b l h) (s : List UInt8) (hs : l.length + s.length ≤ 140737488355328) :
    CallsH Tryz.prog 21 [.pointer (some ⟨b, 0, none⟩), S s] h fun _ h' => Bld b (l ++ s) h' ∧ Gb b h h' := by
  refine ⟨⟨_, Tryz.func21, rfl, by kernel_rfl⟩, fun w hw => ?_⟩
  refine Calls.mono (Any.Builder_WriteString_k { Tryz.lays156 with } Tryz.Builder_Extra_156 b b (Lib.byteCells l) ⟨s.toArray⟩ w (B w hw) (by
    show (Lib.byteCells l).length + s.length ≤ _
    unfold Lib.byteCells
    rw [List.length_map]; exact hs) (by rw [hw]; exact Nat.le_of_lt B.lt)) ?_
  rintro e w' ⟨rfl, h1, h2, _⟩
  refine ⟨_, rfl, (below_gb h2).1, Bld.of (.inr (by rw [← cells_str]; exact h1)), ?_⟩
  rw [← hw]; exact (below_gb h2).2
theorem writeByte_ok {b : Nat} {l : List UInt8} (B : Bld b l h) (c : UInt8) (hs : l.length + 1 ≤ 140737488355328) :
    CallsH Tryz.prog 83 [.pointer (some ⟨b, 0, none⟩), byteV c] h fun _ h' => Bld b (l ++ [c]) h' ∧ Gb b h h' := by
  refine ⟨⟨_, Tryz.func83, rfl, by kernel_rfl⟩, fun w hw => ?_⟩
  refine Calls.mono (Any.Builder_WriteByte_k Tryz.lays167 Tryz.Builder_Extra_167 b b (Lib.byteCells l) c.toNat w (B w hw) (by
    unfold Lib.byteCells
    rw [List.length_map]; exact hs) (by rw [hw]; exact Nat.le_of_lt B.lt)) ?_
  rintro e w' ⟨rfl, h1, h2, _⟩
  refine ⟨_, rfl, (below_gb h2).1, Bld.of (.inr ?_), ?_⟩
  · have : Lib.byteCells l ++ [.int .u8 (c.toNat : Int)] = Lib.byteCells (l ++ [c]) := by unfold Lib.byteCells; rw [List.map_append]; rfl
    rw [← this]; exact h1
  · rw [← hw]; exact (below_gb h2).2
theorem string_ok {b : Nat} {l : List UInt8} (B : Bld b l h) :
    CallsH Tryz.prog 22 [.pointer (some ⟨b, 0, none⟩)] h fun r h' => r = S l ∧ Bld b l h' ∧ Gb b h h' := by
  refine ⟨⟨_, Tryz.func22, rfl, by kernel_rfl⟩, fun w hw => ?_⟩
  refine Calls.mono (Any.Builder_String_any_k { Tryz.lays156 with } Tryz.Builder_Extra_156 b b l w (B w hw) (by rw [hw]; exact Nat.le_of_lt B.lt)) ?_
  rintro e w' ⟨rfl, h1, h2, _⟩
  refine ⟨_, rfl, (below_gb h2).1, rfl, Bld.of h1, ?_⟩
  rw [← hw]; exact (below_gb h2).2

/-! ### strings.Join -/
theorem intercalate_glue (c : UInt8) : ∀ l : List (List UInt8), [c].intercalate l = glue c l
  | [] => rfl
  | [a] => by simp [List.intercalate, glue]
  | a :: b :: l => by
    have ih := intercalate_glue c (b :: l)
    unfold glue
    rw [← ih]
    simp [List.intercalate, List.intersperse]
theorem join_ok {A : Option Addr} {n cp : Nat} {l : List (List UInt8)} (R : RowAt h A (strs l)) (hn : n = l.length) (hc : n ≤ cp) (hb : n ≤ 140737488355328) (c : UInt8) (hg : (glue c l).length ≤ 140737488355328) :
    CallsH Tryz.prog 124 [.slice A n cp, S [c]] h fun r h' => r = S (glue c l) ∧ Gr h h' := by
  refine ⟨⟨_, Tryz.func124, rfl, by kernel_rfl⟩, fun w hw => ?_⟩
  subst hw hn
  by_cases h0 : l = []
  · subst h0
    refine Calls.mono (Any.strings_Join_none Tryz.lays156 Tryz.Builder_Extra_156 A cp ⟨#[c]⟩ w) ?_
    rintro e w' ⟨rfl, rfl⟩
    exact ⟨_, rfl, Like.refl _, rfl, Fr.refl _ _⟩
  · have hpos : 0 < l.length := List.length_pos_iff.2 h0
    obtain ⟨bk, off, rfl, hcell⟩ := R.get (by rw [strs_len]; exact hpos)
    have hl : (l.map fun a => (⟨a.toArray⟩ : ByteArray)).map (·.data.toList) = l := by rw [List.map_map]; exact List.map_id l
    have hcs : ∀ (j : Nat) x, (l.map fun a => (⟨a.toArray⟩ : ByteArray))[j]? = some x → w.cell? ⟨bk, off + j, none⟩ = some (.string x) := fun j x hx => by
      rw [List.getElem?_map, Option.map_eq_some_iff] at hx
      obtain ⟨a, ha, rfl⟩ := hx
      exact hcell j (S a) (by unfold strs; rw [List.getElem?_map, ha]; rfl)
    have hlt : bk < w.heap.size := by
      obtain ⟨a, ha⟩ : ∃ a, l[0]? = some a := ⟨_, List.getElem?_eq_getElem hpos⟩
      exact hcell_lt (hcell 0 (S a) (by unfold strs; rw [List.getElem?_map, ha]; rfl))
    have hj : Lib.join ((l.map fun a => (⟨a.toArray⟩ : ByteArray)).map (·.data.toList)) (⟨#[c]⟩ : ByteArray).data.toList = glue c l := by
      rw [hl]; exact intercalate_glue c l
    have C := Any.strings_Join Tryz.lays156 Tryz.Builder_Extra_156 bk off cp (l.map fun a => (⟨a.toArray⟩ : ByteArray)) ⟨#[c]⟩ w hcs hlt (by rw [List.length_map]; exact hb) (by rw [List.length_map]; exact hc) (by rw [hj]; exact hg)
    rw [List.length_map] at C
    refine Calls.mono C ?_
    rintro e w' ⟨rfl, h2⟩
    exact ⟨_, rfl, (below_gr h2).1, by rw [hj]; rfl, (below_gr h2).2⟩

/-! ### strings.Trim with the ten digits -/
def tenDigits : List UInt8 := [48, 49, 50, 51, 52, 53, 54, 55, 56, 57]
theorem trim_ok (l : List UInt8) (h0 : 0 < l.length) (hl : l.length ≤ 9223372036854775807) :
    CallsH Tryz.prog 200 [S l, S tenDigits] h fun r h' => r = S (Lib.trimS l tenDigits) ∧ Gr h h' := by
  refine ⟨⟨_, Tryz.func200, rfl, by kernel_rfl⟩, fun w hw => ?_⟩
  subst hw
  refine Calls.mono (Any.strings_Trim_set Tryz.lays160 (fun w => run_zero (P := Tryz.prog) (by kernel_rfl)) (by kernel_rfl) ⟨l.toArray⟩ ⟨tenDigits.toArray⟩ w (by decide) h0 hl (by decide) (fun j b hb => ?_)) ?_
  · have : b ∈ tenDigits := List.mem_of_getElem? hb
    revert this
    unfold tenDigits
    simp only [List.mem_cons, List.not_mem_nil, or_false]
    rintro (rfl | rfl | rfl | rfl | rfl | rfl | rfl | rfl | rfl | rfl) <;> decide
  · rintro e w' ⟨rfl, q, rfl⟩
    refine ⟨_, rfl, ⟨rfl, rfl, rfl⟩, rfl, ?_⟩
    show Fr _ _ ((w.heap.push _).push _)
    exact (Fr.refl _ _).push.push
end
end Xe

/- strconv.FormatUint at base 10. -/
namespace Xe
open Go Go.Proofs Go.RowKit Go.Sort
set_option maxRecDepth 16000
set_option maxHeartbeats 1000000

section
variable {h : Heap}
theorem small_ok (i : Nat) (hi : i < 100) : CallsH Tryz.prog 164 [.int .i64 i] h fun r h' => r = S (Lib.decDigits i) ∧ h' = h := by
  refine ⟨⟨_, Tryz.func164, rfl, by kernel_rfl⟩, fun w hw => ?_⟩
  subst hw
  refine Calls.mono (Any.internal_strconv_small { Tryz.laysM171 with } i hi w) ?_
  rintro e w' ⟨rfl, rfl⟩
  exact ⟨_, rfl, Like.refl _, rfl, rfl⟩
theorem numDigits_ok (G : Glob h) (u : Nat) (h1 : 1 ≤ u) (h2 : u < 18446744073709551616) : CallsH Tryz.prog 165 [.int .u64 u] h fun r h' => r = .int .i64 (Lib.nDigits u : Nat) ∧ h' = h := by
  refine ⟨⟨_, Tryz.func165, rfl, by kernel_rfl⟩, fun w hw => ?_⟩
  subst hw
  obtain ⟨e, fz, hp⟩ := G.pow10
  have ht : Lib.TabIs Tryz.prog w "internal/strconv.uint64pow10" .u64 Lib.pow10Tab := by
    unfold Lib.TabIs World.var?
    rw [show Tryz.prog.globalNamed "internal/strconv.uint64pow10" = some 2 by kernel_rfl]
    simp only [Option.bind_some, hp]
  refine Calls.mono (Any.internal_strconv_numDigits { Tryz.laysM171 with } u h1 h2 w ht) ?_
  rintro e w' ⟨rfl, rfl⟩
  exact ⟨_, rfl, Like.refl _, rfl, rfl⟩
theorem formatBase10_ok {b n cp : Nat} (u : Nat) (hn : n = Lib.nDigits u) (hu : u < 18446744073709551616) (hc : ∀ j, j < n → hcell h ⟨b, j, none⟩ = some (.int .u8 0)) (hf : ∀ j, hfrz h ⟨b, j, none⟩ = false) :
    CallsH Tryz.prog 166 [.slice (some ⟨b, 0, none⟩) n cp, .int .u64 u] h fun _ h' =>
      (∀ (j : Nat) x, (Lib.decDigits u)[j]? = some x → hcell h' ⟨b, j, none⟩ = some (byteV x)) ∧ Fr (fun x => x = b) h h' := by
  refine ⟨⟨_, Tryz.func166, rfl, by kernel_rfl⟩, fun w hw => ?_⟩
  subst hw hn
  have hH : Holds (fun (b : UInt8) => Value.int .u8 (b.toNat : Int)) w b 0 (Array.replicate (Lib.nDigits u) 0) := fun j hj => by
    rw [Array.size_replicate] at hj
    rw [Nat.zero_add]
    refine ⟨(hc j hj).trans ?_, hf j⟩
    rw [getElem!_pos _ j (by rw [Array.size_replicate]; exact hj), Array.getElem_replicate]; rfl
  have hnd : Lib.nDigits u < 4611686018427387904 := by
    by_cases h1 : 1 ≤ u
    · have := Lib.numDigits_eq u h1 hu; split at this <;> omega
    · rw [Lib.nDigits_small (by omega)]; omega
  have C := Any.internal_strconv_formatBase10 { Tryz.laysM171 with } b 0 cp u (Array.replicate (Lib.nDigits u) 0) w hH (by rw [Array.size_replicate]; exact Lib.lt_pow_nDigits u) hu (by rw [Array.size_replicate]; exact hnd)
  rw [Array.size_replicate] at C
  refine Calls.mono C ?_
  rintro e w' ⟨rfl, n, v', dk, rfl, hF⟩
  refine ⟨_, rfl, ⟨rfl, rfl, rfl⟩, fun j x hx => ?_, ?_⟩
  · obtain ⟨hj, rfl⟩ := List.getElem?_eq_some_iff.1 hx
    have hj' : j < dk.size := by rw [hF.size]; rw [Lib.decDigits_length] at hj; exact hj
    have := cell?_putRow (fun (b : UInt8) => Value.int .u8 (b.toNat : Int)) w b 0 _ dk hH (by rw [hF.size, Array.size_replicate]) j hj'
    rw [Nat.zero_add] at this
    rw [Lib.row_is_numeral hF j hj]
    exact this
  · refine ⟨?_, fun x hx hn => ?_⟩
    · show w.heap.size ≤ (w.heap.modify b _).size
      rw [Array.size_modify]; exact Nat.le_refl _
    · show (w.heap.modify b _)[x]? = _
      rw [Array.getElem?_modify, if_neg (fun e => hn e.symm)]

theorem loadN_bytes {b : Nat} {l : List UInt8} : ∀ {k i : Nat}, (∀ j x, l[j]? = some x → hcell h ⟨b, i + j, none⟩ = some (byteV x)) → k = l.length → loadN h ⟨b, 0, none⟩ i k = some (l.map byteV) := by
  induction l with
  | nil => intro k i _ hk; subst hk; rfl
  | cons c l ih =>
    intro k i hc hk
    subst hk
    have h0 := hc 0 c rfl
    have h1 := ih (k := l.length) (i := i + 1) (fun j x hx => by rw [show i + 1 + j = i + (j + 1) by omega]; exact hc (j + 1) x (by simpa using hx)) rfl
    show (hcell h ((⟨b, 0, none⟩ : Addr).add i)).bind _ = _
    rw [show (⟨b, 0, none⟩ : Addr).add i = ⟨b, i, none⟩ by unfold Addr.add; by_cases e : i = 0 <;> simp [e]]
    rw [Nat.add_zero] at h0
    rw [h0, Option.bind_some, h1]; rfl
theorem bytesOf_byteV : ∀ l : List UInt8, bytesOf (l.map byteV) = some l
  | [] => rfl
  | c :: l => by
    show (bytesOf (l.map byteV)).map _ = _
    rw [bytesOf_byteV l]
    simp
/-- a row of bytes as a string -/
theorem b2s_at {b cp n : Nat} {l : List UInt8} (hc : ∀ (j : Nat) x, l[j]? = some x → hcell h ⟨b, j, none⟩ = some (byteV x)) (hn : n = l.length) : b2s (.slice (some ⟨b, 0, none⟩) n cp) h = some (S l) := by
  show (loadN h ⟨b, 0, none⟩ 0 n).bind _ = _
  rw [loadN_bytes (l := l) (fun j x hx => by rw [Nat.zero_add]; exact hc j x hx) hn, Option.bind_some, bytesOf_byteV]; rfl

theorem formatUint_ok (G : Glob h) (u : Nat) (hu : u < 18446744073709551616) : CallsH Tryz.prog 162 [.int .u64 u, .int .i64 10] h fun r h' => r = S (Lib.decDigits u) ∧ Gr h h' := by
  refine calls_of 32 [.tmp 4] Go.Proofs.Tryz.func162 rfl rfl rfl ?_
  simp -implicitDefEqProofs (disch := omega) [go_sem]
  by_cases h1 : u < 100
  · simp -implicitDefEqProofs (disch := omega) [go_sem]
    refine useC (small_ok u h1) ?_
    rintro _ h2 ⟨rfl, rfl⟩
    simp -implicitDefEqProofs (disch := omega) [go_sem]
    exact Fr.refl _ _
  · simp -implicitDefEqProofs (disch := omega) [go_sem]
    have nd := Lib.numDigits_eq u (by omega) hu
    have hnd : Lib.nDigits u ≤ 20 := by split at nd <;> omega
    refine useC (numDigits_ok (G.gr (Fr.refl _ _).push) u (by omega) hu) ?_
    rintro _ h2 ⟨rfl, rfl⟩
    simp -implicitDefEqProofs (disch := omega) [go_sem]
    refine useC (formatBase10_ok u rfl hu (fun j hj => ?_) (fun j => ?_)) ?_
    · have hj : j < 24 := by omega
      revert hj
      clear hnd nd
      revert j
      intro j _ hj
      rw [hcell_push_lit]
      rcases j with _ | _ | _ | _ | _ | _ | _ | _ | _ | _ | _ | _ | _ | _ | _ | _ | _ | _ | _ | _ | _ | _ | _ | _ | j <;> first | rfl | omega
    · exact hfrz_push_new
    rintro _ h2 ⟨hc, f⟩
    have e1 := b2s_at (cp := 24) hc (Lib.decDigits_length u).symm
    simp -implicitDefEqProofs (disch := omega) [go_sem, e1]
    exact (Fr.refl _ _).push.trans' f fun y hy he => by omega
end
end Xe

/- What the document's words are, plainly: numerals, identifiers, versions, names, pins. -/
namespace Xe
open Go

def dig (c : UInt8) : Bool := decide (48 ≤ c.toNat) && decide (c.toNat ≤ 57)
def numeric (l : List UInt8) : Bool := l.all dig && !l.isEmpty
def numIs (l : List UInt8) : Bool := l.all dig && !l.isEmpty && (decide (l.length = 1) || !decide ((l.headD 0).toNat = 48))
def idB (c : UInt8) : Bool := dig c || (decide (65 ≤ c.toNat) && decide (c.toNat ≤ 90)) || (decide (97 ≤ c.toNat) && decide (c.toNat ≤ 122)) || decide (c.toNat = 45)
def wrongI (l : List UInt8) (i : Nat) (pre : Bool) : Nat := if l = [] then 5 else if 255 < l.length ∨ 15 < i then 4 else if (pre && numeric l && !numIs l) = true then 3 else 0
def idsFrom (pre : Bool) : Nat → List (List UInt8) → Bool
  | _, [] => true
  | i, a :: r => decide (wrongI a i pre = 0) && a.all idB && idsFrom pre (i + 1) r
structure Ver where
  maj : Nat
  min : Nat
  pat : Nat
  pre : List (List UInt8)
  build : List (List UInt8)
  deriving DecidableEq
def verOk (v : Ver) : Bool := decide (v.maj < 9223372036854775808) && decide (v.min < 9223372036854775808) && decide (v.pat < 9223372036854775808) && idsFrom true 0 v.pre && idsFrom false 0 v.build
def tailT (c : UInt8) (l : List (List UInt8)) : List UInt8 := if l = [] then [] else c :: glue 46 l
def verText (v : Ver) : List UInt8 := Lib.decDigits v.maj ++ (46 :: (Lib.decDigits v.min ++ (46 :: (Lib.decDigits v.pat ++ (tailT 45 v.pre ++ tailT 43 v.build)))))
def firstB (c : UInt8) : Bool := (decide (97 ≤ c.toNat) && decide (c.toNat ≤ 122)) || dig c
def nameB (c : UInt8) : Bool := firstB c || decide (c.toNat = 45) || decide (c.toNat = 95) || decide (c.toNat = 46)
def nameLen (l : List UInt8) : Nat := match l with
  | [] => 0
  | c :: _ => if firstB c then (l.takeWhile nameB).length else 0
/-- how many bytes a name has, and an error's number -/
def scanN (l : List UInt8) : Nat × Nat := if nameLen l = 0 ∨ 255 < nameLen l then (0, 12) else (nameLen l, 0)
def nameOk (l : List UInt8) : Bool := decide ((scanN l).2 = 0) && decide ((scanN l).1 = l.length)
structure PinS where
  name : List UInt8
  v : Ver
  deriving DecidableEq
def pinsOk (l : List PinS) : Bool := l.all (fun p => nameOk p.name && verOk p.v) && decide (l.map PinS.name).Nodup
def pinLine (p : PinS) : List UInt8 := [112, 105, 110, 32] ++ p.name ++ [32] ++ verText p.v
def pinsText (l : List PinS) : List UInt8 := (l.map fun p => pinLine p ++ [10]).flatten

/-! ### Going along a text -/
/-- all bytes are such (kept as one word) -/
def AllT (p : UInt8 → Bool) (l : List UInt8) : Prop := l.all p = true
theorem all_take {p : UInt8 → Bool} {l : List UInt8} {i : Nat} {c : UInt8} (h : AllT p (l.take i)) (hc : l[i]? = some c) (hp : p c = true) : AllT p (l.take (i + 1)) := by
  unfold AllT at h ⊢
  rw [List.take_add_one, hc, List.all_append, h]
  simp [hp]
theorem AllT.zero {p : UInt8 → Bool} {l : List UInt8} : AllT p (l.take 0) := rfl
theorem all_no {p : UInt8 → Bool} {l : List UInt8} {i : Nat} {c : UInt8} (hc : l[i]? = some c) (hp : p c = false) : l.all p = false := by
  rw [List.all_eq_false]
  exact ⟨c, List.mem_of_getElem? hc, by simp [hp]⟩
theorem all_end {p : UInt8 → Bool} {l : List UInt8} (h : AllT p (l.take l.length)) : l.all p = true := by unfold AllT at h; rwa [List.take_length] at h
theorem nameLen_le (l : List UInt8) : nameLen l ≤ l.length := by
  cases l with
  | nil => exact Nat.le_refl _
  | cons c l =>
    show (if firstB c = true then ((c :: l).takeWhile nameB).length else 0) ≤ _
    split
    · exact (List.takeWhile_prefix _).length_le
    · exact Nat.zero_le _
theorem takeWhile_len {p : UInt8 → Bool} : ∀ {l : List UInt8} {n : Nat}, n ≤ l.length → (l.take n).all p = true → (∀ c, l[n]? = some c → p c = false) → (l.takeWhile p).length = n
  | [], n, h, _, _ => by simp at h; subst h; rfl
  | c :: l, 0, _, _, h => by
    have := h c rfl
    simp [List.takeWhile, this]
  | c :: l, n + 1, hn, ha, h => by
    simp only [List.take_succ_cons, List.all_cons, Bool.and_eq_true] at ha
    rw [List.takeWhile_cons, if_pos ha.1, List.length_cons, takeWhile_len (by simpa using hn) ha.2 fun x hx => h x (by simpa using hx)]
theorem byte_eq {c : UInt8} {n : Nat} (hn : n < 256) : ((c.toNat : Int) = (n : Int)) ↔ c = UInt8.ofNat n := by
  constructor
  · intro h
    have h1 : c.toNat = n := by omega
    rw [← h1]; simp
  · intro h
    subst h
    simp [UInt8.toNat_ofNat]
    omega
end Xe

/- Loops and jumps with a measure that is no part of the memory. -/
namespace Xe
open Go

theorem least_ex {p : Nat → Prop} (h : ∃ m, p m) : ∃ m, p m ∧ ∀ k, p k → m ≤ k := by
  obtain ⟨m, hm⟩ := h
  induction m using Nat.strongRecOn with
  | _ m ih =>
    by_cases hk : ∃ k, k < m ∧ p k
    · obtain ⟨k, h1, h2⟩ := hk
      exact ih k h1 h2
    · exact ⟨m, hm, fun k h => Nat.le_of_not_lt fun hl => hk ⟨k, hl, h⟩⟩
/-- the least number with a property -/
noncomputable def leastN (p : Nat → Prop) : Nat := by
  classical
  exact if h : ∃ m, p m then Classical.choose (least_ex h) else 0
theorem leastN_spec {p : Nat → Prop} (h : ∃ m, p m) : p (leastN p) := by
  unfold leastN
  rw [dif_pos h]
  exact (Classical.choose_spec (least_ex h)).1
theorem leastN_le {p : Nat → Prop} {m : Nat} (h : p m) : leastN p ≤ m := by
  unfold leastN
  rw [dif_pos ⟨m, h⟩]
  exact (Classical.choose_spec (least_ex ⟨m, h⟩)).2 m h
section
variable {P : Program} {n : Nat} {Q : Exit → Env → Heap → Prop} {ρ : Env} {h : Heap}
theorem jumpX_mono {l : Nat} {J J' : Env → Heap → Prop} (hj : ∀ ρ h, J ρ h → J' ρ h) : ∀ e ρ h, jumpX l J Q e ρ h → jumpX l J' Q e ρ h := fun e ρ h he => by
  cases e <;> first | exact ⟨he.1, hj _ _ he.2⟩ | exact he

theorem scopeMG {c x y : Code} (l : Nat) (J : Nat → Env → Heap → Prop) (hs : splitL c l = some (x, y)) (hf : findLabel c l = some (.seq .skip y))
    (hok : (okCode n c && okCode n y) = true) (first : wpX P n x (thenX (fun ρ h => ∃ m, J m ρ h) (jumpX l (fun ρ h => ∃ m, J m ρ h) Q)) ρ h)
    (pass : ∀ m ρ h, J m ρ h → wpX P n y (jumpX l (fun ρ' h' => ∃ m', m' < m ∧ J m' ρ' h') Q) ρ h) : @SemK P n ⟨.scope c⟩ ⟨Q⟩ ⟨ρ⟩ ⟨h⟩ := by
  refine scopeM l (fun ρ h => ∃ m, J m ρ h) (fun ρ h => leastN fun m => J m ρ h) hs hf hok first fun ρ h hJ => ?_
  refine wpX_mono y (jumpX_mono fun ρ' h' he => ?_) (pass _ _ _ (leastN_spec hJ))
  obtain ⟨m', hm, hi⟩ := he
  exact ⟨⟨m', hi⟩, Nat.lt_of_le_of_lt (leastN_le hi) hm⟩
end
end Xe
