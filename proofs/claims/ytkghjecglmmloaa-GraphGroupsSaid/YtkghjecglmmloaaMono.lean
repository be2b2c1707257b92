/- What a piece of code does, with a weaker end: so two ways may meet in one condition. -/
import Derived.Test.YtkghjecglmmloaaEng5
namespace Xe
open Go

theorem runO_mono {o : Option Value} {k k' : Value → Prop} (hk : ∀ v, k v → k' v) (h : runO o k) : runO o k' := by
  cases o with
  | none => exact h
  | some v => exact hk v h
theorem storeN_mono {a : Addr} : ∀ {vs : List Value} {i : Nat} {h : Heap} {k k' : Heap → Prop}, (∀ h, k h → k' h) → storeN h a i vs k → storeN h a i vs k'
  | [], _, _, _, _, hk, h => hk _ h
  | _ :: _, _, _, _, _, hk, ⟨h1, h2, h3, h4⟩ => ⟨h1, h2, h3, storeN_mono hk h4⟩
theorem appendX_mono {el : Option (TypeId × Nat × Nat × Value)} {s x : Value} {h : Heap} {k k' : Value → Heap → Prop} (hk : ∀ v h, k v h → k' v h) (hx : appendX el s x h k) : appendX el s x h k' := by
  unfold appendX at hx ⊢
  split at hx
  · obtain ⟨new, h1, h2, h3⟩ := hx
    refine ⟨new, h1, fun hl => ?_, fun hl => ?_⟩
    · have := h2 hl
      split at this
      · exact storeN_mono (fun h => hk _ h) this
      · exact hk _ _ this
    · obtain ⟨g1, g2, old, g3, g4⟩ := h3 hl
      exact ⟨g1, g2, old, g3, fun c rest hc hr => hk _ _ (g4 c rest hc hr)⟩
  · exact hx.elim
theorem copyX_mono {el : Option (TypeId × Nat × Nat × Value)} {s x : Value} {h : Heap} {k k' : Value → Heap → Prop} (hk : ∀ v h, k v h → k' v h) (hx : copyX el s x h k) : copyX el s x h k' := by
  unfold copyX at hx ⊢
  split at hx
  · obtain ⟨new, h1, h2⟩ := hx
    refine ⟨new, h1, ?_⟩
    split at h2
    · exact storeN_mono (fun h => hk _ h) h2
    · exact hk _ _ h2
  · exact hx.elim
theorem stepX_mono {P : Program} {ρ : Env} {o : Op} {h : Heap} {k k' : Value → Heap → Prop} (hk : ∀ v h, k v h → k' v h) (hx : stepX P ρ o h k) : stepX P ρ o h k' := by
  unfold stepX at hx ⊢
  split at hx
  · exact runO_mono (fun v => hk v _) hx
  · obtain ⟨kt, e, r, es, c, x, o, h1, h2, h3, h4, h5, h6⟩ := hx
    exact ⟨kt, e, r, es, c, x, o, h1, h2, h3, h4, h5, hk _ _ h6⟩
  · exact hk _ _ hx
  · exact runO_mono (fun v => hk v _) hx
  · unfold storeX at hx ⊢
    split at hx
    · exact ⟨hx.1, storeN_mono (fun h => hk _ h) hx.2⟩
    · exact hx
  · unfold allocX newX at hx ⊢
    split at hx
    · exact hk _ _ hx
    · exact hx
  · exact hk _ _ hx
  · unfold buildSliceX at hx ⊢
    split at hx
    · obtain ⟨h1, cs, h2, h3⟩ := hx
      exact ⟨h1, cs, h2, hk _ _ h3⟩
    · exact hx
  · unfold makeSliceX at hx ⊢
    split at hx
    · obtain ⟨h1, h2, h3, h4, h5⟩ := hx
      exact ⟨h1, h2, h3, h4, hk _ _ h5⟩
    · exact hx
  · unfold invokeX at hx ⊢
    split at hx
    · exact hx.mono hk
    · exact hx
  · unfold builtX at hx ⊢
    split at hx
    · exact ⟨hx.1, appendX_mono hk hx.2⟩
    · exact copyX_mono hk hx
    · obtain ⟨kt, e, r, es, c, x, o, h1, h2, h3, h4, h6⟩ := hx
      exact ⟨kt, e, r, es, c, x, o, h1, h2, h3, h4, hk _ _ h6⟩
    · rcases hx with ⟨d, r, es, c, h1, h2, h6⟩ | ⟨e, s, b, z, a, n, cap, hel, hm, hst⟩
      · exact .inl ⟨d, r, es, c, h1, h2, hk _ _ h6⟩
      · exact .inr ⟨e, s, b, z, a, n, cap, hel, hm, storeN_mono (fun h => hk _ h) hst⟩
    · exact runO_mono (fun v => hk v _) hx
  · exact runO_mono (fun v => hk v _) hx
theorem gX_mono {ops : Array Oper} {ρ : Env} {g : Option (Nat × Bool)} {A B A' B' : Prop} (h1 : A → A') (h2 : B → B') (h : gX ops ρ g A B) : gX ops ρ g A' B' := by
  unfold gX at h ⊢
  split at h
  · exact h1 h
  · split at h
    · rename_i hc; rw [if_pos hc]; exact h1 h
    · rename_i hc; rw [if_neg hc]; exact h2 h
theorem wpR_mono {P : Program} {ops : Array Oper} {Q Q' : Exit → Env → Heap → Prop} (hq : ∀ e ρ h, Q e ρ h → Q' e ρ h) : ∀ {l : List Oper} {ρ : Env} {h : Heap}, wpR P ops Q l ρ h → wpR P ops Q' l ρ h
  | [], _, _, hh => hq _ _ _ hh
  | _ :: _, _, _, hh => gX_mono (fun hx => stepX_mono (fun _ _ => wpR_mono hq) hx) (wpR_mono hq) hh
theorem wpX_mono {P : Program} {n : Nat} : ∀ (c : Code) {Q Q' : Exit → Env → Heap → Prop} {ρ : Env} {h : Heap}, (∀ e ρ h, Q e ρ h → Q' e ρ h) → wpX P n c Q ρ h → wpX P n c Q' ρ h := by
  intro c
  induction c with
  | seq a b iha ihb =>
    intro Q Q' ρ h hq hw
    refine iha (fun e ρ h he => ?_) hw
    cases e <;> first | exact ihb hq he | exact hq _ _ _ he
  | cond c a b iha ihb =>
    intro Q Q' ρ h hq hw
    unfold wpX at hw ⊢
    unfold condX at hw ⊢
    split at hw
    · exact iha hq hw
    · exact ihb hq hw
    · exact hw
  | block id c ih =>
    intro Q Q' ρ h hq hw
    refine ih (fun e ρ h he => ?_) hw
    unfold blockX at he ⊢
    split at he
    · split at he
      · rename_i hc; simp only [hc, if_true]; exact hq _ _ _ he
      · rename_i hc; simp only [hc, if_false]; exact hq _ _ _ he
    · exact hq _ _ _ he
  | region id ops d =>
    intro Q Q' ρ h hq hw
    cases d with
    | false => exact wpR_mono hq hw
    | true => exact SemX.mono hw hq
  | loop c ih => exact fun hq hw => SemX.mono hw hq
  | scope c ih => exact fun hq hw => SemX.mono hw hq
  | rangeFunc => exact fun _ hw => hw
  | refuse => exact fun _ hw => hw
  | _ => exact fun hq hw => hq _ _ _ hw

/-- **A MEETING PLACE** -/
theorem cut {P : Program} {n : Nat} {c : Code} {K : Env → Heap → Prop} {Q : Exit → Env → Heap → Prop} {ρ : Env} {h : Heap} (M : Env → Heap → Prop)
    (h1 : wpX P n c (thenX M Q) ρ h) (h2 : ∀ ρ h, M ρ h → K ρ h) : wpX P n c (thenX K Q) ρ h :=
  wpX_mono c (fun e ρ h he => by cases e <;> first | exact h2 _ _ he | exact he) h1

/-- a block, frozen: so a walk stands still ahead of it (given to simp as '↓ stop_block (id := ..)') -/
def BlockK (P : Program) (n : Nat) (id : Nat) [c : Kp Code] [Q : Kp (Exit → Env → Heap → Prop)] [ρ : Kp Env] [h : Kp Heap] : Prop := wpX P n (.block id c.f) Q.f ρ.f h.f
theorem stop_block {P : Program} {n id : Nat} {c : Code} {Q : Exit → Env → Heap → Prop} {ρ : Env} {h : Heap} : wpX P n (.block id c) Q ρ h = @BlockK P n id ⟨c⟩ ⟨Q⟩ ⟨ρ⟩ ⟨h⟩ := rfl
theorem cutK {P : Program} {n id : Nat} {c : Code} {K : Env → Heap → Prop} {Q : Exit → Env → Heap → Prop} {ρ : Env} {h : Heap} (M : Env → Heap → Prop)
    (h1 : wpX P n (.block id c) (thenX M Q) ρ h) (h2 : ∀ ρ h, M ρ h → K ρ h) : @BlockK P n id ⟨c⟩ ⟨thenX K Q⟩ ⟨ρ⟩ ⟨h⟩ := cut M h1 h2

/-- two arms that meet behind a test -/
theorem condCut {P : Program} {n : Nat} {v : Value} {a b : Code} {K : Env → Heap → Prop} {Q : Exit → Env → Heap → Prop} {ρ : Env} {h : Heap} (M : Env → Heap → Prop)
    (h1 : @condK v ⟨wpX P n a (thenX M Q) ρ h⟩ ⟨wpX P n b (thenX M Q) ρ h⟩) (h2 : ∀ ρ h, M ρ h → K ρ h) : @condK v ⟨wpX P n a (thenX K Q) ρ h⟩ ⟨wpX P n b (thenX K Q) ρ h⟩ := by
  unfold condK condX at *
  split at h1
  · exact cut M h1 h2
  · exact cut M h1 h2
  · exact h1

/-- a floating load: what it reads in every heap of the class -/
theorem float2 {P : Program} {ops : Array Oper} {Q : Exit → Env → Heap → Prop} {C : Heap → Prop} {rest : List (Nat × Nat)} {ρ : Env} {h : Heap} {d : Nat} {op : Op} {ty : TypeId} {pos : String} {after : Array Edge} (v : Value)
    (hl : ∀ h', C h' → lv P ρ op h' = some v) (hn : seqX P ops Q C rest (put ρ d v) h) : @seqY ⟨P, ops, Q, C, rest, ρ, h⟩ 2 (some ⟨some d, op, ty, pos, after, none⟩) := by
  rw [seqY_2]; exact ⟨v, hl, hn⟩
theorem float2g {P : Program} {ops : Array Oper} {Q : Exit → Env → Heap → Prop} {C : Heap → Prop} {rest : List (Nat × Nat)} {ρ : Env} {h : Heap} {d j : Nat} {want : Bool} {op : Op} {ty : TypeId} {pos : String} {after : Array Edge} (v : Value)
    (hg : yieldX ops ρ j = some want) (hl : ∀ h', C h' → lv P ρ op h' = some v) (hn : seqX P ops Q C rest (put ρ d v) h) : @seqY ⟨P, ops, Q, C, rest, ρ, h⟩ 2 (some ⟨some d, op, ty, pos, after, some (j, want)⟩) := by
  rw [seqY_2]
  show gX ops ρ (some (j, want)) _ _
  unfold gX
  simp only [hg, if_true]
  exact ⟨v, hl, hn⟩

/-- what stands ahead of a label, and what behind it -/
def splitL : Code → Nat → Option (Code × Code)
  | .seq (.label l') b, l => if l' = l then some (.skip, b) else (splitL b l).map fun p => (.seq (.label l') p.1, p.2)
  | .seq a b, l => (splitL b l).map fun p => (.seq a p.1, p.2)
  | _, _ => none
theorem splitL_wp {P : Program} {n l : Nat} {K : Env → Heap → Prop} {Q : Exit → Env → Heap → Prop} (y : Code) (hK : ∀ ρ h, K ρ h → wpX P n y Q ρ h) : ∀ (c x : Code) (ρ : Env) (h : Heap), splitL c l = some (x, y) →
    wpX P n x (thenX K Q) ρ h → wpX P n c Q ρ h := by
  have step : ∀ (a b x : Code) (ρ : Env) (h : Heap), (∀ ρ h, wpX P n x (thenX K Q) ρ h → wpX P n b Q ρ h) → wpX P n (.seq a x) (thenX K Q) ρ h → wpX P n (.seq a b) Q ρ h := by
    intro a b x ρ h hb hw
    refine wpX_mono a (fun e ρ h he => ?_) hw
    cases e <;> first | exact hb _ _ he | exact he
  intro c
  induction c with
  | seq a b iha ihb =>
    intro x ρ h hs hw
    have gen : (splitL b l).map (fun p => (Code.seq a p.1, p.2)) = some (x, y) → wpX P n (.seq a b) Q ρ h := by
      intro hm
      obtain ⟨⟨x', y'⟩, h1, h2⟩ := Option.map_eq_some_iff.1 hm
      simp only [Prod.mk.injEq] at h2
      obtain ⟨rfl, rfl⟩ := h2
      exact step a b x' ρ h (fun ρ h => ihb x' ρ h h1) hw
    cases a <;> first
      | exact gen hs
      | skip
    rename_i l'
    unfold splitL at hs
    split at hs
    · simp only [Option.some.injEq, Prod.mk.injEq] at hs
      obtain ⟨rfl, rfl⟩ := hs
      exact hK _ _ hw
    · exact gen hs
  | _ => intro x ρ h hs; simp [splitL] at hs
/-- **A SCOPE WHOSE LABEL STANDS BEHIND A BEGINNING.** -/
theorem scopeM {P : Program} {n : Nat} {c x y : Code} {Q : Exit → Env → Heap → Prop} {ρ : Env} {h : Heap} (l : Nat) (J : Env → Heap → Prop) (μ : Env → Heap → Nat) (hs : splitL c l = some (x, y)) (hf : findLabel c l = some (.seq .skip y))
    (hok : (okCode n c && okCode n y) = true) (first : wpX P n x (thenX J (jumpX l J Q)) ρ h)
    (pass : ∀ ρ h, J ρ h → wpX P n y (jumpX l (fun ρ' h' => J ρ' h' ∧ μ ρ' h' < μ ρ h) Q) ρ h) : @SemK P n ⟨.scope c⟩ ⟨Q⟩ ⟨ρ⟩ ⟨h⟩ := by
  refine scopeK (rest := .seq .skip y) l J μ hf (by simpa [okCode] using hok) ?_ fun ρ h hJ => pass ρ h hJ
  refine splitL_wp y (fun ρ h hJ => ?_) c x ρ h hs first
  refine wpX_mono y (fun e ρ h he => ?_) (pass ρ h hJ)
  cases e <;> first | exact ⟨he.1, he.2.1⟩ | exact he

end Xe
