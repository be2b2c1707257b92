/- What a piece of code does, with a weaker end: so two ways may meet in one condition. -/
import Derived.Test.YtkghjecglmmloaaEng5
namespace Xe
open Go

theorem runO_mono {o : Option Value} {k k' : Value → Prop} (hk : ∀ v, k v → k' v) (h : runO o k) : runO o k' := by
  cases o with
  | none => exact h
  | some v => exact hk v h
theorem storeN_mono {a : Addr} : ∀ {vs : List Value} {i : Nat} {h : Heap} {k k' : Heap → Prop}, (∀ h, k h → k' h) → storeN h a i vs k → storeN h a i vs k'
  | [], _, _, _, _, hk, h => hk _ h
  | _ :: _, _, _, _, _, hk, ⟨h1, h2, h3, h4⟩ => ⟨h1, h2, h3, storeN_mono hk h4⟩
theorem appendX_mono {el : Option (TypeId × Nat × Nat × Value)} {s x : Value} {h : Heap} {k k' : Value → Heap → Prop} (hk : ∀ v h, k v h → k' v h) (hx : appendX el s x h k) : appendX el s x h k' := by
  unfold appendX at hx ⊢
  split at hx
  · obtain ⟨new, h1, h2, h3⟩ := hx
    refine ⟨new, h1, fun hl => ?_, fun hl => ?_⟩
    · have := h2 hl
      split at this
      · exact storeN_mono (fun h => hk _ h) this
      · exact hk _ _ this
    · obtain ⟨g1, g2, old, g3, g4⟩ := h3 hl
      exact ⟨g1, g2, old, g3, fun c rest hc hr => hk _ _ (g4 c rest hc hr)⟩
  · exact hx.elim
theorem copyX_mono {el : Option (TypeId × Nat × Nat × Value)} {s x : Value} {h : Heap} {k k' : Value → Heap → Prop} (hk : ∀ v h, k v h → k' v h) (hx : copyX el s x h k) : copyX el s x h k' := by
  unfold copyX at hx ⊢
  split at hx
  · obtain ⟨new, h1, h2⟩ := hx
    refine ⟨new, h1, ?_⟩
    split at h2
    · exact storeN_mono (fun h => hk _ h) h2
    · exact hk _ _ h2
  · exact hx.elim
theorem stepX_mono {P : Program} {ρ : Env} {o : Op} {h : Heap} {k k' : Value → Heap → Prop} (hk : ∀ v h, k v h → k' v h) (hx : stepX P ρ o h k) : stepX P ρ o h k' := by
  unfold stepX at hx ⊢
  split at hx
  · exact runO_mono (fun v => hk v _) hx
  · obtain ⟨kt, e, r, es, c, x, o, h1, h2, h3, h4, h5, h6⟩ := hx
    exact ⟨kt, e, r, es, c, x, o, h1, h2, h3, h4, h5, hk _ _ h6⟩
  · exact hk _ _ hx
  · exact runO_mono (fun v => hk v _) hx
  · unfold storeX at hx ⊢
    split at hx
    · exact ⟨hx.1, storeN_mono (fun h => hk _ h) hx.2⟩
    · exact hx
  · unfold allocX newX at hx ⊢
    split at hx
    · exact hk _ _ hx
    · exact hx
  · exact hk _ _ hx
  · unfold buildSliceX at hx ⊢
    split at hx
    · obtain ⟨h1, cs, h2, h3⟩ := hx
      exact ⟨h1, cs, h2, hk _ _ h3⟩
    · exact hx
  · unfold makeSliceX at hx ⊢
    split at hx
    · obtain ⟨h1, h2, h3, h4, h5⟩ := hx
      exact ⟨h1, h2, h3, h4, hk _ _ h5⟩
    · exact hx
  · unfold invokeX at hx ⊢
    split at hx
    · exact hx.mono hk
    · exact hx
  · unfold builtX at hx ⊢
    split at hx
    · exact ⟨hx.1, appendX_mono hk hx.2⟩
    · exact copyX_mono hk hx
    · obtain ⟨kt, e, r, es, c, x, o, h1, h2, h3, h4, h6⟩ := hx
      exact ⟨kt, e, r, es, c, x, o, h1, h2, h3, h4, hk _ _ h6⟩
    · obtain ⟨d, r, es, c, h1, h2, h6⟩ := hx
      exact ⟨d, r, es, c, h1, h2, hk _ _ h6⟩
    · exact runO_mono (fun v => hk v _) hx
  · exact runO_mono (fun v => hk v _) hx
theorem gX_mono {ops : Array Oper} {ρ : Env} {g : Option (Nat × Bool)} {A B A' B' : Prop} (h1 : A → A') (h2 : B → B') (h : gX ops ρ g A B) : gX ops ρ g A' B' := by
  unfold gX at h ⊢
  split at h
  · exact h1 h
  · split at h
    · rename_i hc; rw [if_pos hc]; exact h1 h
    · rename_i hc; rw [if_neg hc]; exact h2 h
theorem wpR_mono {P : Program} {ops : Array Oper} {Q Q' : Exit → Env → Heap → Prop} (hq : ∀ e ρ h, Q e ρ h → Q' e ρ h) : ∀ {l : List Oper} {ρ : Env} {h : Heap}, wpR P ops Q l ρ h → wpR P ops Q' l ρ h
  | [], _, _, hh => hq _ _ _ hh
  | _ :: _, _, _, hh => gX_mono (fun hx => stepX_mono (fun _ _ => wpR_mono hq) hx) (wpR_mono hq) hh
theorem wpX_mono {P : Program} {n : Nat} : ∀ (c : Code) {Q Q' : Exit → Env → Heap → Prop} {ρ : Env} {h : Heap}, (∀ e ρ h, Q e ρ h → Q' e ρ h) → wpX P n c Q ρ h → wpX P n c Q' ρ h := by
  intro c
  induction c with
  | seq a b iha ihb =>
    intro Q Q' ρ h hq hw
    refine iha (fun e ρ h he => ?_) hw
    cases e <;> first | exact ihb hq he | exact hq _ _ _ he
  | cond c a b iha ihb =>
    intro Q Q' ρ h hq hw
    unfold wpX at hw ⊢
    unfold condX at hw ⊢
    split at hw
    · exact iha hq hw
    · exact ihb hq hw
    · exact hw
  | block id c ih =>
    intro Q Q' ρ h hq hw
    refine ih (fun e ρ h he => ?_) hw
    unfold blockX at he ⊢
    split at he
    · split at he
      · rename_i hc; simp only [hc, if_true]; exact hq _ _ _ he
      · rename_i hc; simp only [hc, if_false]; exact hq _ _ _ he
    · exact hq _ _ _ he
  | region id ops d =>
    intro Q Q' ρ h hq hw
    cases d with
    | false => exact wpR_mono hq hw
    | true => exact SemX.mono hw hq
  | loop c ih => exact fun hq hw => SemX.mono hw hq
  | scope c ih => exact fun hq hw => SemX.mono hw hq
  | rangeFunc => exact fun _ hw => hw
  | refuse => exact fun _ hw => hw
  | _ => exact fun hq hw => hq _ _ _ hw

/-- **A MEETING PLACE** -/
theorem cut {P : Program} {n : Nat} {c : Code} {K : Env → Heap → Prop} {Q : Exit → Env → Heap → Prop} {ρ : Env} {h : Heap} (M : Env → Heap → Prop)
    (h1 : wpX P n c (thenX M Q) ρ h) (h2 : ∀ ρ h, M ρ h → K ρ h) : wpX P n c (thenX K Q) ρ h :=
  wpX_mono c (fun e ρ h he => by cases e <;> first | exact h2 _ _ he | exact he) h1

/-- a block, frozen: so a walk stands still ahead of it (given to simp as '↓ stop_block (id := ..)') -/
def BlockK (P : Program) (n : Nat) (id : Nat) [c : Kp Code] [Q : Kp (Exit → Env → Heap → Prop)] [ρ : Kp Env] [h : Kp Heap] : Prop := wpX P n (.block id c.f) Q.f ρ.f h.f
theorem stop_block {P : Program} {n id : Nat} {c : Code} {Q : Exit → Env → Heap → Prop} {ρ : Env} {h : Heap} : wpX P n (.block id c) Q ρ h = @BlockK P n id ⟨c⟩ ⟨Q⟩ ⟨ρ⟩ ⟨h⟩ := rfl
theorem cutK {P : Program} {n id : Nat} {c : Code} {K : Env → Heap → Prop} {Q : Exit → Env → Heap → Prop} {ρ : Env} {h : Heap} (M : Env → Heap → Prop)
    (h1 : wpX P n (.block id c) (thenX M Q) ρ h) (h2 : ∀ ρ h, M ρ h → K ρ h) : @BlockK P n id ⟨c⟩ ⟨thenX K Q⟩ ⟨ρ⟩ ⟨h⟩ := cut M h1 h2

/-- a floating load: what it reads in every heap of the class -/
theorem float2 {P : Program} {ops : Array Oper} {Q : Exit → Env → Heap → Prop} {C : Heap → Prop} {rest : List (Nat × Nat)} {ρ : Env} {h : Heap} {d : Nat} {op : Op} {ty : TypeId} {pos : String} {after : Array Edge} (v : Value)
    (hl : ∀ h', C h' → lv P ρ op h' = some v) (hn : seqX P ops Q C rest (put ρ d v) h) : @seqY ⟨P, ops, Q, C, rest, ρ, h⟩ 2 (some ⟨some d, op, ty, pos, after, none⟩) := by
  rw [seqY_2]; exact ⟨v, hl, hn⟩
theorem float2g {P : Program} {ops : Array Oper} {Q : Exit → Env → Heap → Prop} {C : Heap → Prop} {rest : List (Nat × Nat)} {ρ : Env} {h : Heap} {d j : Nat} {want : Bool} {op : Op} {ty : TypeId} {pos : String} {after : Array Edge} (v : Value)
    (hg : yieldX ops ρ j = some want) (hl : ∀ h', C h' → lv P ρ op h' = some v) (hn : seqX P ops Q C rest (put ρ d v) h) : @seqY ⟨P, ops, Q, C, rest, ρ, h⟩ 2 (some ⟨some d, op, ty, pos, after, some (j, want)⟩) := by
  rw [seqY_2]
  show gX ops ρ (some (j, want)) _ _
  unfold gX
  simp only [hg, if_true]
  exact ⟨v, hl, hn⟩
end Xe
