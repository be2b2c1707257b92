/- Loops and jumps with a measure that is no part of the memory. -/
import Derived.Test.YtkghjecglmmloaaMono
namespace Xe
open Go

theorem least_ex {p : Nat → Prop} (h : ∃ m, p m) : ∃ m, p m ∧ ∀ k, p k → m ≤ k := by
  obtain ⟨m, hm⟩ := h
  induction m using Nat.strongRecOn with
  | _ m ih =>
    by_cases hk : ∃ k, k < m ∧ p k
    · obtain ⟨k, h1, h2⟩ := hk
      exact ih k h1 h2
    · exact ⟨m, hm, fun k h => Nat.le_of_not_lt fun hl => hk ⟨k, hl, h⟩⟩
/-- the least number with a property -/
noncomputable def leastN (p : Nat → Prop) : Nat := by
  classical
  exact if h : ∃ m, p m then Classical.choose (least_ex h) else 0
theorem leastN_spec {p : Nat → Prop} (h : ∃ m, p m) : p (leastN p) := by
  unfold leastN
  rw [dif_pos h]
  exact (Classical.choose_spec (least_ex h)).1
theorem leastN_le {p : Nat → Prop} {m : Nat} (h : p m) : leastN p ≤ m := by
  unfold leastN
  rw [dif_pos ⟨m, h⟩]
  exact (Classical.choose_spec (least_ex ⟨m, h⟩)).2 m h
section
variable {P : Program} {n : Nat} {Q : Exit → Env → Heap → Prop} {ρ : Env} {h : Heap}
theorem jumpX_mono {l : Nat} {J J' : Env → Heap → Prop} (hj : ∀ ρ h, J ρ h → J' ρ h) : ∀ e ρ h, jumpX l J Q e ρ h → jumpX l J' Q e ρ h := fun e ρ h he => by
  cases e <;> first | exact ⟨he.1, hj _ _ he.2⟩ | exact he
theorem loopG {c : Code} (I : Nat → Env → Heap → Prop) (m0 : Nat) (hok : okCode n c = true) (h0 : I m0 ρ h)
    (round : ∀ m ρ h, I m ρ h → wpX P n c (thenX (fun ρ' h' => ∃ m', m' < m ∧ I m' ρ' h') Q) ρ h) : @SemK P n ⟨.loop c⟩ ⟨Q⟩ ⟨ρ⟩ ⟨h⟩ := by
  refine loopK (fun ρ h => ∃ m, I m ρ h) (fun ρ h => leastN fun m => I m ρ h) hok ⟨m0, h0⟩ fun ρ h hI => ?_
  refine wpX_mono c (fun e ρ' h' he => ?_) (round _ _ _ (leastN_spec hI))
  cases e <;> first
    | (obtain ⟨m', hm, hi⟩ := he
       exact ⟨⟨m', hi⟩, Nat.lt_of_le_of_lt (leastN_le hi) hm⟩)
    | exact he
theorem scopeLG {c : Code} (l : Nat) (J : Nat → Env → Heap → Prop) (m0 : Nat) (hok : okCode n c = true) (h0 : J m0 ρ h)
    (pass : ∀ m ρ h, J m ρ h → wpX P n c (jumpX l (fun ρ' h' => ∃ m', m' < m ∧ J m' ρ' h') Q) ρ h) : @SemK P n ⟨.scope (.seq (.label l) c)⟩ ⟨Q⟩ ⟨ρ⟩ ⟨h⟩ := by
  refine scopeL l (fun ρ h => ∃ m, J m ρ h) (fun ρ h => leastN fun m => J m ρ h) hok ⟨m0, h0⟩ fun ρ h hJ => ?_
  refine wpX_mono c (jumpX_mono fun ρ' h' he => ?_) (pass _ _ _ (leastN_spec hJ))
  obtain ⟨m', hm, hi⟩ := he
  exact ⟨⟨m', hi⟩, Nat.lt_of_le_of_lt (leastN_le hi) hm⟩
theorem scopeMG {c x y : Code} (l : Nat) (J : Nat → Env → Heap → Prop) (hs : splitL c l = some (x, y)) (hf : findLabel c l = some (.seq .skip y))
    (hok : (okCode n c && okCode n y) = true) (first : wpX P n x (thenX (fun ρ h => ∃ m, J m ρ h) (jumpX l (fun ρ h => ∃ m, J m ρ h) Q)) ρ h)
    (pass : ∀ m ρ h, J m ρ h → wpX P n y (jumpX l (fun ρ' h' => ∃ m', m' < m ∧ J m' ρ' h') Q) ρ h) : @SemK P n ⟨.scope c⟩ ⟨Q⟩ ⟨ρ⟩ ⟨h⟩ := by
  refine scopeM l (fun ρ h => ∃ m, J m ρ h) (fun ρ h => leastN fun m => J m ρ h) hs hf hok first fun ρ h hJ => ?_
  refine wpX_mono y (jumpX_mono fun ρ' h' he => ?_) (pass _ _ _ (leastN_spec hJ))
  obtain ⟨m', hm, hi⟩ := he
  exact ⟨⟨m', hi⟩, Nat.lt_of_le_of_lt (leastN_le hi) hm⟩
end
end Xe
