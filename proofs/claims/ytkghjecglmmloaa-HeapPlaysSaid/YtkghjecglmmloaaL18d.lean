/- The document's answer for layer 18: what it pops, and that its list is the front. -/
import Derived.Test.YtkghjecglmmloaaL18c
namespace Xe
open Go Hp Go.Proofs
set_option maxRecDepth 16000
section
variable {h : Heap} {ab ib vars : Nat} {a : Nat → Int} {s : Nat → Bool}

theorem frL_spec (a : Nat → Int) (s : Nat → Bool) : ∀ v, (frL a s v).Pairwise (· < ·) ∧ ∀ w, w ∈ frL a s v ↔ (1 ≤ w ∧ w ≤ v ∧ s w = true ∧ ∀ u, 1 ≤ u → u ≤ v → s u = true → a u ≤ a w)
  | 0 => ⟨by simp [frL], fun w => by simp [frL]; omega⟩
  | v + 1 => by
    obtain ⟨ih1, ih2⟩ := frL_spec a s v
    have hmem : ∀ w, w ∈ frL a s v → 1 ≤ w ∧ w ≤ v := fun w hw => frL_mem hw
    show (frStep a s (frL a s v) (v + 1)).Pairwise (· < ·) ∧ ∀ w, w ∈ frStep a s (frL a s v) (v + 1) ↔ _
    unfold frStep
    by_cases hs : s (v + 1) = true
    · rw [if_pos hs]
      cases hl : frL a s v with
      | nil =>
        rw [hl] at ih2
        have hno : ∀ u, 1 ≤ u → u ≤ v → s u = true → False := by
          intro u
          -- a foremost one would be there
          have : ∀ n, n ≤ v → (∃ u, 1 ≤ u ∧ u ≤ n ∧ s u = true) → ∃ w, 1 ≤ w ∧ w ≤ n ∧ s w = true ∧ ∀ u, 1 ≤ u → u ≤ n → s u = true → a u ≤ a w := by
            intro n
            induction n with
            | zero => rintro _ ⟨u, h1, h2, _⟩; omega
            | succ n ihn =>
              intro hn ⟨u, h1, h2, h3⟩
              by_cases hprev : ∃ u, 1 ≤ u ∧ u ≤ n ∧ s u = true
              · obtain ⟨w, w1, w2, w3, w4⟩ := ihn (by omega) hprev
                by_cases hsn : s (n + 1) = true
                · by_cases hle : a (n + 1) ≤ a w
                  · refine ⟨w, w1, by omega, w3, fun x x1 x2 x3 => ?_⟩
                    rcases (by omega : x ≤ n ∨ x = n + 1) with h | h
                    · exact w4 x x1 h x3
                    · subst h; exact hle
                  · refine ⟨n + 1, by omega, by omega, hsn, fun x x1 x2 x3 => ?_⟩
                    rcases (by omega : x ≤ n ∨ x = n + 1) with h | h
                    · have := w4 x x1 h x3; omega
                    · subst h; omega
                · refine ⟨w, w1, by omega, w3, fun x x1 x2 x3 => ?_⟩
                  rcases (by omega : x ≤ n ∨ x = n + 1) with h | h
                  · exact w4 x x1 h x3
                  · subst h; exact absurd x3 hsn
              · refine ⟨u, h1, h2, h3, fun x x1 x2 x3 => ?_⟩
                rcases (by omega : x ≤ n ∨ x = n + 1) with h | h
                · exact absurd ⟨x, x1, h, x3⟩ hprev
                · rcases (by omega : u ≤ n ∨ u = n + 1) with h' | h'
                  · exact absurd ⟨u, h1, h', h3⟩ hprev
                  · rw [h, h']; omega
          intro u1 u2 u3
          obtain ⟨w, w1, w2, w3, w4⟩ := this v (Nat.le_refl _) ⟨u, u1, u2, u3⟩
          exact absurd ((ih2 w).2 ⟨w1, w2, w3, w4⟩) List.not_mem_nil
        simp only [List.length_nil, Nat.lt_irrefl, false_and, if_false, true_or, if_true, List.nil_append]
        refine ⟨List.pairwise_singleton _ _, fun w => ?_⟩
        rw [List.mem_singleton]
        constructor
        · rintro rfl
          refine ⟨by omega, by omega, hs, fun u u1 u2 u3 => ?_⟩
          rcases (by omega : u ≤ v ∨ u = v + 1) with h | h
          · exact (hno u u1 h u3).elim
          · subst h; omega
        · rintro ⟨w1, w2, w3, _⟩
          rcases (by omega : w ≤ v ∨ w = v + 1) with h | h
          · exact (hno w w1 h w3).elim
          · exact h
      | cons x t =>
        have hx := (ih2 x).1 (by rw [hl]; exact List.mem_cons_self ..)
        have htop : ∀ w, w ∈ x :: t → a w = a x := fun w hw => by
          have h1 := (ih2 w).1 (by rw [hl]; exact hw)
          have h2 := hx.2.2.2 w h1.1 h1.2.1 h1.2.2.1
          have h3 := h1.2.2.2 x hx.1 hx.2.1 hx.2.2.1
          omega
        rw [hl] at ih1 ih2 hmem
        by_cases h3 : a x < a (v + 1)
        · simp only [List.length_cons, Nat.zero_lt_succ, List.headD_cons, h3, and_self, if_true, List.length_nil, true_or, List.nil_append]
          refine ⟨List.pairwise_singleton _ _, fun w => ?_⟩
          rw [List.mem_singleton]
          constructor
          · rintro rfl
            refine ⟨by omega, by omega, hs, fun u u1 u2 u3 => ?_⟩
            rcases (by omega : u ≤ v ∨ u = v + 1) with h | h
            · have := hx.2.2.2 u u1 h u3; omega
            · subst h; omega
          · rintro ⟨w1, w2, w3, w4⟩
            rcases (by omega : w ≤ v ∨ w = v + 1) with h | h
            · have e1 := hx.2.2.2 w w1 h w3
              have e2 := w4 (v + 1) (by omega) (by omega) hs
              omega
            · exact h
        · by_cases h4 : a (v + 1) = a x
          · simp only [List.length_cons, Nat.zero_lt_succ, List.headD_cons, h3, and_false, if_false]
            simp only [List.length_cons, List.headD_cons, h4, or_true, if_true]
            refine ⟨?_, fun w => ?_⟩
            · rw [List.pairwise_append]
              refine ⟨ih1, List.pairwise_singleton _ _, fun p hp q hq => ?_⟩
              rw [List.mem_singleton] at hq
              have := hmem p hp
              omega
            · rw [List.mem_append, List.mem_singleton]
              constructor
              · rintro (hw | rfl)
                · obtain ⟨w1, w2, w3, w4⟩ := (ih2 w).1 hw
                  refine ⟨w1, by omega, w3, fun u u1 u2 u3 => ?_⟩
                  rcases (by omega : u ≤ v ∨ u = v + 1) with h | h
                  · exact w4 u u1 h u3
                  · subst h; have := htop w hw; omega
                · refine ⟨by omega, by omega, hs, fun u u1 u2 u3 => ?_⟩
                  rcases (by omega : u ≤ v ∨ u = v + 1) with h | h
                  · have := hx.2.2.2 u u1 h u3; omega
                  · subst h; omega
              · rintro ⟨w1, w2, w3, w4⟩
                rcases (by omega : w ≤ v ∨ w = v + 1) with h | h
                · exact .inl ((ih2 w).2 ⟨w1, h, w3, fun u u1 u2 u3 => w4 u u1 (by omega) u3⟩)
                · exact .inr h
          · simp only [List.length_cons, Nat.zero_lt_succ, List.headD_cons, h3, and_false, if_false, h4, or_false, Nat.succ_ne_zero]
            refine ⟨ih1, fun w => (ih2 w).trans ⟨?_, ?_⟩⟩
            · rintro ⟨w1, w2, w3, w4⟩
              refine ⟨w1, by omega, w3, fun u u1 u2 u3 => ?_⟩
              rcases (by omega : u ≤ v ∨ u = v + 1) with h | h
              · exact w4 u u1 h u3
              · subst h; have := w4 x hx.1 hx.2.1 hx.2.2.1; omega
            · rintro ⟨w1, w2, w3, w4⟩
              rcases (by omega : w ≤ v ∨ w = v + 1) with h | h
              · exact ⟨w1, h, w3, fun u u1 u2 u3 => w4 u u1 (by omega) u3⟩
              · subst h
                have := w4 x hx.1 (by omega) hx.2.2.1
                omega
    · rw [if_neg hs]
      refine ⟨ih1, fun w => (ih2 w).trans ⟨?_, ?_⟩⟩
      · rintro ⟨w1, w2, w3, w4⟩
        refine ⟨w1, by omega, w3, fun u u1 u2 u3 => ?_⟩
        rcases (by omega : u ≤ v ∨ u = v + 1) with h | h
        · exact w4 u u1 h u3
        · subst h; exact absurd u3 hs
      · rintro ⟨w1, w2, w3, w4⟩
        rcases (by omega : w ≤ v ∨ w = v + 1) with h | h
        · exact ⟨w1, h, w3, fun u u1 u2 u3 => w4 u u1 (by omega) u3⟩
        · subst h; exact absurd w3 hs

theorem sorted_eq : ∀ {l m : List Nat}, l.Pairwise (· < ·) → m.Pairwise (· < ·) → (∀ w, w ∈ l ↔ w ∈ m) → l = m
  | [], [], _, _, _ => rfl
  | [], y :: m, _, _, h => absurd ((h y).2 (List.mem_cons_self ..)) List.not_mem_nil
  | x :: l, [], _, _, h => absurd ((h x).1 (List.mem_cons_self ..)) List.not_mem_nil
  | x :: l, y :: m, hl, hm, h => by
    rw [List.pairwise_cons] at hl hm
    have hxy : x = y := by
      rcases List.mem_cons.1 ((h x).1 (List.mem_cons_self ..)) with e | e
      · exact e
      · rcases List.mem_cons.1 ((h y).2 (List.mem_cons_self ..)) with e' | e'
        · exact e'.symm
        · have := hl.1 y e'; have := hm.1 x e; omega
    subst hxy
    congr 1
    refine sorted_eq hl.2 hm.2 fun w => ?_
    constructor
    · intro hw
      rcases List.mem_cons.1 ((h w).1 (List.mem_cons_of_mem _ hw)) with e | e
      · have := hl.1 w hw; omega
      · exact e
    · intro hw
      rcases List.mem_cons.1 ((h w).2 (List.mem_cons_of_mem _ hw)) with e | e
      · have := hm.1 w hw; omega
      · exact e

theorem frL_front : frL a s vars = front a (Inn vars s) vars := by
  obtain ⟨h1, h2⟩ := frL_spec a s vars
  refine sorted_eq h1 front_lt fun w => ?_
  rw [h2, mem_front (fun v hv => ⟨hv.1, hv.2.1⟩)]
  unfold Inn
  constructor
  · exact fun ⟨a1, a2, a3, a4⟩ => ⟨⟨a1, a2, a3⟩, fun u ⟨u1, u2, u3⟩ => a4 u u1 u2 u3⟩
  · exact fun ⟨⟨a1, a2, a3⟩, a4⟩ => ⟨a1, a2, a3, fun u u1 u2 u3 => a4 u ⟨u1, u2, u3⟩⟩

/-- what the document pops -/
def popN (l : List Nat) (x : Int) : Nat := (l[(max x 0).toNat % l.length]?).getD 0

theorem rpop_h (R : RefAt h ab ib vars a s) (x : Int) : CallsH Try.prog 23 [refV ab ib vars, .int .i64 x] h fun r h' => r = .int .i64 (popN (frL a s vars) x) ∧ Fr (fun _ => False) h h' := by
  have hv := R.hv
  refine calls_of 23 [.tmp 4] Go.Proofs.Try.func23 rfl rfl rfl (by kernel_rfl) (Nat.le_of_ble_eq_true rfl) ?_
  simp -implicitDefEqProofs (disch := omega) [go_sem, refV]
  refine useC (foremost_h (R.fr (T := fun _ => False) (Fr.refl _ _).push id id)) ?_
  rintro _ h2 ⟨A, c, rfl, SA, bA, fr⟩
  have fr2 := (Fr.refl (fun _ => False) h).push.trans fr
  cases hl : frL a s vars with
  | nil =>
    simp -implicitDefEqProofs (disch := omega) [go_sem]
    exact ⟨by simp [popN], fr2⟩
  | cons y t =>
    have hlen : t.length + 1 ≤ vars := by have := frL_le (a := a) (s := s) vars; rw [hl] at this; simpa using this
    rw [hl] at SA
    obtain ⟨bk, rfl, _, _, hcl⟩ := SA.base (by simp [nums])
    by_cases hx : x < 0
    · have c0 := hcl 0 _ rfl
      simp -implicitDefEqProofs (disch := omega) [go_sem, c0]
      have e : (max x 0).toNat = 0 := by omega
      exact ⟨by simp [popN, e], fr2⟩
    · obtain ⟨p, rfl⟩ : ∃ p : Nat, x = p := ⟨x.toNat, by omega⟩
      obtain ⟨q, hq⟩ : ∃ q, q = p % (t.length + 1) := ⟨_, rfl⟩
      have hqI : (p : Int) % ((t.length : Int) + 1) = q := by
        rw [hq]; push_cast; rfl
      have hql : q < t.length + 1 := by rw [hq]; exact Nat.mod_lt _ (by omega)
      have cq := hcl q _ (nums_at (l := y :: t) (by simpa using hql))
      simp -implicitDefEqProofs (disch := omega) [go_sem, cq, hqI]
      have e : (max (p : Int) 0).toNat = p := by omega
      exact ⟨by simp [popN, e, ← hq, hql], fr2⟩
end
end Xe
