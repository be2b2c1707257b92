/- A region that draws its order: one order serves all, where the operations that act are in a row, and each load waits for, or is waited for by, each that acts (or reads the same in every world of a class that all keep). -/
import Derived.OrdersHeld
namespace Xe
open Go

section
variable {P : Program} {ops : Array Oper} {Q : Exit → Act → World → Prop} {md : Region.Mode} {S C : World → Prop} {lo nc : Nat → Bool}

/-- as the kit's wpAnyH; but behind those that nc names the class need not hold -/
def wpAnyE (P : Program) (md : Region.Mode) (ops : Array Oper) (Q : Exit → Act → World → Prop) (C : World → Prop) (nc : Nat → Bool) : Nat → Array Bool → Act → World → Prop
  | 0, listed, a, w => Region.ready md ops listed = [] ∧ Q .normal a w
  | fuel + 1, listed, a, w =>
    (Region.ready md ops listed = [] → Q .normal a w) ∧
    ∀ i ∈ Region.ready md ops listed, wpOp P ops Q i (fun a' w' => (nc i = false → C w') ∧ wpAnyE P md ops Q C nc fuel (listed.setIfInBounds i true) a' w') a w

theorem wpAny_of_E : ∀ (fuel : Nat) (listed : Array Bool) (a : Act) (w : World), wpAnyE P md ops Q C nc fuel listed a w → wpAny P md ops Q fuel listed a w
  | 0, _, _, _, h => h
  | fuel + 1, _, _, _, h => ⟨h.1, fun i hi => wpOp_mono (fun a' w' h' => wpAny_of_E fuel _ a' w' h'.2) (h.2 i hi)⟩

def wpAnyT (P : Program) (md : Region.Mode) (ops : Array Oper) (Q : Exit → Act → World → Prop) (C S : World → Prop) (lo nc : Nat → Bool) : Nat → Array Bool → Act → World → Prop
  | 0, listed, a, w => Region.ready md ops listed = [] ∧ Q .normal a w
  | fuel + 1, listed, a, w =>
    (Region.ready md ops listed = [] → Q .normal a w) ∧
    ∀ i ∈ Region.ready md ops listed,
      (lo i = true → wpOp P ops Q i (fun a' w' => (nc i = false → C w') ∧ wpAnyE P md ops Q C nc fuel (listed.setIfInBounds i true) a' w') a w) ∧
      (lo i = false → wpOp P ops Q i (fun a' w' => (S w' ∧ C w') ∧ wpAnyT P md ops Q C S lo nc fuel (listed.setIfInBounds i true) a' w') a w)

theorem wpAnyE_of_T : ∀ (fuel : Nat) (listed : Array Bool) (a : Act) (w : World), wpAnyT P md ops Q C S lo nc fuel listed a w → wpAnyE P md ops Q C nc fuel listed a w
  | 0, _, _, _, h => h
  | fuel + 1, _, _, _, h => ⟨h.1, fun i hi => by
      cases hl : lo i with
      | true => exact (h.2 i hi).1 hl
      | false => exact wpOp_mono (fun a' w' h' => ⟨fun _ => h'.1.2, wpAnyE_of_T fuel _ a' w' h'.2⟩) ((h.2 i hi).2 hl)⟩

theorem hfree_step {i j : Nat} {oi : Oper} {listed : Array Bool} (hjun : listed.getD j true = false)
    (hfree : ∀ k oj, ops[k]? = some oj → k ≠ i → listed.getD k true = false → (∀ e ∈ oj.after, Region.binds md e = true → e.on ≠ i) → oi.apart ops oj = true) :
    ∀ k ok, ops[k]? = some ok → k ≠ i → (listed.setIfInBounds j true).getD k true = false →
          (∀ e ∈ ok.after, Region.binds md e = true → e.on ≠ i) → oi.apart ops ok = true := fun k ok hk hki hun hno => by
  refine hfree k ok hk hki ?_ hno
  by_cases hjk : j = k
  · subst hjk; exact hjun
  · rw [getD_set_ne true hjk] at hun; exact hun

theorem getD_flip {listed : Array Bool} {i : Nat} (h0 : listed.getD i true = false) : listed.getD i false = false := by
  rcases Nat.lt_or_ge i listed.size with h' | h'
  · simp [h'] at h0 ⊢; exact h0
  · simp [Array.getElem?_eq_none h'] at h0

theorem not_on {i : Nat} {oj : Oper} {listed : Array Bool} (hr : i ∈ Region.ready md ops listed)
    (hall : ∀ e ∈ oj.after, Region.binds md e = true → listed.getD e.on false = true) : ∀ e ∈ oj.after, Region.binds md e = true → e.on ≠ i := fun e he hb heq => by
  have h1 := hall e he hb
  have h0 := getD_flip (mem_ready.1 hr).1
  rw [heq, h0] at h1
  cases h1

/-- what waits for i, or for one that waits for it, cannot come up -/
theorem not_in_D {i j : Nat} {oj : Oper} {listed : Array Bool} {D : List Nat} (hclosed : ∀ d ∈ D, ∀ od, ops[d]? = some od → ∃ e ∈ od.after, Region.binds md e = true ∧ (e.on = i ∨ e.on ∈ D))
    (hD : ∀ d ∈ D, listed.getD d true = false) (hr : i ∈ Region.ready md ops listed) (hoj : ops[j]? = some oj)
    (hall : ∀ e ∈ oj.after, Region.binds md e = true → listed.getD e.on false = true) : j ∉ D := fun hd => by
  obtain ⟨e, he, hb, hor⟩ := hclosed j hd oj hoj
  rcases hor with h | h
  · exact not_on hr hall e he hb h
  · have h2 := hall e he hb
    rw [getD_flip (hD _ h)] at h2
    cases h2

theorem D_step {j : Nat} {listed : Array Bool} {D : List Nat} (hjD : j ∉ D) (hD : ∀ d ∈ D, listed.getD d true = false) : ∀ d ∈ D, (listed.setIfInBounds j true).getD d true = false := by
  intro d hd
  rw [getD_set_ne true (show j ≠ d from fun e => hjD (by rw [e]; exact hd))]
  exact hD d hd
theorem nc_step {i j : Nat} {listed : Array Bool} {D : List Nat} {f : Nat → Bool} (hjun : listed.getD j true = false) (hloud : ∀ k, k ≠ i → listed.getD k true = false → f k = true → k ∈ D) :
    ∀ k, k ≠ i → (listed.setIfInBounds j true).getD k true = false → f k = true → k ∈ D := by
  intro k hk hun hlk
  refine hloud k hk ?_ hlk
  by_cases hjk : j = k
  · subst hjk; exact hjun
  · rw [getD_set_ne true hjk] at hun; exact hun

theorem wpAnyE_first {i : Nat} {oi : Oper} {v : Value} {D : List Nat} (hi : ops[i]? = some oi) (hsel : ∀ (j : Nat) (o : Oper) cs b, ops[j]? = some o → o.op ≠ .select cs b)
    (hQ : ∀ c a w, ¬ Q (.panic c) a w)
    (hclosed : ∀ d ∈ D, ∀ od, ops[d]? = some od → ∃ e ∈ od.after, Region.binds md e = true ∧ (e.on = i ∨ e.on ∈ D)) :
    ∀ (fuel : Nat) (listed : Array Bool) (a : Act) (w : World),
      (∀ j oj, ops[j]? = some oj → j ≠ i → listed.getD j true = false → (∀ e ∈ oj.after, Region.binds md e = true → e.on ≠ i) → oi.apart ops oj = true) →
      (∀ d ∈ D, listed.getD d true = false) → (∀ j, j ≠ i → listed.getD j true = false → nc j = true → j ∈ D) →
      i ∈ Region.ready md ops listed → YieldsIf P ops C oi v a → C w →
      wpAnyE P md ops Q C nc fuel (listed.setIfInBounds i true) (a.put oi.dst v) w → wpAnyE P md ops Q C nc (fuel + 1) listed a w := by
  intro fuel
  induction fuel with
  | zero =>
    intro listed a w _ _ _ hr hy hC H
    refine ⟨fun h => (by rw [h] at hr; cases hr), fun j hj => ?_⟩
    by_cases hji : j = i
    · subst hji; exact hy.wpOp hi hC ⟨fun _ => hC, H⟩
    · have := ready_mono hj hji
      rw [H.1] at this
      cases this
  | succ fuel ih =>
    intro listed a w hfree hD hnc hr hy hC H
    refine ⟨fun h => (by rw [h] at hr; cases hr), fun j hj => ?_⟩
    by_cases hji : j = i
    · subst hji; exact hy.wpOp hi hC ⟨fun _ => hC, H⟩
    · have h1 := H.2 j (ready_mono hj hji)
      obtain ⟨hjun, oj, hoj, hall⟩ := mem_ready.1 hj
      have hnot := not_on hr hall
      have hjD := not_in_D hclosed hD hr hoj hall
      have hncj : nc j = false := by
        cases hc : nc j with
        | false => rfl
        | true => exact absurd (hnc j hji hjun hc) hjD
      have h2 := wpOp_putIf hoj (hfree j oj hoj hji hjun hnot) (fun cs b => hsel i oi cs b hi) (fun cs b => hsel j oj cs b hoj) (fun c a w h => (hQ _ _ _ h).elim) hy h1
      refine wpOp_mono (fun a' w' h3 => ⟨h3.2.1, ih (listed.setIfInBounds j true) a' w' (hfree_step hjun hfree) (D_step hjD hD) (nc_step hjun hnc) (ready_mono hr (Ne.symm hji)) h3.1 (h3.2.1 hncj) ?_⟩) h2
      rw [Array.setIfInBounds_comm _ _ hji]
      exact h3.2.2

/-- What yields its value in every world of the class may be taken first. -/
theorem wpAnyT_first {i : Nat} {oi : Oper} {v : Value} {D : List Nat} (hi : ops[i]? = some oi) (hsel : ∀ (j : Nat) (o : Oper) cs b, ops[j]? = some o → o.op ≠ .select cs b)
    (hQ : ∀ c a w, ¬ Q (.panic c) a w) (hlo : lo i = false)
    (hclosed : ∀ d ∈ D, ∀ od, ops[d]? = some od → ∃ e ∈ od.after, Region.binds md e = true ∧ (e.on = i ∨ e.on ∈ D)) :
    ∀ (fuel : Nat) (listed : Array Bool) (a : Act) (w : World),
      (∀ j oj, ops[j]? = some oj → j ≠ i → listed.getD j true = false → (∀ e ∈ oj.after, Region.binds md e = true → e.on ≠ i) → oi.apart ops oj = true) →
      (∀ d ∈ D, listed.getD d true = false) → (∀ j, j ≠ i → listed.getD j true = false → nc j = true → j ∈ D) →
      i ∈ Region.ready md ops listed → YieldsIf P ops C oi v a → S w → C w →
      wpAnyT P md ops Q C S lo nc fuel (listed.setIfInBounds i true) (a.put oi.dst v) w → wpAnyT P md ops Q C S lo nc (fuel + 1) listed a w := by
  intro fuel
  induction fuel with
  | zero =>
    intro listed a w _ _ _ hr hy hS hC H
    refine ⟨fun h => (by rw [h] at hr; cases hr), fun j hj => ?_⟩
    by_cases hji : j = i
    · subst hji; exact ⟨(fun h => by rw [hlo] at h; cases h), fun _ => hy.wpOp hi hC ⟨⟨hS, hC⟩, H⟩⟩
    · have := ready_mono hj hji
      rw [H.1] at this
      cases this
  | succ fuel ih =>
    intro listed a w hfree hD hnc hr hy hS hC H
    refine ⟨fun h => (by rw [h] at hr; cases hr), fun j hj => ?_⟩
    by_cases hji : j = i
    · subst hji; exact ⟨(fun h => by rw [hlo] at h; cases h), fun _ => hy.wpOp hi hC ⟨⟨hS, hC⟩, H⟩⟩
    · have h1 := H.2 j (ready_mono hj hji)
      obtain ⟨hjun, oj, hoj, hall⟩ := mem_ready.1 hj
      have hnot := not_on hr hall
      have hfree' := hfree_step hjun hfree
      have hjD := not_in_D hclosed hD hr hoj hall
      have hncj : nc j = false := by
        cases hc : nc j with
        | false => rfl
        | true => exact absurd (hnc j hji hjun hc) hjD
      refine ⟨fun hl => ?_, fun hl => ?_⟩
      · have h2 := wpOp_putIf hoj (hfree j oj hoj hji hjun hnot) (fun cs b => hsel i oi cs b hi) (fun cs b => hsel j oj cs b hoj) (fun c a w h => (hQ _ _ _ h).elim) hy (h1.1 hl)
        refine wpOp_mono (fun a' w' h3 => ⟨h3.2.1, wpAnyE_first hi hsel hQ hclosed fuel (listed.setIfInBounds j true) a' w' hfree' (D_step hjD hD) (nc_step hjun hnc) (ready_mono hr (Ne.symm hji)) h3.1 (h3.2.1 hncj) ?_⟩) h2
        rw [Array.setIfInBounds_comm _ _ hji]
        exact h3.2.2
      · have h2 := wpOp_putIf hoj (hfree j oj hoj hji hjun hnot) (fun cs b => hsel i oi cs b hi) (fun cs b => hsel j oj cs b hoj) (fun c a w h => (hQ _ _ _ h).elim) hy (h1.2 hl)
        refine wpOp_mono (fun a' w' h3 => ⟨h3.2.1, ih (listed.setIfInBounds j true) a' w' hfree' (D_step hjD hD) (nc_step hjun hnc) (ready_mono hr (Ne.symm hji)) h3.1 h3.2.1.1 h3.2.1.2 ?_⟩) h2
        rw [Array.setIfInBounds_comm _ _ hji]
        exact h3.2.2

/-- A load for which all that act wait may be taken first. -/
theorem wpAnyT_load {i : Nat} {oi : Oper} {v : Value} {D : List Nat} (hi : ops[i]? = some oi) (hsel : ∀ (j : Nat) (o : Oper) cs b, ops[j]? = some o → o.op ≠ .select cs b)
    (hQ : ∀ c a w, ¬ Q (.panic c) a w) (hlo : lo i = false)
    (hclosed : ∀ d ∈ D, ∀ od, ops[d]? = some od → ∃ e ∈ od.after, Region.binds md e = true ∧ (e.on = i ∨ e.on ∈ D)) :
    ∀ (fuel : Nat) (listed : Array Bool) (a : Act) (w : World),
      (∀ j oj, ops[j]? = some oj → j ≠ i → listed.getD j true = false → (∀ e ∈ oj.after, Region.binds md e = true → e.on ≠ i) → oi.apart ops oj = true) →
      (∀ d ∈ D, listed.getD d true = false) → (∀ j, j ≠ i → listed.getD j true = false → lo j = true → j ∈ D) →
      i ∈ Region.ready md ops listed → YieldsIf P ops S oi v a → S w → C w →
      wpAnyT P md ops Q C S lo nc fuel (listed.setIfInBounds i true) (a.put oi.dst v) w → wpAnyT P md ops Q C S lo nc (fuel + 1) listed a w := by
  intro fuel
  induction fuel with
  | zero =>
    intro listed a w _ _ _ hr hy hS hC H
    refine ⟨fun h => (by rw [h] at hr; cases hr), fun j hj => ?_⟩
    by_cases hji : j = i
    · subst hji; exact ⟨(fun h => by rw [hlo] at h; cases h), fun _ => hy.wpOp hi hS ⟨⟨hS, hC⟩, H⟩⟩
    · have := ready_mono hj hji
      rw [H.1] at this
      cases this
  | succ fuel ih =>
    intro listed a w hfree hD hloud hr hy hS hC H
    refine ⟨fun h => (by rw [h] at hr; cases hr), fun j hj => ?_⟩
    by_cases hji : j = i
    · subst hji; exact ⟨(fun h => by rw [hlo] at h; cases h), fun _ => hy.wpOp hi hS ⟨⟨hS, hC⟩, H⟩⟩
    · have h1 := H.2 j (ready_mono hj hji)
      obtain ⟨hjun, oj, hoj, hall⟩ := mem_ready.1 hj
      have hnot := not_on hr hall
      have hfree' := hfree_step hjun hfree
      have hjD : j ∉ D := fun hd => by
        obtain ⟨e, he, hb, hor⟩ := hclosed j hd oj hoj
        rcases hor with h | h
        · exact hnot e he hb h
        · have h2 := hall e he hb
          rw [getD_flip (hD _ h)] at h2
          cases h2
      refine ⟨fun hl => absurd (hloud j hji hjun hl) hjD, fun hl => ?_⟩
      have h2 := wpOp_putIf hoj (hfree j oj hoj hji hjun hnot) (fun cs b => hsel i oi cs b hi) (fun cs b => hsel j oj cs b hoj) (fun c a w h => (hQ _ _ _ h).elim) hy (h1.2 hl)
      refine wpOp_mono (fun a' w' h3 => ⟨h3.2.1, ih (listed.setIfInBounds j true) a' w' hfree' ?_ ?_ (ready_mono hr (Ne.symm hji)) h3.1 h3.2.1.1 h3.2.1.2 ?_⟩) h2
      · intro d hd
        rw [getD_set_ne true (show j ≠ d from fun e => hjD (by rw [e]; exact hd))]
        exact hD d hd
      · intro k hk hun hlk
        refine hloud k hk ?_ hlk
        by_cases hjk : j = k
        · subst hjk; exact hjun
        · rw [getD_set_ne true hjk] at hun; exact hun
      · rw [Array.setIfInBounds_comm _ _ hji]
        exact h3.2.2

/-! ### An order, and what is asked of it -/

def dstep (md : Region.Mode) (ops : Array Oper) (i : Nat) (D : List Nat) : List Nat :=
  (List.range ops.size).filter fun j => match ops[j]? with
    | some o => o.after.any fun e => Region.binds md e && (e.on == i || D.contains e.on)
    | none => false

def dfix (md : Region.Mode) (ops : Array Oper) (i : Nat) : Nat → List Nat → List Nat
  | 0, D => D
  | n + 1, D => let D' := dstep md ops i D; if D' == D then D else dfix md ops i n D'

def loudIn (sc : List (Nat × Nat)) (j : Nat) : Bool := sc.any fun p => p.1 == j && (p.2 == 3 || p.2 == 4)
/-- those that act last of all, and need not keep the class -/
def lastIn (sc : List (Nat × Nat)) (j : Nat) : Bool := sc.any fun p => p.1 == j && p.2 == 4
def anyLast (sc : List (Nat × Nat)) : Bool := sc.any fun p => p.2 == 4

def okD (md : Region.Mode) (ops : Array Oper) (lo : Nat → Bool) (listed : Array Bool) (i : Nat) (D : List Nat) : Bool :=
  (D.all fun d => !listed.getD d true && match ops[d]? with
    | some o => o.after.any fun e => Region.binds md e && (e.on == i || D.contains e.on)
    | none => true) &&
  (List.range ops.size).all fun j => j == i || listed.getD j true || !lo j || D.contains j

def chkN (md : Region.Mode) (ops : Array Oper) (lo nc : Nat → Bool) (any fin : Bool) : List (Nat × Nat) → Array Bool → Bool
  | [], listed => !fin || (Region.ready md ops listed).isEmpty
  | (i, k) :: rest, listed =>
    (Region.ready md ops listed).contains i &&
    (if k = 3 then (Region.ready md ops listed == [i]) && lo i && !nc i
     else if k = 4 then (Region.ready md ops listed == [i]) && lo i && rest.isEmpty && fin && any
     else !lo i && Region.free md ops listed i && (k != 1 || okD md ops lo listed i (dfix md ops i ops.size [])) && (!any || okD md ops nc listed i (dfix md ops i ops.size []))) &&
    chkN md ops lo nc any fin rest (listed.setIfInBounds i true)

def chk (md : Region.Mode) (ops : Array Oper) (lo : Nat → Bool) (sc : List (Nat × Nat)) (listed : Array Bool) : Bool := chkN md ops lo (lastIn sc) (anyLast sc) true sc listed

/-- The walk in that order. -/
def seqW (P : Program) (ops : Array Oper) (Q : Exit → Act → World → Prop) (N : Act → World → Prop) (C : World → Prop) : List (Nat × Nat) → Act → World → Prop
  | [], a, w => N a w
  | (i, k) :: rest, a, w => ∃ o, ops[i]? = some o ∧
    if Region.wanted o (yielded ops a.tmps) = true then
      (if k = 3 then o.wp P a w (fun a' w' => C w' ∧ seqW P ops Q N C rest a' w') Q
       else if k = 4 then o.wp P a w (fun a' w' => seqW P ops Q N C rest a' w') Q
       else ∃ v, (∀ w', (k = 0 ∨ (k = 1 ∧ w'.heap = w.heap) ∨ C w') → (k = 1 → w'.heap = w.heap) → (execOp a.eval o).run P w' = .ok (.value v) w') ∧ seqW P ops Q N C rest (a.put o.dst v) w)
    else seqW P ops Q N C rest (a.put o.dst undef) w

theorem okD_spec {listed : Array Bool} {i : Nat} {D : List Nat} (h : okD md ops lo listed i D = true) (hsz : listed.size = ops.size) :
    (∀ d ∈ D, ∀ od, ops[d]? = some od → ∃ e ∈ od.after, Region.binds md e = true ∧ (e.on = i ∨ e.on ∈ D)) ∧
    (∀ d ∈ D, listed.getD d true = false) ∧ (∀ j, j ≠ i → listed.getD j true = false → lo j = true → j ∈ D) := by
  unfold okD at h
  rw [Bool.and_eq_true, List.all_eq_true, List.all_eq_true] at h
  obtain ⟨h1, h2⟩ := h
  refine ⟨fun d hd od hod => ?_, fun d hd => ?_, fun j hj hun hl => ?_⟩
  · have := h1 d hd
    rw [hod, Bool.and_eq_true] at this
    obtain ⟨e, he, hb⟩ := Array.any_eq_true'.1 this.2
    rw [Bool.and_eq_true, Bool.or_eq_true, beq_iff_eq, List.contains_iff_mem] at hb
    exact ⟨e, he, hb.1, hb.2⟩
  · have := h1 d hd
    rw [Bool.and_eq_true] at this
    have h3 := this.1
    cases hg : listed.getD d true with
    | false => rfl
    | true => rw [hg] at h3; cases h3
  · have hlt : j < ops.size := by
      rw [← hsz]
      rcases Nat.lt_or_ge j listed.size with h' | h'
      · exact h'
      · simp [Array.getElem?_eq_none h'] at hun
    have := h2 j (List.mem_range.2 hlt)
    rw [hun, hl] at this
    simp only [Bool.or_false, Bool.not_true, Bool.or_eq_true, beq_iff_eq, List.contains_iff_mem] at this
    rcases this with h | h
    · exact absurd h hj
    · exact h

/-- those that have come up behind an order -/
def after (sc : List (Nat × Nat)) (listed : Array Bool) : Array Bool := sc.foldl (fun l p => l.setIfInBounds p.1 true) listed

theorem wpAnyT_of_seq {any fin : Bool} {N : Act → World → Prop} {m : Nat} (hany : any = false → ∀ j, nc j = false) (h4 : any = true → m = 0 ∧ ∀ a w, N a w → Q .normal a w) (hs : Region.noSelect ops = true) (hQ : ∀ c a w, ¬ Q (.panic c) a w) :
    ∀ (sc : List (Nat × Nat)) (listed : Array Bool) (a : Act) (w : World), (∀ j, (j, 4) ∈ sc → nc j = true) →
      (∀ a w, C w → N a w → (fin = true → Region.ready md ops (after sc listed) = []) → wpAnyT P md ops Q C (fun w' => w'.heap = w.heap) lo nc m (after sc listed) a w) → listed.size = ops.size → chkN md ops lo nc any fin sc listed = true → C w →
      seqW P ops Q N C sc a w → wpAnyT P md ops Q C (fun w' => w'.heap = w.heap) lo nc (sc.length + m) listed a w := by
  intro sc
  induction sc with
  | nil =>
    intro listed a w _ hN hsz hc hC h
    have := hN a w hC h (fun hf => by subst hf; simpa [chkN, after] using hc)
    simpa [after] using this
  | cons p rest ih =>
    obtain ⟨i, k⟩ := p
    intro listed a w hlast hN hsz hc hC h
    rw [show ((i, k) :: rest).length + m = (rest.length + m) + 1 by simp only [List.length_cons]; omega]
    obtain ⟨o, ho, h⟩ := h
    simp only [chkN, Bool.and_eq_true] at hc
    obtain ⟨⟨hr, hk⟩, hrest⟩ := hc
    have hr' : i ∈ Region.ready md ops listed := by simpa using hr
    have hsz' : (listed.setIfInBounds i true).size = ops.size := by rw [Array.size_setIfInBounds]; exact hsz
    by_cases h3 : k = 3
    · subst h3
      simp only [if_true, Bool.and_eq_true, beq_iff_eq] at hk h
      obtain ⟨⟨hone, hl⟩, _⟩ := hk
      refine ⟨(fun h0 => by rw [h0] at hr'; cases hr'), fun j hj => ?_⟩
      rw [hone] at hj
      obtain rfl : j = i := by simpa using hj
      refine ⟨fun _ => ?_, (fun hf => by rw [hl] at hf; cases hf)⟩
      unfold wpOp
      simp only [ho]
      by_cases hw : Region.wanted o (yielded ops a.tmps) = true
      · rw [if_pos hw] at h ⊢
        refine .inl (Oper.wp_mono (fun a' w' h' => ⟨fun _ => h'.1, ?_⟩) h)
        exact wpAnyE_of_T _ _ _ _ (ih _ _ _ (fun j hj => hlast j (List.mem_cons_of_mem _ hj)) hN hsz' hrest h'.1 h'.2)
      · rw [if_neg hw] at h ⊢
        exact ⟨fun _ => hC, wpAnyE_of_T _ _ _ _ (ih _ _ _ (fun j hj => hlast j (List.mem_cons_of_mem _ hj)) hN hsz' hrest hC h)⟩
    by_cases hk4 : k = 4
    · subst hk4
      rw [if_neg h3, if_pos rfl] at hk
      simp only [Bool.and_eq_true, beq_iff_eq, List.isEmpty_iff] at hk
      obtain ⟨⟨⟨⟨hone, hl⟩, hre⟩, hfi⟩, han⟩ := hk
      subst hre
      subst hfi
      obtain ⟨rfl, hNQ⟩ := h4 han
      have hfin : Region.ready md ops (listed.setIfInBounds i true) = [] := by simpa [chkN] using hrest
      refine ⟨(fun h0 => by rw [h0] at hr'; cases hr'), fun j hj => ?_⟩
      rw [hone] at hj
      obtain rfl : j = i := by simpa using hj
      refine ⟨fun _ => ?_, (fun hf => by rw [hl] at hf; cases hf)⟩
      unfold wpOp
      simp only [ho]
      by_cases hw : Region.wanted o (yielded ops a.tmps) = true
      · rw [if_pos hw, if_neg h3, if_pos rfl] at h
        rw [if_pos hw]
        refine .inl (Oper.wp_mono (fun a' w' h' => ⟨fun hn => ?_, hfin, hNQ _ _ h'⟩) h)
        exact absurd hn (by rw [hlast j (List.mem_cons_self ..)]; decide)
      · rw [if_neg hw] at h ⊢
        exact ⟨fun _ => hC, hfin, hNQ _ _ h⟩
    · rw [if_neg h3, if_neg hk4] at hk
      simp only [Bool.and_eq_true, Bool.not_eq_true', Bool.or_eq_true] at hk
      obtain ⟨⟨⟨hl, hf⟩, hD⟩, hNc⟩ := hk
      have hN' : ∃ D : List Nat, (∀ d ∈ D, ∀ (od : Oper), ops[d]? = some od → ∃ e ∈ od.after, Region.binds md e = true ∧ (e.on = i ∨ e.on ∈ D)) ∧
          (∀ d ∈ D, listed.getD d true = false) ∧ (∀ j, j ≠ i → listed.getD j true = false → nc j = true → j ∈ D) := by
        rcases hNc with hN | hN
        · exact ⟨[], fun _ h => (nomatch h), fun _ h => (nomatch h), fun j _ _ h => by rw [hany hN j] at h; cases h⟩
        · exact ⟨_, okD_spec hN hsz⟩
      obtain ⟨D', e1, e2, e3⟩ := hN'
      obtain ⟨v, hy, hn⟩ : ∃ v, (Region.wanted o (yielded ops a.tmps) = true ∧ (∀ w', (k = 0 ∨ (k = 1 ∧ w'.heap = w.heap) ∨ C w') → (k = 1 → w'.heap = w.heap) → (execOp a.eval o).run P w' = .ok (.value v) w') ∨
          (Region.wanted o (yielded ops a.tmps) = false ∧ v = undef)) ∧ seqW P ops Q N C rest (a.put o.dst v) w := by
        by_cases hw : Region.wanted o (yielded ops a.tmps) = true
        · rw [if_pos hw, if_neg h3, if_neg hk4] at h
          obtain ⟨v, h1, h2⟩ := h
          exact ⟨v, .inl ⟨hw, h1⟩, h2⟩
        · rw [if_neg hw] at h
          exact ⟨undef, .inr ⟨by simpa using hw, rfl⟩, h⟩
      have hn' := ih _ _ _ (fun j hj => hlast j (List.mem_cons_of_mem _ hj)) hN hsz' hrest hC hn
      by_cases h1 : k = 1
      · subst h1
        have hD : okD md ops lo listed i (dfix md ops i ops.size []) = true := hD.resolve_left (by simp)
        obtain ⟨d1, d2, d3⟩ := okD_spec hD hsz
        refine wpAnyT_load ho (Region.noSelect_spec hs) hQ hl d1 _ listed a w (Region.free_spec ho hf) d2 d3 hr' ?_ rfl hC hn'
        rcases hy with ⟨hw, hv⟩ | hu
        · exact .inl ⟨hw, fun w' hw' => hv w' (.inr (.inl ⟨rfl, hw'⟩)) (fun _ => hw')⟩
        · exact .inr hu
      · refine wpAnyT_first ho (Region.noSelect_spec hs) hQ hl e1 _ listed a w (Region.free_spec ho hf) e2 e3 hr' ?_ rfl hC hn'
        rcases hy with ⟨hw, hv⟩ | hu
        · exact .inl ⟨hw, fun w' hw' => hv w' (.inr (.inr hw')) (fun h => absurd h h1)⟩
        · exact .inr hu

/-! ### Where two or three that act may come up at once: a tree of orders -/

inductive Tr where
  | fin (sc : List (Nat × Nat))
  | br2 (sc : List (Nat × Nat)) (i : Nat) (x : Tr) (j : Nat) (y : Tr)
  | br3 (sc : List (Nat × Nat)) (i : Nat) (x : Tr) (j : Nat) (y : Tr) (k : Nat) (z : Tr)

def Tr.size : Tr → Nat
  | .fin sc => sc.length
  | .br2 sc _ x _ _ => sc.length + (x.size + 1)
  | .br3 sc _ x _ _ _ _ => sc.length + (x.size + 1)

def noLast (sc : List (Nat × Nat)) : Bool := sc.all fun p => p.2 != 4

def chkT (md : Region.Mode) (ops : Array Oper) (lo : Nat → Bool) : Tr → Array Bool → Bool
  | .fin sc, l => noLast sc && chkN md ops lo (fun _ => false) false true sc l
  | .br2 sc i x j y, l => noLast sc && chkN md ops lo (fun _ => false) false false sc l && (Region.ready md ops (after sc l) == [i, j]) && lo i && lo j && (x.size == y.size) &&
      chkT md ops lo x ((after sc l).setIfInBounds i true) && chkT md ops lo y ((after sc l).setIfInBounds j true)
  | .br3 sc i x j y k z, l => noLast sc && chkN md ops lo (fun _ => false) false false sc l && (Region.ready md ops (after sc l) == [i, j, k]) && lo i && lo j && lo k && (x.size == y.size) && (x.size == z.size) &&
      chkT md ops lo x ((after sc l).setIfInBounds i true) && chkT md ops lo y ((after sc l).setIfInBounds j true) && chkT md ops lo z ((after sc l).setIfInBounds k true)

/-- one that acts, then on -/
def actW (P : Program) (ops : Array Oper) (Q : Exit → Act → World → Prop) (i : Nat) (K : Act → World → Prop) (a : Act) (w : World) : Prop :=
  ∃ o, ops[i]? = some o ∧ if Region.wanted o (yielded ops a.tmps) = true then o.wp P a w K Q else K (a.put o.dst undef) w

theorem actW_op {i : Nat} {K : Act → World → Prop} {a : Act} {w : World} (h : actW P ops Q i K a w) : wpOp P ops Q i K a w := by
  obtain ⟨o, ho, h⟩ := h
  unfold wpOp
  simp only [ho]
  split
  · rename_i hw; rw [if_pos hw] at h; exact .inl h
  · rename_i hw; rw [if_neg hw] at h; exact h

def trW (P : Program) (ops : Array Oper) (Q : Exit → Act → World → Prop) : Tr → Act → World → Prop
  | .fin sc, a, w => seqW P ops Q (fun a w => Q .normal a w) (fun _ => True) sc a w
  | .br2 sc i x j y, a, w => seqW P ops Q (fun a w => actW P ops Q i (trW P ops Q x) a w ∧ actW P ops Q j (trW P ops Q y) a w) (fun _ => True) sc a w
  | .br3 sc i x j y k z, a, w => seqW P ops Q (fun a w => actW P ops Q i (trW P ops Q x) a w ∧ actW P ops Q j (trW P ops Q y) a w ∧ actW P ops Q k (trW P ops Q z) a w) (fun _ => True) sc a w

theorem after_size (sc : List (Nat × Nat)) : ∀ listed : Array Bool, (after sc listed).size = listed.size := by
  induction sc with
  | nil => intro l; rfl
  | cons p rest ih => intro l; unfold after; rw [List.foldl_cons]; have := ih (l.setIfInBounds p.1 true); unfold after at this; rw [this, Array.size_setIfInBounds]

theorem noLast_spec {sc : List (Nat × Nat)} (h : noLast sc = true) : ∀ j, (j, 4) ∈ sc → False := fun j hj => by
  unfold noLast at h
  rw [List.all_eq_true] at h
  have := h _ hj
  simp at this

theorem wpAnyT_of_tree (hs : Region.noSelect ops = true) (hQ : ∀ c a w, ¬ Q (.panic c) a w) :
    ∀ (t : Tr) (listed : Array Bool) (a : Act) (w : World), listed.size = ops.size → chkT md ops lo t listed = true → trW P ops Q t a w →
      wpAnyT P md ops Q (fun _ => True) (fun w' => w'.heap = w.heap) lo (fun _ => false) t.size listed a w := by
  intro t
  induction t with
  | fin sc =>
    intro listed a w hsz hc h
    simp only [chkT, Bool.and_eq_true] at hc
    exact wpAnyT_of_seq (any := false) (fin := true) (m := 0) (N := fun a w => Q .normal a w) (fun _ _ => rfl) (fun h => nomatch h) hs hQ sc listed a w (fun j hj => (noLast_spec hc.1 j hj).elim)
      (fun a w _ hn hr => ⟨hr rfl, hn⟩) hsz hc.2 trivial h
  | br2 sc i x j y ihx ihy =>
    intro listed a w hsz hc h
    simp only [chkT, Bool.and_eq_true, beq_iff_eq] at hc
    obtain ⟨⟨⟨⟨⟨⟨⟨c1, c2⟩, c3⟩, c4⟩, c5⟩, c6⟩, c7⟩, c8⟩ := hc
    refine wpAnyT_of_seq (any := false) (fin := false) (m := x.size + 1) (fun _ _ => rfl) (fun h => nomatch h) hs hQ sc listed a w (fun j hj => (noLast_spec c1 j hj).elim) (fun a w _ hn _ => ?_) hsz c2 trivial h
    refine ⟨fun h0 => (by rw [c3] at h0; cases h0), fun p hp => ?_⟩
    rw [c3] at hp
    have hz : ∀ q, ((after sc listed).setIfInBounds q true).size = ops.size := fun q => by rw [Array.size_setIfInBounds, after_size]; exact hsz
    rcases List.mem_cons.1 hp with rfl | hp
    · exact ⟨fun _ => wpOp_mono (fun a' w' h' => ⟨fun _ => trivial, wpAnyE_of_T _ _ _ _ (ihx _ _ _ (hz _) c7 h')⟩) (actW_op hn.1), fun hf => by rw [c4] at hf; cases hf⟩
    · obtain rfl := List.mem_singleton.1 hp
      exact ⟨fun _ => wpOp_mono (fun a' w' h' => ⟨fun _ => trivial, by rw [c6]; exact wpAnyE_of_T _ _ _ _ (ihy _ _ _ (hz _) c8 h')⟩) (actW_op hn.2), fun hf => by rw [c5] at hf; cases hf⟩
  | br3 sc i x j y k z ihx ihy ihz =>
    intro listed a w hsz hc h
    simp only [chkT, Bool.and_eq_true, beq_iff_eq] at hc
    obtain ⟨⟨⟨⟨⟨⟨⟨⟨⟨⟨c1, c2⟩, c3⟩, c4⟩, c5⟩, c5'⟩, c6⟩, c6'⟩, c7⟩, c8⟩, c9⟩ := hc
    refine wpAnyT_of_seq (any := false) (fin := false) (m := x.size + 1) (fun _ _ => rfl) (fun h => nomatch h) hs hQ sc listed a w (fun j hj => (noLast_spec c1 j hj).elim) (fun a w _ hn _ => ?_) hsz c2 trivial h
    refine ⟨fun h0 => (by rw [c3] at h0; cases h0), fun p hp => ?_⟩
    rw [c3] at hp
    have hz : ∀ q, ((after sc listed).setIfInBounds q true).size = ops.size := fun q => by rw [Array.size_setIfInBounds, after_size]; exact hsz
    rcases List.mem_cons.1 hp with rfl | hp
    · exact ⟨fun _ => wpOp_mono (fun a' w' h' => ⟨fun _ => trivial, wpAnyE_of_T _ _ _ _ (ihx _ _ _ (hz _) c7 h')⟩) (actW_op hn.1), fun hf => by rw [c4] at hf; cases hf⟩
    · rcases List.mem_cons.1 hp with rfl | hp
      · exact ⟨fun _ => wpOp_mono (fun a' w' h' => ⟨fun _ => trivial, by rw [c6]; exact wpAnyE_of_T _ _ _ _ (ihy _ _ _ (hz _) c8 h')⟩) (actW_op hn.2.1), fun hf => by rw [c5] at hf; cases hf⟩
      · obtain rfl := List.mem_singleton.1 hp
        exact ⟨fun _ => wpOp_mono (fun a' w' h' => ⟨fun _ => trivial, by rw [c6']; exact wpAnyE_of_T _ _ _ _ (ihz _ _ _ (hz _) c9 h')⟩) (actW_op hn.2.2), fun hf => by rw [c5'] at hf; cases hf⟩

/-- those that act, in a tree -/
def Tr.loud : Tr → Nat → Bool
  | .fin sc, n => loudIn sc n
  | .br2 sc i x j y, n => loudIn sc n || n == i || n == j || x.loud n || y.loud n
  | .br3 sc i x j y k z, n => loudIn sc n || n == i || n == j || n == k || x.loud n || y.loud n || z.loud n

theorem wp_region_tree {id : Nat} {a : Act} {w : World} (t : Tr) (hm : P.follows .mixedOrders = true)
    (hok : (t.size == ops.size && Region.noSelect ops && chkT .any ops t.loud t (Array.replicate ops.size false)) = true)
    (hQ : ∀ c a w, ¬ Q (.panic c) a w) (h : trW P ops Q t a { w with drawn := w.drawn + 1 }) : (Code.region id ops true).wp P Q a w := by
  simp only [Bool.and_eq_true, beq_iff_eq] at hok
  obtain ⟨⟨h1, h2⟩, h3⟩ := hok
  refine wp_region_any hm ?_
  rw [← h1]
  refine wpAny_of_E (C := fun _ => True) (nc := fun _ => false) _ _ _ _ (wpAnyE_of_T (S := fun w' => w'.heap = w.heap) (lo := t.loud) _ _ _ _ ?_)
  have := wpAnyT_of_tree (md := .any) (lo := t.loud) h2 hQ t (Array.replicate ops.size false) a _ (by simp) h3 h
  rw [h1]
  rw [h1] at this
  exact this

/-- **A REGION THAT DRAWS ITS ORDER, WALKED IN ONE.** -/
theorem wp_region_seq {id : Nat} {a : Act} {w : World} (sc : List (Nat × Nat)) (hm : P.follows .mixedOrders = true)
    (hok : (sc.length == ops.size && Region.noSelect ops && chk .any ops (loudIn sc) sc (Array.replicate ops.size false)) = true)
    (hQ : ∀ c a w, ¬ Q (.panic c) a w) (C : World → Prop) (hC : C { w with drawn := w.drawn + 1 })
    (h : seqW P ops Q (fun a w => Q .normal a w) C sc a { w with drawn := w.drawn + 1 }) : (Code.region id ops true).wp P Q a w := by
  simp only [Bool.and_eq_true, beq_iff_eq] at hok
  obtain ⟨⟨h1, h2⟩, h3⟩ := hok
  refine wp_region_any hm ?_
  rw [← h1]
  refine wpAny_of_E (C := C) (nc := lastIn sc) _ _ _ _ (wpAnyE_of_T (S := fun w' => w'.heap = w.heap) (lo := loudIn sc) _ _ _ _ ?_)
  have := wpAnyT_of_seq (md := .any) (lo := loudIn sc) (nc := lastIn sc) (any := anyLast sc) (fin := true) (m := 0) (N := fun a w => Q .normal a w) (fun ha j => ?_) (fun _ => ⟨rfl, fun _ _ h => h⟩) h2 hQ sc (Array.replicate ops.size false) a _ (fun j hj => ?_) (fun a w hC hn hr => ⟨hr rfl, hn⟩) (by simp) h3 hC h
  rotate_left
  · unfold anyLast at ha
    unfold lastIn
    rw [List.any_eq_false] at ha ⊢
    intro p hp
    have := ha p hp
    simp only [Bool.and_eq_true, not_and]
    intro _ h4
    exact this h4
  · unfold lastIn
    rw [List.any_eq_true]
    exact ⟨_, hj, by simp⟩
  rw [h1]
  rw [h1] at this
  exact this

end
end Xe
