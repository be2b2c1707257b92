/- WatchTwice. -/
import Derived.Test.YtkghjecglmmloaaT17i
namespace Xe
open Go Tp Go.Proofs
set_option maxRecDepth 16000
set_option maxHeartbeats 1000000

theorem tr_of {l : List St} {m : List Int} (h : lits l = m) (x : Int) : trI l x = if x ∈ m then 1 else if -x ∈ m then -1 else 0 := by unfold trI; rw [h]

theorem US.awake {l' : List St} {l0 : List St} (hl : lits l0 = [-1]) (h : US [([1, 2], false), ([-2, 3], false)] 1 l0 l') : lits l' = [-1] ∨ lits l' = [-1, 2] ∨ lits l' = [-1, 2, 3] := by
  induction h with
  | refl => exact .inl hl
  | @step l' x id c _ hc hu ih =>
    obtain ⟨hx, h0, hr⟩ := hu
    rw [lits_push]
    have hcc : c = [1, 2] ∨ c = [-2, 3] := by
      match id, hc with
      | 0, hc => exact .inl (by have := Option.some.inj hc; exact (Prod.mk.inj this).1.symm)
      | 1, hc => exact .inr (by have := Option.some.inj hc; exact (Prod.mk.inj this).1.symm)
      | n + 2, hc => simp at hc
    have two : ∀ {a b : Int}, c = [a, b] → x = a ∨ x = b := fun e => by rw [e] at hx; simpa using hx
    rcases ih with h | h | h <;> rcases hcc with rfl | rfl
    · rcases two rfl with rfl | rfl
      · rw [tr_of h] at h0; simp at h0
      · exact .inr (.inl (by rw [h]; rfl))
    · rcases two rfl with rfl | rfl
      · have := hr 3 (by simp) (by omega); rw [tr_of h] at this; simp at this
      · have := hr (-2) (by simp) (by omega); rw [tr_of h] at this; simp at this
    · rcases two rfl with rfl | rfl
      · rw [tr_of h] at h0; simp at h0
      · rw [tr_of h] at h0; simp at h0
    · rcases two rfl with rfl | rfl
      · rw [tr_of h] at h0; simp at h0
      · exact .inr (.inr (by rw [h]; rfl))
    · rcases two rfl with rfl | rfl
      · rw [tr_of h] at h0; simp at h0
      · rw [tr_of h] at h0; simp at h0
    · rcases two rfl with rfl | rfl
      · rw [tr_of h] at h0; simp at h0
      · rw [tr_of h] at h0; simp at h0

theorem clean12 : CleanR [1, 2] (some [1, 2]) := ⟨by simp [Rise], fun x => by
  constructor
  · intro h; refine ⟨h, ?_⟩; unfold okL; simp at h; omega
  · exact fun h => h.1⟩
theorem clean23 : CleanR [-2, 3] (some [-2, 3]) := ⟨by simp [Rise], fun x => by
  constructor
  · intro h; refine ⟨h, ?_⟩; unfold okL; simp at h; omega
  · exact fun h => h.1⟩

section
variable {h : Heap}

/-- a base of the law's own -/
structure Wst (h0 h : Heap) (bb vars : Nat) (p : BP) (s : WS) : Prop where
  M : BaseM h bb p s
  I : WInv s
  vars : s.vars = vars
  low : ∀ y t, p.c y = some t → h0.size ≤ y
  fr : Fr (fun _ => False) h0 h
theorem Wst.step {h0 h h' : Heap} {bb vars : Nat} {p p' : BP} {s s' : WS} (w : Wst h0 h bb vars p s) (M' : BaseM h' bb p' s') (I' : WInv s') (hv : s'.vars = s.vars) (st : Stp p p' h h') : Wst h0 h' bb vars p' s' where
  M := M'
  I := I'
  vars := hv.trans w.vars
  low y t hy := (st.own y t hy).elim (w.low y t) fun h => Nat.le_trans w.fr.size h
  fr := w.fr.trans' st.fr fun x hx hn => by
    cases hc : p.c x with
    | none => exact hn hc
    | some t => have := w.low x t hc; omega
theorem Wst.fr0 {h0 h h' : Heap} {bb vars : Nat} {p : BP} {s : WS} (w : Wst h0 h bb vars p s) (f : Fr (fun _ => False) h h') : Wst h0 h' bb vars p s := ⟨w.M.fr0 f, w.I, w.vars, w.low, w.fr.trans f⟩
theorem addS_inv {s : WS} (I : WInv s) {l L : List Int} (hg : goodC s.vars l = true) (hc : CleanR l (some L)) : WInv (addS s L) :=
  I.add hc.1 fun x hx => by
    unfold goodC at hg
    rw [List.all_eq_true] at hg
    exact of_decide_eq_true (hg x ((hc.2 x).1 hx).1)

/-- a slice of three numbers, fresh -/
theorem build3i {e : TypeId} {bt : Nat} {w x y z : Int} {k : Value → Heap → Prop}
    (hk : k (.slice (some ⟨h.size, 0, none⟩) 3 3) (h.push (.cells #[.int .i64 x, .int .i64 y, .int .i64 z] e))) : @buildSliceK (some (e, 1, bt, .int .i64 w)) 3 [(0, .int .i64 x), (1, .int .i64 y), (2, .int .i64 z)] ⟨h⟩ ⟨k⟩ := by
  refine ⟨by omega, #[.int .i64 x, .int .i64 y, .int .i64 z], ?_, hk⟩
  have hz : (zerosOf (Value.int .i64 w).cells (3 * 1)).size = 3 := by simp [zerosOf]
  obtain ⟨L, hL⟩ : ∃ L, zerosOf (Value.int .i64 w).cells (3 * 1) = ⟨L⟩ := ⟨_, rfl⟩
  rw [hL] at hz ⊢
  match L, hz with
  | [p, q, r], _ => simp [Instr.fill, Value.cells, List.zipIdx]

theorem awake17 : CallsH Try.prog 46 [] h fun r h' => r = .bool true ∧ Fr (fun _ => False) h h' := by
  refine calls_of 34 [.tmp 0] Go.Proofs.Try.func46 rfl rfl rfl (by kernel_rfl) (Nat.le_of_ble_eq_true rfl) ?_
  simp -implicitDefEqProofs (disch := omega) [go_sem]
  refine useC (bnew_m (x := 3) (by omega) (by omega)) ?_
  rintro _ h1 (⟨hb, _, _⟩ | ⟨vars, bb, hv, _, rfl, p1, M1, low1, fr1⟩)
  · omega
  obtain rfl : vars = 3 := by omega
  have w1 : Wst h h1 bb 3 p1 (newW 3) := ⟨M1, newW_inv (by omega), rfl, low1, fr1⟩
  simp -implicitDefEqProofs (disch := omega) [go_sem]
  refine build2 ?_
  simp -implicitDefEqProofs (disch := omega) [go_sem]
  have w2 := w1.fr0 ((Fr.refl (fun _ => False) h1).push (X := .cells #[.int .i64 1, .int .i64 2] 3))
  have c2 := badd_m w2.M (by show 3 ≤ _; omega) (l := [1, 2]) (n := 2) (c := 2) (SlAt.new (h := h1) (vs := ints [1, 2]) (e := 3)).row rfl (by omega) (fun x hx => by simp at hx; omega) ⟨by show 0 + 1 < _; omega, by show 0 + 1 < _; omega⟩
  refine useC c2 ?_
  have g12 : goodC 3 [1, 2] = true := by decide
  rintro _ h3 (⟨hg, _⟩ | ⟨_, hc, _⟩ | ⟨hg, L, hc, rfl, p3, M3, st3⟩)
  · rw [show (newW 3).vars = 3 from rfl, g12] at hg; cases hg
  · cases CleanR.uniq hc clean12
  obtain rfl : L = [1, 2] := Option.some.inj (CleanR.uniq hc clean12)
  have w3 := w2.step M3 (addS_inv w2.I hg hc) rfl st3
  simp -implicitDefEqProofs (disch := omega) [go_sem]
  refine build2 ?_
  simp -implicitDefEqProofs (disch := omega) [go_sem]
  have w4 := w3.fr0 ((Fr.refl (fun _ => False) h3).push (X := .cells #[.int .i64 (-2), .int .i64 3] 3))
  have c4 := badd_m w4.M (by show 3 ≤ _; omega) (l := [-2, 3]) (n := 2) (c := 2) (SlAt.new (h := h3) (vs := ints [-2, 3]) (e := 3)).row rfl (by omega) (fun x hx => by simp at hx; omega) ⟨by show 1 + 1 < _; omega, by show 1 + 1 < _; omega⟩
  refine useC c4 ?_
  have g23 : goodC 3 [-2, 3] = true := by decide
  rintro _ h5 (⟨hg, _⟩ | ⟨_, hc, _⟩ | ⟨hg, L, hc, rfl, p5, M5, st5⟩)
  · rw [show (addS (newW 3) [1, 2]).vars = 3 from rfl, g23] at hg; cases hg
  · cases CleanR.uniq hc clean23
  obtain rfl : L = [-2, 3] := Option.some.inj (CleanR.uniq hc clean23)
  have w5 := w4.step M5 (addS_inv w4.I hg hc) rfl st5
  simp -implicitDefEqProofs (disch := omega) [go_sem]
  refine useC (bdecide_m w5.M (x := -1) (by omega) (by omega)) ?_
  rintro _ h6 ⟨rfl, p6, M6, st6⟩
  have w6 := w5.step M6 (w5.I.dec (-1)) rfl st6
  simp -implicitDefEqProofs (disch := omega) [go_sem]
  refine useC (prop_m w6.M w6.I) ?_
  rintro _ h7 ⟨p7, s7, M7, st7, I7, ad7, hor⟩
  have w7 := w6.step M7 I7 ad7.vars st7
  have hl6 : lits (decS (addS (addS (newW 3) [1, 2]) [-2, 3]) (-1)).l = [-1] := by decide
  have hlev : (decS (addS (addS (newW 3) [1, 2]) [-2, 3]) (-1)).level = 1 := by decide
  have hus := US.awake hl6 (by have := ad7.us; rw [hlev] at this; exact this)
  have hcs : absC s7.cs = [([1, 2], false), ([-2, 3], false)] := ad7.cs
  rcases hor with ⟨id, e, rfl, he, hg, hf⟩ | ⟨rfl, htd, hhd⟩
  · exfalso
    have h1 := absC_at he
    rw [hcs, hg] at h1
    have hcc : e.lits = [1, 2] ∨ e.lits = [-2, 3] := by
      match id, h1 with
      | 0, h1 => exact .inl (by have := Option.some.inj h1; exact (Prod.mk.inj this).1.symm)
      | 1, h1 => exact .inr (by have := Option.some.inj h1; exact (Prod.mk.inj this).1.symm)
      | n + 2, h1 => simp at h1
    rcases hcc with h2 | h2 <;> rw [h2] at hf
    · have := hf 2 (by simp)
      rcases hus with h | h | h <;> (rw [tr_of h] at this; simp at this)
    · have := hf 3 (by simp)
      rcases hus with h | h | h <;> (rw [tr_of h] at this; simp at this)
  · have hq := I7.quiet htd hhd
    rw [hcs] at hq
    have hl7 : lits s7.l = [-1, 2, 3] := by
      rcases hus with h | h | h
      · exfalso
        refine (hq 0 [1, 2] rfl).1 2 ⟨by simp, by rw [tr_of h]; simp, fun y hy hn => ?_⟩
        have : y = 1 := by simp at hy; omega
        rw [this, tr_of h]; simp
      · exfalso
        refine (hq 1 [-2, 3] rfl).1 3 ⟨by simp, by rw [tr_of h]; simp, fun y hy hn => ?_⟩
        have : y = -2 := by simp at hy; omega
        rw [this, tr_of h]; simp
      · exact h
    have hlen : s7.l.length = 3 := by have := congrArg List.length hl7; unfold lits at this; rw [List.length_map] at this; exact this
    simp -implicitDefEqProofs (disch := omega) [go_sem]
    refine useC (btrail_m w7.M) ?_
    rintro _ h8 ⟨rfl, rfl⟩
    simp -implicitDefEqProofs (disch := omega) [go_sem]
    refine useC (tlits_ok w7.M.T) ?_
    rintro _ h9 ⟨A', c', rfl, S, own, f9⟩
    have w9 := w7.fr0 f9
    rw [hl7] at S
    rw [hlen]
    simp -implicitDefEqProofs (disch := omega) [go_sem]
    refine build3i ?_
    simp -implicitDefEqProofs (disch := omega) [go_sem]
    have f10 : Fr (fun _ => False) h9 (h9.push (.cells #[.int .i64 (-1), .int .i64 2, .int .i64 3] 3)) := (Fr.refl _ _).push
    have cs := same12_ok (n := 3) (m := 3) (c := c') (d := 3) (S.row.fr0 f10) (SlAt.new (h := h9) (vs := ints [-1, 2, 3]) (e := 3)).row rfl rfl (by omega) (by omega)
    refine useC cs ?_
    rintro _ h11 ⟨rfl, rfl⟩
    simp -implicitDefEqProofs (disch := omega) [go_sem]
    exact w9.fr.trans f10
end
end Xe
