/- GraphGroups, walked. -/
import Derived.Test.YtkghjecglmmloaaG15
namespace Xe
open Go Go.Proofs Gr
set_option maxRecDepth 16000
set_option maxHeartbeats 1000000
section
variable {h : Heap}
theorem MkR.rw {h0 h : Heap} {G : Option Addr} {gc : Nat} {ovs : List Value} {C1 : Nat → Prop} {L : List (List Nat)} (M : MkR h0 h G gc ovs C1 L) (hl : L.length < 2 ^ 40 ∧ ∀ l ∈ L, l.length < 2 ^ 40 ∧ ∀ x ∈ l, x < 2 ^ 40) : RwN h G L := RwN.of M.S M.V hl
theorem Gr.GL.small {E : Nat → List Nat} {n : Nat} {L : List (List Nat)} (G : Gd E n) (hn : n ≤ 4096) (h : GL E n L) : L.length < 2 ^ 40 ∧ ∀ l ∈ L, l.length < 2 ^ 40 ∧ ∀ x ∈ l, x < 2 ^ 40 := by
  have h1 := h.len G
  refine ⟨by omega, fun l hl => ?_⟩
  have h2 := Tp.nodup_le (a := l) (b := List.range n) (h.isG l hl).1.nd fun x hx => List.mem_range.2 (h.lt G x ⟨l, hl, hx⟩)
  rw [List.length_range] at h2
  exact ⟨by omega, fun x hx => by have := h.lt G x ⟨l, hl, hx⟩; omega⟩
theorem groups_walk (A : Option Addr) (m c : Nat) (gs : Nat → List Int) (R : ArgsG h A m gs) (F : Option Addr) (fc : Nat) (fl : List Int) (hfl : fl.length < 2 ^ 63) (RF : RowAt h F (ints fl)) (hr : ∀ x ∈ fl, -9223372036854775808 ≤ x ∧ x ≤ 9223372036854775807) :
    CallsH Try.prog 13 [.slice A m c, .slice F fl.length fc] h fun r h' => r = .bool true ∧ Fr (fun _ => False) h h' := by
  have hms := R.small
  refine calls_of 67 [.tmp 4] Go.Proofs.Try.func13 rfl rfl rfl (by kernel_rfl) (Nat.le_of_ble_eq_true rfl) ?_
  simp -implicitDefEqProofs (disch := omega) [go_sem]
  refine useC awake30 ?_
  rintro _ h1 ⟨rfl, fr1⟩
  have R1 := R.fr fr1
  have RF1 := RF.fr0 fr1
  simp -implicitDefEqProofs (disch := omega) [go_sem]
  refine useC (small30_ok R1) ?_
  rintro _ h2 ⟨b, rfl, hb, rfl⟩
  cases b with
  | false =>
    simp -implicitDefEqProofs (disch := omega) [go_sem]
    exact fr1
  | true =>
    obtain ⟨h14, h20⟩ := hb.1 rfl
    by_cases hf20 : 20 < fl.length
    · have hf' : (20 : Int) < fl.length := by omega
      simp -implicitDefEqProofs (disch := omega) [go_sem, hf']
      exact fr1
    have hf' : ¬ (20 : Int) < fl.length := by omega
    simp -implicitDefEqProofs (disch := omega) [go_sem, hf']
    refine useC (reach_ok R1 RF1 (by omega) hr) ?_
    rintro _ h3 ⟨f3, hreach⟩
    have R3 := R1.fr f3
    rcases hreach with ⟨hn, rfl⟩ | ⟨hG, K, kc, rfl, SK⟩
    · simp -implicitDefEqProofs (disch := omega) [go_sem]
      refine useC (groups_ok R3) ?_
      rintro _ h4 ⟨f4, (⟨_, rfl⟩ | ⟨hG, _⟩)⟩
      · have R4 := R3.fr f4
        simp -implicitDefEqProofs (disch := omega) [go_sem]
        refine useC (turned_ok R4) ?_
        rintro _ h5 ⟨f5, (⟨_, rfl⟩ | ⟨hG, _⟩)⟩
        · have R5 := R4.fr f5
          simp -implicitDefEqProofs (disch := omega) [go_sem]
          refine useC (refGood_ok R5) ?_
          rintro _ h6 ⟨b, rfl, hb2, rfl⟩
          cases b with
          | true => exact absurd (hb2.1 rfl) hn
          | false =>
            simp -implicitDefEqProofs (disch := omega) [go_sem]
            refine useC (goodG_ok R5) ?_
            rintro _ h6 ⟨b, rfl, hb3, rfl⟩
            cases b with
            | true => exact absurd (hb3.1 rfl) hn
            | false =>
              simp -implicitDefEqProofs (disch := omega) [go_sem]
              exact ((fr1.trans f3).trans f4).trans f5
        · exact absurd hG hn
      · exact absurd hG hn
    · have hm := hG.1
      have hgd := EG_gd hG
      have hdeg := EG_deg hG
      have hll := those_len (RS (EG m gs) m fl) m
      simp -implicitDefEqProofs (disch := omega) [go_sem]
      refine useC (groups_ok R3) ?_
      rintro _ h4 ⟨f4, (⟨hn, _⟩ | ⟨_, O, oc, ovs, L, C1, rfl, S4, V4, _, gl, full⟩)⟩
      · exact absurd hG hn
      have R4 := R3.fr f4
      simp -implicitDefEqProofs (disch := omega) [go_sem]
      refine useC (turned_ok R4) ?_
      rintro _ h5 ⟨f5, (⟨hn, _⟩ | ⟨_, T, rfl, RT⟩)⟩
      · exact absurd hG hn
      have R5 := R4.fr f5
      simp -implicitDefEqProofs (disch := omega) [go_sem]
      refine useC (refGood_ok R5) ?_
      rintro _ h6 ⟨b, rfl, hb2, rfl⟩
      cases b with
      | false => have := hb2.2 hG; cases this
      | true =>
        simp -implicitDefEqProofs (disch := omega) [go_sem]
        refine useC (goodG_ok R5) ?_
        rintro _ h6 ⟨b, rfl, hb3, rfl⟩
        cases b with
        | false => have := hb3.2 hG; cases this
        | true =>
          have f35 := f4.trans f5
          simp -implicitDefEqProofs (disch := omega) [go_sem]
          refine useC (rreach_ok (R5.gr hG) hm hdeg hgd ((RF1.fr0 f3).fr0 f35) (by omega) hr) ?_
          rintro _ h7 ⟨f7, K7, kc7, rfl, S7, _⟩
          simp -implicitDefEqProofs (disch := omega) [go_sem]
          refine useC (same12_ok (a := toI (those (RS (EG m gs) m fl) m)) (b := toI (those (RS (EG m gs) m fl) m)) ((SK.row.fr0 f35).fr0 f7) S7.row (by rw [toI_len]) (by rw [toI_len]) (by omega) (by omega)) ?_
          rintro _ h8 ⟨rfl, rfl⟩
          have R7 := R5.fr f7
          simp -implicitDefEqProofs (disch := omega) [go_sem]
          refine useC (rgroups_ok (R7.gr hG) hm hdeg hgd) ?_
          rintro _ h9 ⟨f9, G9, gc9, ovs9, C9, L9, rfl, K9, gl9, full9⟩
          have eL : L9 = L := gl9.uniq hgd gl full9 full
          subst eL
          have hsm := gl.small hgd hm
          have e1 := V4.len
          have e2 := K9.V.len
          have R59 := (((RwN.of S4 V4 hsm).fr0 f5).fr0 f7).fr0 f9
          rw [e1, e2]
          simp -implicitDefEqProofs (disch := omega) [go_sem]
          refine useC (same30_ok R59 (K9.rw hsm)) ?_
          rintro _ h10 ⟨rfl, rfl⟩
          have R9 := R7.fr f9
          simp -implicitDefEqProofs (disch := omega) [go_sem]
          refine useC (rturned_ok (R9.gr hG) hm hdeg) ?_
          rintro _ h11 ⟨f11, G11, gc11, ovs11, C11, rfl, K11⟩
          have e11 := K11.V.len
          have et := trn_len (EG m gs) m
          have RT' := ((RT.fr0 f7).fr0 f9).fr0 f11
          have RK := K11.rw ⟨by omega, fun l hl => RT.len.2 l hl⟩
          have sm := same30_ok (c := m) (d := gc11) RT' RK
          rw [et] at sm e11
          rw [e11]
          simp -implicitDefEqProofs (disch := omega) [go_sem]
          refine useC sm ?_
          rintro _ h12 ⟨rfl, rfl⟩
          simp -implicitDefEqProofs (disch := omega) [go_sem]
          exact ((((fr1.trans f3).trans f35).trans f7).trans f9).trans f11
end
end Xe
