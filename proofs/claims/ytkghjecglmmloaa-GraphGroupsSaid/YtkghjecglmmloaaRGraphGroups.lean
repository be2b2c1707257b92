/- 'ferrulelaw30.GraphGroups' returns true for every input, and its arguments read as they did. -/
import Derived.Test.YtkghjecglmmloaaRow
import Derived.Test.YtkghjecglmmloaaRowG
import Derived.Test.YtkghjecglmmloaaG16
namespace Go.Proofs.Ytkghjecglmmloaa.graphGroups
open Go.ChangeShapes Go.WideShapes Go.ChangeAt Go.RowKit Xe

theorem own : ownKnob Try.prog.godebug = none := by kernel_rfl

set_option maxRecDepth 100000 in
theorem lifted (os : Os) (started : os.Started) (H : Type) (enc : TypeId × Value → H) :
    ReturnsInHanded {} Try.checked os 13 .any (Rows.graphGroupsSpec.pre6 enc Try.prog Try.f13 Rows.graphGroupsRow.domain false) (Rows.graphGroupsSpec.post enc Try.prog Try.f13 false true false false) := by
  refine returnsInHanded_of_change (C := Try.checked) own started (by kernel_rfl) Try.func13
    (ChangeSpec.witness6 (enc := enc) (C := Try.checked) false ⟨#[], #[.slice none 0 0, .slice none 0 0], []⟩ 8 (by kernel_rfl) (by kernel_rfl) (by kernel_rfl) (by kernel_rfl)) ?_
  intro W base args ds gs before hval0 hW hcnd _
  have hval : ∀ (j : Nat) t v, Try.f13.params[j]? = some t → args[j]? = some v → Value.okWide Try.prog W .any base t v := hval0
  have hW' := hW
  obtain ⟨p, q, hA0, hV, rfl, hfz, hnd⟩ := hW
  have hA : DataW.TrodAll enc Try.prog W 0 (fun _ => true) true Try.f13.params.toList args.toList ds p := hA0
  rw [Try.params13] at hA hval
  obtain ⟨v0, vs0, d0, ds0, p0, q0, hargs, rfl, rfl, h0, r0⟩ := trodAll_cons hA
  obtain ⟨v1, vs1, d1, ds1, p1, q1, rfl, rfl, rfl, h1, r1⟩ := trodAll_cons r0
  obtain ⟨rfl, rfl, rfl⟩ := trodAll_nil r1
  obtain rfl : args = #[v0, v1] := by cases args; simp_all
  obtain ⟨rfl, rfl⟩ := trodVars_none hV
  obtain ⟨A0, m0, c0, g0, rfl, R0⟩ := open_rowsG Try.underlying69 Try.underlying32 Try.underlying3 rfl rfl (hval 0 69 v0 rfl rfl) h0
  obtain ⟨A1, c1, l1, rfl, n1, R1, b1⟩ := open_row1 Try.underlying32 Try.underlying3 rfl (hval 1 32 v1 rfl rfl) h1
  refine (CallsH.below (groups_walk A0 m0 c0 g0 R0 A1 c1 l1 n1 R1 b1)).mono fun e W' ⟨he, hb⟩ => ?_
  subst he
  exact ⟨_, rfl, law_post hW' rfl hb (by kernel_rfl) (by kernel_rfl) rfl Try.underlying4 rfl rfl rfl⟩

theorem over : Rows.graphGroupsRow.holds Try.pinned (OpenSpec.ofChange Rows.graphGroupsSpec) :=
  OpenClaim.holds_of_wide 13 Try.f13 rfl rfl rfl rfl rfl rfl rfl ⟨rfl, rfl, rfl, rfl, rfl⟩ rfl rfl rfl rfl rfl (by kernel_rfl) Try.func13 (by kernel_rfl)
    (of_decide_eq_true (by kernel_rfl)) (by unfold Func.isWrapper; first | (rw [if_pos (by decide +kernel)]; kernel_rfl) | (rw [if_neg (by decide +kernel)]; exact ⟨rfl, rfl⟩))
    (fun os started H enc _ => lifted os started H enc)

theorem proved : Rows.GraphGroupsSaid := over
end Go.Proofs.Ytkghjecglmmloaa.graphGroups
