/- WatchPlays, as the statement has it. -/
import Derived.Test.YtkghjecglmmloaaRow
import Derived.Test.YtkghjecglmmloaaT17r
import Derived.Test.YtkghjecglmmloaaRowC
namespace Go.Proofs.Ytkghjecglmmloaa.watchPlays
open Go.ChangeShapes Go.WideShapes Go.ChangeAt Go.RowKit Xe

theorem own : ownKnob Try.prog.godebug = none := by kernel_rfl

set_option maxRecDepth 100000 in
theorem lifted (os : Os) (started : os.Started) (H : Type) (enc : TypeId × Value → H) :
    ReturnsInHanded {} Try.checked os 10 .any (Rows.watchPlaysSpec.pre6 enc Try.prog Try.f10 Rows.watchPlaysRow.domain false) (Rows.watchPlaysSpec.post enc Try.prog Try.f10 false true false false) := by
  refine returnsInHanded_of_change (C := Try.checked) own started (by kernel_rfl) Try.func10
    (ChangeSpec.witness6 (enc := enc) (C := Try.checked) false ⟨#[], #[.int .i64 0, .slice none 0 0], []⟩ 8 (by kernel_rfl) (by kernel_rfl) (by kernel_rfl) (by kernel_rfl)) ?_
  intro W base args ds gs before hval0 hW hcnd _
  have hval : ∀ (j : Nat) t v, Try.f10.params[j]? = some t → args[j]? = some v → Value.okWide Try.prog W .any base t v := hval0
  have hW' := hW
  obtain ⟨p, q, hA0, hV, rfl, hfz, hnd⟩ := hW
  have hA : DataW.TrodAll enc Try.prog W 0 (fun _ => true) true Try.f10.params.toList args.toList ds p := hA0
  rw [Try.params10] at hA hval
  obtain ⟨v0, vs0, d0, ds0, p0, q0, hargs, rfl, rfl, h0, r0⟩ := trodAll_cons hA
  obtain ⟨v1, vs1, d1, ds1, p1, q1, rfl, rfl, rfl, h1, r1⟩ := trodAll_cons r0
  obtain ⟨rfl, rfl, rfl⟩ := trodAll_nil r1
  obtain rfl : args = #[v0, v1] := by cases args; simp_all
  obtain ⟨rfl, rfl⟩ := trodVars_none hV
  obtain ⟨a0, rfl, _, _, w0⟩ := open_int Try.underlying3 (hval 0 3 v0 rfl rfl) h0
  simp only [Lit.wf, Bool.and_eq_true, decide_eq_true_eq] at w0
  obtain ⟨A1, m1, c1, g1, rfl, R1⟩ := open_acts17 Try.underlying77 Try.underlying80 rfl rfl ⟨rfl, rfl, Try.underlying3, rfl⟩ ⟨rfl, rfl, Try.underlying3, rfl⟩ ⟨rfl, rfl, Try.underlying32, rfl⟩ ⟨Try.underlying3, rfl⟩ (hval 1 77 v1 rfl rfl) h1
  refine (CallsH.below (plays_walk a0 w0 A1 m1 c1 g1 R1)).mono fun e W' ⟨he, hb⟩ => ?_
  subst he
  exact ⟨_, rfl, law_post hW' rfl hb (by kernel_rfl) (by kernel_rfl) rfl Try.underlying4 rfl rfl rfl⟩

theorem over : Rows.watchPlaysRow.holds Try.pinned (OpenSpec.ofChange Rows.watchPlaysSpec) :=
  OpenClaim.holds_of_wide 10 Try.f10 rfl rfl rfl rfl rfl rfl rfl ⟨rfl, rfl, rfl, rfl, rfl⟩ rfl rfl rfl rfl rfl (by kernel_rfl) Try.func10 (by kernel_rfl)
    (of_decide_eq_true (by kernel_rfl)) (by unfold Func.isWrapper; first | (rw [if_pos (by decide +kernel)]; kernel_rfl) | (rw [if_neg (by decide +kernel)]; exact ⟨rfl, rfl⟩))
    (fun os started H enc _ => lifted os started H enc)

theorem proved : Rows.WatchPlaysSaid := over
end Go.Proofs.Ytkghjecglmmloaa.watchPlays
