/- 'ferrulelaw25.LazyProves' returns true for every input, and its arguments read as they did. -/
import Derived.Test.YtkghjecglmmloaaGreatSl2
import Derived.Test.YtkghjecglmmloaaGreatRowK
import Derived.Test.YtkghjecglmmloaaGreatB10
namespace Go.Proofs.YtkghjecglmmloaaGreat.lazyProves
open Go.ChangeShapes Go.WideShapes Go.ChangeAt Go.RowKit Xe
theorem own:ownKnob Tryz.prog.godebug=none:=by kernel_rfl
set_option maxRecDepth 100000 in
theorem lifted (os:Os) (started:os.Started) (H:Type) (enc:TypeId × Value→H) :
  ReturnsInHanded {} Tryz.checked os 10 .any (Rows.lazyProvesSpec.pre6 enc Tryz.prog Tryz.f10 Rows.lazyProvesRow.domain false) (Rows.lazyProvesSpec.post enc Tryz.prog Tryz.f10 false true false false):=by
 refine returnsInHanded_of_change (C:=Tryz.checked) own started (by kernel_rfl) Tryz.func10
  (ChangeSpec.witness6 (enc:=enc) (C:=Tryz.checked) false ⟨#[],#[.slice none 0 0,.slice none 0 0,.agg #[.slice none 0 0,.slice none 0 0,.slice none 0 0,.slice none 0 0,.int .i64 0],.slice none 0 0],[]⟩ 8 (by kernel_rfl) (by kernel_rfl) (by kernel_rfl) (by kernel_rfl)) ?_
 intro W base args ds gs before hval0 hW hcnd _
 have hval:∀ (j:Nat) t v,Tryz.f10.params[j]?=some t→args[j]?=some v→Value.okWide Tryz.prog W .any base t v:=hval0
 have hW':=hW
 obtain ⟨p,q,hA0,hV,rfl,hfz,hnd⟩:=hW
 have hA:DataW.TrodAll enc Tryz.prog W 0 (fun _=>true) true Tryz.f10.params.toList args.toList ds p:=hA0
 rw [Tryz.params10] at hA hval
 obtain ⟨v0,vs0,d0,ds0,p0,q0,hargs,rfl,rfl,h0,r0⟩:=trodAll_cons hA
 obtain ⟨v1,vs1,d1,ds1,p1,q1,rfl,rfl,rfl,h1,r1⟩:=trodAll_cons r0
 obtain ⟨v2,vs2,d2,ds2,p2,q2,rfl,rfl,rfl,h2,r2⟩:=trodAll_cons r1
 obtain ⟨v3,vs3,d3,ds3,p3,q3,rfl,rfl,rfl,h3,r3⟩:=trodAll_cons r2
 obtain ⟨rfl,rfl,rfl⟩:=trodAll_nil r3
 obtain rfl:args=#[v0,v1,v2,v3]:=by cases args; simp_all
 obtain ⟨rfl,rfl⟩:=trodVars_none hV
 obtain ⟨A0,c0,l0,rfl,n0,R0,b0⟩:=open_row1 Tryz.underlying23 Tryz.underlying3 rfl (hval 0 23 v0 rfl rfl) h0
 obtain ⟨A1,m1,c1,g1,rfl,R1⟩:=open_rows2 Tryz.underlying22 Tryz.underlying23 Tryz.underlying3 rfl rfl (hval 1 22 v1 rfl rfl) h1
 obtain ⟨s2,a2,rfl,M2⟩:=open_scr Tryz.underlying56 rfl rfl ⟨Tryz.underlying23,rfl,Tryz.underlying3,rfl⟩ ⟨Tryz.underlying38,rfl,Tryz.underlying4,rfl⟩ ⟨rfl,rfl⟩ ⟨rfl,rfl⟩ ⟨rfl,rfl⟩ ⟨rfl,rfl⟩ ⟨rfl,rfl⟩ (hval 2 56 v2 rfl rfl) h2
 obtain ⟨A3,c3,l3,rfl,n3,R3,b3⟩:=open_row1 Tryz.underlying23 Tryz.underlying3 rfl (hval 3 23 v3 rfl rfl) h3
 refine (CallsH.below (proves25_walk A0 c0 l0 n0 R0 b0 A1 m1 c1 g1 R1 s2 a2 M2 A3 c3 l3 n3 R3 b3)).mono fun e W' ⟨he,hb⟩=>?_
 subst he
 exact ⟨_,rfl,law_post hW' rfl hb (by kernel_rfl) (by kernel_rfl) rfl Tryz.underlying4 rfl rfl rfl⟩
theorem over:Rows.lazyProvesRow.holds Tryz.pinned (OpenSpec.ofChange Rows.lazyProvesSpec) :=
 OpenClaim.holds_of_wide 10 Tryz.f10 rfl rfl rfl rfl rfl rfl rfl ⟨rfl,rfl,rfl,rfl,rfl⟩ rfl rfl rfl rfl rfl (by kernel_rfl) Tryz.func10 (by kernel_rfl)
  (of_decide_eq_true (by kernel_rfl)) (by unfold Func.isWrapper; first | (rw [if_pos (by decide +kernel)]; kernel_rfl) | (rw [if_neg (by decide +kernel)]; exact ⟨rfl,rfl⟩))
  (fun os started H enc _=>lifted os started H enc)
theorem proved:Rows.LazyProvesSaid:=over
end Go.Proofs.YtkghjecglmmloaaGreat.lazyProves
