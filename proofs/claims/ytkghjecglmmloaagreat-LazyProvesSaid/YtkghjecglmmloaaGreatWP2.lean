/- Package trail, as its users see it: what changes it. -/
import Derived.Test.YtkghjecglmmloaaGreatT17b
namespace Xe
open Go Tp Go.Proofs
set_option maxRecDepth 16000
section
variable {h:Heap} {b vars level:Nat} {O:Nat→Prop} {l:List St}
theorem nx_of {b rb sb:Nat} {A A':Option Addr} {O:Nat→Prop} {h h':Heap} (hO:∀ x,O x↔tO b rb sb A x) (f:Fr (tO b rb sb A) h h') (hA:∀ y,blk A' y→blk A y∨h.size≤y):Nx O (tO b rb sb A') h h' :=
 ⟨f.mono fun x _ hx=>(hO x).2 hx,fun x hx=>by
  rcases hx with hx | hx | hx | hx
  · exact .inl ((hO x).2 (.inl hx))
  · exact .inl ((hO x).2 (.inr (.inl hx)))
  · exact .inl ((hO x).2 (.inr (.inr (.inl hx))))
  · exact (hA x hx).imp (fun h=>(hO x).2 (.inr (.inr (.inr h)))) id⟩
theorem TrailOk.of {rb sb cl cr cs:Nat} {A:Option Addr} (M:TrailM h b rb sb vars cl cr cs A l level) (G:Good vars l) (L:Lvs l level) (hv:vars≤16777216):TrailOk h b (tO b rb sb A) vars l level :=
 ⟨⟨_,_,_,_,_,_,M,fun _=>Iff.rfl⟩,G,L,hv⟩
theorem tpush_ok (T:TrailOk h b O vars l level) {x r:Int} (h0:-9223372036854775808≤x) (h1:x≤9223372036854775807) :
   CallsH Tryz.prog 157 [.pointer (some ⟨b,0,none⟩),.int .i64 x,.int .i64 r] h fun e h'=>e=.int .i64 (pushE vars l x r:Nat) ∧
    ∃ O',TrailOk h' b O' vars (pushL vars l x r level) level∧Nx O O' h h':=by
 have hlv:=T.lvle
 obtain ⟨rb,sb,cl,cr,cs,A,M,hO⟩:=T.ex
 refine (push_m M T.good T.lv T.hv rfl (by omega) h0 h1).mono ?_
 rintro _ h' ⟨rfl,g1,g2⟩
 refine ⟨rfl,?_⟩
 unfold pushL
 by_cases e:pushE vars l x r=0
 · obtain ⟨ev,v1,v2,hf,A',cl',M',f,hA⟩:=g2 e
   rw [if_pos e]
   exact ⟨_,⟨⟨_,_,_,_,_,_,M',fun _=>Iff.rfl⟩,T.good.push hf v1 v2,.push x r T.lvs,T.hv⟩,nx_of hO f hA⟩
 · rw [if_neg e,g1 e]
   exact ⟨O,T,Nx.refl _ _⟩
theorem tdecide_ok (T:TrailOk h b O vars l level) {x:Int} (h0:-9223372036854775808≤x) (h1:x≤9223372036854775807) :
   CallsH Tryz.prog 108 [.pointer (some ⟨b,0,none⟩),.int .i64 x] h fun e h'=>e=.int .i64 (pushE vars l x (-1):Nat) ∧
    ∃ O',TrailOk h' b O' vars (pushL vars l x (-1) (level+1)) (if pushE vars l x (-1)=0 then level+1 else level)∧Nx O O' h h':=by
 have hlv:=T.lvle
 have hv:=T.hv
 obtain ⟨rb,sb,cl,cr,cs,A,M,hO⟩:=T.ex
 have s3:=M.B.at' 3 _ rfl
 have fB:=M.B.fz
 refine calls_of 26 [.tmp 4] Go.Proofs.Tryz.func108 rfl rfl rfl ?_
 simp -implicitDefEqProofs (disch:=omega) [go_sem,s3,fB]
 have M1:=M.setLv ((level:Int)+1)
 have f1:Fr (tO b rb sb A) h (hset h ⟨b,3,none⟩ (.int .i64 ((level:Int)+1))):=(Fr.refl _ _).set (.inl rfl)
 refine useC (push_m (n:=level+1) M1 T.good T.lv T.hv (by omega) (by omega) h0 h1) ?_
 rintro _ h2 ⟨rfl,g1,g2⟩
 by_cases e:pushE vars l x (-1)=0
 · obtain ⟨ev,v1,v2,hf,A',cl',M',f,hA⟩:=g2 e
   simp -implicitDefEqProofs (disch:=omega) [go_sem,e]
   rw [show pushL vars l x (-1) (level+1)=l++[⟨x,-1,level+1⟩] from if_pos e]
   exact ⟨_,TrailOk.of M' (T.good.push hf v1 v2) (.dec x T.lvs) T.hv,nx_of hO (f1.trans f) fun y hy=>(hA y hy).imp id fun h=>by rwa [hset_size] at h⟩
 · have e1:=g1 e
   subst e1
   have e':¬ ((pushE vars l x (-1):Nat):Int)=0:=by omega
   have s32:=M1.B.at' 3 _ rfl
   have fB2:=M1.B.fz
   simp -implicitDefEqProofs (disch:=omega) [go_sem,e,e',s32,fB2,s3,fB]
   rw [show pushL vars l x (-1) (level+1)=l from if_neg e]
   exact ⟨_,TrailOk.of (M1.setLv level) T.good T.lvs T.hv,nx_of hO (f1.set (.inl rfl)) fun y hy=>.inl hy⟩
def backK (level:Nat) (n:Int):Nat:=if max n 0<level then (max n 0).toNat else level
theorem tback_ok (T:TrailOk h b O vars l level) {n:Int} (h0:-9223372036854775808≤n) (h1:n≤9223372036854775807) :
  CallsH Tryz.prog 75 [.pointer (some ⟨b,0,none⟩),.int .i64 n] h fun r h'=>r=.int .i64 ((cutTo l (backK level n)).length:Nat) ∧
   TrailOk h' b O vars (cutTo l (backK level n)) (backK level n)∧Nx O O h h':=by
 obtain ⟨rb,sb,cl,cr,cs,A,M,hO⟩:=T.ex
 have hk:backK level n≤level:=by unfold backK; split <;> omega
 refine (back_m M T.good T.hv T.lvs.mono rfl T.lvle T.lvs.le h0 h1 (k:=backK level n) rfl).mono ?_
 rintro _ h' ⟨rfl,M',f⟩
 exact ⟨rfl,⟨⟨_,_,_,_,_,_,M',hO⟩,T.good.sub List.filter_sublist,T.lvs.cut _ hk,T.hv⟩,⟨f.mono fun x _ hx=>(hO x).2 hx,fun x hx=>.inl hx⟩⟩
theorem tnew_ok {x:Int} (h0:-9223372036854775808≤x) (h1:x≤9223372036854775807) :
   CallsH Tryz.prog 106 [.int .i64 x] h fun r h'=>((x<0∨16777216<x)∧r=.pointer none∧h'=h) ∨
    (∃ vars b:Nat,x=vars∧vars≤16777216∧r=.pointer (some ⟨b,0,none⟩)∧∃ O,TrailOk h' b O vars [] 0∧Nx (fun _=>False) O h h'):=by
 refine calls_of 19 [.tmp 2] Go.Proofs.Tryz.func106 rfl rfl rfl ?_
 by_cases e1:x<0
 · simp -implicitDefEqProofs (disch:=omega) [go_sem,e1]
 by_cases e2:16777216<x
 · simp -implicitDefEqProofs (disch:=omega) [go_sem,e1,e2]
 obtain ⟨vars,rfl⟩:∃ n:Nat,x=n:=⟨x.toNat,by omega⟩
 simp -implicitDefEqProofs (disch:=omega) [go_sem]
 refine build1 rfl rfl ?_
 simp -implicitDefEqProofs (disch:=omega) [go_sem]
 have hw:IntKind.i64.wrap ((vars:Int)+1)=((vars+1:Nat):Int):=by rw [IntWalk.i64_in _ (by omega)]; omega
 have c1:=repeatI_ok (h:=h.push (.cells #[.int .i64 (-1)] 3)) (A:=some ⟨h.size,0,none⟩) (cap:=1) (n:=vars+1) (x:=-1) (SlAt.new (vs:=[.int .i64 (-1)])).row (by omega) (by omega)
 refine useC c1 ?_
 rintro _ h2 ⟨rfl,F2,f2⟩
 simp -implicitDefEqProofs (disch:=omega) [go_sem]
 refine build1 rfl rfl ?_
 simp -implicitDefEqProofs (disch:=omega) [go_sem]
 have c2:=repeatC_ok (h:=h2.push (.cells #[.complex .f64 (Fx.enc (-1)) (Fx.enc (-1))] 108)) (A:=some ⟨h2.size,0,none⟩) (cap:=1) (n:=vars+1) (re:=Fx.enc (-1)) (im:=Fx.enc (-1)) (SlAt.new (vs:=[.complex .f64 (Fx.enc (-1)) (Fx.enc (-1))])).row (by omega) (by omega)
 refine useC c2 ?_
 rintro _ h3 ⟨rfl,F3,f3⟩
 simp -implicitDefEqProofs (disch:=omega) [go_sem]
 rw [push_size] at F2 F3
 have z2:=f2.size
 have z3:=f3.size
 rw [push_size] at z2 z3
 have y2:=F2.lt
 have y3:=F3.lt
 have M:TrailM (h3.push (.cells #[.slice none 0 0,.slice (some ⟨h.size+1,0,none⟩) (vars+1) (vars+1),.slice (some ⟨h2.size+1,0,none⟩) (vars+1) (vars+1),.int .i64 0] 118)) h3.size (h.size+1) (h2.size+1) vars 0 (vars+1) (vars+1) none [] 0 :=
   ⟨ListB.new,SlAt.nil _,((F2.fr ((Fr.refl (fun _=>False) _).push.trans f3) id).push).cong fun i hi=>rfl,F3.push.cong fun i hi=>rfl,(by show h3.size≠h.size+1; omega),(by show h3.size≠h2.size+1; omega),(by show h.size+1≠h2.size+1; omega),fun x ⟨_,h,_⟩=>(nomatch h)⟩
 refine ⟨vars,rfl,by omega,_,TrailOk.of M (Good.nil _) .nil (by omega),⟨?_,fun x hx=>.inr ?_⟩⟩
 · exact (((Fr.refl _ _).push.trans f2).push.trans f3).push
 · rcases hx with rfl | rfl | rfl | ⟨_,h,_⟩
   · omega
   · omega
   · omega
   · cases h
end
theorem appendO {h0 h:Heap} {e:TypeId} {sz bt:Nat} {z:Value} {A:Option Addr} {cap n:Nat} {vs ws:List Value} {k:Value→Heap→Prop} (S:SlAt h A (cap*sz) vs) (own:∀ x,blk A x→h0.size≤x) (fr:Fr (fun _=>False) h0 h)
   (hn:n*sz=vs.length) (hw:ws.length=sz) (hs:0<sz) (hone:∀ w∈ws,w.oneCell'=true) (hlen:(n+1)*bt≤2^47) (hlm:n+1<2^50)
   (hk:∀ A' cap' h',SlAt h' A' (cap'*sz) (vs++ws)→(∀ x,blk A' x→h0.size≤x)→Fr (fun _=>False) h0 h'→Fr (blk A) h h'→k (.slice A' (n+1) cap') h') :
   @appendK (some (e,sz,bt,z)) (.slice A n cap) (.slice (some ⟨h.size,0,none⟩) 1 1) ⟨h.push (.cells ws.toArray e)⟩ ⟨k⟩:=by
 have f1:Fr (fun _=>False) h (h.push (.cells ws.toArray e)):=(Fr.refl _ _).push
 refine appendN (S.fr f1 fun _ _=>id) hn (SlAt.new (vs:=ws) (e:=e)).row (by omega) hs hone hlen hlm ?_
 intro A' c' h' S' f hA
 have z:=fr.size
 refine hk A' c' h' S' (fun x hx=>?_) ?_ ((f1.mono fun _ _ h=>h.elim).trans f)
 · rcases hA x hx with h | h
   · exact own x h
   · rw [push_size] at h; omega
 · exact (fr.trans f1).trans' f fun x hx hb=>by have:=own x hb; omega
def truthsV (n:Nat) (l:List St):List Value:=(List.range n).map fun i=>.bool (decide (0<trI l ((i+1:Nat):Int)))
theorem truthsV_len (n:Nat) (l:List St):(truthsV n l).length=n:=by unfold truthsV; rw [List.length_map,List.length_range]
theorem truthsV_succ (n:Nat) (l:List St):truthsV (n+1) l=truthsV n l++[.bool (decide (0<trI l ((n+1:Nat):Int)))]:=by unfold truthsV; rw [List.range_succ,List.map_append]; rfl
section
variable {h:Heap} {b vars level:Nat} {O:Nat→Prop} {l:List St}
theorem ttruths_ok (T:TrailOk h b O vars l level):CallsH Tryz.prog 187 [.pointer (some ⟨b,0,none⟩)] h fun r h' =>
   ∃ A' c',r=.slice A' vars c'∧RowAt h' A' (truthsV vars l)∧(∀ x,blk A' x→h.size≤x)∧Fr (fun _=>False) h h':=by
 have hv:=T.hv
 refine calls_of 19 [.tmp 2] Go.Proofs.Tryz.func187 rfl rfl rfl ?_
 simp -implicitDefEqProofs (disch:=omega) [go_sem]
 refine loopK (fun ρ h'=>ρ 0=.pointer (some ⟨b,0,none⟩)∧∃ (i:Nat) (A:Option Addr) (c:Nat),ρ 4=.int .i64 ((i+1:Nat):Int)∧i≤vars∧ρ 3=.slice A i c∧SlAt h' A c (truthsV i l)∧(∀ x,blk A x→h.size≤x)∧Fr (fun _=>False) h h')
   (fun ρ _=>vars+1-(intOf (ρ 4)).toNat) (by kernel_rfl) ?_ ?_
 · exact ⟨rfl,0,none,0,rfl,by omega,rfl,SlAt.nil _,fun x ⟨_,h,_⟩=>(nomatch h),Fr.refl _ _⟩
 · rintro ρ h1 ⟨r0,i,A,c,r4,hi,r3,S,own,fr⟩
   have T1:=T.fr0 fr
   simp -implicitDefEqProofs (disch:=omega) [go_sem,r0,r4,r3]
   refine useC (tvars_ok T1) ?_
   rintro _ h2 ⟨rfl,rfl⟩
   by_cases hlt:i<vars
   · simp -implicitDefEqProofs (disch:=omega) [go_sem,r0,r4,r3]
     have ct:=ttruth_ok T1 (x:=((i+1:Nat):Int)) (by omega) (by omega)
     refine useC ct ?_
     rintro _ h3 ⟨rfl,rfl⟩
     simp -implicitDefEqProofs (disch:=omega) [go_sem,r0,r4,r3]
     refine build1 rfl rfl ?_
     simp -implicitDefEqProofs (disch:=omega) [go_sem,r0,r4,r3]
     refine appendO (cap:=c) (ws:=[.bool (decide (0<trI l ((i+1:Nat):Int)))]) (by rw [Nat.mul_one]; exact S) own fr (by rw [truthsV_len]; omega) rfl (by omega) (by simp [Value.oneCell']) (by omega) (by omega) ?_
     intro A' c' h4 S' own' fr' _
     rw [← truthsV_succ,Nat.mul_one] at S'
     simp -implicitDefEqProofs (disch:=omega) [go_sem,r0,r4,r3]
     exact ⟨⟨i+1,by omega,by omega,A',c',⟨rfl,rfl,rfl⟩,S',own',fr'⟩,by omega⟩
   · have e:i=vars:=by omega
     subst e
     simp -implicitDefEqProofs (disch:=omega) [go_sem,r0,r4,r3]
     exact ⟨S.row,own,fr⟩
end
def goodC (vars:Nat) (l:List Int):Bool:=l.all fun x=>decide (1≤x.natAbs∧x.natAbs≤vars)
def cleanCf (x y:Int):Int:=if cmpI (var12 x) (var12 y)≠0 then cmpI (var12 x) (var12 y) else cmpI x y
theorem cleanCf_ok:CmpOk cleanCf okL where
 le x y hx hy h:=by unfold cleanCf cmpI var12 at *; unfold okL at hx hy; simp only [if_pos hx.2,if_pos hy.2] at *; split at h <;> split <;> omega
 tr x y z hx hy hz h1 h2:=by
  unfold cleanCf cmpI var12 at *; unfold okL at hx hy hz; simp only [if_pos hx.2,if_pos hy.2,if_pos hz.2] at *
  split at h1 <;> split at h2 <;> split <;> omega
theorem cleanCf_lex {x y:Int} (hx:okL x) (hy:okL y) (h:0≤cleanCf y x):¬ lexLt y x:=by
 unfold cleanCf cmpI var12 at h; unfold okL at hx hy; unfold lexLt; simp only [if_pos hx.2,if_pos hy.2] at h
 split at h <;> omega
theorem build2 {h:Heap} {e:TypeId} {bt:Nat} {w x y:Int} {k:Value→Heap→Prop}
  (hk:k (.slice (some ⟨h.size,0,none⟩) 2 2) (h.push (.cells #[.int .i64 x,.int .i64 y] e))):@buildSliceK (some (e,1,bt,.int .i64 w)) 2 [(0,.int .i64 x),(1,.int .i64 y)] ⟨h⟩ ⟨k⟩:=by
 refine ⟨by omega,#[.int .i64 x,.int .i64 y],?_,hk⟩
 have hz:(zerosOf (Value.int .i64 w).cells (2*1)).size=2:=by simp [zerosOf]
 obtain ⟨L,hL⟩:∃ L,zerosOf (Value.int .i64 w).cells (2*1)=⟨L⟩:=⟨_,rfl⟩
 rw [hL] at hz ⊢
 match L,hz with
 | [p,q],_=>simp [Instr.fill,Value.cells,List.zipIdx]
section
variable {h:Heap} {A:Option Addr} {l:List Int} {n c vars:Nat}
theorem abs12_ok {x:Int} (h0:-9223372036854775808≤x) (h1:x≤9223372036854775807):CallsH Tryz.prog 135 [.int .i64 x] h fun r h'=>r=.int .i64 (var12 x:Nat)∧h'=h:=by
 refine calls_of 13 [.tmp 2] Go.Proofs.Tryz.func135 rfl rfl rfl ?_
 by_cases e1:x < -16777216
 · have ev:var12 x=0:=if_neg (by omega)
   simp -implicitDefEqProofs (disch:=omega) [go_sem,ev]
 · by_cases e2:16777216<x
   · have ev:var12 x=0:=if_neg (by omega)
     simp -implicitDefEqProofs (disch:=omega) [go_sem,ev]
   · have ev:var12 x=x.natAbs:=if_pos (by omega)
     simp -implicitDefEqProofs (disch:=omega) [go_sem,ev]
     omega
theorem cleanCmp_ok {x y:Int} (hx:okL x) (hy:okL y):CallsH Tryz.prog 154 ([.int .i64 x,.int .i64 y]++[]) h fun r h'=>r=.int .i64 (cleanCf x y)∧Fr (fun _=>False) h h':=by
 unfold okL at hx hy
 refine calls_of 15 [.tmp 4] Go.Proofs.Tryz.func154 rfl rfl rfl ?_
 simp -implicitDefEqProofs (disch:=omega) [go_sem]
 refine useC (abs12_ok (x:=x) (by omega) (by omega)) ?_
 rintro _ h1 ⟨rfl,rfl⟩
 simp -implicitDefEqProofs (disch:=omega) [go_sem]
 refine useC (abs12_ok (x:=y) (by omega) (by omega)) ?_
 rintro _ h1 ⟨rfl,rfl⟩
 simp -implicitDefEqProofs (disch:=omega) [go_sem]
 refine useC (compare_ok _ _) ?_
 rintro _ h1 ⟨rfl,rfl⟩
 simp -implicitDefEqProofs (disch:=omega) [go_sem]
 refine useC (compare_ok _ _) ?_
 rintro _ h1 ⟨rfl,rfl⟩
 simp -implicitDefEqProofs (disch:=omega) [go_sem]
 refine build2 ?_
 simp -implicitDefEqProofs (disch:=omega) [go_sem]
 have co:=or_ok (h:=h1.push (.cells #[.int .i64 (cmpI (var12 x) (var12 y)),.int .i64 (cmpI x y)] 3)) (A:=some ⟨h1.size,0,none⟩) (c:=2) (SlAt.new (h:=h1) (vs:=ints [cmpI (var12 x) (var12 y),cmpI x y]) (e:=3)).row
 refine useC co ?_
 rintro _ h2 ⟨rfl,rfl⟩
 simp -implicitDefEqProofs (disch:=omega) [go_sem]
 refine ⟨?_,(Fr.refl _ _).push⟩
 unfold cleanCf
 by_cases e:cmpI (var12 x) (var12 y)=0 <;> simp [e]
def CleanR (l:List Int):Option (List Int)→Prop
 | none=>∃ x∈l,okL x∧-x∈l
 | some L=>Rise L∧∀ x,x∈L↔x∈l∧okL x
theorem CleanR.uniq {l:List Int} {a b:Option (List Int)} (h1:CleanR l a) (h2:CleanR l b):a=b:=by
 have key:∀ L,CleanR l none→CleanR l (some L)→False:=by
   rintro L ⟨x,hx,hok,hnx⟩ ⟨hr,hm⟩
   have m1:=(hm x).2 ⟨hx,hok⟩
   have m2:=(hm (-x)).2 ⟨hnx,by unfold okL at hok ⊢; omega⟩
   obtain ⟨i,hi,ei⟩:=List.getElem_of_mem m1
   obtain ⟨j,hj,ej⟩:=List.getElem_of_mem m2
   unfold okL at hok
   have hp:=List.pairwise_iff_getElem.1 hr
   rcases Nat.lt_trichotomy i j with h | h | h
   · have:=hp i j hi hj h; rw [ei,ej] at this; omega
   · subst h; rw [ei] at ej; omega
   · have:=hp j i hj hi h; rw [ei,ej] at this; omega
 cases a with
 | none=>cases b with
   | none=>rfl
   | some L=>exact (key L h1 h2).elim
 | some L=>cases b with
   | none=>exact (key L h2 h1).elim
   | some M=>rw [rise_uniq h1.1 h2.1 fun x=>(h1.2 x).trans (h2.2 x).symm]
theorem mem_gt {L:List Int} {x:Int}:x∈L↔∃ j,j<L.length∧gt L j=x:=by
 constructor
 · intro h
   obtain ⟨j,hj,rfl⟩:=List.getElem_of_mem h
   have:=gt_at hj
   rw [List.getElem?_eq_getElem hj,Option.some.injEq] at this
   exact ⟨j,hj,this.symm⟩
 · rintro ⟨j,hj,rfl⟩
   exact List.mem_of_getElem? (gt_at hj)
theorem cgoodF_ok {b:Nat} (hb:hcell h ⟨b,0,none⟩=some (.int .i64 vars)) {x:Int} (hv:vars≤16777216) (h0:-9223372036854775808≤x) (h1:x≤9223372036854775807) :
   CallsH Tryz.prog 134 ([.int .i64 x]++[.pointer (some ⟨b,0,none⟩)]) h fun r h'=>r=.bool (!decide (1≤x.natAbs∧x.natAbs≤vars))∧h'=h:=by
 refine calls_of 13 [.tmp 3] Go.Proofs.Tryz.func134 rfl rfl rfl ?_
 simp -implicitDefEqProofs (disch:=omega) [go_sem]
 refine drawC [(0,0),(1,3),(2,0),(3,0),(4,0),(6,2),(5,3),(7,0),(8,0),(9,0)] (Eq _) rfl ?_
 simp -implicitDefEqProofs (disch:=omega) [go_sem]
 refine useC (abs12_ok h0 h1) ?_
 rintro _ h2 ⟨rfl,rfl⟩
 by_cases e:var12 x=0
 · have e2:¬ (1≤x.natAbs∧x.natAbs≤vars):=by unfold var12 at e; split at e <;> omega
   rw [decide_eq_false e2]
   simp -implicitDefEqProofs (disch:=omega) [go_sem,hb,e]
 · have hx:x.natAbs≤16777216:=by unfold var12 at e; split at e <;> omega
   have ev:var12 x=x.natAbs:=if_pos hx
   rw [ev] at e ⊢
   simp -implicitDefEqProofs (disch:=omega) [go_sem,hb]
   refine useC (abs12_ok h0 h1) ?_
   rintro _ h3 ⟨rfl,rfl⟩
   rw [ev]
   simp -implicitDefEqProofs (disch:=omega) [go_sem,hb]
   rw [Bool.eq_iff_iff]; simp
theorem cgood_ok (R:RowAt h A (ints l)) (hn:n=l.length) (hs:n<2^40) (hv:vars≤16777216) (hr:∀ x∈l,-9223372036854775808≤x∧x≤9223372036854775807) :
  CallsH Tryz.prog 89 [.slice A n c,.int .i64 vars] h fun r h'=>r=.bool (goodC vars l)∧Fr (fun _=>False) h h':=by
 refine calls_of 9 [.tmp 4] Go.Proofs.Tryz.func89 rfl rfl rfl ?_
 simp -implicitDefEqProofs (disch:=omega) [go_sem]
 have f1:Fr (fun _=>False) h (h.push (.cells #[.int .i64 vars] 3)):=(Fr.refl _ _).push
 have cc:=containsFunc_ok (cs:=[.pointer (some ⟨h.size,0,none⟩)]) (c:=c) (R.fr0 f1) hn hs (fun x=>!decide (1≤x.natAbs∧x.natAbs≤vars)) (fun x hx=>cgoodF_ok (by rw [hcell_push_new]; rfl) hv (hr x hx).1 (hr x hx).2)
 refine useC cc ?_
 rintro _ h2 ⟨rfl,rfl⟩
 simp -implicitDefEqProofs (disch:=omega) [go_sem]
 refine ⟨?_,f1⟩
 unfold goodC
 rw [List.all_eq_not_any_not,Bool.not_not]
 congr 1
 funext x
 simp
theorem rgood12_ok (R:RowAt h A (ints l)) (hn:n=l.length) (hs:n<2^40) (hv:vars≤16777216) (hr:∀ x∈l,-9223372036854775808≤x∧x≤9223372036854775807) :
   CallsH Tryz.prog 36 [.slice A n c,.int .i64 vars] h fun r h'=>r=.bool (goodC vars l)∧h'=h:=by
 subst hn
 refine calls_of 27 [.tmp 4] Go.Proofs.Tryz.func36 rfl rfl rfl ?_
 simp -implicitDefEqProofs (disch:=omega) [go_sem]
 refine loopK (fun ρ h'=>ρ 0=.slice A l.length c∧ρ 1=.int .i64 vars∧h'=h∧∃ i:Nat,ρ 5=.int .i64 i∧i≤l.length∧∀ (j:Nat) y,j<i→l[j]?=some y→1≤y.natAbs∧y.natAbs≤vars)
   (fun ρ _=>l.length-(intOf (ρ 5)).toNat) (by kernel_rfl) ?_ ?_
 · exact ⟨rfl,rfl,rfl,0,rfl,by omega,fun j y hj=>by omega⟩
 · rintro ρ h' ⟨r0,r1,rfl,i,r5,hi,hj⟩
   by_cases hin:i<l.length
   · obtain ⟨bk,off,rfl,hc⟩:=R.get (by rw [ints_len]; omega)
     obtain ⟨y,hy⟩:∃ x,l[i]?=some x:=⟨_,List.getElem?_eq_getElem hin⟩
     have c0:=hc _ _ (ints_at hy)
     have hyr:=hr y (List.mem_of_getElem? hy)
     simp -implicitDefEqProofs (disch:=omega) [go_sem,r0,r1,r5,c0]
     refine useC (var12_ok hyr.1 hyr.2) ?_
     rintro _ h2 ⟨rfl,rfl⟩
     by_cases e:var12 y=0
     · have hg:goodC vars l=false:=by
         unfold goodC; rw [List.all_eq_false]
         exact ⟨y,List.mem_of_getElem? hy,by unfold var12 at e; split at e <;> (simp; omega)⟩
       simp -implicitDefEqProofs (disch:=omega) [go_sem,r0,r1,r5,c0,e,hg]
     · have hx:y.natAbs≤16777216:=by unfold var12 at e; split at e <;> omega
       have ev:var12 y=y.natAbs:=if_pos hx
       rw [ev] at e
       rw [ev]
       simp -implicitDefEqProofs (disch:=omega) [go_sem,r0,r1,r5,c0]
       refine useC (var12_ok hyr.1 hyr.2) ?_
       rintro _ h2 ⟨rfl,rfl⟩
       rw [ev]
       by_cases e2:vars<y.natAbs
       · have hg:goodC vars l=false:=by
          unfold goodC; rw [List.all_eq_false]
          exact ⟨y,List.mem_of_getElem? hy,by simp; omega⟩
         simp -implicitDefEqProofs (disch:=omega) [go_sem,r0,r1,r5,hg]
       · simp -implicitDefEqProofs (disch:=omega) [go_sem,r0,r1,r5]
         refine ⟨⟨i+1,by omega,by omega,fun j z hj2 hz=>?_⟩,by omega⟩
         by_cases ej:j=i
         · subst ej; rw [hy] at hz; cases hz; omega
         · exact hj j z (by omega) hz
   · have hg:goodC vars l=true:=by
       unfold goodC; rw [List.all_eq_true]
       intro x hx
       obtain ⟨j,h,rfl⟩:=List.getElem_of_mem hx
       exact decide_eq_true (hj j _ (by omega) (List.getElem?_eq_getElem h))
     simp -implicitDefEqProofs (disch:=omega) [go_sem,r0,r1,r5,hg]
end
end Xe
namespace Xe
open Tp
structure Ent where
 lits:List Int
 a1:Nat
 a2:Nat
 gone:Bool
structure WS where
 vars:Nat
 l:List St
 level:Nat
 cs:List Ent
 W:Int→List Nat
 todo:List Nat
 head:Nat
def updW (W:Int→List Nat) (x:Int) (v:List Nat) (y:Int):List Nat:=if y=x then v else W y
theorem updW_same (W:Int→List Nat) (x:Int) (v:List Nat):updW W x v x=v:=if_pos rfl
theorem updW_other (W:Int→List Nat) {x y:Int} (v:List Nat) (h:y≠x):updW W x v y=W y:=if_neg h
theorem updW_upd (W:Int→List Nat) (x:Int) (v w:List Nat):updW (updW W x v) x w=updW W x w:=by
 funext y; unfold updW; split <;> rfl
theorem updW_id (W:Int→List Nat) (x:Int):updW W x (W x)=W:=by
 funext y; unfold updW; split
 · rename_i h; rw [h]
 · rfl
theorem trI_cases (l:List St) (x:Int):trI l x=1∨trI l x=-1∨trI l x=0:=by
 unfold trI
 by_cases h:x∈lits l
 · rw [if_pos h]; exact .inl rfl
 · rw [if_neg h]
   by_cases h2:-x∈lits l
   · rw [if_pos h2]; exact .inr (.inl rfl)
   · rw [if_neg h2]; exact .inr (.inr rfl)
theorem tr_one {l:List St} {x:Int}:trI l x=1↔x∈lits l:=by
 unfold trI
 constructor
 · intro h
   split at h
   · assumption
   · split at h <;> omega
 · intro h; rw [if_pos h]
theorem tr_m1 {l:List St} {x:Int}:trI l x=-1↔x∉lits l∧-x∈lits l:=by
 unfold trI
 constructor
 · intro h
   split at h
   · omega
   · split at h
     · exact ⟨by assumption,by assumption⟩
     · omega
 · intro ⟨h1,h2⟩; rw [if_neg h1,if_pos h2]
theorem tr_zero {l:List St} {x:Int}:trI l x=0↔x∉lits l∧-x∉lits l:=by
 unfold trI
 constructor
 · intro h
   split at h
   · omega
   · split at h
     · omega
     · exact ⟨by assumption,by assumption⟩
 · intro ⟨h1,h2⟩; rw [if_neg h1,if_neg h2]
theorem lits_push (l:List St) (t:St):lits (l++[t])=lits l++[t.lit]:=by simp [lits]
theorem good_cons {vars:Nat} {l:List St} (G:Good vars l) {x:Int} (h1:x∈lits l) (h2:-x∈lits l):False:=by
 obtain ⟨s,hs,rfl⟩:=List.mem_map.1 h1
 obtain ⟨k,hk⟩:=List.getElem?_of_mem hs
 have hr:=G.rng s hs
 have:=tr_at G hk (x:=-s.lit) (by omega)
 rw [tr_one.2 h2] at this
 split at this <;> omega
theorem tr_one_mono {l:List St} {x:Int} (t:St) (h:trI l x=1):trI (l++[t]) x=1:=by
 rw [tr_one] at h ⊢; rw [lits_push]; exact List.mem_append_left _ h
def Sat (l:List St) (c:List Int):Prop:=∃ x∈c,trI l x=1
def okW (l:List St) (head:Nat) (x:Int):Prop:=trI l x≠-1∨∃ k,head≤k∧(lits l)[k]?=some (-x)
def UnitAt (l:List St) (c:List Int) (x:Int):Prop:=x∈c∧trI l x=0∧∀ y∈c,y≠x→trI l y=-1
def FailAt (l:List St) (c:List Int):Prop:=∀ y∈c,trI l y=-1
theorem Sat.mono {l:List St} {c:List Int} (t:St) (h:Sat l c):Sat (l++[t]) c:=by
 obtain ⟨x,hx,h⟩:=h
 exact ⟨x,hx,tr_one_mono t h⟩
theorem okW.mono {l:List St} {head:Nat} {x:Int} (t:St) (hh:head≤l.length) (h:okW l head x):okW (l++[t]) head x:=by
 rcases h with h | ⟨k,hk,h⟩
 · by_cases e:t.lit=-x
   · refine .inr ⟨l.length,hh,?_⟩
     rw [lits_push,← e,List.getElem?_append_right (by unfold lits; rw [List.length_map]; exact Nat.le_refl _)]
     unfold lits; simp
   · refine .inl fun h2=>h ?_
     rw [tr_m1,lits_push,List.mem_append,List.mem_append,List.mem_singleton,List.mem_singleton] at h2
     rw [tr_m1]
     exact ⟨fun h3=>h2.1 (.inl h3),h2.2.resolve_right fun h3=>e h3.symm⟩
 · exact .inr ⟨k,hk,by rw [lits_push,List.getElem?_append_left (List.getElem?_eq_some_iff.1 h).1]; exact h⟩
structure Pair (W:Int→List Nat) (id:Nat) (e:Ent) (y z:Int):Prop where
 ne:e.a1≠e.a2
 l1:e.lits[e.a1]?=some y
 l2:e.lits[e.a2]?=some z
 m1:id∈W y
 m2:id∈W z
structure WInv (s:WS):Prop where
 good:Good s.vars s.l
 lvs:Lvs s.l s.level
 hv:s.vars≤16777216
 cl:∀ e∈s.cs,Rise e.lits∧∀ x∈e.lits,1≤x.natAbs∧x.natAbs≤s.vars
 head:s.head≤s.l.length
 todoN:s.todo.Nodup
 todoL:∀ id∈s.todo,id<s.cs.length
 wN:∀ x,(s.W x).Nodup
 wL:∀ x,∀ id∈s.W x,id<s.cs.length∧id∉s.todo
 w1:∀ x,∀ id∈s.W x,∀ e,s.cs[id]?=some e→e.gone=false→∃ y z,Pair s.W id e y z∧(x=y∨x=z)
 main:∀ id e,s.cs[id]?=some e→e.gone=false→id∉s.todo→Sat s.l e.lits∨∃ y z,Pair s.W id e y z∧okW s.l s.head y∧okW s.l s.head z
 rs:∀ i t,s.l[i]?=some t→0≤t.rs→∃ e,s.cs[t.rs.toNat]?=some e∧e.gone=false∧UnitAt (s.l.take i) e.lits t.lit
theorem rise_nodup {l:List Int} (h:Rise l):l.Nodup:=List.Pairwise.imp (fun {a b} h e=>by rw [e] at h; omega) h
theorem rise_ne {l:List Int} (h:Rise l) {i j:Nat} {y z:Int} (hi:l[i]?=some y) (hj:l[j]?=some z) (hn:i≠j):y≠z:=by
 intro e
 subst e
 obtain ⟨h1,e1⟩:=List.getElem?_eq_some_iff.1 hi
 obtain ⟨h2,e2⟩:=List.getElem?_eq_some_iff.1 hj
 have:=List.pairwise_iff_getElem.1 h
 rcases Nat.lt_or_gt_of_ne hn with h3 | h3
 · have:=this i j h1 h2 h3; rw [e1,e2] at this; omega
 · have:=this j i h2 h1 h3; rw [e1,e2] at this; omega
theorem WInv.grow {s:WS} (I:WInv s) {t:St} {n:Nat} (hf:find s.l t.lit.natAbs=none) (h1:1≤t.lit.natAbs) (h2:t.lit.natAbs≤s.vars) (hl:Lvs (s.l++[t]) n)
  (hr:0≤t.rs→∃ e,s.cs[t.rs.toNat]?=some e∧e.gone=false∧UnitAt s.l e.lits t.lit):WInv { s with l:=s.l++[t],level:=n } where
 good:=I.good.push hf h1 h2
 lvs:=hl
 hv:=I.hv
 cl:=I.cl
 head:=by show s.head≤(s.l++[t]).length; rw [List.length_append]; have:=I.head; omega
 todoN:=I.todoN
 todoL:=I.todoL
 wN:=I.wN
 wL:=I.wL
 w1:=I.w1
 main id e he hg hn:=by
  rcases I.main id e he hg hn with h | ⟨y,z,hp,h3,h4⟩
  · exact .inl (h.mono t)
  · exact .inr ⟨y,z,hp,h3.mono t I.head,h4.mono t I.head⟩
 rs i u hu hp:=by
  show ∃ e,s.cs[u.rs.toNat]?=some e∧e.gone=false∧UnitAt ((s.l++[t]).take i) e.lits u.lit
  have hu':(s.l++[t])[i]?=some u:=hu
  by_cases hi:i<s.l.length
  · rw [List.getElem?_append_left hi] at hu'
    rw [List.take_append_of_le_length (by omega)]
    exact I.rs i u hu' hp
  · rw [List.getElem?_append_right (by omega)] at hu'
    have hz:i-s.l.length=0:=by
     cases hj:i-s.l.length with
     | zero=>rfl
     | succ j=>rw [hj] at hu'; cases hu'
    rw [hz] at hu'
    simp only [List.getElem?_cons_zero,Option.some.injEq] at hu'
    subst hu'
    rw [List.take_left' (by omega)]
    exact hr hp
theorem WInv.skip {s:WS} (I:WInv s) {id:Nat} {rest:List Nat} (ht:s.todo=id::rest) (h:∀ e,s.cs[id]?=some e→e.gone=false→Sat s.l e.lits):WInv { s with todo:=rest } where
 good:=I.good
 lvs:=I.lvs
 hv:=I.hv
 cl:=I.cl
 head:=I.head
 todoN:=by have:=I.todoN; rw [ht,List.nodup_cons] at this; exact this.2
 todoL i hi:=I.todoL i (by rw [ht]; exact List.mem_cons_of_mem _ hi)
 wN:=I.wN
 wL x i hi:=⟨(I.wL x i hi).1,fun hm=>(I.wL x i hi).2 (by rw [ht]; exact List.mem_cons_of_mem _ hm)⟩
 w1:=I.w1
 main i e he hg hn:=by
  by_cases ei:i=id
  · subst ei; exact .inl (h e he hg)
  · exact I.main i e he hg (by rw [ht,List.mem_cons]; exact fun h=>h.elim ei hn)
 rs:=I.rs
def setE (cs:List Ent) (id i j:Nat):List Ent:=match cs[id]? with
 | some e=>cs.set id { e with a1:=i,a2:=j }
 | none=>cs
theorem setE_len (cs:List Ent) (id i j:Nat):(setE cs id i j).length=cs.length:=by unfold setE; split <;> simp
theorem setE_at {cs:List Ent} {id i j k:Nat} {e:Ent} (he:cs[id]?=some e):(setE cs id i j)[k]?=if k=id then some { e with a1:=i,a2:=j } else cs[k]?:=by
 unfold setE
 rw [he]
 simp only
 rw [List.getElem?_set]
 by_cases h:k=id
 · subst h; rw [if_pos rfl,if_pos (List.getElem?_eq_some_iff.1 he).1,if_pos rfl]
 · rw [if_neg (Ne.symm h),if_neg h]
theorem setE_back {cs:List Ent} {id i j k:Nat} {e e':Ent} (he:cs[id]?=some e) (h:(setE cs id i j)[k]?=some e'):∃ e0,cs[k]?=some e0∧e0.lits=e'.lits∧e0.gone=e'.gone∧(k≠id→e0=e')∧(k=id→e'.a1=i∧e'.a2=j):=by
 rw [setE_at he] at h
 split at h
 · rename_i hk
   cases h
   exact ⟨e,by rw [hk]; exact he,rfl,rfl,fun h=>absurd hk h,fun _=>⟨rfl,rfl⟩⟩
 · rename_i hk
   exact ⟨e',h,rfl,rfl,fun _=>rfl,fun h=>absurd h hk⟩
theorem WInv.watch {s:WS} (I:WInv s) {id i j:Nat} {rest:List Nat} {e:Ent} {y z:Int} (ht:s.todo=id::rest) (he:s.cs[id]?=some e) (hy:e.lits[i]?=some y) (hz:e.lits[j]?=some z) (hn:y≠z)
  (ty:trI s.l y≠-1) (tz:trI s.l z≠-1):WInv { s with cs:=setE s.cs id i j,W:=updW (updW s.W y (s.W y++[id])) z (s.W z++[id]),todo:=rest }:=by
 have hW:∀ x,updW (updW s.W y (s.W y++[id])) z (s.W z++[id]) x=if x=y∨x=z then s.W x++[id] else s.W x:=by
  intro x
  unfold updW
  by_cases h1:x=z
  · subst h1; rw [if_pos rfl,if_pos (.inr rfl)]
  · rw [if_neg h1]
    by_cases h2:x=y
    · subst h2; rw [if_pos rfl,if_pos (.inl rfl)]
    · rw [if_neg h2,if_neg (fun h=>h.elim h2 h1)]
 have hnW:∀ x,id∉s.W x:=fun x hx=>(I.wL x id hx).2 (by rw [ht]; exact List.mem_cons_self ..)
 have hmem:∀ x k,k∈updW (updW s.W y (s.W y++[id])) z (s.W z++[id]) x↔k∈s.W x∨(k=id∧(x=y∨x=z)):=by
  intro x k
  rw [hW]
  split
  · rename_i h; rw [List.mem_append,List.mem_singleton]; exact ⟨fun h2=>h2.imp_right fun h3=>⟨h3,h⟩,fun h2=>h2.imp_right fun h3=>h3.1⟩
  · rename_i h; exact ⟨.inl,fun h2=>h2.resolve_right fun h3=>h h3.2⟩
 have htn:=I.todoN
 rw [ht,List.nodup_cons] at htn
 have hij:i≠j:=fun h=>hn (by subst h; rw [hy] at hz; exact Option.some.inj hz)
 have pair_id:Pair (updW (updW s.W y (s.W y++[id])) z (s.W z++[id])) id { e with a1:=i,a2:=j } y z:=⟨hij,hy,hz,(hmem _ _).2 (.inr ⟨rfl,.inl rfl⟩),(hmem _ _).2 (.inr ⟨rfl,.inr rfl⟩)⟩
 have pair_up:∀ {k:Nat} {e':Ent} {u v:Int},Pair s.W k e' u v→Pair (updW (updW s.W y (s.W y++[id])) z (s.W z++[id])) k e' u v:=fun hp=>⟨hp.ne,hp.l1,hp.l2,(hmem _ _).2 (.inl hp.m1),(hmem _ _).2 (.inl hp.m2)⟩
 exact {
  good:=I.good
  lvs:=I.lvs
  hv:=I.hv
  cl:=fun e' he'=>by
    obtain ⟨k,hk⟩:=List.getElem?_of_mem he'
    obtain ⟨e0,h0,h1,_⟩:=setE_back he hk
    rw [← h1]; exact I.cl e0 (List.mem_of_getElem? h0)
  head:=I.head
  todoN:=htn.2
  todoL:=fun k hk=>by show k<(setE s.cs id i j).length; rw [setE_len]; exact I.todoL k (by rw [ht]; exact List.mem_cons_of_mem _ hk)
  wN:=fun x=>by
    show (updW (updW s.W y (s.W y++[id])) z (s.W z++[id]) x).Nodup
    rw [hW]
    split
    · rw [List.nodup_append]; exact ⟨I.wN x,by simp,fun a ha b hb=>by rw [List.mem_singleton] at hb; subst hb; exact fun h=>hnW x (h ▸ ha)⟩
    · exact I.wN x
  wL:=fun x k hk=>by
    show k<(setE s.cs id i j).length∧_
    rw [setE_len]
    rcases (hmem x k).1 hk with h | ⟨rfl,_⟩
    · exact ⟨(I.wL x k h).1,fun hm=>(I.wL x k h).2 (by rw [ht]; exact List.mem_cons_of_mem _ hm)⟩
    · exact ⟨(List.getElem?_eq_some_iff.1 he).1,htn.1⟩
  w1:=fun x k hk e' he' hg=>by
    obtain ⟨e0,h0,h1,h2,h3,h4⟩:=setE_back he he'
    rcases (hmem x k).1 hk with h | ⟨rfl,hx⟩
    · have hki:k≠id:=fun h5=>hnW x (h5 ▸ h)
      have:=h3 hki
      subst this
      obtain ⟨u,v,hp,hx⟩:=I.w1 x k h e0 h0 hg
      exact ⟨u,v,pair_up hp,hx⟩
    · rw [setE_at he,if_pos rfl] at he'
      cases he'
      exact ⟨y,z,pair_id,hx⟩
  main:=fun k e' he' hg hk=>by
    by_cases hki:k=id
    · subst hki
      rw [setE_at he,if_pos rfl] at he'
      cases he'
      exact .inr ⟨y,z,pair_id,.inl ty,.inl tz⟩
    · obtain ⟨e0,h0,h1,h2,h3,h4⟩:=setE_back he he'
      have:=h3 hki
      subst this
      rcases I.main k e0 h0 hg (by rw [ht,List.mem_cons]; exact fun h=>h.elim hki hk) with h | ⟨u,v,hp,h5⟩
      · exact .inl h
      · exact .inr ⟨u,v,pair_up hp,h5⟩
  rs:=fun k t hk hp=>by
    obtain ⟨e0,h0,h1,h2⟩:=I.rs k t hk hp
    by_cases hki:t.rs.toNat=id
    · rw [hki] at h0; rw [he] at h0; cases h0
      exact ⟨{ e with a1:=i,a2:=j },by show (setE s.cs id i j)[_]?=_; rw [setE_at he,if_pos hki],h1,h2⟩
    · exact ⟨e0,by show (setE s.cs id i j)[_]?=_; rw [setE_at he,if_neg hki]; exact h0,h1,h2⟩ }
structure FInv (s:WS) (lit:Int) (rest:List Nat):Prop where
 inv:WInv { s with W:=updW s.W lit (s.W lit++rest) }
 hd:(lits s.l)[s.head]?=some (-lit)
 td:s.todo=[]
 kept:∀ id∈s.W lit,∀ e,s.cs[id]?=some e→e.gone=false→Sat s.l e.lits
section
variable {s:WS} {lit:Int} {rest:List Nat}
theorem WInv.begin (I:WInv s) (ht:s.todo=[]) (hh:(lits s.l)[s.head]?=some (-lit)):FInv { s with W:=updW s.W lit [] } lit (s.W lit) where
 inv:=by
  show WInv { s with W:=updW (updW s.W lit []) lit (updW s.W lit [] lit++s.W lit) }
  rw [updW_same,List.nil_append,updW_upd,updW_id]
  exact I
 hd:=hh
 td:=ht
 kept id hid:=by
  have:id∈updW s.W lit [] lit:=hid
  rw [updW_same] at this
  exact absurd this List.not_mem_nil
theorem FInv.mem (F:FInv s lit rest) {x:Int} {k:Nat}:k∈updW s.W lit (s.W lit++rest) x↔k∈s.W x∨(x=lit∧k∈rest):=by
 unfold updW
 split
 · rename_i h; subst h; rw [List.mem_append]; exact ⟨fun h=>h.imp_right fun h=>⟨rfl,h⟩,fun h=>h.imp_right fun h=>h.2⟩
 · rename_i h; exact ⟨.inl,fun h2=>h2.resolve_right fun h3=>h h3.1⟩
theorem WInv.fewer (I:WInv s) {W':Int→List Nat} (hn:∀ x,(W' x).Nodup) (hs:∀ x,∀ k∈W' x,k∈s.W x) (hk:∀ x,∀ k∈s.W x,∀ e,s.cs[k]?=some e→e.gone=false→k∈W' x):WInv { s with W:=W' } where
 good:=I.good
 lvs:=I.lvs
 hv:=I.hv
 cl:=I.cl
 head:=I.head
 todoN:=I.todoN
 todoL:=I.todoL
 wN:=hn
 wL x k h:=I.wL x k (hs x k h)
 w1 x k h e he hg:=by
  obtain ⟨y,z,hp,hx⟩:=I.w1 x k (hs x k h) e he hg
  exact ⟨y,z,⟨hp.ne,hp.l1,hp.l2,hk _ _ hp.m1 e he hg,hk _ _ hp.m2 e he hg⟩,hx⟩
 main k e he hg hn:=by
  rcases I.main k e he hg hn with h | ⟨y,z,hp,h3,h4⟩
  · exact .inl h
  · exact .inr ⟨y,z,⟨hp.ne,hp.l1,hp.l2,hk _ _ hp.m1 e he hg,hk _ _ hp.m2 e he hg⟩,h3,h4⟩
 rs:=I.rs
theorem FInv.gone {id:Nat} (F:FInv s lit (id::rest)) (hg:∀ e,s.cs[id]?=some e→e.gone=true):FInv s lit rest where
 inv:=by
  have:=F.inv.fewer (W':=updW s.W lit (s.W lit++rest)) (fun x=>?_) (fun x k hk=>?_) (fun x k hk e he hge=>?_)
  · exact this
  · have hx:=F.inv.wN x
    have hx':(updW s.W lit (s.W lit++id::rest) x).Nodup:=hx
    unfold updW at hx' ⊢
    split
    · rename_i h
      rw [if_pos h] at hx'
      exact hx'.sublist (List.Sublist.append_left (List.sublist_cons_self _ _) _)
    · rename_i h
      rw [if_neg h] at hx'
      exact hx'
  · show k∈updW s.W lit (s.W lit++id::rest) x
    unfold updW at hk ⊢
    split
    · rename_i h
      rw [if_pos h] at hk
      rw [List.mem_append,List.mem_cons]
      rw [List.mem_append] at hk
      exact hk.imp_right .inr
    · rename_i h; rw [if_neg h] at hk; exact hk
  · have hk':k∈updW s.W lit (s.W lit++id::rest) x:=hk
    have he':s.cs[k]?=some e:=he
    unfold updW at hk' ⊢
    split
    · rename_i h
      rw [if_pos h,List.mem_append,List.mem_cons] at hk'
      rw [List.mem_append]
      refine hk'.imp_right fun h2=>h2.resolve_left fun h3=>?_
      subst h3
      rw [hg e he'] at hge; cases hge
    · rename_i h; rw [if_neg h] at hk'; exact hk'
 hd:=F.hd
 td:=F.td
 kept:=F.kept
theorem FInv.pair {id:Nat} {e:Ent} (F:FInv s lit (id::rest)) (he:s.cs[id]?=some e) (hg:e.gone=false):∃ y z,e.a1≠e.a2∧e.lits[e.a1]?=some y∧e.lits[e.a2]?=some z∧y≠z∧(lit=y∨lit=z) ∧
  (y≠lit→id∈s.W y)∧(z≠lit→id∈s.W z):=by
 obtain ⟨y,z,hp,hx⟩:=F.inv.w1 lit id (F.mem.2 (.inr ⟨rfl,List.mem_cons_self ..⟩)) e he hg
 have hr:=(F.inv.cl e (List.mem_of_getElem? he)).1
 refine ⟨y,z,hp.ne,hp.l1,hp.l2,rise_ne hr hp.l1 hp.l2 hp.ne,hx,fun hn=>?_,fun hn=>?_⟩
 · exact (F.mem.1 hp.m1).resolve_right fun h=>hn h.1
 · exact (F.mem.1 hp.m2).resolve_right fun h=>hn h.1
theorem FInv.keep {id:Nat} {e:Ent} (F:FInv s lit (id::rest)) (he:s.cs[id]?=some e) (hs:Sat s.l e.lits):FInv { s with W:=updW s.W lit (s.W lit++[id]) } lit rest where
 inv:=by
  show WInv { s with W:=updW (updW s.W lit (s.W lit++[id])) lit (updW s.W lit (s.W lit++[id]) lit++rest) }
  rw [updW_same,updW_upd,List.append_assoc]
  exact F.inv
 hd:=F.hd
 td:=F.td
 kept k hk e' he' hg:=by
  have hk':k∈updW s.W lit (s.W lit++[id]) lit:=hk
  rw [updW_same,List.mem_append,List.mem_singleton] at hk'
  rcases hk' with h | rfl
  · exact F.kept k h e' he' hg
  · rw [he] at he'; cases he'; exact hs
theorem FInv.keepPush {id:Nat} {e:Ent} {x:Int} (F:FInv s lit (id::rest)) (he:s.cs[id]?=some e) (hg:e.gone=false) (hu:UnitAt s.l e.lits x) (hid:id<2^62) :
   FInv { s with l:=s.l++[⟨x,id,s.level⟩],W:=updW s.W lit (s.W lit++[id]) } lit rest:=by
 have hc:=(F.inv.cl e (List.mem_of_getElem? he)).2 x hu.1
 have hf:find s.l x.natAbs=none:=by
   cases h:find s.l x.natAbs with
   | none=>rfl
   | some k =>
     obtain ⟨t,ht,h2,_⟩:=find_some h
     have:=tr_at F.inv.good ht (x:=x) h2.symm
     rw [hu.2.1] at this
     split at this <;> omega
 have G:=F.inv.grow (t:=⟨x,id,s.level⟩) (n:=s.level) hf hc.1 hc.2 (.push x id F.inv.lvs) (fun _=>⟨e,by show s.cs[((id:Nat):Int).toNat]?=_; rw [Int.toNat_natCast]; exact he,hg,hu⟩)
 refine ⟨?_,?_,F.td,fun k hk e' he' hg'=>?_⟩
 · show WInv { s with l:=s.l++[⟨x,id,s.level⟩],W:=updW (updW s.W lit (s.W lit++[id])) lit (updW s.W lit (s.W lit++[id]) lit++rest) }
   rw [updW_same,updW_upd,List.append_assoc]
   exact G
 · show (lits (s.l++[_]))[s.head]?=_
   rw [lits_push,List.getElem?_append_left (List.getElem?_eq_some_iff.1 F.hd).1]; exact F.hd
 · have hk':k∈updW s.W lit (s.W lit++[id]) lit:=hk
   rw [updW_same,List.mem_append,List.mem_singleton] at hk'
   rcases hk' with h | rfl
   · exact (F.kept k h e' he' hg').mono _
   · have he'':s.cs[k]?=some e':=he'
     rw [he] at he''; cases he''
     exact ⟨x,hu.1,tr_one.2 (by show x∈lits (s.l++[_]); rw [lits_push]; exact List.mem_append_right _ (List.mem_singleton.2 rfl))⟩
theorem FInv.fail {id:Nat} (F:FInv s lit (id::rest)):WInv { s with W:=updW (updW s.W lit (s.W lit++[id])) lit ((s.W lit++[id])++rest) }:=by
 rw [updW_upd,List.append_assoc]
 exact F.inv
theorem FInv.done (F:FInv s lit []):WInv { s with head:=s.head+1 }:=by
 have I:=F.inv
 have hW:updW s.W lit (s.W lit++[])=s.W:=by rw [List.append_nil,updW_id]
 rw [hW] at I
 have hlt:=(List.getElem?_eq_some_iff.1 F.hd).1
 unfold lits at hlt
 rw [List.length_map] at hlt
 exact {
  good:=I.good,lvs:=I.lvs,hv:=I.hv,cl:=I.cl,head:=hlt,todoN:=I.todoN,todoL:=I.todoL,wN:=I.wN,wL:=I.wL,w1:=I.w1,rs:=I.rs
  main:=fun id e he hg hn=>by
   rcases I.main id e he hg hn with h | ⟨y,z,hp,h3,h4⟩
   · exact .inl h
   · have key:∀ x,id∈s.W x→okW s.l s.head x→Sat s.l e.lits∨okW s.l (s.head+1) x:=by
       intro x hx ho
       rcases ho with h | ⟨k,hk,h⟩
       · exact .inr (.inl h)
       · by_cases ek:k=s.head
         · subst ek
           rw [F.hd] at h
           have:x=lit:=by have:=Option.some.inj h; omega
           subst this
           exact .inl (F.kept id hx e he hg)
         · exact .inr (.inr ⟨k,by omega,h⟩)
     rcases key y hp.m1 h3 with h | h
     · exact .inl h
     · rcases key z hp.m2 h4 with h' | h'
       · exact .inl h'
       · exact .inr ⟨y,z,hp,h,h'⟩ }
theorem FInv.move {id i j:Nat} {e:Ent} {y z:Int} (F:FInv s lit (id::rest)) (he:s.cs[id]?=some e) (hg:e.gone=false) (hy:e.lits[i]?=some y) (hz:e.lits[j]?=some z) (hyz:y≠z) (hyl:y≠lit) (hzl:z≠lit)
   (hyW:id∈s.W y) (hzW:∀ w,(e.lits[e.a1]?=some w∨e.lits[e.a2]?=some w)→w≠z) (tz:trI s.l z≠-1):FInv { s with cs:=setE s.cs id i j,W:=updW s.W z (s.W z++[id]) } lit rest:=by
 have I:=F.inv
 have hij:i≠j:=fun h=>hyz (by subst h; rw [hy] at hz; exact Option.some.inj hz)
 have hidn:id∉s.W z:=fun h=>by
   obtain ⟨u,v,hp,hx⟩:=I.w1 z id (F.mem.2 (.inl h)) e he hg
   rcases hx with rfl | rfl
   · exact hzW _ (.inl hp.l1) rfl
   · exact hzW _ (.inr hp.l2) rfl
 have hWl:updW s.W z (s.W z++[id]) lit=s.W lit:=updW_other _ _ (Ne.symm hzl)
 have hndl:=I.wN lit
 have hndl':(updW s.W lit (s.W lit++id::rest) lit).Nodup:=hndl
 rw [updW_same] at hndl'
 have hidl:id∉s.W lit∧id∉rest:=by
   rw [List.nodup_append] at hndl'
   exact ⟨fun h=>hndl'.2.2 id h id (List.mem_cons_self ..) rfl,(List.nodup_cons.1 hndl'.2.1).1⟩
 have hmem:∀ x k,k∈updW (updW s.W z (s.W z++[id])) lit (updW s.W z (s.W z++[id]) lit++rest) x↔(k∈updW s.W lit (s.W lit++id::rest) x∧¬ (k=id∧x=lit))∨(k=id∧x=z):=by
   intro x k
   rw [hWl]
   unfold updW
   by_cases h1:x=lit
   · subst h1
     rw [if_pos rfl,if_pos rfl,List.mem_append,List.mem_append,List.mem_cons]
     constructor
     · intro h
       refine .inl ⟨h.imp_right .inr,fun h2=>?_⟩
       obtain ⟨rfl,_⟩:=h2
       exact h.elim hidl.1 hidl.2
     · rintro (⟨h,h2⟩ | ⟨_,h2⟩)
       · rcases h with h | h | h
         · exact .inl h
         · exact absurd ⟨h,rfl⟩ h2
         · exact .inr h
       · exact absurd h2.symm hzl
   · rw [if_neg h1,if_neg h1]
     by_cases h2:x=z
     · subst h2
       rw [if_pos rfl,List.mem_append,List.mem_singleton]
       constructor
       · rintro (h | h)
         · exact .inl ⟨h,fun h3=>h1 h3.2⟩
         · exact .inr ⟨h,rfl⟩
       · rintro (⟨h,_⟩ | ⟨h,_⟩)
         · exact .inl h
         · exact .inr h
     · rw [if_neg h2]
       exact ⟨fun h=>.inl ⟨h,fun h3=>h1 h3.2⟩,fun h=>h.elim (fun h=>h.1) fun h=>absurd h.2 h2⟩
 have pair_id:Pair (updW (updW s.W z (s.W z++[id])) lit (updW s.W z (s.W z++[id]) lit++rest)) id { e with a1:=i,a2:=j } y z :=
   ⟨hij,hy,hz,(hmem _ _).2 (.inl ⟨F.mem.2 (.inl hyW),fun h=>hyl h.2⟩),(hmem _ _).2 (.inr ⟨rfl,rfl⟩)⟩
 have pair_up:∀ {k:Nat} {e':Ent} {u v:Int},k≠id→Pair (updW s.W lit (s.W lit++id::rest)) k e' u v→Pair (updW (updW s.W z (s.W z++[id])) lit (updW s.W z (s.W z++[id]) lit++rest)) k e' u v:=fun hk hp =>
   ⟨hp.ne,hp.l1,hp.l2,(hmem _ _).2 (.inl ⟨hp.m1,fun h=>hk h.1⟩),(hmem _ _).2 (.inl ⟨hp.m2,fun h=>hk h.1⟩)⟩
 have htd:=F.td
 have hoky:Sat s.l e.lits∨okW s.l s.head y:=by
   rcases I.main id e he hg (by show id∉s.todo; rw [htd]; exact List.not_mem_nil) with h | ⟨u,v,hp,h3,h4⟩
   · exact .inl h
   · obtain ⟨u',v',hp',hx⟩:=I.w1 y id (F.mem.2 (.inl hyW)) e he hg
     have e1:u=u':=by have:=hp.l1; rw [hp'.l1] at this; exact (Option.some.inj this).symm
     have e2:v=v':=by have:=hp.l2; rw [hp'.l2] at this; exact (Option.some.inj this).symm
     subst e1 e2
     rcases hx with rfl | rfl
     · exact .inr h3
     · exact .inr h4
 refine ⟨?_,F.hd,F.td,fun k hk e' he' hg'=>?_⟩
 · exact {
     good:=I.good
     lvs:=I.lvs
     hv:=I.hv
     cl:=fun e' he'=>by
       obtain ⟨k,hk⟩:=List.getElem?_of_mem he'
       obtain ⟨e0,h0,h1,_⟩:=setE_back he hk
       rw [← h1]; exact I.cl e0 (List.mem_of_getElem? h0)
     head:=I.head
     todoN:=I.todoN
     todoL:=fun k hk=>by show k<(setE s.cs id i j).length; rw [setE_len]; exact I.todoL k hk
     wN:=fun x=>by
       show (updW (updW s.W z (s.W z++[id])) lit (updW s.W z (s.W z++[id]) lit++rest) x).Nodup
       rw [hWl]
       unfold updW
       by_cases h1:x=lit
       · rw [if_pos h1]
         exact hndl'.sublist (List.Sublist.append_left (List.sublist_cons_self _ _) _)
       · rw [if_neg h1]
         have hx:=I.wN x
         have hx':(updW s.W lit (s.W lit++id::rest) x).Nodup:=hx
         rw [updW_other _ _ h1] at hx'
         by_cases h2:x=z
         · subst h2
           rw [if_pos rfl,List.nodup_append]
           exact ⟨hx',by simp,fun a ha b hb=>by rw [List.mem_singleton] at hb; subst hb; exact fun h=>hidn (h ▸ ha)⟩
         · rw [if_neg h2]; exact hx'
     wL:=fun x k hk=>by
       show k<(setE s.cs id i j).length∧_
       rw [setE_len]
       rcases (hmem x k).1 hk with h | ⟨rfl,_⟩
       · exact I.wL x k h.1
       · exact ⟨(List.getElem?_eq_some_iff.1 he).1,by show k∉s.todo; rw [htd]; exact List.not_mem_nil⟩
     w1:=fun x k hk e' he' hg'=>by
       obtain ⟨e0,h0,h1,h2,h3,h4⟩:=setE_back he he'
       by_cases hki:k=id
       · subst hki
         rw [setE_at he,if_pos rfl] at he'
         cases he'
         refine ⟨y,z,pair_id,?_⟩
         rcases (hmem x k).1 hk with ⟨h,h5⟩ | ⟨_,h⟩
         · obtain ⟨u,v,hp,hx⟩:=I.w1 x k h e he hg
           obtain ⟨u',v',hp',hy'⟩:=I.w1 y k (F.mem.2 (.inl hyW)) e he hg
           obtain ⟨u2,v2,hp2,hl'⟩:=I.w1 lit k (F.mem.2 (.inr ⟨rfl,List.mem_cons_self ..⟩)) e he hg
           have e1:u=u':=by have:=hp.l1; rw [hp'.l1] at this; exact (Option.some.inj this).symm
           have e2:v=v':=by have:=hp.l2; rw [hp'.l2] at this; exact (Option.some.inj this).symm
           have e3:u=u2:=by have:=hp.l1; rw [hp2.l1] at this; exact (Option.some.inj this).symm
           have e4:v=v2:=by have:=hp.l2; rw [hp2.l2] at this; exact (Option.some.inj this).symm
           subst e1 e2 e3 e4
           have hxl:x≠lit:=fun h6=>h5 ⟨rfl,h6⟩
           rcases hx with rfl | rfl <;> rcases hy' with h6 | h6 <;> rcases hl' with h7 | h7 <;> first
            | exact .inl h6.symm
            | exact absurd h7.symm hxl
            | exact absurd (h6.trans h7.symm) hyl
         · exact .inr h
       · have:=h3 hki
         subst this
         have hk':k∈updW s.W lit (s.W lit++id::rest) x:=((hmem x k).1 hk).elim (fun h=>h.1) fun h=>absurd h.1 hki
         obtain ⟨u,v,hp,hx⟩:=I.w1 x k hk' e0 h0 hg'
         exact ⟨u,v,pair_up hki hp,hx⟩
     main:=fun k e' he' hg' hk=>by
       by_cases hki:k=id
       · subst hki
         rw [setE_at he,if_pos rfl] at he'
         cases he'
         rcases hoky with h | h
         · exact .inl h
         · exact .inr ⟨y,z,pair_id,h,.inl tz⟩
       · obtain ⟨e0,h0,h1,h2,h3,h4⟩:=setE_back he he'
         have:=h3 hki
         subst this
         rcases I.main k e0 h0 hg' hk with h | ⟨u,v,hp,h5⟩
         · exact .inl h
         · exact .inr ⟨u,v,pair_up hki hp,h5⟩
     rs:=fun k t hk hp=>by
       obtain ⟨e0,h0,h1,h2⟩:=I.rs k t hk hp
       by_cases hki:t.rs.toNat=id
       · have h0':s.cs[t.rs.toNat]?=some e0:=h0
         rw [hki,he] at h0'; cases h0'
         exact ⟨{ e with a1:=i,a2:=j },by show (setE s.cs id i j)[_]?=_; rw [setE_at he,if_pos hki],h1,h2⟩
       · exact ⟨e0,by show (setE s.cs id i j)[_]?=_; rw [setE_at he,if_neg hki]; exact h0,h1,h2⟩ }
 · have hk':k∈updW s.W z (s.W z++[id]) lit:=hk
   rw [hWl] at hk'
   have hki:k≠id:=fun h=>hidl.1 (h ▸ hk')
   obtain ⟨e0,h0,h1,h2,h3,h4⟩:=setE_back he he'
   rw [← h1]
   exact F.kept k hk' e0 h0 (h2.trans hg')
end
end Xe
