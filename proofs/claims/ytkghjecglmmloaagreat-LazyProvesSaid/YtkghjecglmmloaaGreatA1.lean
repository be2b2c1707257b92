/- Package cdcl: a search, walked. -/
import Derived.Test.YtkghjecglmmloaaGreatC9
import Derived.Test.YtkghjecglmmloaaGreatL20
namespace Xe
open Go Tp Go.Proofs Hq
set_option maxRecDepth 16000
set_option maxHeartbeats 4000000
section
variable {h:Heap} {xb cb:Nat} {k0:Nat→Option CT} {sc:Scr} {a:ScrA} {AA:Option Addr} {ac:Nat} {am:List Int} {K:List (List Int)} {vars T N1:Nat} {N2:Nat × List (List Int × Bool)} {m0:Nat} {c0:CSt} {q0:Cnt} {b0:Nat}
structure AsJ (h1:Heap) (xb:Nat) (l:List St) (am:List Int) (AA:Option Addr) (ac:Nat) (ρ:Env) (h:Heap):Prop where
 r0:ρ 0=.pointer (some ⟨xb,0,none⟩)
 r45:ρ 45=.slice AA am.length ac
 r46:ρ 46=.int .i64 am.length
 he:h=h1
 ex:∃ i:Nat,ρ 47=.int .i64 i∧i≤am.length∧∀ (j:Nat) x,j<i→am[j]?=some x→trI l x=1
theorem LessS.pot {s s':WS} (L:LessS s s'):potS s'=potS s∧frS s'=frS s:=by
 unfold potS frS
 rw [L.vars,L.l,L.level]
 exact ⟨rfl,rfl⟩
theorem LessS.asI {s s':WS} (L:LessS s s') (A:AsI s am):AsI s' am:=by
 unfold AsI at *
 rw [L.l,L.level]
 exact A
theorem backC'_0 {s:WS}:(backC' s 0).level=0∧(backC' s 0).vars=s.vars∧(backC' s 0).cs.length=s.cs.length:=by
 unfold backC'
 split
 · exact ⟨rfl,rfl,rfl⟩
 · rename_i h; exact ⟨by omega,rfl,rfl⟩
theorem nil_blk {N:Nat} {k:Nat→Option CT}:∀ y,blk none y→N≤y∧k y=none:=fun y ⟨_,h,_⟩=>(nomatch h)
theorem CoreM.free {h:Heap} {cb:Nat} {k:Nat→Option CT} {c:CSt} (C:CoreM h cb k c) {y:Nat} (hy:h.size≤y):k y=none:=by
 cases hc:k y with
 | none=>rfl
 | some t=>have:=C.low y t hc; omega
theorem run_ok (R0:RunS h xb cb k0 sc a AA ac am K vars T N1 N2 m0 h k0 c0 q0 b0) (hAm:∀ x∈am,1≤x.natAbs∧x.natAbs≤vars) (hv:vars≤10000) (Z:ScrS sc) (hN1:N1<2^40) (hN2:N2.1<2^40) :
   CallsH Tryz.prog 91 [.pointer (some ⟨xb,0,none⟩)] h fun r h'=>RunR h xb cb k0 sc a AA ac am K vars T N1 N2 r h':=by
 refine calls_of 91 [.tmp 2,.tmp 3,.tmp 4] Go.Proofs.Tryz.func91 rfl rfl rfl ?_
 simp -implicitDefEqProofs (disch:=omega) [go_sem]
 refine scopeLG 0 (RunJ h xb cb k0 sc a AA ac am K vars T N1 N2) m0 (by kernel_rfl) ?_ ?_
 · exact ⟨rfl,k0,c0,q0,b0,R0⟩
 · clear R0
   rintro m ρ h1 ⟨r0,k,c,q,b,R⟩
   have hm:=R.pos
   obtain ⟨zp,zg,zr,zd,zs0,zs1⟩:=Z
   have Z:ScrS sc:=⟨zp,zg,zr,zd,zs0,zs1⟩
   obtain ⟨bb,hb,p,O,n,act,LA,lc,GA,gc,vs,C⟩:=R.X.C.ex
   have x0:=R.X.B.at' 0 _ rfl
   have b0':=C.B.at' 0 _ rfl
   simp -implicitDefEqProofs (disch:=omega) [go_sem,r0,x0,b0']
   refine useC (prop_m C.M R.S.I) ?_
   rintro _ h2 ⟨p2,s2,M2,st2,I2,ad,hor⟩
   obtain ⟨k2,C2,ks2⟩:=C.base M2 st2 ad.vars
   have X2:=R.X.next ⟨_,_,_,_,_,_,_,_,_,_,_,C2⟩ ks2
   have S2:SInv K s2 c.ln c.lg:=R.S.adv I2 ad
   have HF2:=R.HF.adv ad
   have A2:=R.A.adv ad
   have sx2:=R.sx.trans ks2.x
   have hlen2:s2.cs.length=c.s.cs.length:=by
     have:=congrArg List.length ad.cs
     unfold absC at this
     rwa [List.length_map,List.length_map] at this
   have hv2:s2.vars=vars:=ad.vars.trans R.hv
   have hP2:potOk vars sc.res.length { c with s:=s2 } q b m:=by
     have:=R.P
     unfold potOk at this ⊢
     rw [show ({ c with s:=s2 }:CSt).s.level=c.s.level from ad.level]
     exact this
   have hn1:=R.n1
   have hn2:=R.n2.1
   have hp2:=R.n2.2
   have hT:=R.T
   have hst:=R.st
   have hQ:=R.Q
   rcases hor with ⟨id,e,rfl,he,hg,hf⟩ | ⟨rfl,htd,hhd⟩
   · -- a clause fails
     have x02:=X2.B.at' 0 _ rfl
     have b02:=C2.B.at' 0 _ rfl
     simp -implicitDefEqProofs (disch:=omega) [go_sem,r0,x02,b02]
     refine useC (btrail_m C2.M) ?_
     rintro _ h3 ⟨rfl,rfl⟩
     simp -implicitDefEqProofs (disch:=omega) [go_sem,r0,x02,b02]
     refine useC (tlevel_ok C2.M.T) ?_
     rintro _ h3 ⟨rfl,rfl⟩
     have hl2:=Bud.level I2
     have hl2':s2.level≤vars:=by omega
     by_cases hl0:s2.level=0
     · have hl0':(s2.level:Int)=0:=by omega
       simp -implicitDefEqProofs (disch:=omega) [go_sem,r0,hl0,hl0']
       exact ⟨k2,{ c with s:=s2 },q,X2,sx2,S2,HF2,hv2,⟨hst,by show c.st≤T; omega⟩,by show s2.cs.length≤_; omega,⟨by show c.lg.length+c.ln.length≤_; omega,hp2⟩,.none (cl:=[]) (SlAt.nil _) nil_blk (fun x hx=>(nomatch hx)) List.Pairwise.nil (Nat.zero_le _) (fun M hM hK ho=>S2.noM (cl:=[]) (fun x hx=>(nomatch hx)) (rup_none I2 S2.R (List.mem_of_getElem? he) hg hf hl0) M hM hK ho) (S2.rep (rup_none I2 S2.R (List.mem_of_getElem? he) hg hf hl0))⟩
     · have hl0':¬ (s2.level:Int)=0:=by omega
       simp -implicitDefEqProofs (disch:=omega) [go_sem,r0,hl0,hl0']
       refine useC (step_ok X2 ⟨zs1,zs0,hst⟩) ?_
       rintro _ h4 (⟨hse,rfl,rfl⟩ | ⟨hse,rfl,X4,st4⟩)
       · simp -implicitDefEqProofs (disch:=omega) [go_sem,r0]
         exact ⟨k2,{ c with s:=s2 },q,X2,sx2,S2,HF2,hv2,⟨hst,by show c.st≤T; omega⟩,by show s2.cs.length≤_; omega,⟨by show c.lg.length+c.ln.length≤_; omega,hp2⟩,.steps hse (by show c.st<T; omega)⟩
       · have hse':(c.st:Int)<sc.steps:=hse
         have hq41:q.r1<2^41∧q.r2<2^41∧q.d1<2^41∧q.d2<2^41∧q.cf<2^41:=by
           have:=hQ.r1; have:=hQ.r2; have:=hQ.d1; have:=hQ.d2; have:=hQ.cf; omega
         simp -implicitDefEqProofs (disch:=omega) [go_sem,r0]
         refine useC (teach_ok X4 S2 HF2 he hg hf (by show 0<s2.level; omega) (by show s2.vars≤10000; omega) (by show s2.cs.length+1<_; omega) (by show c.lg.length+1<_; omega) (by show c.ln.length+1<_; omega) hq41) ?_
         rintro _ h5 ⟨k5,c5,cl,lv,X5,sx5,HF5,S5,est5,hR5,hlv5,ecs5,hpd5,elg5,eln5⟩
         have hlv5':lv<s2.level:=hlv5
         simp -implicitDefEqProofs (disch:=omega) [go_sem,r0]
         have hcv:c5.s.vars=vars:=by rw [ecs5]; exact hv2
         have hcs5:c5.s.cs.length=c.s.cs.length+1:=by
           rw [ecs5]
           show (s2.cs++[_]).length=_
           rw [List.length_append,List.length_singleton,hlen2]
         refine ⟨m-1,by omega,r0,k5,c5,_,b-1,X5,(sx2.trans st4.x).trans sx5,S5,HF5,?_,hcv,?_,?_,?_,?_,?_,?_,?_⟩
         · rw [est5]
           exact ⟨hQ.r1,hQ.d1,by show q.r2+1≤c.st+1; have:=hQ.r2; omega,by show q.d2+1≤c.st+1; have:=hQ.d2; omega,by show q.cf+1≤c.st+1; have:=hQ.cf; omega,by show q.pk≤c.st+1; have:=hQ.pk; omega⟩
         · rw [est5]; show ((c.st+1:Nat):Int)≤_; omega
         · rw [ecs5]; exact A2.back (Nat.le_of_lt hlv5')
         · have hb:=R.B.fail ad
           exact Bud.back (s:=s2) (by rw [ecs5]; rfl) (by rw [ecs5]; rfl) (by rw [ecs5]; exact hlv5') (by omega) hpd5
         · exact hP2.conf (by have:=R.B.pos; omega) hl2' hm rfl
         · rw [est5]; show c.st+1+(m-1)≤T; omega
         · omega
         · rw [elg5,eln5]
           refine ⟨?_,hp2.trans (List.prefix_append _ _)⟩
           show (c.lg++[_]).length+(c.ln++[_]).length+_≤_
           rw [List.length_append,List.length_append,List.length_singleton,List.length_singleton]; omega
   · simp -implicitDefEqProofs (disch:=omega) [go_sem,r0]
     refine useC (rest_ok X2 S2 HF2 (by show c.lg.length+c.ln.length+1<_; omega) hQ Z (by show c.st≤_; omega)) ?_
     rintro _ h3 ⟨again,k3,c3,q3,rfl,X3,sx3,S3,HF3,est3,hlen3,Q3,hor⟩
     have est3':c3.st=c.st:=est3
     have hlen3':c3.lg.length+c3.ln.length≤c.lg.length+c.ln.length:=hlen3.1
     have hp3:N2.2 <+: c3.lg:=hp2.trans hlen3.2
     rcases hor with ⟨rfl,hr1,hr1',L3⟩ | ⟨rfl,hr1',L3⟩
     · simp -implicitDefEqProofs (disch:=omega) [go_sem,r0]
       obtain ⟨e1,e2,e3⟩:=backC'_0 (s:=s2)
       have hcv:c3.s.vars=vars:=by rw [L3.vars]; exact e2.trans hv2
       have hl3:c3.s.level=0:=by rw [L3.level]; exact e1
       have hcs3:c3.s.cs.length=c.s.cs.length:=by rw [L3.len]; exact e3.trans hlen2
       have hl2:=Bud.level I2
       refine ⟨m-1,by omega,r0,k3,c3,q3,2^vars,X3,sx2.trans sx3,S3,HF3,by rw [est3']; exact Q3,hcv,by rw [est3']; exact hst,AsI.ground S3.R hl3,by rw [← hcv]; exact Bud.ground hl3,?_,by omega,by omega,⟨by omega,hp3⟩⟩
       exact hP2.again (by have:=R.B.pos; omega) (by show s2.level≤vars; omega) hr1 hr1'
     · have L3':LessS s2 c3.s:=L3
       have hcv:c3.s.vars=vars:=by rw [L3'.vars]; exact hv2
       have hcs3:c3.s.cs.length=c.s.cs.length:=by rw [L3'.len]; exact hlen2
       have hquiet:=L3'.quiet (I2.quiet htd hhd)
       have hbud:potS c3.s+2^frS c3.s≤b:=by
         rw [L3'.pot.1,L3'.pot.2]
         exact R.B.quiet ad (I2.quiet htd hhd)
       have A3:=L3'.asI A2
       have hP3:potOk vars sc.res.length c3 q3 b m:=by
         unfold potOk at hP2 ⊢
         rw [hr1',L3'.level]
         exact hP2
       have sx3':=sx2.trans sx3
       have I3:=S3.I
       have hl3:=Bud.level I3
       obtain ⟨bb3,hb3,p3,O3,n3,act3,LA3,lc3,GA3,gc3,vs3,C3⟩:=X3.C.ex
       have x03:=X3.B.at' 0 _ rfl
       have x63:=X3.B.at' 6 _ rfl
       have b03:=C3.B.at' 0 _ rfl
       have hamN:am.length<2^40:=X3.lA
       simp -implicitDefEqProofs (disch:=omega) [go_sem,r0,x63]
       refine loopK (AsJ h3 xb c3.s.l am AA ac) (fun ρ _=>am.length-(intOf (ρ 47)).toNat) (by kernel_rfl) ?_ ?_
       · exact ⟨r0,rfl,rfl,rfl,0,rfl,by omega,fun j x hj=>by omega⟩
       · clear r0
         rintro ρ h4 ⟨r0,r45,r46,rfl,i,r47,hi,hall⟩
         by_cases hin:i<am.length
         · obtain ⟨bk,off,rfl,hc⟩:=X3.A.get (by rw [ints_len]; omega)
           obtain ⟨x,hx⟩:=some_at hin
           have cx:=hc _ _ (ints_at hx)
           have hxm:=List.mem_of_getElem? hx
           have hxr:=hAm x hxm
           simp -implicitDefEqProofs (disch:=omega) [go_sem,r0,r45,r46,r47,cx,x03,b03]
           refine useC (btrail_m C3.M) ?_
           rintro _ h5 ⟨rfl,rfl⟩
           simp -implicitDefEqProofs (disch:=omega) [go_sem,r0,r45,r46,r47,cx,x03,b03]
           refine useC (ttruth_ok C3.M.T (x:=x) (by omega) (by omega)) ?_
           rintro _ h5 ⟨rfl,rfl⟩
           rcases trI_cases c3.s.l x with ht | ht | ht
           · simp -implicitDefEqProofs (disch:=omega) [go_sem,r0,r45,r46,r47,ht]
             refine ⟨⟨r0,r45,r46,rfl,i+1,rfl,by omega,fun j y hj hy=>?_⟩,by omega⟩
             by_cases e:j=i
             · subst e; rw [hx] at hy; cases hy; exact ht
             · exact hall j y (by omega) hy
           · simp -implicitDefEqProofs (disch:=omega) [go_sem,r0,r45,r46,r47,ht]
             have hvv3:=I3.hv
             refine useC (cause_ok X3 I3 S3.R (by omega) (lit:=x) (by unfold okL; omega)) ?_
             rintro _ h6 ⟨f6,A',d',seen,out,cl,rfl,SA,ownA,CI,hmem,hpw,hlen⟩
             simp -implicitDefEqProofs (disch:=omega) [go_sem]
             have hz:=sx3'.fr.size
             have hrup:Rup (LvC c3.s.cs) (negs cl):=fun T P h=>CI.rup I3 S3.R ht P fun y hy=>by
               have:=h (-y) (mem_negs.2 (by rw [Int.neg_neg]; exact (hmem y).2 hy))
               rwa [Int.neg_neg] at this
             have hcl0:∀ y∈cl,y≠0:=fun y hy=>by
               rcases CI.c2 y ((hmem y).1 hy) with rfl | ⟨t,ht',_,rfl⟩
               · omega
               · have:=I3.good.rng t ht'; omega
             refine ⟨k3,c3,q3,X3.fr0 f6,sx3'.trans (KSt.fr0 f6).x,S3,HF3,hcv,⟨by rw [est3']; exact hst,by rw [est3']; omega⟩,by omega,⟨by omega,hp3⟩,.none SA (fun y hy=>⟨Nat.le_trans hz (ownA y hy),X3.C.free (ownA y hy)⟩) (fun y hy=>?_) hpw (by rw [hcv] at hlen; exact hlen) (S3.noM hcl0 hrup) (S3.rep hrup)⟩
             obtain ⟨kk,hk1,hk2⟩:=A3.open hxm (tr_m1.1 ht).1
             rcases CI.c2 y ((hmem y).1 hy) with rfl | ⟨t,ht',hrs,rfl⟩
             · exact hxm
             · exact hk2 t ht' hrs (by have:=I3.lvs.le t ht'; omega)
           · simp -implicitDefEqProofs (disch:=omega) [go_sem,r0,r45,r46,r47,ht]
             refine useC (step_ok X3 ⟨zs1,zs0,by rw [est3']; exact hst⟩) ?_
             rintro _ h6 (⟨hse,rfl,rfl⟩ | ⟨hse,rfl,X6,st6⟩)
             · simp -implicitDefEqProofs (disch:=omega) [go_sem,r0]
               exact ⟨k3,c3,q3,X3,sx3',S3,HF3,hcv,⟨by rw [est3']; exact hst,by rw [est3']; omega⟩,by omega,⟨by omega,hp3⟩,.steps hse (by omega)⟩
             · obtain ⟨bb6,hb6,p6,O6,n6,act6,LA6,lc6,GA6,gc6,vs6,C6⟩:=X6.C.ex
               have x06:=X6.B.at' 0 _ rfl
               have b06:=C6.B.at' 0 _ rfl
               have hpe:pushE c3.s.vars c3.s.l x (-1)=0:=pushE_0 hxr.1 (by omega) ht
               simp -implicitDefEqProofs (disch:=omega) [go_sem,r0,r45,r46,r47,x06,b06]
               refine useC (bdecide_m (show BaseM h6 bb6 p6 c3.s from C6.M) (x:=x) (by omega) (by omega)) ?_
               rintro _ h7 ⟨rfl,p7,M7,st7⟩
               obtain ⟨k7,C7,ks7⟩:=C6.base M7 st7 rfl
               obtain ⟨e1,e2⟩:=decS_l (s:=c3.s) hpe
               simp -implicitDefEqProofs (disch:=omega) [go_sem,r0]
               refine ⟨m-1,by omega,r0,k7,_,q3,b,X6.next ⟨_,_,_,_,_,_,_,_,_,_,_,C7⟩ ks7,(sx3'.trans st6.x).trans ks7.x,S3.dec x,fun u h1 h2 h0=>?_,?_,hcv,?_,A3.decA I3 hxm (tr_zero.1 ht).1 hpe,.inl (bud_dec I3 hbud hpe),hP3.dec hm e2 rfl,?_,?_,?_⟩
               · have h0':trI (decS c3.s x).l (u:Int)=0:=h0
                 rw [e1,tr_zero,lits_push] at h0'
                 simp only [List.mem_append,List.mem_singleton,not_or] at h0'
                 exact HF3 u h1 h2 (tr_zero.2 ⟨h0'.1.1,h0'.2.1⟩)
               · have hle:c.st≤c3.st+1:=by omega
                 exact ⟨Q3.r1,Q3.d1,Nat.le_trans Q3.r2 hle,Nat.le_trans Q3.d2 hle,Nat.le_trans Q3.cf hle,Nat.le_trans Q3.pk hle⟩
               · show ((c3.st+1:Nat):Int)≤_; omega
               · show c3.st+1+(m-1)≤T; omega
               · show c3.s.cs.length+(m-1)≤N1; omega
               · exact ⟨by show c3.lg.length+c3.ln.length+2*(m-1)≤N2.1; omega,hp3⟩
         · have hall':∀ x∈am,trI c3.s.l x=1:=fun x hx=>by
             obtain ⟨j,hj⟩:=List.getElem?_of_mem hx
             exact hall j x (by have:=(List.getElem?_eq_some_iff.1 hj).1; omega) hj
           simp -implicitDefEqProofs (disch:=omega) [go_sem,r0,r45,r46,r47]
           refine useC (free_ok X3) ?_
           rintro _ h5 ⟨rfl,f5⟩
           have X5:=X3.fr0 f5
           have sx5:=sx3'.trans (KSt.fr0 f5).x
           by_cases hfree:c3.s.l.length<c3.s.vars
           · simp -implicitDefEqProofs (disch:=omega) [go_sem,r0,hfree]
             refine useC (step_ok X5 ⟨zs1,zs0,by rw [est3']; exact hst⟩) ?_
             rintro _ h6 (⟨hse,rfl,rfl⟩ | ⟨hse,rfl,X6,st6⟩)
             · simp -implicitDefEqProofs (disch:=omega) [go_sem,r0]
               exact ⟨k3,c3,q3,X5,sx5,S3,HF3,hcv,⟨by rw [est3']; exact hst,by rw [est3']; omega⟩,by omega,⟨by omega,hp3⟩,.steps hse (by omega)⟩
             · simp -implicitDefEqProofs (disch:=omega) [go_sem,r0]
               have HF6:HFull { c3 with st:=c3.st+1 }:=HF3
               refine useC (decide_ok X6 I3 HF6 hfree (by have:=Q3.pk; omega) ⟨by omega,by omega⟩) ?_
               rintro _ h7 ⟨k7,S7,x,rfl,X7,sx7,HF7,hpe⟩
               have hpe':pushE c3.s.vars c3.s.l x (-1)=0:=hpe
               obtain ⟨e1,e2⟩:=decS_l (s:=c3.s) hpe'
               simp -implicitDefEqProofs (disch:=omega) [go_sem,r0]
               refine ⟨m-1,by omega,r0,k7,_,_,b,X7,(sx5.trans st6.x).trans sx7,S3.dec x,HF7,?_,hcv,?_,A3.decF I3 (fun y hy=>tr_one.1 (hall' y hy)) hpe',.inl (bud_dec I3 hbud hpe'),hP3.dec hm e2 rfl,?_,?_,?_⟩
               · have hle:c.st≤c3.st+1:=by omega
                 exact ⟨Q3.r1,Q3.d1,Nat.le_trans Q3.r2 hle,Nat.le_trans Q3.d2 hle,Nat.le_trans Q3.cf hle,by show q3.pk+1≤c3.st+1; have:=Q3.pk; omega⟩
               · show ((c3.st+1:Nat):Int)≤_; omega
               · show c3.st+1+(m-1)≤T; omega
               · show c3.s.cs.length+(m-1)≤N1; omega
               · exact ⟨by show c3.lg.length+c3.ln.length+2*(m-1)≤N2.1; omega,hp3⟩
           · simp -implicitDefEqProofs (disch:=omega) [go_sem,r0,hfree]
             refine useC (model_ok X5) ?_
             rintro _ h6 ⟨M',mc,rfl,RM,ownM,f6⟩
             simp -implicitDefEqProofs (disch:=omega) [go_sem,r0]
             have hz:=sx5.fr.size
             rw [truthsV_bs] at RM
             have hmb:∀ {x:Int},1≤x.natAbs→x.natAbs≤c3.s.vars→trI c3.s.l x=1→MB (bsOf c3.s.vars c3.s.l) x:=fun h1 h2 h3=>(MB_tr I3.good hfree h1 h2).2 h3
             rw [hcv] at RM hmb ⊢
             refine ⟨k3,c3,q3,X5.fr0 f6,sx5.trans (KSt.fr0 f6).x,S3,HF3,hcv,⟨by rw [est3']; exact hst,by rw [est3']; omega⟩,by omega,⟨by omega,hp3⟩,.model (bs:=bsOf vars c3.s.l) (bsOf_len _ _) RM (fun y hy=>⟨Nat.le_trans hz (ownM y hy),X5.C.free (ownM y hy)⟩) (fun d hd=>?_) fun x hx=>?_⟩
             · obtain ⟨id,e,_,he,hg,rfl⟩:=S3.there d hd
               have hab:=absC_at he
               rw [hg] at hab
               have hnf:=(hquiet id _ hab).2
               apply Classical.byContradiction
               intro hno
               refine hnf fun y hy=>?_
               have hyr:=(I3.cl e (List.mem_of_getElem? he)).2 y hy
               have hy0:=full_tr I3.good hfree hyr.1 hyr.2
               rcases trI_cases c3.s.l y with h | h | h
               · exact absurd ⟨y,hy,hmb hyr.1 (by omega) h⟩ hno
               · exact h
               · exact absurd h hy0
             · have hxr:=hAm x hx
               exact hmb hxr.1 hxr.2 (hall' x hx)
end
theorem KSt.transx {xb:Nat} {k k' k'':Nat→Option CT} {h h' h'':Heap} (a:KSt k k' h h') (b:KSx xb k' k'' h' h'') (hx:h.size≤xb):KSt k k'' h h'' where
 ext x t hx:=b.ext x t (a.ext x t hx)
 own x t hx:=(b.own x t hx).elim (a.own x t) fun h=>.inr (Nat.le_trans a.fr.size h)
 fr:=a.fr.trans' b.fr fun x hl hn=>by
  rcases hn with hn | hn
  · cases hc:k' x with
    | none=>exact absurd hc hn
    | some t=>exact (a.own x t hc).elim (fun h=>by rw [h]; exact fun h=>(nomatch h)) fun h=>by omega
  · omega
theorem NotK.to {k:Nat→Option CT} {xb xb':Nat} {A:Option Addr} {vs:List Value} {h:Heap} (H:NotK k xb A vs) (R:RowAt h A vs) (hx:h.size≤xb'):NotK k xb' A vs:=fun hv y hy=>⟨(H hv y hy).1,fun e=>by have:=row_lt R hv hy; omega⟩
theorem ScrK.to {k:Nat→Option CT} {xb xb':Nat} {s:Scr} {a:ScrA} {h:Heap} (H:ScrK k xb s a) (M:ScrM h s a) (hx:h.size≤xb'):ScrK k xb' s a:=⟨H.P.to M.P hx,H.G.to M.G hx,H.R.to M.R hx,H.D.to M.D hx⟩
theorem goodScr_S {sc:Scr} (h:goodScr sc=true):ScrS sc:=by
 unfold goodScr rightL at h
 simp only [Bool.and_eq_true,decide_eq_true_eq] at h
 obtain ⟨⟨⟨⟨⟨⟨h1,_⟩,h2,_⟩,h3,_⟩,h4⟩,h5⟩,h6⟩:=h
 exact ⟨h1,h4,h2,h3,h5,h6⟩
theorem load5 {h:Heap} {b:Nat} {v0 v1 v2 v3 v4:Value} (B:ListB h b [v0,v1,v2,v3,v4]):loadV (some (some 5)) (.pointer (some ⟨b,0,none⟩)) h=some (.agg #[v0,v1,v2,v3,v4]):=by
 have c0:=B.at' 0 _ rfl
 have c1:=B.at' 1 _ rfl
 have c2:=B.at' 2 _ rfl
 have c3:=B.at' 3 _ rfl
 have c4:=B.at' 4 _ rfl
 simp only [loadV,loadN,add_n,Nat.add_zero,Nat.zero_add,c0,c1,c2,c3,c4]
 rfl
theorem fill_sr {x0 z1 z2 z3 z4 z5 z6 z7 z8 z9 z10:Value} {P G R D A:Option Addr} {p pc g gc r rc d dc n ac:Nat} {st:Int}:fillA [(0,1),(1,5),(6,1),(7,1),(8,1),(9,1),(10,1)] [x0,z1,z2,z3,z4,z5,z6,z7,z8,z9,z10]
  [(1,.agg #[.slice P p pc,.slice G g gc,.slice R r rc,.slice D d dc,.int .i64 st]),(2,.slice A n ac)]=some #[x0,.slice P p pc,.slice G g gc,.slice R r rc,.slice D d dc,.int .i64 st,.slice A n ac,z7,z8,z9,z10]:=by
 unfold fillA
 simp [Instr.fill,Value.cells,List.zipIdx]
def needN (vars R:Nat):Nat:=(vars+1)*2^vars+R*((vars+1)*2^vars)
section
variable {h:Heap} {cb:Nat} {k:Nat→Option CT} {c:CSt} {sc:Scr} {a:ScrA} {A:Option Addr} {n ac:Nat} {am:List Int} {K:List (List Int)}
def SolR (cb:Nat) (k:Nat→Option CT) (c:CSt) (sc:Scr) (am:List Int) (K:List (List Int)) (r:Value) (h h':Heap):Prop :=
 ((goodScr sc&&goodC c.s.vars am)=false∧r=.tuple #[.int .i64 0,.slice none 0 0,.slice none 0 0,.int .i64 1]∧Fr (fun _=>False) h h') ∨
 ((goodScr sc&&goodC c.s.vars am)=true∧∃ k' c' e m ca,r=.tuple #[e,m,ca,.int .i64 0]∧CoreM h' cb k' c'∧KSt k k' h h'∧SInv K c'.s c'.ln c'.lg∧HFull c'∧c'.s.vars=c.s.vars∧((c'.st:Int)≤sc.steps∧c'.st≤needN c.s.vars sc.res.length)∧c'.s.cs.length≤c.s.cs.length+needN c.s.vars sc.res.length ∧
   (c'.lg.length+c'.ln.length≤c.lg.length+c.ln.length+2*needN c.s.vars sc.res.length∧c.lg <+: c'.lg)∧EndR am K c'.lg c.s.vars (needN c.s.vars sc.res.length) sc c'.st h.size k' h' (.tuple #[e,m,ca]))
theorem solve_ok (C:CoreM h cb k c) (S:SInv K c.s c.ln c.lg) (HF:HFull c) (Ms:ScrM h sc a) (Ks:ScrK k cb sc a) (RA:RowAt h A (ints am)) (KA:NotK k cb A (ints am)) (hn:n=am.length) (hs:n<2^40) (hr:∀ x∈am,-9223372036854775808≤x∧x≤9223372036854775807) (hv:c.s.vars≤10000)
   (z1:c.s.cs.length+needN c.s.vars sc.res.length<2^40) (z2:c.lg.length+c.ln.length+2*needN c.s.vars sc.res.length<2^40) :
   CallsH Tryz.prog 34 [.pointer (some ⟨cb,0,none⟩),.agg (scrV sc a).toArray,.slice A n ac] h fun r h'=>SolR cb k c sc am K r h h':=by
 subst hn
 refine calls_of 41 [.tmp 6,.tmp 7,.tmp 8,.tmp 9] Go.Proofs.Tryz.func34 rfl rfl rfl ?_
 unfold scrV
 simp -implicitDefEqProofs (disch:=omega) [go_sem]
 obtain ⟨h1,e1⟩:∃ h1,h1=h.push (.cells #[.slice a.P sc.picks.length a.pc,.slice a.G sc.signs.length a.gc,.slice a.R sc.res.length a.rc,.slice a.D sc.red.length a.dc,.int .i64 sc.steps] 56):=⟨_,rfl⟩
 have f1:Fr (fun _=>False) h h1:=by rw [e1]; exact (Fr.refl _ _).push
 have V1:ListB h1 h.size (scrV sc a):=by rw [e1]; exact ListB.new
 have ld:=load5 V1
 have Ms1:=Ms.fr0 f1
 have C1:=C.fr0 f1
 rw [← e1]
 simp -implicitDefEqProofs (disch:=omega) [go_sem,ld]
 refine useC (hgood_ok Ms1) ?_
 rintro _ h2 ⟨rfl,f2⟩
 have f12:=f1.trans f2
 cases hg:goodScr sc with
 | false =>
   simp -implicitDefEqProofs (disch:=omega) [go_sem]
   exact .inl ⟨by rw [hg]; rfl,rfl,f12⟩
 | true =>
   have Z:=goodScr_S hg
   simp -implicitDefEqProofs (disch:=omega) [go_sem]
   refine useC (cvars_ok (C1.fr0 f2)) ?_
   rintro _ h3 ⟨rfl,rfl⟩
   simp -implicitDefEqProofs (disch:=omega) [go_sem]
   have hvv:c.s.vars≤16777216:=by omega
   refine useC (cgood_ok (RA.fr0 f12) rfl hs hvv hr) ?_
   rintro _ h4 ⟨rfl,f4⟩
   have f14:=f12.trans f4
   cases ha:goodC c.s.vars am with
   | false =>
     simp -implicitDefEqProofs (disch:=omega) [go_sem]
     exact .inl ⟨by rw [ha,Bool.and_false],rfl,f14⟩
   | true =>
     simp -implicitDefEqProofs (disch:=omega) [go_sem]
     have C4:=C.fr0 f14
     refine useC (cback_ok C4 S.I (lv:=0) (by omega) (by omega)) ?_
     rintro _ h5 ⟨k5,S5,C5,st5,hF5⟩
     have HF5:=hF5 HF
     obtain ⟨el,ev,ec⟩:=backC'_0 (s:=c.s)
     have SI5:SInv K (backC' c.s 0) c.ln c.lg:=by
       unfold backC'
       split
       · exact S.back (Nat.zero_le _)
       · exact S
     obtain ⟨bb,hb,p,O,nn,act,LA,lc,GA,gc,vs,C5⟩:=C5.ex
     have b4:=C5.B.at' 4 _ rfl
     have fz5:=C5.B.fz
     obtain ⟨C6,ks6⟩:=C5.steps 0
     obtain ⟨h6,e6⟩:∃ h6,h6=hset h5 ⟨cb,4,none⟩ (.int .i64 ((0:Nat):Int)):=⟨_,rfl⟩
     rw [← e6] at C6 ks6
     have e6':hset h5 ⟨cb,4,none⟩ (.int .i64 0)=h6:=e6.symm
     have st6:KSt k k5 h h6:=((KSt.fr0 f14).trans st5).trans ks6
     simp -implicitDefEqProofs (disch:=omega) [go_sem,b4,fz5]
     rw [e6']
     have hkb:k h.size=none:=by
       cases hc:k h.size with
       | none=>rfl
       | some t=>have:=C.low _ t hc; omega
     have V6:=(((KSt.fr0 f2).trans (KSt.fr0 f4)).trans (st5.trans ks6)).lb V1 hkb
     have ld6:=load5 V6
     obtain ⟨RA6,KA6⟩:=st6.rowK RA KA
     obtain ⟨Ms6,Ks6⟩:=Ms.kst st6 Ks
     refine drawC [(0,0),(1,2),(2,0),(3,3),(4,0),(5,3),(6,0)] (fun h'=>loadV (some (some 5)) (.pointer (some ⟨h.size,0,none⟩)) h'=some (.agg (scrV sc a).toArray)) ld6 ?_
     simp -implicitDefEqProofs (disch:=omega) [go_sem]
     refine float2 (.agg (scrV sc a).toArray) (fun h' hC=>by simp -implicitDefEqProofs (disch:=omega) [go_sem,hC]) ?_
     simp -implicitDefEqProofs (disch:=omega) [go_sem]
     refine useC (clone_ok RA6 (by rw [ints_len]) ints_one hs) ?_
     rintro _ h7 ⟨A7,d7,rfl,S7,own7,f7⟩
     refine ⟨load5 (V6.fr f7 fun h=>h),?_⟩
     unfold scrV
     simp -implicitDefEqProofs (disch:=omega) [go_sem,fill_sr]
     obtain ⟨h8,e8⟩:∃ h8,h8=h7.push (.cells #[.pointer (some ⟨cb,0,none⟩),.slice a.P sc.picks.length a.pc,.slice a.G sc.signs.length a.gc,.slice a.R sc.res.length a.rc,.slice a.D sc.red.length a.dc,.int .i64 sc.steps,.slice A7 am.length d7,.complex .f64 (Fx.enc 0) (Fx.enc 0),.complex .f64 (Fx.enc 0) (Fx.enc 0),.int .i64 0,.int .i64 0] 138):=⟨_,rfl⟩
     have f8:Fr (fun _=>False) h7 h8:=by rw [e8]; exact (Fr.refl _ _).push
     have B8:ListB h8 h7.size (srV cb sc a A7 d7 am.length ⟨0,0,0,0,0,0⟩):=by rw [e8]; exact ListB.new
     rw [← e8]
     refine ⟨load5 ((V6.fr f7 fun h=>h).fr f8 fun h=>h),?_⟩
     have st8:KSt k k5 h h8:=st6.trans ((KSt.fr0 f7).trans (KSt.fr0 f8))
     have z7:=f7.size
     have z6:=st6.fr.size
     have hkx:k5 h7.size=none:=by
       cases hc:k5 h7.size with
       | none=>rfl
       | some t=>have:=C6.low _ t hc; omega
     have hA7:NotK k5 h7.size A7 (ints am):=fun _ y hy=>by
       have h1:=own7 y hy
       have h2:=S7.blk_lt hy
       refine ⟨?_,by omega⟩
       cases hc:k5 y with
       | none=>rfl
       | some t=>have:=C6.low _ t hc; omega
     obtain ⟨m0,hm0⟩:∃ m0,m0=needN c.s.vars sc.res.length:=⟨_,rfl⟩
     rw [← hm0] at z1 z2
     have R0:RunS h8 h7.size cb k5 sc a A7 d7 am K c.s.vars m0 (c.s.cs.length+m0) (c.lg.length+c.ln.length+2*m0,c.lg) m0 h8 k5 { c with s:=backC' c.s 0,S:=S5,st:=0 } ⟨0,0,0,0,0,0⟩ (2^c.s.vars):={
       X:=⟨⟨_,_,_,_,_,_,_,_,_,_,_,(C6.fr0 f7).fr0 f8⟩,B8,(Ms6.fr0 f7).fr0 f8,(S7.row.fr0 f8),hkx,Ks6.to Ms6 z7,hA7,hs⟩
       sx:=KSx.refl
       S:=SI5
       HF:=HF5
       Q:=⟨Nat.zero_le _,Nat.zero_le _,Nat.zero_le _,Nat.zero_le _,Nat.zero_le _,Nat.zero_le _⟩
       hv:=ev
       st:=by have:=Z.s0; show ((0:Nat):Int)≤_; omega
       A:=AsI.ground SI5.R el
       B:=by rw [← ev]; exact Bud.ground el
       P := by
         unfold potOk
         rw [hm0]
         unfold needN
         show _≤_+(backC' c.s 0).level
         rw [el,Nat.sub_zero]
         omega
       T:=by show 0+m0≤m0; omega
       n1:=by show (backC' c.s 0).cs.length+m0≤_; omega
       n2:=⟨Nat.le_refl _,List.prefix_refl _⟩ }
     refine useC (run_ok R0 (fun x hx=>?_) hv Z z1 z2) ?_
     · have:=List.all_eq_true.1 ha x hx
       exact of_decide_eq_true this
     rintro _ h9 ⟨k9,c9,q9,X9,sx9,S9,HF9,hv9,hst9,hn1,hn2,E9⟩
     have fin:∀ {e m ca:Value},EndR am K c9.lg c.s.vars m0 sc c9.st h8.size k9 h9 (.tuple #[e,m,ca])→SolR cb k c sc am K (.tuple #[e,m,ca,.int .i64 0]) h h9:=fun {e m ca} E=>by
       have hz:h.size≤h8.size:=st8.fr.size
       refine .inr ⟨by rw [hg,ha]; rfl,k9,c9,e,m,ca,rfl,X9.C,st8.transx sx9 (by omega),S9,HF9,hv9,by rw [← hm0]; exact hst9,by rw [← hm0]; exact hn1,by rw [← hm0]; exact hn2,?_⟩
       rw [← hm0]
       cases E with
       | model a1 a2 a3 a4 a5=>exact .model a1 a2 (fun y hy=>⟨Nat.le_trans hz (a3 y hy).1,(a3 y hy).2⟩) a4 a5
       | none a1 a2 a3 a4 a5 a6 a7=>exact .none a1 (fun y hy=>⟨Nat.le_trans hz (a2 y hy).1,(a2 y hy).2⟩) a3 a4 a5 a6 a7
       | steps a1 a2=>exact .steps a1 a2
     cases E9 with
     | model a1 a2 a3 a4 a5 =>
       simp -implicitDefEqProofs (disch:=omega) [go_sem]
       exact (fin (.model a1 a2 a3 a4 a5))
     | none a1 a2 a3 a4 a5 a6 a7 =>
       simp -implicitDefEqProofs (disch:=omega) [go_sem]
       exact (fin (.none a1 a2 a3 a4 a5 a6 a7))
     | steps a1 a2 =>
       simp -implicitDefEqProofs (disch:=omega) [go_sem]
       exact (fin (.steps a1 a2))
end
section
variable {h:Heap} {cb:Nat} {k:Nat→Option CT} {c:CSt} {A:Option Addr} {n ac:Nat} {l:List Int} {K:List (List Int)}
theorem SInv.back0 {s:WS} {ln:List Nat} {lg:List (List Int × Bool)} (S:SInv K s ln lg):SInv K (backC' s 0) ln lg:=by
 unfold backC'
 split
 · exact S.back (Nat.zero_le _)
 · exact S
def AddR (cb:Nat) (k:Nat→Option CT) (c:CSt) (l:List Int) (K:List (List Int)) (r:Value) (h h':Heap):Prop :=
 ∃ k' c',∃ e:Int,r=.int .i64 e∧CoreM h' cb k' c'∧KSt k k' h h'∧HFull c'∧c'.s.vars=c.s.vars∧c'.ln=c.ln∧c'.lg=c.lg∧c'.st=c.st∧c'.s.cs.length≤c.s.cs.length+1 ∧
   ((e=1∧goodC c.s.vars l=false∧SInv K c'.s c'.ln c'.lg)∨(e=11∧goodC c.s.vars l=true∧CleanR l none∧SInv K c'.s c'.ln c'.lg)∨(e=0∧goodC c.s.vars l=true∧∃ L,CleanR l (some L)∧SInv (K++[L]) c'.s c'.ln c'.lg))
theorem cadd_ok (C:CoreM h cb k c) (S:SInv K c.s c.ln c.lg) (HF:HFull c) (RA:RowAt h A (ints l)) (KA:NotK k cb A (ints l)) (hn:n=l.length) (hs:n<2^40) (hr:∀ x∈l,-9223372036854775808≤x∧x≤9223372036854775807) (z1:c.s.cs.length+1<2^40) :
   CallsH Tryz.prog 85 [.pointer (some ⟨cb,0,none⟩),.slice A n ac] h fun r h'=>AddR cb k c l K r h h':=by
 refine calls_of 19 [.tmp 4] Go.Proofs.Tryz.func85 rfl rfl rfl ?_
 simp -implicitDefEqProofs (disch:=omega) [go_sem]
 refine useC (cback_ok C S.I (lv:=0) (by omega) (by omega)) ?_
 rintro _ h5 ⟨k5,S5,C5,st5,hF5⟩
 have HF5:=hF5 HF
 obtain ⟨el,ev,ec⟩:=backC'_0 (s:=c.s)
 have SI5:=S.back0
 obtain ⟨RA5,KA5⟩:=st5.rowK RA KA
 obtain ⟨bb,hb,p,O,nn,act,LA,lc,GA,gc,vs,C5⟩:=C5.ex
 have b0:=C5.B.at' 0 _ rfl
 have M5:BaseM h5 bb p (backC' c.s 0):=C5.M
 have htd:=todo_le SI5.I
 rw [ec] at htd
 simp -implicitDefEqProofs (disch:=omega) [go_sem,b0]
 refine useC (baddG_m M5 SI5.I.hv RA5 hn hs hr ⟨by rw [ec]; omega,by omega⟩) ?_
 have hgv:goodC (backC' c.s 0).vars l=goodC c.s.vars l:=by rw [ev]
 rintro _ h6 (⟨hb,rfl,f6⟩ | ⟨hg,hno,rfl,f6⟩ | ⟨hg,L,hL,rfl,p6,M6,st6⟩)
 · simp -implicitDefEqProofs (disch:=omega) [go_sem]
   exact ⟨k5,_,1,rfl,⟨_,_,_,_,_,_,_,_,_,_,_,C5.fr0 f6⟩,st5.trans (KSt.fr0 f6),HF5,ev,rfl,rfl,rfl,by show (backC' c.s 0).cs.length≤_; omega,.inl ⟨rfl,hgv ▸ hb,SI5⟩⟩
 · simp -implicitDefEqProofs (disch:=omega) [go_sem]
   exact ⟨k5,_,11,rfl,⟨_,_,_,_,_,_,_,_,_,_,_,C5.fr0 f6⟩,st5.trans (KSt.fr0 f6),HF5,ev,rfl,rfl,rfl,by show (backC' c.s 0).cs.length≤_; omega,.inr (.inl ⟨rfl,hgv ▸ hg,hno,SI5⟩)⟩
 · obtain ⟨k6,C6,ks6⟩:=C5.base M6 st6 rfl
   have hgv':=hgv ▸ hg
   have hok:∀ x∈L,1≤x.natAbs∧x.natAbs≤(backC' c.s 0).vars:=fun x hx=>by
    have:=List.all_eq_true.1 hg x ((hL.2 x).1 hx).1
    exact of_decide_eq_true this
   simp -implicitDefEqProofs (disch:=omega) [go_sem]
   exact ⟨k6,_,0,rfl,⟨_,_,_,_,_,_,_,_,_,_,_,C6⟩,st5.trans ks6,HF5,ev,rfl,rfl,rfl,by show ((backC' c.s 0).cs++[_]).length≤_; rw [List.length_append,List.length_singleton]; omega,.inr (.inr ⟨rfl,hgv',L,hL,SI5.add (SI5.I.add hL.1 hok)⟩)⟩
end
structure BdJ (N vars:Nat) (h1:Heap) (ρ:Env) (h:Heap):Prop where
 r19:ρ 19=.int .i64 vars
 he:h=h1
 ex:∃ i:Nat,ρ 20=.int .i64 i∧i≤vars∧ρ 5=.int .i64 (N*3^i:Nat)
theorem bound_ok {h:Heap} {sc:Scr} {a:ScrA} {vars N:Nat} (hv:vars≤1000) (hR:sc.res.length≤1000) (hD:sc.red.length≤1000) (hN:N=(vars+1)*(sc.res.length+sc.red.length+1)) (hb:N*3^vars<2^40) :
   CallsH Tryz.prog 42 [.int .i64 vars,.agg (scrV sc a).toArray] h fun r h'=>r=.int .i64 ((N*3^vars:Nat):Int)∧Fr (fun _=>False) h h':=by
 have hm:max (vars:Int) 0=(vars:Int):=by omega
 have hp:N≤1001*2001:=by rw [hN]; exact Nat.mul_le_mul (by omega) (by omega)
 have hNi:((vars:Int)+1)*((sc.res.length:Int)+(sc.red.length:Int)+1)=(N:Int):=by rw [hN]; push_cast; rfl
 have hle:∀ i,i≤vars→N*3^i≤N*3^vars:=fun i hi=>Nat.mul_le_mul_left _ (Nat.pow_le_pow_right (by omega) hi)
 refine calls_of 31 [.tmp 4] Go.Proofs.Tryz.func42 rfl rfl rfl ?_
 unfold scrV
 simp -implicitDefEqProofs (disch:=omega) [go_sem,hm,hNi]
 obtain ⟨h1,e1⟩:∃ h1,h1=h.push (.cells #[.slice a.P sc.picks.length a.pc,.slice a.G sc.signs.length a.gc,.slice a.R sc.res.length a.rc,.slice a.D sc.red.length a.dc,.int .i64 sc.steps] 56):=⟨_,rfl⟩
 have f1:Fr (fun _=>False) h h1:=by rw [e1]; exact (Fr.refl _ _).push
 rw [← e1]
 refine loopK (BdJ N vars h1) (fun ρ _=>vars-(intOf (ρ 20)).toNat) (by kernel_rfl) ?_ ?_
 · exact ⟨congrArg (Value.int .i64) hm,rfl,0,rfl,by omega,by rw [Nat.pow_zero,Nat.mul_one]; rfl⟩
 · rintro ρ h2 ⟨r19,rfl,i,r20,hi,r5⟩
   have h1':=hle i hi
   clear e1
   by_cases hin:i<vars
   · have h2':=hle (i+1) hin
     have e3:N*3^(i+1)=3*(N*3^i):=by rw [Nat.pow_succ,← Nat.mul_assoc,Nat.mul_comm]
     obtain ⟨P,hP⟩:∃ P,P=N*3^i:=⟨_,rfl⟩
     rw [← hP] at r5 h1' e3
     have m1:min (P:Int) 1099511627776=P:=by omega
     have m2:min (3*(P:Int)) 1099511627776=3*P:=by omega
     have ne:¬ 3*(P:Int)=1099511627776:=by omega
     simp -implicitDefEqProofs (disch:=omega) [go_sem,r19,r20,r5,m1,m2,ne]
     exact ⟨⟨r19,rfl,i+1,rfl,by omega,by rw [e3]; push_cast; rfl⟩,by omega⟩
   · obtain rfl:i=vars:=by omega
     have m1:min ((N*3^i:Nat):Int) 1099511627776=((N*3^i:Nat):Int):=by omega
     obtain ⟨P,hP⟩:∃ P,P=N*3^i:=⟨_,rfl⟩
     rw [← hP] at r5 m1 ⊢
     simp -implicitDefEqProofs (disch:=omega) [go_sem,r19,r20,r5,m1]
     exact f1
end Xe
namespace Xe
open Go Tp Go.Proofs
set_option maxRecDepth 16000
set_option maxHeartbeats 4000000
section
variable {h h':Heap} {N M0:Nat} {A:Option Addr} {cap:Nat} {K:List (List Int)} {vs:List Value}
end
section
variable {h0:Heap} {A:Option Addr} {n c vars:Nat} {Ks:List (List Int)}
end
theorem SatM.congr {M:Int→Prop} {a b:List Int} (h:∀ x,x∈a↔x∈b) (hs:SatM M a):SatM M b:=by
 obtain ⟨x,hx,hm⟩:=hs
 exact ⟨x,(h x).1 hx,hm⟩
theorem goodC_mem {vars:Nat} {C:List Int} (h:goodC vars C=true) {x:Int} (hx:x∈C):1≤x.natAbs∧x.natAbs≤vars:=of_decide_eq_true (List.all_eq_true.1 h x hx)
section
variable {h:Heap} {N M0:Nat} {A:Option Addr} {cap n m c d:Nat} {K:List (List Int)} {vs:List Value} {B:Option Addr} {am:List Int}
end
end Xe
namespace Xe
open Go Tp Go.Proofs Hq
set_option maxRecDepth 16000
set_option maxHeartbeats 4000000
section
variable {h:Heap}
end
section
variable {h0 h h':Heap} {cb:Nat} {k k':Nat→Option CT} {c c':CSt} {vars N N':Nat} {K K':List (List Int)}
end
theorem ext4 {a b c d:Value}:extractV (.tuple #[a,b,c,d]) 3=some d:=rfl
def scr0 (st:Int):Scr:=⟨[],[],[],[],st⟩
def scr0A:ScrA:=⟨none,0,none,0,none,0,none,0⟩
theorem scr0M {h:Heap} {st:Int} (h0:-9223372036854775808≤st∧st≤9223372036854775807):ScrM h (scr0 st) scr0A :=
 ⟨RowAt.nil,RowAt.nil,RowAt.nil,RowAt.nil,Nat.two_pow_pos 63,Nat.two_pow_pos 63,Nat.two_pow_pos 63,Nat.two_pow_pos 63,fun x hx=>(nomatch hx),fun x hx=>(nomatch hx),fun x hx=>(nomatch hx),h0⟩
section
variable {h:Heap}
end
theorem needN_bd {v R D:Nat}:needN v R≤(v+1)*(R+D+1)*3^v:=by
 have h1:needN v R=(R+1)*((v+1)*2^v):=by
  unfold needN
  obtain ⟨P,hP⟩:∃ P,P=(v+1)*2^v:=⟨_,rfl⟩
  rw [← hP,Nat.add_mul,Nat.one_mul,Nat.add_comm]
 have h2:(v+1)*(R+D+1)*3^v=(R+D+1)*((v+1)*3^v):=by rw [Nat.mul_comm (v+1),Nat.mul_assoc]
 rw [h1,h2]
 exact Nat.mul_le_mul (by omega) (Nat.mul_le_mul (Nat.le_refl _) (Nat.pow_le_pow_left (by omega) _))
section
variable {h:Heap}
end
structure LgW (h:Heap) (N:Nat) (X:Option Addr) (xc:Nat) (L:List (List Int × Bool)) (vs:List Value):Prop where
 S:SlAt h X (xc*2) vs
 len:vs.length=L.length*2
 own:∀ y,blk X y→N≤y
 one:∀ w∈vs,w.oneCell'=true
 at':∀ (i:Nat) c g,L[i]?=some (c,g)→∃ A d,vs[i*2]?=some (.slice A c.length d)∧vs[i*2+1]?=some (.bool g)∧RowAt h A (ints c)∧∀ y,blk A y→N≤y∧¬ blk X y∧y<h.size
theorem LgW.nil {h:Heap} {N:Nat}:LgW h N none 0 [] []:=⟨by simpa using SlAt.nil h,rfl,fun y ⟨_,h,_⟩=>(nomatch h),fun w hw=>(nomatch hw),fun i c g hi=>by simp at hi⟩
theorem LgW.fr0 {h h':Heap} {N:Nat} {X:Option Addr} {xc:Nat} {L:List (List Int × Bool)} {vs:List Value} (R:LgW h N X xc L vs) (f:Fr (fun _=>False) h h'):LgW h' N X xc L vs where
 S:=R.S.fr f fun _ _ h=>h
 len:=R.len
 own:=R.own
 one:=R.one
 at' i c g hi:=by
  obtain ⟨A,d,h1,h2,h3,h4⟩:=R.at' i c g hi
  exact ⟨A,d,h1,h2,h3.fr0 f,fun y hy=>⟨(h4 y hy).1,(h4 y hy).2.1,Nat.lt_of_lt_of_le (h4 y hy).2.2 f.size⟩⟩
theorem LgW.snoc {h h':Heap} {N:Nat} {X X':Option Addr} {xc xc':Nat} {L:List (List Int × Bool)} {vs:List Value} (R:LgW h N X xc L vs) (f:Fr (blk X) h h') {c:List Int} {g:Bool} {A:Option Addr} {d:Nat} (S:SlAt h' X' (xc'*2) (vs++[.slice A c.length d,.bool g])) (hX:∀ y,blk X' y→blk X y∨h.size≤y) (RA:RowAt h A (ints c))
  (hA:∀ y,blk A y→N≤y∧¬ blk X y∧y<h.size) (hN:N≤h.size):LgW h' N X' xc' (L++[(c,g)]) (vs++[.slice A c.length d,.bool g]) where
 S:=S
 len:=by rw [List.length_append,List.length_append,R.len]; simp; omega
 own y hy:=(hX y hy).elim (R.own y) fun h=>by omega
 one w hw:=by
  rcases List.mem_append.1 hw with h | h
  · exact R.one w h
  · simp only [List.mem_cons,List.not_mem_nil,or_false] at h
    rcases h with rfl | rfl <;> rfl
 at' i c' g' hi:=by
  have z:=f.size
  have key:∀ {B:Option Addr},(∀ y,blk B y→N≤y∧¬ blk X y∧y<h.size)→∀ y,blk B y→N≤y∧¬ blk X' y∧y<h'.size:=fun hB y hy=>by
    obtain ⟨h1,h2,h3⟩:=hB y hy
    exact ⟨h1,fun h=>(hX y h).elim h2 fun h=>by omega,by omega⟩
  by_cases hil:i<L.length
  · rw [List.getElem?_append_left hil] at hi
    obtain ⟨B,e,h1,h2,h3,h4⟩:=R.at' i c' g' hi
    have hl:=R.len
    exact ⟨B,e,by rw [List.getElem?_append_left (by omega)]; exact h1,by rw [List.getElem?_append_left (by omega)]; exact h2,h3.fr f fun y hy=>(h4 y hy).2.1,key h4⟩
  · have hi':=(List.getElem?_eq_some_iff.1 hi).1
    rw [List.length_append,List.length_singleton] at hi'
    obtain rfl:i=L.length:=by omega
    rw [List.getElem?_append_right (Nat.le_refl _),Nat.sub_self] at hi
    simp only [List.getElem?_cons_zero,Option.some.injEq,Prod.mk.injEq] at hi
    obtain ⟨rfl,rfl⟩:=hi
    have hl:=R.len
    exact ⟨A,d,by rw [List.getElem?_append_right (by omega),hl,Nat.sub_self]; rfl,by rw [List.getElem?_append_right (by omega),hl,Nat.add_sub_cancel_left]; rfl,RA.fr f fun y hy=>(hA y hy).2.1,key hA⟩
def LogO (L:List (List Int × Bool)) (r:Value) (h h':Heap):Prop:=Fr (fun _=>False) h h'∧∃ X xc vs,r=.slice X L.length xc∧LgW h' h.size X xc L vs
structure LoJ (h0:Heap) (GA:Option Addr) (gc:Nat) (L:List (List Int × Bool)) (ρ:Env) (h:Heap):Prop where
 r9:ρ 9=.slice GA L.length gc
 r10:ρ 10=.int .i64 L.length
 fr:Fr (fun _=>False) h0 h
 ex:∃ (i:Nat) (X:Option Addr) (xc:Nat) (vs:List Value),ρ 11=.int .i64 i∧i≤L.length∧ρ 3=.slice X i xc∧LgW h h0.size X xc (L.take i) vs
section
variable {h:Heap} {cb:Nat} {k:Nat→Option CT} {c:CSt}
theorem clog_ok (C:CoreM h cb k c) (hl:c.lg.length<2^40) (hb:∀ x∈c.lg,x.1.length<2^40) :
   CallsH Tryz.prog 43 [.pointer (some ⟨cb,0,none⟩)] h fun r h'=>LogO c.lg r h h':=by
 obtain ⟨bb,hb',p,O,n,act,LA,lc,GA,gc,vs0,C⟩:=C.ex
 have b3:=C.B.at' 3 _ rfl
 refine calls_of 26 [.tmp 2] Go.Proofs.Tryz.func43 rfl rfl rfl ?_
 simp -implicitDefEqProofs (disch:=omega) [go_sem,b3]
 refine loopK (LoJ h GA gc c.lg) (fun ρ _=>c.lg.length-(intOf (ρ 11)).toNat) (by kernel_rfl) ?_ ?_
 · exact ⟨rfl,rfl,Fr.refl _ _,0,none,0,[],rfl,Nat.zero_le _,rfl,LgW.nil⟩
 · rintro ρ h1 ⟨r9,r10,f01,i,X,xc,vs,r11,hi,r3,W⟩
   by_cases hin:i<c.lg.length
   · obtain ⟨⟨cl,g⟩,hx⟩:∃ x,c.lg[i]?=some x:=⟨_,List.getElem?_eq_getElem hin⟩
     have C1:=C.fr0 f01
     obtain ⟨A,d,v0,v1,RA,hkA⟩:=C1.R.at' i cl g hx
     have hcl:=hb _ (List.mem_of_getElem? hx)
     obtain ⟨bk,off,rfl,hc⟩:=C1.G.row.get (by rw [C1.R.len]; omega)
     have c0:=hc _ _ v0
     have c1:=hc _ _ v1
     rw [← Nat.add_assoc] at c1
     simp -implicitDefEqProofs (disch:=omega) [go_sem,r3,r9,r10,r11,c0,c1]
     obtain ⟨h2,e2⟩:∃ h2,h2=hset (hset (h1.push (.cells #[.slice none 0 0,.bool false] 74)) ⟨h1.size,0,none⟩ (.slice A cl.length d)) ⟨h1.size,1,none⟩ (.bool g):=⟨_,rfl⟩
     have f2:Fr (fun _=>False) h1 h2:=by rw [e2]; exact (((Fr.refl _ _).push).new (Nat.le_refl _)).new (Nat.le_refl _)
     have V2:ListB h2 h1.size [.slice A cl.length d,.bool g]:=by rw [e2]; exact ((ListB.new (vs:=[.slice none 0 0,.bool false])).set (i:=0) (.slice A cl.length d) Nat.two_pos).set (i:=1) (.bool g) Nat.one_lt_two
     rw [← e2]
     have d0:=V2.at' 0 _ rfl
     have d1:=V2.at' 1 _ rfl
     refine drawC [(0,0),(1,0),(2,1),(4,0),(5,2),(3,3),(6,0),(7,3),(8,3),(9,0)] (fun h'=>hcell h' ⟨h1.size,1,none⟩=some (.bool g)) d1 ?_
     simp -implicitDefEqProofs (disch:=omega) [go_sem,r3,r9,r10,r11,d0]
     refine float2 (.bool g) (fun h' hC=>by simp -implicitDefEqProofs (disch:=omega) [go_sem,hC]) ?_
     simp -implicitDefEqProofs (disch:=omega) [go_sem,r3,r9,r10,r11]
     have RA2:=RA.fr0 f2
     refine useC (clone_ok RA2 (by rw [ints_len]) ints_one (show cl.length<2^40 from hcl)) ?_
     rintro _ h3 ⟨A3,d3,rfl,S3,own3,f3⟩
     have d13:=(f3.cell V2.lt fun h=>h).trans d1
     refine ⟨d13,?_⟩
     simp -implicitDefEqProofs (disch:=omega) [go_sem,r3,r9,r10,r11]
     refine build2r ?_
     have f4:Fr (fun _=>False) h3 (h3.push (.cells #[.slice A3 cl.length d3,.bool g] 74)):=(Fr.refl _ _).push
     have d14:=(f4.cell (hcell_lt d13) fun h=>h).trans d13
     refine ⟨d14,?_⟩
     simp -implicitDefEqProofs (disch:=omega) [go_sem,r3,r9,r10,r11]
     have f14:=(f2.trans f3).trans f4
     have W4:=W.fr0 f14
     have hlt:(c.lg.take i).length=i:=by rw [List.length_take]; omega
     refine appendN (sz:=2) (vs:=vs) (ws:=[.slice A3 cl.length d3,.bool g]) W4.S (by rw [W4.len,hlt]) (SlAt.new (vs:=[.slice A3 cl.length d3,.bool g])).row rfl (by omega) (by simp [Value.oneCell']) (by omega) (by omega) ?_
     intro X5 xc5 h5 S5 f5 hX5
     have nX:¬ blk X h1.size:=fun h=>by have:=W.S.blk_lt h; omega
     have d15:=(f5.cell (hcell_lt d14) nX).trans d14
     refine ⟨d15,?_⟩
     simp -implicitDefEqProofs (disch:=omega) [go_sem,r3,r9,r10,r11]
     have z1:=f01.size
     have z2:=f2.size
     have z3:=f3.size
     have z4:=f4.size
     have W5:=W4.snoc f5 (c:=cl) (g:=g) S5 hX5 (S3.row.fr0 f4) (fun y hy=>by
      have h1':=own3 y hy
      exact ⟨by omega,fun h=>by have:=W.S.blk_lt h; omega,by have:=S3.blk_lt hy; omega⟩) (by omega)
     have f05:Fr (fun _=>False) h h5:=(f01.trans f14).trans' f5 fun y hy hb=>by have:=W.own y hb; omega
     exact ⟨⟨r9,r10,f05,i+1,X5,xc5,_,rfl,by omega,rfl,by rw [List.take_add_one,hx]; exact W5⟩,by omega⟩
   · obtain rfl:i=c.lg.length:=by omega
     rw [List.take_length] at W
     simp -implicitDefEqProofs (disch:=omega) [go_sem,r3,r9,r10,r11]
     exact ⟨f01,X,xc,vs,rfl,W⟩
end
theorem log_rng {K:List (List Int)} {s:WS} {ln:List Nat} {lg:List (List Int × Bool)} (S:SInv K s ln lg) {x:List Int × Bool} (hx:x∈lg):x.1.length≤s.vars∧∀ y∈x.1,y.natAbs≤s.vars:=by
 obtain ⟨e,he,hl⟩:=S.lgc x hx
 have h1:=S.I.cl e he
 rw [hl] at h1
 exact ⟨by have:=rise_length (a:=0) (n:=s.vars) h1.1 fun y hy=>⟨(h1.2 y hy).1,(h1.2 y hy).2⟩; omega,fun y hy=>(h1.2 y hy).2⟩
section
variable {h:Heap}
end
end Xe
namespace Xe
open Go Tp Go.Proofs
set_option maxRecDepth 16000
def wid (z:Nat):Nat:=1+z+(z-1)
def wsum:List Nat→Nat
 | []=>0
 | z::r=>wid z+wsum r
def begs:List Nat→Nat→List Int
 | [],_=>[]
 | z::r,s=>(s:Int)::begs r (s+wid z)
theorem wsum_snoc {l:List Nat} {z:Nat}:wsum (l++[z])=wsum l+wid z:=by
 induction l with
 | nil=>simp [wsum]
 | cons a l ih=>simp only [List.cons_append,wsum,ih]; omega
theorem wsum_take {zs:List Nat} {p z:Nat} (h:zs[p]?=some z):wsum (zs.take (p+1))=wsum (zs.take p)+wid z:=by
 rw [List.take_add_one,h]; exact wsum_snoc
theorem wsum_take_le {zs:List Nat} {p:Nat}:wsum (zs.take p)≤wsum zs:=by
 induction zs generalizing p with
 | nil=>simp
 | cons a l ih =>
   cases p with
   | zero=>simp [wsum]
   | succ p=>simp only [List.take_succ_cons,wsum]; have:=ih (p:=p); omega
theorem begs_snoc {l:List Nat} {s z:Nat}:begs (l++[z]) s=begs l s++[((s+wsum l:Nat):Int)]:=by
 induction l generalizing s with
 | nil=>rfl
 | cons a l ih=>simp only [List.cons_append,begs,wsum,ih,Nat.add_assoc]
theorem begs_len {l:List Nat} {s:Nat}:(begs l s).length=l.length:=by
 induction l generalizing s with
 | nil=>rfl
 | cons a l ih=>simp [begs,ih]
theorem begs_at {zs:List Nat} {s p:Nat} (h:p<zs.length):(begs zs s)[p]?=some ((s+wsum (zs.take p):Nat):Int):=by
 induction zs generalizing s p with
 | nil=>simp at h
 | cons a l ih =>
   cases p with
   | zero=>simp [begs,wsum]
   | succ p =>
     simp only [List.length_cons] at h
     simp only [begs,List.getElem?_cons_succ,List.take_succ_cons,wsum]
     rw [ih (by omega),Nat.add_assoc]
structure Few (zs:List Nat):Prop where
 len:zs.length≤4
 le:∀ z∈zs,z≤4
theorem wsum_le {zs:List Nat} (h:∀ z∈zs,z≤4):wsum zs≤zs.length*8:=by
 induction zs with
 | nil=>simp [wsum]
 | cons a l ih =>
   have h1:=h a List.mem_cons_self
   have h2:=ih fun z hz=>h z (List.mem_cons_of_mem _ hz)
   simp only [wsum,List.length_cons,wid]; omega
theorem Few.sum {zs:List Nat} (F:Few zs):wsum zs≤32:=by have h1:=wsum_le F.le; have h2:=F.len; omega
structure At where
 k:Nat
 p:Nat
 i:Nat
def atOf (z p u:Nat):At:=if u=0 then ⟨0,p,0⟩ else if u-1<z-1 then ⟨1,p,u-1⟩ else ⟨2,p,u-1-(z-1)⟩
def atN:List Nat→Nat→Nat→At
 | [],_,_=>⟨0,0,0⟩
 | z::r,p,u=>if u<wid z then atOf z p u else atN r (p+1) (u-wid z)
theorem atN_eq {zs:List Nat} {p q z u:Nat} (h:zs[p]?=some z) (h1:wsum (zs.take p)≤u) (h2:u<wsum (zs.take p)+wid z):atN zs q u=atOf z (q+p) (u-wsum (zs.take p)):=by
 induction zs generalizing p q u with
 | nil=>simp at h
 | cons a l ih =>
   cases p with
   | zero =>
     simp only [List.getElem?_cons_zero,Option.some.injEq] at h
     subst h
     simp only [List.take_zero,wsum] at h1 h2 ⊢
     unfold atN
     rw [if_pos (by omega)]; rfl
   | succ p =>
     simp only [List.getElem?_cons_succ] at h
     simp only [List.take_succ_cons,wsum] at h1 h2 ⊢
     unfold atN
     rw [if_neg (by omega),ih h (by omega) (by omega)]
     congr 1 <;> omega
theorem atOf_p {z p u:Nat}:(atOf z p u).p=p:=by
 unfold atOf
 split
 · rfl
 · split <;> rfl
theorem at_ex {zs:List Nat} {u:Nat} (h:u<wsum zs):∃ (p z:Nat),zs[p]?=some z∧wsum (zs.take p)≤u∧u<wsum (zs.take p)+wid z:=by
 induction zs generalizing u with
 | nil=>simp [wsum] at h
 | cons a l ih =>
   simp only [wsum] at h
   by_cases hu:u<wid a
   · exact ⟨0,a,rfl,by simp [wsum],by simp [wsum]; exact hu⟩
   · obtain ⟨p,z,h1,h2,h3⟩:=ih (u:=u-wid a) (by omega)
     exact ⟨p+1,z,h1,by simp only [List.take_succ_cons,wsum]; omega,by simp only [List.take_succ_cons,wsum]; omega⟩
theorem at_pack {zs:List Nat} {u:Nat} (h:u<wsum zs):∃ z,zs[(atN zs 0 u).p]?=some z:=by
 obtain ⟨p,z,h1,h2,h3⟩:=at_ex h
 rw [atN_eq h1 h2 h3,atOf_p,Nat.zero_add]
 exact ⟨z,h1⟩
def isA (a:At) (r:Int):Bool:=if a.k=0 then decide (0≤r) else if a.k=1 then decide (r≤(a.i:Int)) else decide (r=(a.i:Int))
def litAt (zs:List Nat) (x:Int):At:=atN zs 0 (x.natAbs-1)
def litA (zs:List Nat) (x r:Int):Bool:=isA (litAt zs x) r==decide (0<x)
structure ValC (zs:List Nat) (ch:List Int):Prop where
 len:ch.length=zs.length
 at':∀ (p:Nat) z r,zs[p]?=some z→ch[p]?=some r→-1≤r∧r<(z:Int)
def tru (zs:List Nat) (ch:List Int):List Bool:=(List.range (wsum zs)).map fun u=>isA (atN zs 0 u) (ch.getD (atN zs 0 u).p 0)
theorem tru_len {zs:List Nat} {ch:List Int}:(tru zs ch).length=wsum zs:=by simp [tru]
theorem tru_at {zs:List Nat} {ch:List Int} {u:Nat} (h:u<wsum zs):(tru zs ch)[u]?=some (isA (atN zs 0 u) (ch.getD (atN zs 0 u).p 0)):=by
 unfold tru
 rw [List.getElem?_map,List.getElem?_range h]; rfl
theorem MB_tru {zs:List Nat} {ch:List Int} {x:Int} (h:1≤x.natAbs∧x.natAbs≤wsum zs):MB (tru zs ch) x↔litA zs x (ch.getD (litAt zs x).p 0)=true:=by
 unfold MB
 rw [tru_len,if_pos h]
 unfold truB
 rw [if_neg (by omega),tru_at (by omega)]
 unfold litA litAt
 simp only []
 cases isA (atN zs 0 (x.natAbs-1)) (ch.getD (atN zs 0 (x.natAbs-1)).p 0) <;> cases decide (0<x) <;> simp
def alw (zs:List Nat) (z:Nat) (l:List Int):List Int:=((List.range (z+1)).map fun j:Nat=>(j:Int)-1).filter fun r=>l.all fun x=>litA zs x r
theorem mem_alw {zs:List Nat} {z:Nat} {l:List Int} {r:Int}:r∈alw zs z l↔(-1≤r∧r<(z:Int))∧∀ x∈l,litA zs x r=true:=by
 unfold alw
 rw [List.mem_filter,List.mem_map,List.all_eq_true]
 constructor
 · rintro ⟨⟨j,hj,rfl⟩,h⟩
   rw [List.mem_range] at hj
   exact ⟨by omega,h⟩
 · rintro ⟨⟨h1,h2⟩,h⟩
   exact ⟨⟨(r+1).toNat,List.mem_range.2 (by omega),by omega⟩,h⟩
theorem alw_nil {zs:List Nat} {z:Nat}:alw zs z []≠[]:=fun h=>by
 have:(-1:Int)∈alw zs z []:=mem_alw.2 ⟨by omega,fun x hx=>(nomatch hx)⟩
 rw [h] at this; cases this
end Xe
