/- LazyEnds, walked. -/
import Derived.Test.YtkghjecglmmloaaGreatA28
namespace Xe
open Go Tp Go.Proofs Hq
set_option maxRecDepth 16000
set_option maxHeartbeats 4000000
theorem scI_good2 {sc:Scr} {x:Int} (hg:goodScr sc=true) (h0:0≤x) (h1:x≤1099511627776):goodScr (scI sc x)=true:=by
 have:goodScr (scI sc x)=((rightL sc.picks&&rightL sc.res&&rightL sc.red&&decide (sc.signs.length≤1000))&&decide (0≤x)&&decide (x≤1099511627776)):=rfl
 rw [this]
 have e:(rightL sc.picks&&rightL sc.res&&rightL sc.red&&decide (sc.signs.length≤1000))=true:=by
  unfold goodScr at hg
  rw [Bool.and_eq_true,Bool.and_eq_true] at hg
  exact hg.1.1
 rw [e,decide_eq_true h0,decide_eq_true h1]
 rfl
theorem lbd_need {v R D:Nat}:(2^v+1)*needN v R≤lbd v R D:=by
 unfold lbd
 rw [Nat.mul_comm]
 exact Nat.mul_le_mul_right _ needN_bd
theorem EndL.want {zs:List Nat} {Cs:List (List Int)} {sc:Scr} {am:List Int} {D M0 tot tn:Nat} {h:Heap} {r:Value} (E:EndL zs Cs sc am D M0 tot tn h r) (hg:(goodScr sc&&goodC (wsum zs) am)=true) (hno:(tot:Int)=sc.steps→tot<(M0+1)*D→False)
  (hC:∀ C∈Cs,goodC (wsum zs) C=true) (hl:∀ x∈am,1≤x.natAbs∧x.natAbs≤wsum zs):∃ (v1 v2:Value) (n:Int),r=.tuple #[.int .i64 n,v1,v2,.int .i64 0]∧((n=0∧anyP zs Cs am)∨(n=1∧¬ anyP zs Cs am)):=by
 cases E with
 | bad q=>rw [q] at hg; cases hg
 | model _ _ _ _ w5 w6 w7=>exact ⟨_,_,_,rfl,.inl ⟨rfl,_,w5,(okT_of hC hl).2 ⟨w6,w7⟩⟩⟩
 | none _ _ _ _ w5 _ w7=>exact ⟨_,_,_,rfl,.inr ⟨rfl,fun ⟨ch,V,ho⟩=>by
   obtain ⟨g1,g2⟩:=(okT_of hC hl).1 ho
   exact w7 ch V g1 fun x hx=>g2 x (w5 x hx)⟩⟩
 | steps _ _ q2 q3=>exact (hno q2 q3).elim
section
variable {h:Heap}
theorem ends25_walk (Z:Option Addr) (zc:Nat) (zl:List Int) (hzl:zl.length<2^63) (RZ:RowAt h Z (ints zl)) (hzr:∀ x∈zl,-9223372036854775808≤x∧x≤9223372036854775807) (A:Option Addr) (m c:Nat) (gs:Nat→List Int) (R:Args2 h A m gs) (sc:Scr) (a:ScrA) (Ms:ScrM h sc a) (sc2:Scr) (a2:ScrA) (Ms2:ScrM h sc2 a2) (B:Option Addr) (d:Nat) (am:List Int) (hqs:am.length<2^63) (RA:RowAt h B (ints am)) (hr:∀ x∈am,-9223372036854775808≤x∧x≤9223372036854775807) :
   CallsH Tryz.prog 9 [.slice Z zl.length zc,.slice A m c,.agg (scrV sc a).toArray,.agg (scrV sc2 a2).toArray,.slice B am.length d] h fun r h'=>r=.bool true∧Fr (fun _=>False) h h':=by
 refine calls_of 119 [.tmp 10] Go.Proofs.Tryz.func9 rfl rfl rfl (by kernel_rfl) (Nat.le_of_ble_eq_true rfl) ?_
 unfold scrV
 simp -implicitDefEqProofs (disch:=omega) [go_sem]
 obtain ⟨h1,e1⟩:∃ h1,h1=h.push (.cells #[.slice a.P sc.picks.length a.pc,.slice a.G sc.signs.length a.gc,.slice a.R sc.res.length a.rc,.slice a.D sc.red.length a.dc,.int .i64 sc.steps] 56):=⟨_,rfl⟩
 have f1:Fr (fun _=>False) h h1:=by rw [e1]; exact (Fr.refl _ _).push
 have V1:ListB h1 h.size (scrV sc a):=by rw [e1]; exact ListB.new
 have s1:h1.size=h.size+1:=by rw [e1,push_size]
 rw [← e1]
 obtain ⟨h2,e2⟩:∃ h2,h2=h1.push (.cells #[.slice a2.P sc2.picks.length a2.pc,.slice a2.G sc2.signs.length a2.gc,.slice a2.R sc2.res.length a2.rc,.slice a2.D sc2.red.length a2.dc,.int .i64 sc2.steps] 56):=⟨_,rfl⟩
 have f2:Fr (fun _=>False) h1 h2:=by rw [e2]; exact (Fr.refl _ _).push
 have W2:ListB h2 h1.size (scrV sc2 a2):=by rw [e2]; exact ListB.new
 have V2:ListB h2 h.size (scrV sc a):=V1.fr f2 fun h=>h
 rw [← e2]
 clear e1 e2
 have f02:=f1.trans f2
 refine useC awake25 ?_
 rintro _ h3 ⟨rfl,f3⟩
 have V3:=V2.fr f3 fun h=>h
 have W3:=W2.fr f3 fun h=>h
 have f03:=f02.trans f3
 have ld1:=load5 V3
 have ld2:=load5 W3
 simp -implicitDefEqProofs (disch:=omega) [go_sem,ld1,ld2]
 refine useC (small25_ok (RZ.fr0 f03) hzl (R.fr f03) (Ms.fr0 f03) hqs) ?_
 rintro _ h4 ⟨f4,b,rfl,hsm⟩
 have f04:=f03.trans f4
 cases b with
 | false =>
   simp -implicitDefEqProofs (disch:=omega) [go_sem]
   exact f04
 | true =>
   obtain ⟨zs,Q⟩:=hsm rfl
   obtain ⟨q1,F,q3,q4,q5,q6,q7,q8,q9,q10⟩:=Q
   subst q1
   have V4:=V3.fr f4 fun h=>h
   have W4:=W3.fr f4 fun h=>h
   clear ld1 ld2
   have ld1:=load5 V4
   have ld2:=load5 W4
   have sm2:=small25_ok (B:=B) (zc:=zc) (c:=c) (d:=d) (RZ.fr0 f04) hzl (R.fr f04) (Ms2.fr0 f04) hqs
   rw [nts_len] at sm2 ⊢
   simp -implicitDefEqProofs (disch:=omega) [go_sem,ld1,ld2]
   refine useC sm2 ?_
   clear sm2
   rintro _ h5 ⟨f5,b,rfl,hsm2⟩
   have f05:=f04.trans f5
   cases b with
   | false =>
     simp -implicitDefEqProofs (disch:=omega) [go_sem]
     exact f05
   | true =>
     obtain ⟨_,Q2⟩:=hsm2 rfl
     have p8:=Q2.r
     have p9:=Q2.d
     clear Q2 hsm hsm2
     have V5:=V4.fr f5 fun h=>h
     have W5:=W4.fr f5 fun h=>h
     clear ld1 ld2
     have ld1:=load5 V5
     have ld2:=load5 W5
     simp -implicitDefEqProofs (disch:=omega) [go_sem,ld1,ld2]
     refine useC (right25_ok F (RZ.fr0 f05) R f05 (RA.fr0 f05) rfl (by omega) hr (by omega) fun i hi=>by have:=q10 i hi; omega) ?_
     rintro _ h6 ⟨f6,b,rfl,hb⟩
     have f06:=f05.trans f6
     cases b with
     | false =>
       simp -implicitDefEqProofs (disch:=omega) [go_sem]
       exact f06
     | true =>
       obtain ⟨hall,hga⟩:=hb.1 rfl
       clear hb
       have V6:=V5.fr f6 fun h=>h
       have W6:=W5.fr f6 fun h=>h
       clear ld1 ld2
       have ld1:=load5 V6
       have ld2:=load5 W6
       simp -implicitDefEqProofs (disch:=omega) [go_sem,ld1,ld2]
       refine useC (rgood20_ok (Ms.fr0 f06)) ?_
       rintro _ h7 ⟨rfl,f7⟩
       have f07:=f06.trans f7
       have V7:=V6.fr f7 fun h=>h
       have W7:=W6.fr f7 fun h=>h
       clear ld1 ld2
       have ld1:=load5 V7
       have ld2:=load5 W7
       cases hg:goodScr sc with
       | false =>
         simp -implicitDefEqProofs (disch:=omega) [go_sem]
         exact f07
       | true =>
         simp -implicitDefEqProofs (disch:=omega) [go_sem,ld1,ld2]
         refine useC (rgood20_ok (Ms2.fr0 f07)) ?_
         rintro _ h8 ⟨rfl,f8⟩
         have f08:=f07.trans f8
         have V8:=V7.fr f8 fun h=>h
         have W8:=W7.fr f8 fun h=>h
         cases hg2:goodScr sc2 with
         | false =>
           simp -implicitDefEqProofs (disch:=omega) [go_sem]
           exact f08
         | true =>
           simp -implicitDefEqProofs (disch:=omega) [go_sem]
           refine useC (all13_ok F (RZ.fr0 f08)) ?_
           rintro _ h9 ⟨f9,X,xc,rfl,_,_⟩
           have f09:=f08.trans f9
           have V9:=V8.fr f9 fun h=>h
           have W9:=W8.fr f9 fun h=>h
           by_cases h10:10<wsum zs
           · simp -implicitDefEqProofs (disch:=omega) [go_sem]
             exact f09
           · simp -implicitDefEqProofs (disch:=omega) [go_sem]
             have z9:h1.size<h9.size:=W9.lt
             refine useC (lnew_ok F (RZ.fr0 f09) R f09 q4 q10) ?_
             rintro _ h10' ⟨f10,⟨⟨i,hi,hbad⟩,_⟩ | ⟨_,gb,cc,K,rfl,IX,hlg,hln,hcs⟩⟩
             · rw [hall i hi] at hbad; cases hbad
             obtain ⟨O,I,hO⟩:=IX (fun y=>y=h.size∨y=h1.size) fun y hy=>by omega
             have hOX:∀ y,(y=h.size∨y=h1.size)→O y:=fun y hy=>by
               obtain ⟨_,_,_,_,_,_,E⟩:=I.M.ex
               exact (E.XO y hy).1
             have f010:=f09.trans f10
             simp -implicitDefEqProofs (disch:=omega) [go_sem]
             refine useC (lnew_ok F (RZ.fr0 f010) R f010 q4 q10) ?_
             rintro _ h11 ⟨f11,⟨⟨i,hi,hbad⟩,_⟩ | ⟨_,gb2,cc2,K2,rfl,IX2,hlg2,hln2,hcs2⟩⟩
             · rw [hall i hi] at hbad; cases hbad
             obtain ⟨O2,I2,hO2⟩:=IX2 O fun y hy=>I.low hy
             have I1:=I.fr0 f11
             have f011:=f010.trans f11
             have V11:=(V9.fr f10 fun h=>h).fr f11 fun h=>h
             have W11:=(W9.fr f10 fun h=>h).fr f11 fun h=>h
             have z10:=f10.size
             clear IX IX2
             have ld11:=load5 V11
             simp -implicitDefEqProofs (disch:=omega) [go_sem,ld11]
             refine useC (lbound_ok (sc:=sc) (a:=a) (v:=wsum zs) (by omega) q8 q9) ?_
             rintro _ h12 ⟨rfl,f12⟩
             have hT:=lbd_le (v:=wsum zs) (by omega) q8 q9
             have hnT:=lbd_need (v:=wsum zs) (R:=sc.res.length) (D:=sc.red.length)
             obtain ⟨T,hTe⟩:∃ T,T=lbd (wsum zs) sc.res.length sc.red.length:=⟨_,rfl⟩
             rw [← hTe] at hT hnT ⊢
             have V12:=V11.fr f12 fun h=>h
             have W12:=W11.fr f12 fun h=>h
             have c4:=V12.at' 4 _ rfl
             have fz:=V12.fz
             obtain ⟨h13,e13⟩:∃ h13,h13=hset h12 ⟨h.size,4,none⟩ (.int .i64 T):=⟨_,rfl⟩
             have V13:ListB h13 h.size (scrV (scI sc T) a):=by rw [e13]; exact V12.set (i:=4) (.int .i64 T) (Nat.lt_succ_self 4)
             have W13:ListB h13 h1.size (scrV sc2 a2):=by rw [e13]; exact W12.oth (by omega)
             have g13:Fr (fun y=>y=h.size) h12 h13:=by rw [e13]; exact (Fr.refl _ _).set rfl
             have f013:Fr (fun _=>False) h h13:=by rw [e13]; exact (f011.trans f12).new (Nat.le_refl _)
             have ld13:=load5 W13
             simp -implicitDefEqProofs (disch:=omega) [go_sem,c4,fz]
             rw [← e13]
             clear c4 fz
             simp -implicitDefEqProofs (disch:=omega) [go_sem,ld13]
             refine useC (lbound_ok (sc:=sc2) (a:=a2) (v:=wsum zs) (by omega) p8 p9) ?_
             rintro _ h14 ⟨rfl,f14⟩
             have hT2:=lbd_le (v:=wsum zs) (by omega) p8 p9
             have hnT2:=lbd_need (v:=wsum zs) (R:=sc2.res.length) (D:=sc2.red.length)
             obtain ⟨T2,hTe2⟩:∃ T2,T2=lbd (wsum zs) sc2.res.length sc2.red.length:=⟨_,rfl⟩
             rw [← hTe2] at hT2 hnT2 ⊢
             have V14:=V13.fr f14 fun h=>h
             have W14:=W13.fr f14 fun h=>h
             have c4:=W14.at' 4 _ rfl
             have fz:=W14.fz
             obtain ⟨h15,e15⟩:∃ h15,h15=hset h14 ⟨h1.size,4,none⟩ (.int .i64 T2):=⟨_,rfl⟩
             have V15:ListB h15 h.size (scrV (scI sc T) a):=by rw [e15]; exact V14.oth (by omega)
             have W15:ListB h15 h1.size (scrV (scI sc2 T2) a2):=by rw [e15]; exact W14.set (i:=4) (.int .i64 T2) (Nat.lt_succ_self 4)
             have g15:Fr (fun y=>y=h1.size) h14 h15:=by rw [e15]; exact (Fr.refl _ _).set rfl
             have f015:Fr (fun _=>False) h h15:=by rw [e15]; exact (f013.trans f14).new (show h.size≤h1.size by omega)
             have ld15:=load5 V15
             simp -implicitDefEqProofs (disch:=omega) [go_sem,c4,fz]
             rw [← e15]
             clear c4 fz e13 e15 ld11 ld13
             simp -implicitDefEqProofs (disch:=omega) [go_sem,ld15]
             have J1:=((((I1.fr0 f12).oth (g13.mono fun y _ hy=>.inl hy)).fr0 f14).oth (g15.mono fun y _ hy=>.inr hy)).shrink
             have J2:=(((I2.fr0 f12).oth (g13.mono fun y _ hy=>hOX y (.inl hy))).fr0 f14).oth (g15.mono fun y _ hy=>hOX y (.inr hy))
             obtain ⟨N1,hN1⟩:∃ N1,N1=fun y=>O y∧¬ (y=h.size∨y=h1.size):=⟨_,rfl⟩
             have lN1:∀ y,N1 y→h9.size≤y∧O y:=fun y hy=>by
               rw [hN1] at hy
               exact ⟨(hO y hy.1).resolve_right hy.2,hy.1⟩
             rw [← hN1] at J1
             clear hN1 I1 I2 I
             have zT:∀ y,y<h.size→y<h15.size:=fun y hy=>by have:=f015.size; omega
             have nO1:∀ {B':Option Addr} {ws:List Value},RowAt h B' ws→NotO N1 h15 B' ws:=fun RB hv y hy=>by
               have h1:=row_lt RB hv hy
               exact ⟨zT y h1,fun ho=>by have:=(lN1 y ho).1; omega⟩
             have sT:-9223372036854775808≤(T:Int)∧(T:Int)≤9223372036854775807:=by omega
             have sT2:-9223372036854775808≤(T2:Int)∧(T2:Int)≤9223372036854775807:=by omega
             have Sc:ScrO N1 h15 (scI sc T) a:=⟨scI_M (Ms.fr0 f015) sT,nO1 Ms.P,nO1 Ms.G,nO1 Ms.R,nO1 Ms.D⟩
             have hp2:2^wsum zs≤16384:=show 2^wsum zs≤2^14 from Nat.pow_le_pow_right (by omega) q3
             obtain ⟨L1,L2,L3,hR,y1,y2,y3⟩:=room_of (M0:=2^wsum zs) (D:=needN (wsum zs) sc.res.length) hp2 (needN_le14 q3 q8) q4 (by rw [hlg]; rfl) (by rw [hln]; rfl) hcs
             refine useC (esolve_ok J1 F Sc (RA.fr0 f015) (nO1 RA) rfl (by omega) hr rfl cntM_le (by omega) hR y1 y2 y3) ?_
             rintro r h16 ⟨O6,c6,pf6,K6,tot,tn,s16,I6,hz0,hz1,hz2,hz3,E⟩
             have f016:Fr (fun _=>False) h h16:=f015.trans' s16.fr fun y hy ho=>by have:=(lN1 y ho).1; omega
             have W16:ListB h16 h1.size (scrV (scI sc2 T2) a2):=W15.fr s16.fr fun ho=>by have:=(lN1 _ ho).1; omega
             have J2':=(J2.oth (s16.fr.mono fun y _ hy=>(lN1 y hy).2)).shrink
             have hCg:∀ C∈csOf gs m,goodC (wsum zs) C=true:=fun C hC=>by
               obtain ⟨i,hi,rfl⟩:=mem_csOf.1 hC
               exact hall i hi
             have hrngC:∀ C∈csOf gs m,C.length<2^40∧∀ x∈C,x.natAbs≤16777216:=fun C hC=>by
               obtain ⟨i,hi,rfl⟩:=mem_csOf.1 hC
               exact ⟨by have:=q10 i hi; omega,fun x hx=>by have:=goodC_mem (hall i hi) hx; omega⟩
             have ham:∀ x∈am,1≤x.natAbs∧x.natAbs≤wsum zs:=fun x hx=>goodC_mem hga hx
             obtain ⟨v1,v2,n,rfl,hn⟩:=E.want (by rw [scI_good2 hg (by omega) (by omega),hga]; rfl) (fun g1 g2=>by have g1':(tot:Int)=(T:Int):=g1; have g2':tot<(2^wsum zs+1)*needN (wsum zs) sc.res.length:=g2; omega) hCg ham
             clear E
             have ld16:=load5 W16
             simp -implicitDefEqProofs (disch:=omega) [go_sem,ext4,ld16]
             obtain ⟨N2,hN2⟩:∃ N2,N2=fun y=>O2 y∧¬ O y:=⟨_,rfl⟩
             have lN2:∀ y,N2 y→h10'.size≤y:=fun y hy=>by
               rw [hN2] at hy
               exact (hO2 y hy.1).resolve_right hy.2
             rw [← hN2] at J2'
             clear hN2
             have zT':∀ y,y<h.size→y<h16.size:=fun y hy=>by have:=f016.size; omega
             have nO2:∀ {B':Option Addr} {ws:List Value},RowAt h B' ws→NotO N2 h16 B' ws:=fun RB hv y hy=>by
               have h1:=row_lt RB hv hy
               exact ⟨zT' y h1,fun ho=>by have:=lN2 y ho; omega⟩
             have Sc2:ScrO N2 h16 (scI sc2 T2) a2:=⟨scI_M (Ms2.fr0 f016) sT2,nO2 Ms2.P,nO2 Ms2.G,nO2 Ms2.R,nO2 Ms2.D⟩
             obtain ⟨L1',L2',L3',hR',y1',y2',y3'⟩:=room_of (M0:=2^wsum zs) (D:=needN (wsum zs) sc2.res.length) hp2 (needN_le14 q3 p8) q4 (by rw [hlg2]; rfl) (by rw [hln2]; rfl) hcs2
             refine useC (esolve_ok J2' F Sc2 (RA.fr0 f016) (nO2 RA) rfl (by omega) hr rfl cntM_le (by omega) hR' y1' y2' y3') ?_
             rintro r h17 ⟨O7,c7,pf7,K7,tot2,tn2,s17,I7,_,_,_,_,E⟩
             have f017:Fr (fun _=>False) h h17:=f016.trans' s17.fr fun y hy ho=>by have:=lN2 y ho; omega
             obtain ⟨v1',v2',n',rfl,hn'⟩:=E.want (by rw [scI_good2 hg2 (by omega) (by omega),hga]; rfl) (fun g1 g2=>by have g1':(tot2:Int)=(T2:Int):=g1; have g2':tot2<(2^wsum zs+1)*needN (wsum zs) sc2.res.length:=g2; omega) hCg ham
             clear E
             simp -implicitDefEqProofs (disch:=omega) [go_sem,ext4]
             refine useC (any25_ok F (RZ.fr0 f017) (R.fr f017).rowsA csOf_len.symm (by omega) hrngC (RA.fr0 f017) rfl (by omega) fun x hx=>by have:=ham x hx; omega) ?_
             rintro _ h18 ⟨f18,b,rfl,hb⟩
             have f018:=f017.trans f18
             cases b with
             | false =>
               have hno:¬ anyP zs (csOf gs m) am:=fun hp=>by have:=hb.2 hp; cases this
               obtain rfl:n=1:=(hn.resolve_left fun h=>hno h.2).1
               obtain rfl:n'=1:=(hn'.resolve_left fun h=>hno h.2).1
               simp -implicitDefEqProofs (disch:=omega) [go_sem,ext4]
               exact f018
             | true =>
               have hyes:=hb.1 rfl
               obtain rfl:n=0:=(hn.resolve_right fun h=>h.2 hyes).1
               obtain rfl:n'=0:=(hn'.resolve_right fun h=>h.2 hyes).1
               simp -implicitDefEqProofs (disch:=omega) [go_sem,ext4]
               exact f018
end
end Xe
