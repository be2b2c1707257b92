/- LazyTells, walked. -/
import Derived.Test.YtkghjecglmmloaaGreatA26
namespace Xe
open Go Tp Go.Proofs Hq
set_option maxRecDepth 16000
set_option maxHeartbeats 4000000
theorem needN_le14 {v R:Nat} (hv:v≤14) (hR:R≤20):needN v R≤5160960:=by
 unfold needN
 have h1:(v+1)*2^v≤15*16384:=Nat.mul_le_mul (by omega) (Nat.pow_le_pow_right (n:=2) (by omega) hv)
 have h2:R*((v+1)*2^v)≤20*(15*16384):=Nat.mul_le_mul hR h1
 omega
theorem room_of {c:CSt} {M0 D m:Nat} (hM:M0≤16384) (hD:D≤5160960) (hm:m≤16) (hlg:c.lg.length=0) (hln:c.ln.length=0) (hcs:c.s.cs.length≤m) :
  ∃ L1 L2 L3,Room c [] M0 D L1 L2 L3∧L1<2^40∧2*L2+L3<2^40∧(M0+1)*D<2^40:=by
 have h1:(M0+1)*(D+1)≤16385*5160961:=Nat.mul_le_mul (by omega) (by omega)
 have h2:(M0+1)*(2*D)≤16385*10321920:=Nat.mul_le_mul (by omega) (by omega)
 have h3:(M0+1)*D≤16385*5160960:=Nat.mul_le_mul (by omega) (by omega)
 exact ⟨m+(M0+1)*(D+1),(M0+1)*(2*D),(M0+1)*2,⟨by omega,by omega,by simp⟩,by omega,by omega,by omega⟩
theorem okT_of {zs:List Nat} {ch:List Int} {Cs:List (List Int)} {ls:List Int} (hC:∀ C∈Cs,goodC (wsum zs) C=true) (hl:∀ x∈ls,1≤x.natAbs∧x.natAbs≤wsum zs):okT Cs ls (tru zs ch)=true↔(∀ C∈Cs,SatM (MB (tru zs ch)) C)∧∀ x∈ls,MB (tru zs ch) x:=by
 unfold okT
 rw [Bool.and_eq_true,List.all_eq_true,List.all_eq_true]
 refine and_congr (forall_congr' fun C=>forall_congr' fun hCm=>(MB_of fun x hx=>by rw [tru_len]; exact goodC_mem (hC C hCm) hx).symm) (forall_congr' fun x=>forall_congr' fun hx=>?_)
 unfold MB
 rw [tru_len,if_pos (hl x hx),decide_eq_true_eq]
section
variable {h:Heap}
theorem tells25_walk (Z:Option Addr) (zc:Nat) (zl:List Int) (hzl:zl.length<2^63) (RZ:RowAt h Z (ints zl)) (hzr:∀ x∈zl,-9223372036854775808≤x∧x≤9223372036854775807) (A:Option Addr) (m c:Nat) (gs:Nat→List Int) (R:Args2 h A m gs) (sc:Scr) (a:ScrA) (Ms:ScrM h sc a) (B:Option Addr) (d:Nat) (am:List Int) (hqs:am.length<2^63) (RA:RowAt h B (ints am)) (hr:∀ x∈am,-9223372036854775808≤x∧x≤9223372036854775807) :
   CallsH Tryz.prog 8 [.slice Z zl.length zc,.slice A m c,.agg (scrV sc a).toArray,.slice B am.length d] h fun r h'=>r=.bool true∧Fr (fun _=>False) h h':=by
 refine calls_of 171 [.tmp 8] Go.Proofs.Tryz.func8 rfl rfl rfl (by kernel_rfl) (Nat.le_of_ble_eq_true rfl) ?_
 unfold scrV
 simp -implicitDefEqProofs (disch:=omega) [go_sem]
 obtain ⟨h1,e1⟩:∃ h1,h1=h.push (.cells #[.slice a.P sc.picks.length a.pc,.slice a.G sc.signs.length a.gc,.slice a.R sc.res.length a.rc,.slice a.D sc.red.length a.dc,.int .i64 sc.steps] 56):=⟨_,rfl⟩
 have f1:Fr (fun _=>False) h h1:=by rw [e1]; exact (Fr.refl _ _).push
 have V1:ListB h1 h.size (scrV sc a):=by rw [e1]; exact ListB.new
 rw [← e1]
 refine useC awake25 ?_
 rintro _ h2 ⟨rfl,f2⟩
 have V2:=V1.fr f2 fun h=>h
 have ld2:=load5 V2
 have f02:=f1.trans f2
 simp -implicitDefEqProofs (disch:=omega) [go_sem,ld2]
 refine useC (small25_ok (RZ.fr0 f02) hzl (R.fr f02) (Ms.fr0 f02) hqs) ?_
 rintro _ h3 ⟨f3,b,rfl,hsm⟩
 have f03:=f02.trans f3
 cases b with
 | false =>
   simp -implicitDefEqProofs (disch:=omega) [go_sem]
   exact f03
 | true =>
   obtain ⟨zs,Q⟩:=hsm rfl
   obtain ⟨q1,F,q3,q4,q5,q6,q7,q8,q9,q10⟩:=Q
   subst q1
   rw [nts_len]
   simp -implicitDefEqProofs (disch:=omega) [go_sem]
   have V3:=V2.fr f3 fun h=>h
   refine useC (lnew_ok F (RZ.fr0 f03) R f03 q4 q10) ?_
   rintro _ h4 ⟨f4,hor⟩
   have f04:=f03.trans f4
   have V4:=V3.fr f4 fun h=>h
   have z3:h.size<h3.size:=V3.lt
   rcases hor with ⟨⟨i,hi,hb⟩,rfl⟩ | ⟨hall,gb,c4,K,rfl,IX,hlg,hln,hcs⟩
   · simp -implicitDefEqProofs (disch:=omega) [go_sem]
     refine useC (right25_ok (q:=0) (d:=0) (am:=[]) (B:=none) F (RZ.fr0 f04) R f04 RowAt.nil rfl (by decide) (fun x hx=>(nomatch hx)) (by omega) fun i hi=>by have:=q10 i hi; omega) ?_
     rintro _ h5 ⟨f5,b,rfl,hbb⟩
     have hbf:b=false:=by
       cases b with
       | false=>rfl
       | true=>have:=(hbb.1 rfl).1 i hi; rw [hb] at this; cases this
     subst hbf
     simp -implicitDefEqProofs (disch:=omega) [go_sem]
     exact f04.trans f5
   · obtain ⟨O,I,hO'⟩:=IX (fun _=>False) fun _ h=>h.elim
     have hO:=fun y hy=>(hO' y hy).resolve_right id
     simp -implicitDefEqProofs (disch:=omega) [go_sem]
     refine useC (right25_ok (q:=0) (d:=0) (am:=[]) (B:=none) F (RZ.fr0 f04) R f04 RowAt.nil rfl (by decide) (fun x hx=>(nomatch hx)) (by omega) fun i hi=>by have:=q10 i hi; omega) ?_
     rintro _ h5 ⟨f5,b,rfl,hbb⟩
     obtain rfl:b=true:=hbb.2 ⟨hall,by unfold goodC; rfl⟩
     have f05:=f04.trans f5
     have V5:=V4.fr f5 fun h=>h
     have ld5:=load5 V5
     simp -implicitDefEqProofs (disch:=omega) [go_sem,ld5]
     have nO:∀ {B':Option Addr} {ws:List Value},RowAt h B' ws→NotO O h5 B' ws:=fun RB hv y hy=>by
       have h1:=row_lt RB hv hy
       have h2:=f05.size
       exact ⟨by omega,fun ho=>by have:=hO y ho; omega⟩
     have Sc:ScrO O h5 sc a:=⟨Ms.fr0 f05,nO Ms.P,nO Ms.G,nO Ms.R,nO Ms.D⟩
     have hp2:2^wsum zs≤16384:=show 2^wsum zs≤2^14 from Nat.pow_le_pow_right (by omega) q3
     obtain ⟨L1,L2,L3,hR,y1,y2,y3⟩:=room_of (M0:=2^wsum zs) (D:=needN (wsum zs) sc.res.length) hp2 (needN_le14 q3 q8) q4 (by rw [hlg]; rfl) (by rw [hln]; rfl) hcs
     have I5:EngI h5 O (fun _=>False) gb zs (csOf gs m) c4 [] K 0 0:=⟨I.M.fr0 f5,I.S,I.HF,I.hv,I.K⟩
     refine useC (esolve_ok I5 F Sc (RA.fr0 f05) (nO RA) rfl (by omega) hr rfl cntM_le (by omega) hR y1 y2 y3) ?_
     rintro r h6 ⟨O6,c6,pf6,K6,tot,tn,a6,I6,hz0,hz1,hz2,hz3,E⟩
     have f06:Fr (fun _=>False) h h6:=f05.trans' a6.fr fun y hy ho=>by have:=hO y ho; omega
     have V6:ListB h6 h.size (scrV sc a):=V5.fr a6.fr fun ho=>by have:=hO _ ho; omega
     obtain ⟨v0,v1,v2,v3,rfl⟩:∃ v0 v1 v2 v3,r=.tuple #[v0,v1,v2,v3]:=by cases E <;> exact ⟨_,_,_,_,rfl⟩
     have ld6:=load5 V6
     simp -implicitDefEqProofs (disch:=omega) [go_sem,ext4]
     refine useC (right25_ok (m:=0) (c:=0) (A:=none) (gs:=gs) (h0:=h6) F (RZ.fr0 f06) ⟨by decide,fun i hi=>absurd hi (Nat.not_lt_zero _)⟩ (Fr.refl _ _) (RA.fr0 f06) rfl (by omega) hr (by decide) fun i hi=>absurd hi (Nat.not_lt_zero _)) ?_
     rintro _ h7 ⟨f7,b7,rfl,hb7⟩
     have f07:=f06.trans f7
     have hb7':b7=goodC (wsum zs) am:=by
       cases b7 with
       | true=>exact ((hb7.1 rfl).2).symm
       | false =>
         cases hg:goodC (wsum zs) am with
         | false=>rfl
         | true=>exact hb7.2 ⟨fun i hi=>absurd hi (Nat.not_lt_zero _),hg⟩
     have V7:=V6.fr f7 fun h=>h
     have ld7:=load5 V7
     have b47:=V7.at' 4 _ rfl
     have hcl:∀ x∈am,goodC (wsum zs) am=true→1≤x.natAbs∧x.natAbs≤wsum zs:=fun x hx hg=>goodC_mem hg hx
     clear hb7
     subst hb7'
     have htn16:tn≤16385:=by omega
     have htb:∀ {x:Int},(tot:Int)≤x→x≤1099511627776→(tot:Int)<9007199254740992:=fun h1 h2=>by omega
     have badE:(goodScr sc&&goodC (wsum zs) am)=false→v3=.int .i64 1∧v1=.slice none 0 0∧v2=.slice none 0 0:=fun hb=>by
       cases E with
       | bad _=>exact ⟨rfl,rfl,rfl⟩
       | model q _=>rw [hb] at q; cases q
       | none q _=>rw [hb] at q; cases q
       | steps q _=>rw [hb] at q; cases q
     cases hga:goodC (wsum zs) am with
     | false =>
       rw [hga,Bool.and_false] at badE
       obtain ⟨rfl,rfl,rfl⟩:=badE rfl
       simp -implicitDefEqProofs (disch:=omega) [go_sem,ext4]
       exact f07
     | true =>
       simp -implicitDefEqProofs (disch:=omega) [go_sem,ext4,ld7]
       refine useC (rgood20_ok (Ms.fr0 f07)) ?_
       rintro _ h8 ⟨rfl,f8⟩
       have f08:=f07.trans f8
       cases hgs:goodScr sc with
       | false =>
         rw [hgs,Bool.false_and] at badE
         obtain ⟨rfl,rfl,rfl⟩:=badE rfl
         simp -implicitDefEqProofs (disch:=omega) [go_sem,ext4]
         exact f08
       | true =>
         clear badE
         have hst:=goodScr_S hgs
         have hs0:=hst.s0
         have hs1:=hst.s1
         obtain ⟨rfl,htn,hts⟩:v3=.int .i64 0∧1≤tn∧(tot:Int)≤sc.steps:=by
           cases E with
           | bad q=>rw [hgs,hga] at q; cases q
           | model _ q2 q3=>exact ⟨rfl,q2,q3⟩
           | none _ q2 q3=>exact ⟨rfl,q2,q3⟩
           | steps _ q2 q3=>exact ⟨rfl,q2,Int.le_of_eq q3⟩
         have b48:=(V7.fr f8 fun h=>h).at' 4 _ rfl
         have E8:=(I6.M.fr0 f7).fr0 f8
         have n0:¬ (tot:Int)<0:=by omega
         have hCg:∀ C∈csOf gs m,goodC (wsum zs) C=true:=fun C hC=>by
           obtain ⟨i,hi,rfl⟩:=mem_csOf.1 hC
           exact hall i hi
         have hrngC:∀ C∈csOf gs m,C.length<2^40∧∀ x∈C,x.natAbs≤16777216:=fun C hC=>by
           obtain ⟨i,hi,rfl⟩:=mem_csOf.1 hC
           exact ⟨by have:=q10 i hi; omega,fun x hx=>by have:=goodC_mem (hall i hi) hx; omega⟩
         have ham:∀ x∈am,1≤x.natAbs∧x.natAbs≤wsum zs:=fun x hx=>hcl x hx hga
         have n1:¬ sc.steps<(tot:Int):=by omega
         have n2:¬ (tn:Int)<1:=by omega
         simp -implicitDefEqProofs (disch:=omega) [go_sem,ext4]
         refine drawC [(0,0),(1,0),(2,0),(3,0),(4,3),(5,0),(6,0),(7,0),(8,0),(10,0),(11,2),(9,3),(12,0),(13,0),(14,0),(15,0),(16,3),(17,0),(18,0)] (fun h'=>hcell h' ⟨h.size,4,none⟩=some (.int .i64 sc.steps)) mixed (by kernel_rfl) b48 ?_
         simp -implicitDefEqProofs (disch:=omega) [go_sem,ext4]
         refine useC (esteps_ok E8 (by omega) (by omega)) ?_
         rintro _ h9 ⟨rfl,rfl⟩
         refine ⟨b48,?_⟩
         simp -implicitDefEqProofs (disch:=omega) [go_sem,ext4,n0]
         refine float2g (.int .i64 sc.steps) (by rfl) (fun h' hC=>by simp -implicitDefEqProofs (disch:=omega) [go_sem,hC]) ?_
         simp -implicitDefEqProofs (disch:=omega) [go_sem,ext4,n0]
         refine useC (esteps_ok E8 (by omega) (by omega)) ?_
         rintro _ h9 ⟨rfl,rfl⟩
         refine ⟨b48,?_⟩
         simp -implicitDefEqProofs (disch:=omega) [go_sem,ext4,n0,n1]
         refine useC (eturns_ok E8 (by omega) (by omega)) ?_
         rintro _ h9 ⟨rfl,rfl⟩
         refine ⟨b48,?_⟩
         simp -implicitDefEqProofs (disch:=omega) [go_sem,ext4,n0,n1,n2]
         cases E with
         | @model B' bc ch _ _ _ w4 w5 w6 w7 =>
           have hcl2:(ch.length:Int)=(zs.length:Int):=by rw [w5.len]
           have hok:=(okT_of hCg ham).2 ⟨w6,w7⟩
           have hok2:((csOf gs m).all fun K=>holdB (tru zs ch) K)=true∧∀ x∈am,truB (tru zs ch) x=1:=by
             unfold okT at hok
             rw [Bool.and_eq_true,List.all_eq_true (l:=am)] at hok
             exact ⟨hok.1,fun x hx=>of_decide_eq_true (hok.2 x hx)⟩
           have hlen4:=F.len
           simp -implicitDefEqProofs (disch:=omega) [go_sem,ext4]
           refine useC (truths13_ok F (RZ.fr0 f08) ((w4.row.fr0 f7).fr0 f8) w5) ?_
           rintro _ h10 ⟨f10,X,xc,rfl,SX,ownX⟩
           have f010:=f08.trans f10
           obtain ⟨bs,hbs⟩:∃ bs,bs=tru zs ch:=⟨_,rfl⟩
           have hbl:bs.length≤32:=by rw [hbs,tru_len]; omega
           rw [← hbs] at SX hok2 ⊢
           simp -implicitDefEqProofs (disch:=omega) [go_sem,ext4,hcl2]
           refine useC (rall12_ok (R.fr f010).rowsA csOf_len.symm (by omega) hrngC SX.row rfl (by omega)) ?_
           rintro _ h11 ⟨rfl,rfl⟩
           rw [hok2.1]
           simp -implicitDefEqProofs (disch:=omega) [go_sem,ext4]
           refine loopK (fun ρ h'=>(ρ 3=.slice B am.length d∧ρ 14=.slice X bs.length xc∧h'=h11)∧∃ i:Nat,ρ 15=.int .i64 i∧i≤am.length) (fun ρ _=>am.length-(intOf (ρ 15)).toNat) (by kernel_rfl) ?_ ?_
           · exact ⟨⟨rfl,rfl,rfl⟩,0,rfl,Nat.zero_le _⟩
           · rintro ρ h12 ⟨⟨r3,r14,rfl⟩,i,r15,hi⟩
             by_cases hin:i<am.length
             · obtain ⟨x,hx⟩:=some_at hin
               have hxm:=List.mem_of_getElem? hx
               have hxr:=ham x hxm
               obtain ⟨bk,off,rfl,hc⟩:=(RA.fr0 f010).get (by rw [ints_len]; omega)
               have c0:=hc _ _ (ints_at hx)
               simp -implicitDefEqProofs (disch:=omega) [go_sem,r3,r14,r15,c0]
               refine useC (rtruth12_ok SX.row rfl (by omega) (by omega)) ?_
               rintro _ h13 ⟨rfl,rfl⟩
               rw [hok2.2 x hxm]
               simp -implicitDefEqProofs (disch:=omega) [go_sem,r3,r14,r15]
               exact ⟨⟨i+1,by omega,by omega⟩,by omega⟩
             · simp -implicitDefEqProofs (disch:=omega) [go_sem,r3,r14,r15]
               exact f010
         | @none CA cd cl _ _ _ w4 w5 w6 w7 =>
           have R8:=(w4.fr0 f7).fr0 f8
           have hclr:∀ x∈cl,1≤x.natAbs∧x.natAbs≤wsum zs:=fun x hx=>ham x (w5 x hx)
           have hno1:¬ anyP zs (csOf gs m) am:=fun ⟨ch,V,ho⟩=>by
             obtain ⟨g1,g2⟩:=(okT_of hCg ham).1 ho
             exact w7 ch V g1 fun x hx=>g2 x (w5 x hx)
           have hno2:¬ anyP zs (csOf gs m) cl:=fun ⟨ch,V,ho⟩=>by
             obtain ⟨g1,g2⟩:=(okT_of hCg hclr).1 ho
             exact w7 ch V g1 g2
           simp -implicitDefEqProofs (disch:=omega) [go_sem,ext4]
           refine loopK (fun ρ h'=>(ρ 0=.slice Z zs.length zc∧ρ 1=.slice A m c∧ρ 3=.slice B am.length d∧ρ 11=.slice none 0 0∧ρ 12=.slice CA cl.length cd∧h'=h9)∧∃ i:Nat,ρ 16=.int .i64 i∧i≤cl.length) (fun ρ _=>cl.length-(intOf (ρ 16)).toNat) (by kernel_rfl) ?_ ?_
           · exact ⟨⟨rfl,rfl,rfl,rfl,rfl,rfl⟩,0,rfl,Nat.zero_le _⟩
           · rintro ρ h12 ⟨⟨r0,r1,r3,r11,r12,rfl⟩,i,r16,hi⟩
             by_cases hin:i<cl.length
             · obtain ⟨x,hx⟩:=some_at hin
               have hxa:=w5 x (List.mem_of_getElem? hx)
               obtain ⟨bk,off,rfl,hc⟩:=R8.get (by rw [ints_len]; omega)
               have c0:=hc _ _ (ints_at hx)
               simp -implicitDefEqProofs (disch:=omega) [go_sem,r0,r1,r3,r11,r12,r16,c0]
               refine useC (has12_ok (RA.fr0 f08) rfl (by omega) x) ?_
               rintro _ h13 ⟨rfl,rfl⟩
               simp -implicitDefEqProofs (disch:=omega) [go_sem,r0,r1,r3,r11,r12,r16,hxa]
               exact ⟨⟨i+1,by omega,by omega⟩,by omega⟩
             · simp -implicitDefEqProofs (disch:=omega) [go_sem,r0,r1,r3,r11,r12,r16]
               refine useC (any25_ok F (RZ.fr0 f08) (R.fr f08).rowsA csOf_len.symm (by omega) hrngC (RA.fr0 f08) rfl (by omega) fun x hx=>by have:=ham x hx; omega) ?_
               rintro _ h13 ⟨f13,b,rfl,hb⟩
               obtain rfl:b=false:=by
                cases b with
                | false=>rfl
                | true=>exact absurd (hb.1 rfl) hno1
               simp -implicitDefEqProofs (disch:=omega) [go_sem,r0,r1,r3,r11,r12,r16]
               refine useC (any25_ok F (RZ.fr0 (f08.trans f13)) (R.fr (f08.trans f13)).rowsA csOf_len.symm (by omega) hrngC (R8.fr0 f13) rfl (by omega) fun x hx=>by have:=hclr x hx; omega) ?_
               rintro _ h14 ⟨f14,b,rfl,hb2⟩
               obtain rfl:b=false:=by
                cases b with
                | false=>rfl
                | true=>exact absurd (hb2.1 rfl) hno2
               simp -implicitDefEqProofs (disch:=omega) [go_sem,r0,r1,r3,r11,r12,r16]
               exact (f08.trans f13).trans f14
         | steps _ _ w3 _ =>
           simp -implicitDefEqProofs (disch:=omega) [go_sem,ext4]
           refine drawC [(0,0),(1,0),(2,0),(3,0),(5,0),(6,2),(4,3),(7,0),(8,0),(9,0),(10,0),(11,0),(12,0),(13,0),(14,0),(15,0),(16,0),(17,0),(18,0),(19,0)] (fun h'=>hcell h' ⟨h.size,4,none⟩=some (.int .i64 sc.steps)) mixed (by kernel_rfl) b48 ?_
           simp -implicitDefEqProofs (disch:=omega) [go_sem,ext4]
           refine float2g (.int .i64 sc.steps) (by rfl) (fun h' hC=>by simp -implicitDefEqProofs (disch:=omega) [go_sem,hC]) ?_
           simp -implicitDefEqProofs (disch:=omega) [go_sem,ext4]
           refine useC (esteps_ok E8 (by omega) (by omega)) ?_
           rintro _ h10 ⟨rfl,rfl⟩
           refine ⟨b48,?_⟩
           simp -implicitDefEqProofs (disch:=omega) [go_sem,ext4,w3]
           exact f08
end
end Xe
