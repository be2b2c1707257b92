/- Sorting in place, walked: the pattern-defeating sort. -/
import Derived.Test.YtkghjecglmmloaaGreatSP10
import Derived.Test.YtkghjecglmmloaaGreatSOb
import Derived.Test.YtkghjecglmmloaaGreatWP2
import Derived.Test.YtkghjecglmmloaaGreatWA
import Derived.Test.YtkghjecglmmloaaGreatSP9
namespace Xe
open Go Go.Proofs
set_option maxRecDepth 16000
set_option maxHeartbeats 1000000
structure Pl (cf:Value→Value→Int) (L:List Value) (a0 b0 a b:Nat):Prop where
 l:∀ p q,a0≤p→p<q→q<b0→p<a→0≤cf (gv L q) (gv L p)
 r:∀ p q,a0≤p→p<q→q<b0→b≤q→0≤cf (gv L q) (gv L p)
section
variable {cf:Value→Value→Int} {L L':List Value} {a0 b0 a b a' b':Nat}
theorem Pl.start:Pl cf L a0 b0 a0 b0:=⟨fun p q h1 h2 h3 h4=>by omega,fun p q h1 h2 h3 h4=>by omega⟩
theorem Pl.rng (P:Pl cf L a0 b0 a b) (ha:a0≤a) (hb:b≤b0) (hab:a≤b) (R:Rng a b L L'):Pl cf L' a0 b0 a b:=by
 refine ⟨fun p q h1 h2 h3 h4=>?_,fun p q h1 h2 h3 h4=>?_⟩
 · rw [R.out (p:=p) (by omega)]
   by_cases hq:a≤q∧q<b
   · exact R.all (P:=fun x=>0≤cf x (gv L p)) (fun q g1 g2=>P.l p q h1 (by omega) (by omega) h4) q hq.1 hq.2
   · rw [R.out (p:=q) (by omega)]; exact P.l p q h1 h2 h3 h4
 · rw [R.out (p:=q) (by omega)]
   by_cases hp:a≤p∧p<b
   · exact R.all (P:=fun x=>0≤cf (gv L q) x) (fun p g1 g2=>P.r p q (by omega) (by omega) h3 h4) p hp.1 hp.2
   · rw [R.out (p:=p) (by omega)]; exact P.r p q h1 h2 h3 h4
theorem Pl.fin (P:Pl cf L a0 b0 a b) (S:Srt cf a b L):Srt cf a0 b0 L:=fun p q h1 h2 h3=>by
 by_cases hp:p<a
 · exact P.l p q h1 h2 h3 hp
 · by_cases hq:b≤q
   · exact P.r p q h1 h2 h3 hq
   · exact S p q (by omega) h2 (by omega)
theorem Pl.up (P:Pl cf L a0 b0 a b) (h:∀ p q,a≤p→p<a'→p<q→q<b→0≤cf (gv L q) (gv L p)):Pl cf L a0 b0 a' b :=
 ⟨fun p q h1 h2 h3 h4=>by
  by_cases hp:p<a
  · exact P.l p q h1 h2 h3 hp
  · by_cases hq:b≤q
    · exact P.r p q h1 h2 h3 hq
    · exact h p q (by omega) h4 h2 (by omega),P.r⟩
theorem Pl.dn (P:Pl cf L a0 b0 a b) (h:∀ p q,a≤p→p<q→b'≤q→q<b→0≤cf (gv L q) (gv L p)):Pl cf L a0 b0 a b' :=
 ⟨P.l,fun p q h1 h2 h3 h4=>by
  by_cases hp:p<a
  · exact P.l p q h1 h2 h3 hp
  · by_cases hq:b≤q
    · exact P.r p q h1 h2 h3 hq
    · exact h p q (by omega) h2 h4 (by omega)⟩
theorem Pl.left {ok:Value→Prop} {mid:Nat} {L3 L4:List Value} (C:COk cf ok) (hok:OkR ok L3) (P:Pl cf L3 a0 b0 a b) (ha:a0≤a) (hb:b≤b0) (hm:a≤mid) (hm2:mid<b) (hl:b≤L3.length)
   (h1:∀ p,a≤p→p<mid→cf (gv L3 p) (gv L3 mid)<0) (h2:∀ p,mid<p→p<b→0≤cf (gv L3 p) (gv L3 mid)) (R:Rng a mid L3 L4) (S:Srt cf a mid L4):Pl cf L4 a0 b0 (mid+1) b:=by
 have P4:=P.rng ha hb (by omega) (R.mono (Nat.le_refl _) (Nat.le_of_lt hm2) hl)
 have ok4:=hok.rng R (by omega)
 have hl4:=R.len
 refine P4.up fun p q g1 g2 g3 g4=>?_
 by_cases hq:q<mid
 · exact S p q g1 g3 hq
 · have eq3:=R.out (p:=q) (by omega)
   by_cases hp:p=mid
   · subst hp
     rw [eq3,R.out (p:=p) (by omega)]; exact h2 q g3 g4
   · have hlt:=R.all (P:=fun x=>cf x (gv L3 mid)<0) h1 p g1 (by omega)
     have hle:=C.asy _ _ (ok4 p (by omega)) (hok mid (by omega)) hlt
     rw [eq3]
     by_cases e:q=mid
     · subst e; exact hle
     · exact C.tr _ _ _ (ok4 p (by omega)) (hok mid (by omega)) (hok q (by omega)) hle (h2 q (by omega) g4)
theorem Pl.right {ok:Value→Prop} {mid:Nat} {L3 L4:List Value} (C:COk cf ok) (hok:OkR ok L3) (P:Pl cf L3 a0 b0 a b) (ha:a0≤a) (hb:b≤b0) (hm:a≤mid) (hm2:mid<b) (hl:b≤L3.length)
   (h1:∀ p,a≤p→p<mid→cf (gv L3 p) (gv L3 mid)<0) (h2:∀ p,mid<p→p<b→0≤cf (gv L3 p) (gv L3 mid)) (R:Rng (mid+1) b L3 L4) (S:Srt cf (mid+1) b L4):Pl cf L4 a0 b0 a mid:=by
 have P4:=P.rng ha hb (by omega) (R.mono (by omega) (Nat.le_refl _) hl)
 have ok4:=hok.rng R (by omega)
 have hl4:=R.len
 refine P4.dn fun p q g1 g2 g3 g4=>?_
 by_cases hp:mid<p
 · exact S p q (by omega) g2 g4
 · have ep:=R.out (p:=p) (by omega)
   by_cases hq:q=mid
   · subst hq
     rw [ep,R.out (p:=q) (by omega)]; exact C.asy _ _ (hok p (by omega)) (hok q (by omega)) (h1 p g1 g2)
   · have hge:=R.all (P:=fun x=>0≤cf x (gv L3 mid)) (fun p g1 g2=>h2 p (by omega) g2) q (by omega) g4
     rw [ep]
     by_cases e:p=mid
     · subst e; exact hge
     · have hle:=C.asy _ _ (hok p (by omega)) (hok mid (by omega)) (h1 p g1 (by omega))
       exact C.tr _ _ _ (hok p (by omega)) (hok mid (by omega)) (ok4 q (by omega)) hle hge
theorem Pl.equal {ok:Value→Prop} {mid:Nat} {L3:List Value} (C:COk cf ok) (hok:OkR ok L3) (P:Pl cf L3 a0 b0 a b) (hm:a<mid) (hm2:mid≤b) (hl:b≤L3.length) (h0:∀ p,a≤p→p<b→0≤cf (gv L3 p) (gv L3 a))
  (h1:∀ p,a<p→p<mid→0≤cf (gv L3 a) (gv L3 p)):Pl cf L3 a0 b0 mid b:=by
 refine P.up fun p q g1 g2 g3 g4=>?_
 by_cases e:p=a
 · subst e; exact h0 q (by omega) g4
 · exact C.tr _ _ _ (hok p (by omega)) (hok a (by omega)) (hok q (by omega)) (h1 p (by omega) g2) (h0 q (by omega) g4)
theorem Pl.hyp (P:Pl cf L a0 b0 a b) (H:Hyp cf L a0 b0) (ha:a0≤a) (hb:b≤b0):Hyp cf L a b:=by
 by_cases e:a=a0
 · subst e
   rcases H with h | h
   · exact .inl h
   · exact .inr fun p h1 h2=>h p h1 (by omega)
 · exact .inr fun p h1 h2=>P.l (a-1) p (by omega) (by omega) (by omega) (by omega)
end
section
variable {A:Option Addr} {cap n:Nat} {fn:FuncId} {cs:List Value} {cf:Value→Value→Int} {ok:Value→Prop}
theorem pdqG_ok (hs:n<2^40):∀ (N:Nat) {h:Heap} {L:List Value} {a b:Nat} {limit:Int},b-a≤N→Cmp Tryz.prog h A fn cs cf ok→SlAt h A cap L→n=L.length→(∀ w∈L,w.oneCell'=true)→OkR ok L→Hyp cf L a b→a≤b→b≤n→0≤limit→limit<2^62 →
   CallsH Tryz.prog 164 [.slice A n cap,.int .i64 a,.int .i64 b,.int .i64 limit,.func (.func fn) #[] cs.toArray] h fun _ h'=>∃ L',Dat h A cap L a b h' L'∧Srt cf a b L':=by
 intro N
 induction N using Nat.strongRecOn with
 | _ N IH =>
 intro h L a b limit hN C S hn hone hok H hab hb' hl0 hl1
 subst hn
 have hb:b≤L.length:=hb'
 refine calls_of 148 [] Go.Proofs.Tryz.func164 rfl rfl rfl ?_
 simp -implicitDefEqProofs (disch:=omega) [go_sem]
 refine loopK (fun ρ h'=>ρ 0=.slice A L.length cap∧ρ 4=.func (.func fn) #[] cs.toArray∧∃ (a' b':Nat) (lim:Int) (wb wp:Bool) (L':List Value),ρ 1=.int .i64 a'∧ρ 2=.int .i64 b'∧ρ 3=.int .i64 lim∧ρ 10=.bool wb∧ρ 11=.bool wp ∧
     a≤a'∧a'≤b'∧b'≤b∧0≤lim∧lim<2^62∧Dat h A cap L a b h' L'∧Pl cf L' a b a' b') (fun ρ _=>(intOf (ρ 2)-intOf (ρ 1)).toNat) (by kernel_rfl) ?_ ?_
 · exact ⟨rfl,rfl,a,b,limit,true,true,L,rfl,rfl,rfl,rfl,rfl,by omega,hab,by omega,hl0,hl1,Dat.refl S,Pl.start⟩
 · rintro ρ h1 ⟨r0,r4,a1,b1,lim,wb,wp,L1,r1,r2,r3,r10,r11,ha1,hab1,hb1,hm0,hm1,D,P⟩
   have hlen:=D.R.len
   have C1:=C.fr D.f
   have hok1:=hok.rng D.R hb
   have hone1:=D.oneR hone
   have H1:=P.hyp (H.rng D.R) ha1 hb1
   by_cases h12:(b1:Int)-a1≤12
   · simp -implicitDefEqProofs (disch:=omega) [go_sem,r0,r1,r2,r3,r4,r10,r11,h12]
     refine useC (insertionR_ok C1 D.S hlen.symm (by omega) hone1 hok1 hab1 (by omega)) ?_
     rintro r2' h2 ⟨L2,D2,S2⟩
     simp -implicitDefEqProofs (disch:=omega) [go_sem,r0,r1,r2,r3,r4,r10,r11]
     exact ⟨L2,D.then D2 ha1 hb1 hb,(P.rng ha1 hb1 hab1 D2.R).fin S2⟩
   · by_cases hlz:lim=0
     · simp -implicitDefEqProofs (disch:=omega) [go_sem,r0,r1,r2,r3,r4,r10,r11,h12,hlz]
       refine useC (heapSort_ok C1 D.S hlen.symm (by omega) hone1 hok1 (by omega) (by omega)) ?_
       rintro r2' h2 ⟨L2,D2,S2⟩
       simp -implicitDefEqProofs (disch:=omega) [go_sem,r0,r1,r2,r3,r4,r10,r11]
       exact ⟨L2,D.then D2 ha1 hb1 hb,(P.rng ha1 hb1 hab1 D2.R).fin S2⟩
     · obtain ⟨m,hm⟩:∃ m:Nat,(b1:Int)-a1=m:=⟨b1-a1,by omega⟩
       have hmu:(intOf (ρ 2)-intOf (ρ 1)).toNat=m:=by rw [r1,r2]; simp only [intOf_int]; omega
       simp -implicitDefEqProofs (disch:=omega) [go_sem,r0,r1,r2,r3,r4,r10,r11,h12,hlz,hm]
       refine condCut (fun ρ h'=>ρ 0=.slice A L.length cap∧ρ 4=.func (.func fn) #[] cs.toArray∧ρ 1=.int .i64 a1∧ρ 2=.int .i64 b1∧ρ 10=.bool wb∧ρ 11=.bool wp∧ρ 12=.int .i64 m∧∃ (lim:Int) (L':List Value),ρ 3=.int .i64 lim∧0≤lim∧lim<2^62∧Dat h A cap L a b h' L'∧Pl cf L' a b a1 b1) ?_ ?_
       · cases wb with
         | true =>
           simp -implicitDefEqProofs (disch:=omega) [go_sem,r0,r1,r2,r3,r4,r10,r11]
           exact ⟨hm0,hm1,L1,D,P⟩
         | false =>
           simp -implicitDefEqProofs (disch:=omega) [go_sem,r0,r1,r2,r3,r4,r10,r11]
           refine useC (break_ok D.S hlen.symm (by omega) hone1 (by omega) (by omega) _) ?_
           rintro r2' h2 ⟨L2,D2⟩
           simp -implicitDefEqProofs (disch:=omega) [go_sem,r0,r1,r2,r3,r4,r10,r11]
           exact ⟨by omega,by omega,L2,D.then D2 ha1 hb1 hb,P.rng ha1 hb1 hab1 D2.R⟩
       · clear r0 r1 r2 r3 r4 r10 r11 D P hlen C1 hok1 hone1 H1 hlz hm0 hm1
         clear L1 lim
         rintro ρ h2 ⟨r0,r4,r1,r2,r10,r11,r12,lim,L1,r3,hm0,hm1,D,P⟩
         have hlen:=D.R.len
         have C1:=C.fr D.f
         have hok1:=hok.rng D.R hb
         simp -implicitDefEqProofs (disch:=omega) [go_sem,r0,r1,r2,r3,r4,r10,r11,r12]
         refine useC (choose_ok C1 D.S hlen.symm (by omega) hok1 (by omega) (by omega)) ?_
         rintro _ h3 ⟨pv,t,rfl,hpv1,hpv2,ht,f3⟩
         have D3:=D.fr0 f3
         simp -implicitDefEqProofs (disch:=omega) [go_sem,r0,r1,r2,r3,r4,r10,r11,r12]
         refine condCut (fun ρ h'=>ρ 0=.slice A L.length cap∧ρ 4=.func (.func fn) #[] cs.toArray∧ρ 1=.int .i64 a1∧ρ 2=.int .i64 b1∧ρ 3=.int .i64 lim∧ρ 10=.bool wb∧ρ 11=.bool wp∧ρ 12=.int .i64 m∧∃ (pv t:Nat) (L':List Value),ρ 13=.int .i64 pv∧ρ 14=.int .i64 t∧a1≤pv∧pv<b1∧Dat h A cap L a b h' L'∧Pl cf L' a b a1 b1) ?_ ?_
         · by_cases ht2:t=2
           · have epv:(b1:Int)-1-((pv:Int)-a1)=((b1-1-(pv-a1):Nat):Int):=by omega
             subst ht2
             simp -implicitDefEqProofs (disch:=omega) [go_sem,r0,r1,r2,r3,r4,r10,r11,r12]
             refine useC (reverse_ok D3.S hlen.symm (by omega) (D.oneR hone) hab1 (by omega) _) ?_
             rintro r2' h4 ⟨L2,R2,S2,f4⟩
             have D2:Dat h3 A cap L1 a1 b1 h4 L2:=⟨R2,S2,f4⟩
             simp -implicitDefEqProofs (disch:=omega) [go_sem,r0,r1,r2,r3,r4,r10,r11,r12]
             exact ⟨b1-1-(pv-a1),epv,⟨1,rfl⟩,by omega,by omega,L2,D3.then D2 ha1 hb1 hb,P.rng ha1 hb1 hab1 R2⟩
           · simp -implicitDefEqProofs (disch:=omega) [go_sem,r0,r1,r2,r3,r4,r10,r11,r12,ht2]
             exact ⟨pv,rfl,⟨t,rfl⟩,hpv1,hpv2,L1,D3,P⟩
         · clear r0 r1 r2 r3 r4 r10 r11 r12 D3 D P hlen C1 hok1 f3 hpv1 hpv2 ht
           clear L1 pv t
           rintro ρ h4 ⟨r0,r4,r1,r2,r3,r10,r11,r12,pv,t,L1,r13,r14,hpv1,hpv2,D,P⟩
           have hlen:=D.R.len
           have C1:=C.fr D.f
           have hok1:=hok.rng D.R hb
           have H1:=P.hyp (H.rng D.R) ha1 hb1
           have hcs:wb=false∨(wb=true∧wp=false)∨(wb=true∧wp=true∧t≠1)∨(wb=true∧wp=true∧t=1):=by
             cases wb <;> cases wp <;> simp <;> exact (Nat.decEq t 1).em.symm
           rcases hcs with rfl | ⟨rfl,rfl⟩ | ⟨rfl,rfl,ht1⟩ | ⟨rfl,rfl,rfl⟩
           all_goals
             simp -implicitDefEqProofs (disch:=omega) [go_sem,r0,r1,r2,r3,r4,r10,r11,r12,r13,r14]
           case' inr.inr.inr =>
             refine useC (partial_ok C1 D.S hlen.symm (by omega) (D.oneR hone) hok1 H1 (by omega) (by omega)) ?_
             rintro _ h5 ⟨al,L2,rfl,D2,hS⟩
             have D9:=D.then D2 ha1 hb1 hb
             have P9:=P.rng ha1 hb1 hab1 D2.R
             cases al
             case' true =>
              simp -implicitDefEqProofs (disch:=omega) [go_sem,r0,r1,r2,r3,r4,r10,r11,r12,r13,r14]
              exact ⟨L2,D9,P9.fin (hS rfl)⟩
             case' false =>
              simp -implicitDefEqProofs (disch:=omega) [go_sem,r0,r1,r2,r3,r4,r10,r11,r12,r13,r14]
              clear D2 hS D P
           case' inl | inr.inl | inr.inr.inl =>
             obtain ⟨L2,rfl⟩:∃ L2,L2=L1:=⟨_,rfl⟩
             obtain ⟨h5,rfl⟩:∃ h5,h5=h4:=⟨_,rfl⟩
             have D9:=D
             have P9:=P
           all_goals
             have hlen9:=D9.R.len
             have C9:=C.fr D9.f
             have hok9:=hok.rng D9.R hb
             have H9:=P9.hyp (H.rng D9.R) ha1 hb1
             refine drawK [(0,0),(1,0),(2,0),(3,0),(4,0),(5,0),(6,0),(7,0),(8,1),(9,0),(10,0),(11,0),(12,1),(13,3),(14,0),(15,0),(16,0)] ?_
           all_goals
             obtain ⟨bk,hA,hbk,hfz,hc⟩:=D9.S.base (by omega)
             have cp:=hc pv _ (gv_at (by omega))
             have op:=hok9 pv (by omega)
             subst hA
             rcases Nat.eq_zero_or_pos a1 with ha0 | ha0
             case' inl =>
              have hz:¬ (0:Int)<a1:=by omega
              simp -implicitDefEqProofs (disch:=omega) [go_sem,r0,r1,r2,r3,r4,r10,r11,r12,r13,r14,hz]
             case' inr =>
              have hz:(0:Int)<a1:=by omega
              have cm:=hc (a1-1) _ (gv_at (by omega))
              have om:=hok9 (a1-1) (by omega)
              have ix:((a1:Int)-1).toNat=a1-1:=by omega
              simp -implicitDefEqProofs (disch:=omega) [go_sem,r0,r1,r2,r3,r4,r10,r11,r12,r13,r14,cp,cm,ix]
              refine useC (C9.call _ (Fr.refl _ _) _ _ om op) ?_
              rintro _ h6 ⟨rfl,f6⟩
              have D9:=D9.fr0 f6
              have C9:=C.fr D9.f
              by_cases hlt:cf (gv L2 (a1-1)) (gv L2 pv)<0
              case neg =>
                simp -implicitDefEqProofs (disch:=omega) [go_sem,r0,r1,r2,r3,r4,r10,r11,r12,r13,r14,hlt]
                refine useC (partitionEq_ok (pv:=pv) C9 D9.S hlen9.symm (by omega) (D9.oneR hone) hok9 ⟨hpv1,hpv2⟩ (by omega)) ?_
                rintro _ h7 ⟨L3,mid,rfl,D7,g1,g2,g3,g4,g5⟩
                have D8:=D9.then D7 ha1 hb1 hb
                have P8:=P9.rng ha1 hb1 hab1 D7.R
                have hok8:=hok.rng D8.R hb
                have hlen8:=D8.R.len
                have hH:∀ p,a1≤p→p<b1→0≤cf (gv L2 p) (gv L2 (a1-1)):=fun p q1 q2=>H9.elim (fun h=>absurd h (by omega)) fun h=>h p q1 q2
                have hmn:=D7.R.all (P:=fun x=>0≤cf x (gv L2 (a1-1))) hH
                have h0:∀ p,a1≤p→p<b1→0≤cf (gv L3 p) (gv L3 a1):=fun p q1 q2=>by
                 rw [g5]
                 exact C.c.tr _ _ _ op om (hok8 p (by omega)) (by omega) (hmn p q1 q2)
                have P10:=Pl.equal C.c hok8 P8 g1 g2 (by omega) h0 g3
                simp -implicitDefEqProofs (disch:=omega) [go_sem,r0,r1,r2,r3,r4,r10,r11,r12,r13,r14]
                exact ⟨⟨mid,rfl,b1,rfl,by omega,g2,hb1,hm0,hm1,L3,D8,P10⟩,by omega⟩
              case' pos =>
                simp -implicitDefEqProofs (disch:=omega) [go_sem,r0,r1,r2,r3,r4,r10,r11,r12,r13,r14,hlt]
             all_goals
              refine useC (partition_ok (pv:=pv) C9 D9.S hlen9.symm (by omega) (D9.oneR hone) hok9 ⟨hpv1,hpv2⟩ (by omega)) ?_
              rintro _ h7 ⟨L3,mid,al,rfl,D7,g1,g2,g3,g4⟩
              have D8:=D9.then D7 ha1 hb1 hb
              have P8:=P9.rng ha1 hb1 hab1 D7.R
              have hok8:=hok.rng D8.R hb
              have hlen8:=D8.R.len
              have e18:(mid:Int)-a1=((mid-a1:Nat):Int):=by omega
              have e19:(b1:Int)-mid=((b1-mid:Nat):Int):=by omega
              simp -implicitDefEqProofs (disch:=omega) [go_sem,r0,r1,r2,r3,r4,r10,r11,r12,r13,r14,e18,e19]
              by_cases hlr:mid-a1<b1-mid
              · simp -implicitDefEqProofs (disch:=omega) [go_sem,r0,r1,r2,r3,r4,r10,r11,r12,r13,r14,e18,e19,hlr]
                refine useC (IH (mid-a1) (by omega) (Nat.le_refl _) (C.fr D8.f) D8.S hlen8.symm (D8.oneR hone) hok8 ((P8.hyp (H.rng D8.R) ha1 hb1).elim .inl fun h=>.inr fun p q1 q2=>h p q1 (by omega)) g1 (by omega) hm0 hm1) ?_
                rintro _ h8 ⟨L4,D10,S10⟩
                simp -implicitDefEqProofs (disch:=omega) [go_sem,r0,r1,r2,r3,r4,r10,r11,r12,r13,r14,e18,e19]
                have P10:=Pl.left C.c hok8 P8 ha1 hb1 g1 g2 (by omega) g3 g4 D10.R S10
                exact ⟨⟨mid+1,by omega,b1,rfl,by omega,by omega,hb1,hm0,hm1,L4,D8.then D10 ha1 (by omega) hb,P10⟩,by omega⟩
              · obtain ⟨m1,hm1'⟩:∃ m1:Nat,(mid:Int)+1=m1:=⟨mid+1,by omega⟩
                obtain rfl:m1=mid+1:=by omega
                simp -implicitDefEqProofs (disch:=omega) [go_sem,r0,r1,r2,r3,r4,r10,r11,r12,r13,r14,e18,e19,hlr]
                refine useC (IH (b1-(mid+1)) (by omega) (a:=mid+1) (b:=b1) (Nat.le_refl _) (C.fr D8.f) D8.S hlen8.symm (D8.oneR hone) hok8 (.inr fun p q1 q2=>g4 p (by omega) q2) (by omega) (by omega) hm0 hm1) ?_
                rintro _ h8 ⟨L4,D10,S10⟩
                simp -implicitDefEqProofs (disch:=omega) [go_sem,r0,r1,r2,r3,r4,r10,r11,r12,r13,r14,e18,e19]
                have P10:=Pl.right C.c hok8 P8 ha1 hb1 g1 g2 (by omega) g3 g4 D10.R S10
                exact ⟨⟨a1,rfl,mid,rfl,ha1,g1,by omega,hm0,hm1,L4,D8.then D10 (by omega) hb1 hb,P10⟩,by omega⟩
end
section
variable {A:Option Addr} {cap n:Nat} {fn:FuncId} {cs:List Value} {cf:Value→Value→Int} {ok:Value→Prop} {h:Heap} {L:List Value}
theorem sort_ok (hs:n<2^40) (C:Cmp Tryz.prog h A fn cs cf ok) (S:SlAt h A cap L) (hn:n=L.length) (hone:∀ w∈L,w.oneCell'=true) (hok:OkR ok L) :
  CallsH Tryz.prog 118 [.slice A n cap,.func (.func fn) #[] cs.toArray] h fun _ h'=>∃ L',Dat h A cap L 0 n h' L'∧Srt cf 0 n L':=by
 refine calls_of 14 [] Go.Proofs.Tryz.func118 rfl rfl rfl ?_
 simp -implicitDefEqProofs (disch:=omega) [go_sem]
 refine useC (leng_ok hs) ?_
 rintro _ h1 ⟨⟨k,rfl,hk4,hk⟩,rfl⟩
 simp -implicitDefEqProofs (disch:=omega) [go_sem]
 have e0:((0:Nat):Int)=0:=rfl
 have c:=pdqG_ok (a:=0) (b:=n) (limit:=k) hs n (by omega) C S hn hone hok (.inl rfl) (by omega) (by omega) (by omega) (by omega)
 rw [e0] at c
 refine useC c ?_
 rintro _ h2 ⟨L',D,hS⟩
 simp -implicitDefEqProofs (disch:=omega) [go_sem]
 exact ⟨L',D,hS⟩
end
section
variable {h:Heap} {A:Option Addr} {cap n:Nat}
theorem less_ok {a b:Int}:CallsH Tryz.prog 172 [.int .i64 a,.int .i64 b] h fun r h'=>r=.bool (decide (a<b))∧h'=h:=by
 refine calls_of 17 [.tmp 4] Go.Proofs.Tryz.func172 rfl rfl rfl ?_
 simp -implicitDefEqProofs (disch:=omega) [go_sem]
 have nan:∀ x:Int,CallsH Tryz.prog 206 [.int .i64 x] h fun r h'=>r=.bool false∧h'=h:=fun x=>by
  refine calls_of 6 [.tmp 2] Go.Proofs.Tryz.func206 rfl rfl rfl ?_
  simp -implicitDefEqProofs (disch:=omega) [go_sem]
 refine useC (nan a) ?_
 rintro _ h1 ⟨rfl,rfl⟩
 simp -implicitDefEqProofs (disch:=omega) [go_sem]
def cfI (x y:Value):Int:=intOf x-intOf y
def okI (x:Value):Prop:=∃ i:Int,x=.int .i64 i
theorem cfI_ok:COk cfI okI where
 asy x y _ _ h:=by unfold cfI at *; omega
 tr x y z _ _ _ h1 h2:=by unfold cfI at *; omega
theorem perm_ints {l:List Int} {L':List Value} (h:L'.Perm (ints l)):∃ g:List Int,L'=ints g∧g.Perm l:=by
 have hall:∀ w∈L',∃ x:Int,w=.int .i64 x:=fun w hw=>by
  obtain ⟨x,_,hx⟩:=List.mem_map.1 (h.mem_iff.1 hw)
  exact ⟨x,hx.symm⟩
 have e1:ints (L'.map intOf)=L':=by
  unfold ints
  rw [List.map_map]
  refine (List.map_congr_left (g:=id) fun w hw=>?_).trans (List.map_id _)
  obtain ⟨x,rfl⟩:=hall w hw
  rfl
 have e2:(ints l).map intOf=l:=by
  unfold ints
  rw [List.map_map]
  exact (List.map_congr_left (g:=id) fun w _=>rfl).trans (List.map_id _)
 have:=h.map intOf
 rw [e2] at this
 exact ⟨_,e1.symm,this⟩
theorem gv_ints {g:List Int} {p:Nat} (h:p<g.length):gv (ints g) p=.int .i64 (gt g p):=by
 unfold gv gt ints
 rw [List.getD_eq_getElem?_getD,List.getD_eq_getElem?_getD,List.getElem?_map,List.getElem?_eq_getElem h]
 rfl
theorem sortI_ok {l:List Int} (S:SlAt h A cap (ints l)) (hn:n=l.length) (hs:n<2^40) :
  CallsH Tryz.prog 83 [.slice A n cap] h fun _ h'=>∃ g:List Int,g.Perm l∧g.Pairwise (·≤·)∧SlAt h' A cap (ints g)∧Fr (blk A) h h':=by
 have hone:∀ w∈ints l,w.oneCell'=true:=ints_one
 have hok:OkR okI (ints l):=fun p hp=>by
  have hm:gv (ints l) p∈ints l:=List.mem_of_getElem? (gv_at hp)
  obtain ⟨x,_,hx⟩:=List.mem_map.1 hm
  exact ⟨x,hx.symm⟩
 have C:So.Cmp Tryz.prog h A 0 [] cfI okI:=⟨fun h' _ x y hx hy=>by
  obtain ⟨a,rfl⟩:=hx
  obtain ⟨b,rfl⟩:=hy
  refine less_ok.mono ?_
  rintro _ h'' ⟨rfl,rfl⟩
  refine ⟨?_,Fr.refl _ _⟩
  have:(a<b)↔cfI (.int .i64 a) (.int .i64 b)<0:=by unfold cfI; simp only [intOf_int]; omega
  simp only [this],cfI_ok⟩
 refine (So.sort_ok hs C S (by rw [ints_len]; exact hn) hone hok).mono ?_
 rintro r h' ⟨L',D,hS⟩
 obtain ⟨g,rfl,hP⟩:=perm_ints D.R.perm
 have hl:=hP.length_eq
 refine ⟨g,hP,?_,D.S,D.f⟩
 rw [List.pairwise_iff_getElem]
 intro i j hi hj hij
 have:=hS i j (by omega) hij (by omega)
 unfold Le cfI at this
 rw [gv_ints hi,gv_ints hj] at this
 simp only [intOf_int] at this
 have e1:=gt_at hi
 have e2:=gt_at hj
 rw [List.getElem?_eq_getElem hi,Option.some.injEq] at e1
 rw [List.getElem?_eq_getElem hj,Option.some.injEq] at e2
 omega
def cfV (cf:Int→Int→Int) (x y:Value):Int:=cf (intOf x) (intOf y)
def okV (ok:Int→Prop) (x:Value):Prop:=∃ i:Int,x=.int .i64 i∧ok i
theorem cfV_ok {cf:Int→Int→Int} {ok:Int→Prop} (C:CmpOk cf ok):COk (cfV cf) (okV ok) where
 asy x y hx hy h:=by
  obtain ⟨a,rfl,ha⟩:=hx
  obtain ⟨b,rfl,hb⟩:=hy
  exact C.le a b ha hb h
 tr x y z hx hy hz h1 h2:=by
  obtain ⟨a,rfl,ha⟩:=hx
  obtain ⟨b,rfl,hb⟩:=hy
  obtain ⟨c,rfl,hc⟩:=hz
  exact C.tr a b c ha hb hc h1 h2
theorem sortC_ok {fn:FuncId} {cs:List Value} {cf:Int→Int→Int} {ok:Int→Prop} {l:List Int} (C:CmpOk cf ok) (S:SlAt h A cap (ints l)) (hl:∀ x∈l,ok x) (hn:n=l.length) (hs:n<2^40)
  (hf:∀ h',Fr (blk A) h h'→∀ x y,ok x→ok y→CallsH Tryz.prog fn ([.int .i64 x,.int .i64 y]++cs) h' fun r h''=>r=.int .i64 (cf x y)∧Fr (fun _=>False) h' h'') :
  CallsH Tryz.prog 118 [.slice A n cap,.func (.func fn) #[] cs.toArray] h fun _ h' =>
   ∃ L,L.Perm l∧(∀ p q,p<q→q<n→0≤cf (gt L q) (gt L p))∧SlAt h' A cap (ints L)∧Fr (blk A) h h':=by
 have hone:∀ w∈ints l,w.oneCell'=true:=ints_one
 have hok:OkR (okV ok) (ints l):=fun p hp=>by
  rw [ints_len] at hp
  exact ⟨gt l p,gv_ints hp,hl _ (List.mem_of_getElem? (gt_at hp))⟩
 have C':Cmp Tryz.prog h A fn cs (cfV cf) (okV ok):=⟨fun h' f x y hx hy=>by
  obtain ⟨a,rfl,ha⟩:=hx
  obtain ⟨b,rfl,hb⟩:=hy
  exact hf h' f a b ha hb,cfV_ok C⟩
 refine (sort_ok hs C' S (by rw [ints_len]; exact hn) hone hok).mono ?_
 rintro r h' ⟨L',D,hS⟩
 obtain ⟨g,rfl,hP⟩:=perm_ints D.R.perm
 have hl:=hP.length_eq
 refine ⟨g,hP,fun p q h1 h2=>?_,D.S,D.f⟩
 have:=hS p q (by omega) h1 h2
 unfold Le cfV at this
 rw [gv_ints (by omega),gv_ints (by omega)] at this
 exact this
end
end Xe
namespace Xe
open Go Tp Go.Proofs
set_option maxRecDepth 16000
set_option maxHeartbeats 1000000
section
variable {h:Heap} {A:Option Addr} {l:List Int} {n c vars:Nat}
theorem cleanG_ok (R:RowAt h A (ints l)) (hn:n=l.length) (hs:n<2^40) (hr:∀ x∈l,-9223372036854775808≤x∧x≤9223372036854775807) :
   CallsH Tryz.prog 107 [.slice A n c] h fun r h'=>(∃ o,CleanR l o∧match o with
     | none=>r=.tuple #[.slice none 0 0,.bool true]
     | some L=>∃ A' c',r=.tuple #[.slice A' L.length c',.bool false]∧SlAt h' A' c' (ints L)∧∀ y,blk A' y→h.size≤y)∧Fr (fun _=>False) h h':=by
 subst hn
 refine calls_of 43 [.tmp 2,.tmp 3] Go.Proofs.Tryz.func107 rfl rfl rfl ?_
 simp -implicitDefEqProofs (disch:=omega) [go_sem]
 refine scopeM 0 (fun ρ h'=>∃ (M:List Int) (B:Option Addr) (d i:Nat),ρ 2=.slice B M.length d∧ρ 6=.int .i64 i∧1≤i∧i≤l.length+1∧(∀ j,1≤j→j<i→j<M.length→gt M (j-1)≠-gt M j)∧M.Pairwise lexLt∧(∀ x,x∈M↔x∈l∧okL x) ∧
     M.length≤l.length∧SlAt h' B d (ints M)∧(∀ y,blk B y→h.size≤y)∧Fr (fun _=>False) h h') (fun ρ _=>l.length+2-(intOf (ρ 6)).toNat) rfl rfl (by kernel_rfl) ?_ ?_
 · simp -implicitDefEqProofs (disch:=omega) [go_sem]
   refine loopK (fun ρ h'=>ρ 7=.slice A l.length c∧ρ 8=.int .i64 l.length∧∃ (i:Nat) (B:Option Addr) (d:Nat),ρ 9=.int .i64 i∧i≤l.length∧ρ 2=.slice B ((l.take i).filter fun x=>decide (okL x)).length d ∧
       SlAt h' B d (ints ((l.take i).filter fun x=>decide (okL x)))∧(∀ y,blk B y→h.size≤y)∧Fr (fun _=>False) h h') (fun ρ _=>l.length-(intOf (ρ 9)).toNat) (by kernel_rfl) ?_ ?_
   · exact ⟨rfl,rfl,0,none,0,rfl,by omega,rfl,SlAt.nil _,fun y ⟨_,h,_⟩=>(nomatch h),Fr.refl _ _⟩
   · rintro ρ h1 ⟨r7,r8,i,B,d,r9,hi,r2,S,own,fr⟩
     by_cases hin:i<l.length
     · have R1:=R.fr0 fr
       obtain ⟨bk,off,rfl,hc⟩:=R1.get (by rw [ints_len]; omega)
       obtain ⟨x,hx⟩:∃ x,l[i]?=some x:=⟨_,List.getElem?_eq_getElem hin⟩
       have c0:=hc _ _ (ints_at hx)
       have htk:l.take (i+1)=l.take i++[x]:=by rw [List.take_add_one,hx]; rfl
       have hfl:((l.take i).filter fun x=>decide (okL x)).length≤i:=Nat.le_trans (List.length_filter_le _ _) (by rw [List.length_take]; omega)
       have hxr:=hr x (List.mem_of_getElem? hx)
       simp -implicitDefEqProofs (disch:=omega) [go_sem,r2,r7,r8,r9,c0]
       refine useC (abs12_ok hxr.1 hxr.2) ?_
       rintro _ h2 ⟨rfl,rfl⟩
       by_cases hk:okL x
       · have e2:(l.take (i+1)).filter (fun x=>decide (okL x))=(l.take i).filter (fun x=>decide (okL x))++[x]:=by rw [htk,List.filter_append,List.filter_cons,if_pos (decide_eq_true hk)]; rfl
         have ev:var12 x=x.natAbs:=if_pos hk.2
         have hk1:=hk.1
         simp -implicitDefEqProofs (disch:=omega) [go_sem,r2,r7,r8,r9,ev]
         refine build1 rfl rfl ?_
         simp -implicitDefEqProofs (disch:=omega) [go_sem,r2,r7,r8,r9]
         refine appendO (cap:=d) (ws:=[.int .i64 x]) (by rw [Nat.mul_one]; exact S) own fr (by rw [ints_len]; omega) rfl (by omega) (by simp [Value.oneCell']) (by omega) (by omega) ?_
         intro A' c' h4 S' own' fr' _
         have e3:ints ((l.take i).filter fun x=>decide (okL x))++[.int .i64 x]=ints ((l.take (i+1)).filter fun x=>decide (okL x)):=by rw [e2,ints_append]; rfl
         rw [e3,Nat.mul_one] at S'
         simp -implicitDefEqProofs (disch:=omega) [go_sem,r2,r7,r8,r9]
         exact ⟨⟨i+1,by omega,by omega,A',c',⟨rfl,by rw [e2]; simp,rfl⟩,S',own',fr'⟩,by omega⟩
       · have e2:(l.take (i+1)).filter (fun x=>decide (okL x))=(l.take i).filter (fun x=>decide (okL x)):=by rw [htk,List.filter_append,List.filter_cons,if_neg (by simpa using hk),List.filter_nil,List.append_nil]
         have ev:var12 x=0:=by unfold okL at hk; unfold var12; split <;> omega
         simp -implicitDefEqProofs (disch:=omega) [go_sem,r2,r7,r8,r9,ev]
         exact ⟨⟨i+1,by omega,by omega,B,d,⟨rfl,by rw [e2],rfl⟩,by rw [e2]; exact S,own,fr⟩,by omega⟩
     · have e:i=l.length:=by omega
       subst e
       rw [List.take_length] at r2 S
       obtain ⟨F,hF⟩:∃ F,F=l.filter fun x=>decide (okL x):=⟨_,rfl⟩
       rw [← hF] at r2 S
       have hFm:∀ x,x∈F↔x∈l∧okL x:=fun x=>by rw [hF,List.mem_filter,decide_eq_true_eq]
       have hFl:F.length≤l.length:=by rw [hF]; exact List.length_filter_le _ _
       simp -implicitDefEqProofs (disch:=omega) [go_sem,r2,r7,r8,r9]
       refine useC (sortC_ok (cs:=[]) cleanCf_ok S (fun x hx=>((hFm x).1 hx).2) rfl (by omega) (fun h _ x y hx hy=>cleanCmp_ok hx hy)) ?_
       rintro r1 h2 ⟨L,hP,hO,S2,f2⟩
       have hLl:=hP.length_eq
       have fr2:Fr (fun _=>False) h h2:=fr.trans' f2 fun x hx hb=>by have:=own x hb; omega
       simp -implicitDefEqProofs (disch:=omega) [go_sem,r2,r7,r8,r9]
       have cc:=compact_ok (n:=F.length) S2 hLl.symm (by omega)
       refine useC cc ?_
       rintro _ h3 ⟨rfl,S3,f3⟩
       have fr3:Fr (fun _=>False) h h3:=fr2.trans' f3 fun x hx hb=>by have:=own x hb; omega
       rw [← hLl] at S3 ⊢
       have hspec:=cN_spec (l:=L) (fun p q h1 h2=>cleanCf_lex ((hFm _).1 (hP.mem_iff.1 (List.mem_of_getElem? (gt_at (by omega))))).2 ((hFm _).1 (hP.mem_iff.1 (List.mem_of_getElem? (gt_at h2)))).2 (hO p q h1 (by omega))) L.length (Nat.le_refl _)
       have hcl:=cN_le L L.length
       simp -implicitDefEqProofs (disch:=omega) [go_sem,r2,r7,r8,r9]
       refine ⟨cN L L.length,B,d,⟨rfl,rfl,rfl⟩,1,rfl,by omega,by omega,fun j h1 h2=>by omega,hspec.2,fun x=>?_,by omega,S3,own,fr3⟩
       rw [hspec.1 x,← mem_gt,hP.mem_iff]
       exact hFm x
 · rintro ρ h1 ⟨M,B,d,i,r2,r6,hi1,hi2,hj,hP,hm,hM,S,own,fr⟩
   by_cases hin:i<M.length
   · obtain ⟨bk,rfl,_,_,hc⟩:=S.base (by rw [ints_len]; omega)
     have c0:=hc i _ (ints_at (gt_at hin))
     have c1:=hc (i-1) _ (ints_at (gt_at (by omega)))
     have ei:((i:Int)-1).toNat=i-1:=by omega
     have m0:=(hm _).1 (List.mem_of_getElem? (gt_at hin))
     have m1:=(hm _).1 (List.mem_of_getElem? (gt_at (show i-1<M.length by omega)))
     have k0:=m0.2
     unfold okL at k0
     simp -implicitDefEqProofs (disch:=omega) [go_sem,r2,r6]
     refine drawK [(0,0),(1,0),(2,0),(3,0),(4,1),(5,0),(6,0),(7,0),(8,1),(9,0),(10,0)] ?_
     by_cases he:gt M (i-1)=-gt M i
     · simp -implicitDefEqProofs (disch:=omega) [go_sem,r2,r6,c0,c1,ei,he]
       refine ⟨⟨none,⟨gt M i,m0.1,m0.2,by rw [← he]; exact m1.1⟩,trivial⟩,fr⟩
     · simp -implicitDefEqProofs (disch:=omega) [go_sem,r2,r6,c0,c1,ei,he]
       refine ⟨⟨M,some ⟨bk,0,none⟩,d,⟨rfl,rfl,rfl⟩,i+1,by omega,by omega,by omega,fun j h1 h2 h3=>?_,hP,hm,hM,S,own,fr⟩,by omega⟩
       by_cases e:j=i
       · subst e; exact he
       · exact hj j h1 (by omega) h3
   · simp -implicitDefEqProofs (disch:=omega) [go_sem,r2,r6]
     refine ⟨⟨some M,⟨?_,hm⟩,B,d,⟨rfl,rfl,rfl⟩,S,own⟩,fr⟩
     refine pairwise_adj (fun a b c h1 h2=>by omega) fun j hj2=>?_
     have g1:=hj (j+1) (by omega) (by omega) hj2
     have e1:=gt_at (show j<M.length by omega)
     have e2:=gt_at hj2
     have g2:=List.pairwise_iff_getElem.1 hP j (j+1) (by omega) hj2 (by omega)
     rw [List.getElem?_eq_getElem (by omega),Option.some.injEq] at e1
     rw [List.getElem?_eq_getElem hj2,Option.some.injEq] at e2
     rw [e1,e2] at g2
     rw [Nat.add_sub_cancel] at g1
     unfold lexLt at g2
     omega
end
end Xe
namespace Xe
open Go Tp Go.Proofs
set_option maxRecDepth 16000
section
variable {h:Heap} {bb:Nat} {p:BP} {s:WS}
theorem bback_m (M:BaseM h bb p s) {n:Int} (h0:-9223372036854775808≤n) (h1:n≤9223372036854775807):CallsH Tryz.prog 24 [.pointer (some ⟨bb,0,none⟩),.int .i64 n] h fun _ h' =>
   ∃ p',BaseM h' bb p' (if max n 0<s.level then backS s (max n 0).toNat else s)∧Stp p p' h h':=by
 have s0:=M.B.at' 0 _ rfl
 have hsm:=M.sm
 have hlv:=M.T.lvs.len
 have hln:=M.T.len
 have hvs:=M.T.hv
 refine calls_of 53 [] Go.Proofs.Tryz.func24 rfl rfl rfl ?_
 simp -implicitDefEqProofs (disch:=omega) [go_sem,s0]
 refine useC (tlevel_ok M.T) ?_
 rintro _ h1' ⟨rfl,rfl⟩
 by_cases hlt:max n 0<s.level
 · rw [if_pos hlt]
   obtain ⟨k,hk⟩:∃ k:Nat,max n 0=k:=⟨(max n 0).toNat,by omega⟩
   have hkt:(max n 0).toNat=k:=by omega
   rw [hkt]
   have hbk:backK s.level n=k:=by unfold backK; rw [if_pos hlt]; exact hkt
   have hn1:¬ ((s.level:Int)≤k):=by omega
   rw [hk] at hlt
   have s4:=M.B.at' 4 _ rfl
   simp -implicitDefEqProofs (disch:=omega) [go_sem,hk,hlt,hn1]
   refine drawC [(0,0),(1,0),(2,0),(3,0),(4,2),(5,0),(6,0),(7,0),(8,1),(9,0),(10,3),(11,0),(12,0),(13,0),(14,4)] (fun h'=>hcell h' ⟨bb,4,none⟩=some (.int .i64 (s.head:Int))) s4 ?_
   simp -implicitDefEqProofs (disch:=omega) [go_sem]
   refine float2 (.int .i64 (s.head:Int)) (fun h' hC=>by simp -implicitDefEqProofs (disch:=omega) [go_sem,hC]) ?_
   simp -implicitDefEqProofs (disch:=omega) [go_sem,s0]
   refine useC (tback_ok M.T h0 h1) ?_
   rintro _ h2 ⟨rfl,T2,nx2⟩
   rw [hbk] at T2
   rw [hbk]
   obtain ⟨p2,M2,st2,e2eb,e2f,e2mb⟩:=M.trail T2 nx2
   have s42:=M2.B.at' 4 _ rfl
   have fz2:=M2.B.fz
   have hmin:min (s.head:Int) ((cutTo s.l k).length:Int)=((min s.head (cutTo s.l k).length:Nat):Int):=by omega
   refine ⟨s42,?_⟩
   obtain ⟨h3,e3⟩:∃ h3,h3=hset h2 ⟨bb,4,none⟩ (.int .i64 ((min s.head (cutTo s.l k).length:Nat):Int)):=⟨_,rfl⟩
   have M3:=M2.setHead (min s.head (cutTo s.l k).length)
   have st3:Stp p2 p2 h2 h3:=by rw [e3]; exact stp_set M2 M2.cB
   rw [← e3] at M3
   have fz3:=M3.B.fz
   have s33:=M3.B.at' 3 _ rfl
   obtain ⟨p4,M4,st4,e4eb,e4f,e4mb⟩:=M3.todo (l':=[]) (Fr.refl _ _) SlO.nil (fun y hy=>by obtain ⟨a,ha,_⟩:=hy; cases ha) (by simp)
   simp only [List.length_nil] at M4 st4
   obtain ⟨h4,e4⟩:∃ h4,h4=hset h3 ⟨bb,3,none⟩ (.slice none 0 0):=⟨_,rfl⟩
   rw [← e4] at M4 st4
   have s32:=M2.B.at' 3 _ rfl
   have s22:=M2.B.at' 2 _ rfl
   simp -implicitDefEqProofs (disch:=omega) [go_sem,fz2,s42,hmin,s32,s22]
   rw [← e3,← e4,← e4mb]
   refine MapAt.clear M4.M rfl ?_
   intro h5 MA5 f5
   have M5:=M4.unwat (W':=fun _=>[]) MA5 f5 (fun x=>.inr ⟨rfl,rfl⟩)
   have st5:=stp_map M4 (f':=fun _=>none) f5
   have s15:=M5.B.at' 1 _ rfl
   simp -implicitDefEqProofs (disch:=omega) [go_sem,s15]
   have st05:=((st2.trans st3).trans st4).trans st5
   generalize ({ p4 with f:=fun _=>none }:BP)=p5 at *
   clear M2 M3 M4 st2 st3 st4 st5 s32 s22 s33 fz2 fz3 s42 s15
   refine loopK (fun ρ h'=>ρ 0=.pointer (some ⟨bb,0,none⟩)∧ρ 38=.int .i64 s.cs.length∧∃ (i:Nat) (p':BP),ρ 39=.int .i64 i∧i≤s.cs.length∧BaseM h' bb p' { backS s k with todo:=List.range i }∧Stp p p' h1' h')
     (fun ρ _=>s.cs.length-(intOf (ρ 39)).toNat) (by kernel_rfl) ?_ ?_
   · exact ⟨rfl,rfl,0,p5,rfl,by omega,M5,st05⟩
   · rintro ρ h6 ⟨r0,r38,i,p6,r39,hi,M6,st6⟩
     by_cases him:i<s.cs.length
     · have s36:=M6.B.at' 3 _ rfl
       have D6:=M6.D
       have hlr:({ backS s k with todo:=List.range i }:WS).todo.length=i:=List.length_range
       rw [hlr] at s36
       simp -implicitDefEqProofs (disch:=omega) [go_sem,r0,r38,r39,s36]
       refine build1 rfl rfl ?_
       have f7:Fr (fun _=>False) h6 (h6.push (.cells #[.int .i64 (i:Int)] 3)):=(Fr.refl _ _).push
       simp -implicitDefEqProofs (disch:=omega) [go_sem]
       have D7:=D6.fr f7 (fun _ _ h=>h)
       refine appendQ (vs:=ids (List.range i)) (ws:=[.int .i64 (i:Int)]) D7 (by rw [ids_len,List.length_range]) (SlAt.new (vs:=[.int .i64 (i:Int)])).row rfl (by simp [Value.oneCell']) (by omega) (by omega) ?_
       intro TA8 tc8 h8 S8 f8 hA8
       have f68:Fr (blk p6.TA) h6 h8:=(f7.mono fun _ _ h=>h.elim).trans f8
       have nbT:¬ blk p6.TA bb:=fun h=>by have:=M6.cD _ h; rw [M6.cB] at this; cases this
       have B8:=M6.B.fr f68 nbT
       have fz8:=B8.fz
       have s38:=B8.at' 3 _ rfl
       have ei:ids (List.range i)++[.int .i64 (i:Int)]=ids (List.range (i+1)):=by rw [List.range_succ,ids_append]; rfl
       rw [ei] at S8
       obtain ⟨p9,M9,st9,_⟩:=M6.todo (l':=List.range (i+1)) f68 S8 (fun y hy=>(hA8 y hy).imp_right fun h=>by rw [push_size] at h; omega) (by rw [List.length_range]; omega)
       rw [List.length_range] at M9 st9
       simp -implicitDefEqProofs (disch:=omega) [go_sem,r0,r38,r39,fz8,s38]
       exact ⟨⟨i+1,by omega,by omega,p9,M9,st6.trans st9⟩,by omega⟩
     · have e:i=s.cs.length:=by omega
       subst e
       simp -implicitDefEqProofs (disch:=omega) [go_sem,r0,r38,r39]
       exact ⟨p6,M6,st6⟩
 · rw [if_neg hlt]
   simp -implicitDefEqProofs (disch:=omega) [go_sem]
   exact ⟨p,M,Stp.refl⟩
def dropP (l:List St) (id x:Int):Bool:=decide (0<trI l x)&&decide (RSi l (max x (-x))=id)
theorem dropP_any {s:WS} (I:WInv s) {id:Nat} {e:Ent} (he:s.cs[id]?=some e):e.lits.any (dropP s.l id)=true↔∃ t∈s.l,t.rs=id:=by
 rw [List.any_eq_true]
 have key:∀ t∈s.l,RSi s.l (max t.lit (-t.lit))=t.rs:=fun t ht=>by
   obtain ⟨k,hk⟩:=List.getElem?_of_mem ht
   have:=I.good.rs hk
   unfold RSi
   rw [if_neg (by omega)]
   have e:(max t.lit (-t.lit)).toNat=t.lit.natAbs:=by omega
   rw [e]; exact this
 constructor
 · rintro ⟨x,hx,h⟩
   unfold dropP at h
   rw [Bool.and_eq_true,decide_eq_true_eq,decide_eq_true_eq] at h
   have h1:trI s.l x=1:=by have:=trI_cases s.l x; omega
   obtain ⟨t,ht,rfl⟩:=List.mem_map.1 (tr_one.1 h1)
   exact ⟨t,ht,(key t ht).symm.trans h.2⟩
 · rintro ⟨t,ht,hr⟩
   obtain ⟨k,hk⟩:=List.getElem?_of_mem ht
   obtain ⟨e0,h0,h1,h2⟩:=I.rs k t hk (by omega)
   rw [hr,Int.toNat_natCast,he] at h0
   cases h0
   refine ⟨t.lit,h2.1,?_⟩
   unfold dropP
   rw [Bool.and_eq_true,decide_eq_true_eq,decide_eq_true_eq,key t ht,tr_one.2 (List.mem_map.2 ⟨t,ht,rfl⟩)]
   exact ⟨by omega,hr⟩
theorem dropF_ok {b1 b2:Nat} {id x:Int} (M:BaseM h bb p s) (hb1:hcell h ⟨b1,0,none⟩=some (.pointer (some ⟨bb,0,none⟩))) (hb2:hcell h ⟨b2,0,none⟩=some (.int .i64 id)) (h0:-9223372036854775808<x) (h1:x≤9223372036854775807) :
   CallsH Tryz.prog 246 ([.int .i64 x]++[.pointer (some ⟨b1,0,none⟩),.pointer (some ⟨b2,0,none⟩)]) h fun r h'=>r=.bool (dropP s.l id x)∧h'=h:=by
 have s0:=M.B.at' 0 _ rfl
 refine calls_of 25 [.tmp 4] Go.Proofs.Tryz.func246 rfl rfl rfl ?_
 simp -implicitDefEqProofs (disch:=omega) [go_sem,hb1,s0]
 refine drawC [(0,1),(1,0),(2,0),(3,1),(4,0),(5,3),(6,0),(7,0),(8,1),(9,0),(10,0),(11,1),(12,0),(13,0),(14,0),(15,0),(17,2),(16,3),(18,0),(19,0),(20,0)] (Eq h) rfl ?_
 simp -implicitDefEqProofs (disch:=omega) [go_sem,hb1,s0]
 refine useC (ttruth_ok M.T (by omega) h1) ?_
 rintro _ h' ⟨rfl,rfl⟩
 unfold dropP
 by_cases e:0<trI s.l x
 · simp -implicitDefEqProofs (disch:=omega) [go_sem,hb1,hb2,s0,e]
   refine useC (treason_ok M.T (by omega) (by omega)) ?_
   rintro _ h' ⟨rfl,rfl⟩
   simp -implicitDefEqProofs (disch:=omega) [go_sem,hb2,e]
 · simp -implicitDefEqProofs (disch:=omega) [go_sem,hb2,e]
theorem bdrop_m (M:BaseM h bb p s) (I:WInv s) {id:Int} (h0:-9223372036854775808≤id) (h1:id≤9223372036854775807) :
   CallsH Tryz.prog 230 [.pointer (some ⟨bb,0,none⟩),.int .i64 id] h fun r h' =>
     (∃ (k:Nat) (e:Ent),id=k∧s.cs[k]?=some e∧e.gone=false∧(∀ t∈s.l,t.rs≠k)∧r=.bool true∧BaseM h' bb p { s with cs:=setG s.cs k }∧Stp p p h h') ∨
     (r=.bool false∧Fr (fun _=>False) h h'∧((0≤id→∀ e,s.cs[id.toNat]?=some e→e.gone=true)∨(0≤id∧∃ t∈s.l,t.rs=id))):=by
 refine calls_of 22 [.tmp 4] Go.Proofs.Tryz.func230 rfl rfl rfl ?_
 obtain ⟨h2,e2⟩:∃ h2,h2=(h.push (.cells #[.pointer (some ⟨bb,0,none⟩)] 26)).push (.cells #[.int .i64 id] 3):=⟨_,rfl⟩
 have f2:Fr (fun _=>False) h h2:=by rw [e2]; exact ((Fr.refl _ _).push).push
 have M2:=M.fr0 f2
 have q1:hcell h2 ⟨h.size,0,none⟩=some (.pointer (some ⟨bb,0,none⟩)):=by
   rw [e2,hcell_push_old (by rw [push_size]; omega),hcell_push_new]; rfl
 have q2:hcell h2 ⟨h.size+1,0,none⟩=some (.int .i64 id):=by
   rw [e2]
   have:h.size+1=(h.push (.cells #[.pointer (some ⟨bb,0,none⟩)] 26)).size:=by rw [push_size]
   rw [this,hcell_push_new]; rfl
 simp -implicitDefEqProofs (disch:=omega) [go_sem]
 rw [← e2]
 simp -implicitDefEqProofs (disch:=omega) [go_sem,q1,q2]
 by_cases hg:0≤id→∀ e,s.cs[id.toNat]?=some e→e.gone=true
 · refine useC (there_none M2 h0 h1 hg) ?_
   rintro _ h3 ⟨rfl,rfl⟩
   simp -implicitDefEqProofs (disch:=omega) [go_sem]
   exact ⟨f2,.inl hg⟩
 · have hg':∃ (k:Nat) (e:Ent),id=k∧s.cs[k]?=some e∧e.gone=false:=by
     by_cases h3:0≤id
     · cases h4:s.cs[id.toNat]? with
       | none=>exact absurd (fun _ e he=>by rw [h4] at he; cases he) hg
       | some e =>
         refine ⟨id.toNat,e,by omega,h4,?_⟩
         cases h5:e.gone with
         | false=>rfl
         | true=>exact absurd (fun _ e' he=>by rw [h4] at he; cases he; exact h5) hg
     · exact absurd (fun h=>absurd h h3) hg
   obtain ⟨k,e,rfl,he,hge⟩:=hg'
   refine useC (there_some M2 he hge) ?_
   rintro _ h3 ⟨rfl,rfl⟩
   obtain ⟨A,cap,EB,R,_⟩:=(M2.E k e he).ex
   have e0:=EB.at' 0 _ rfl
   have e3:=EB.at' 2 _ rfl
   have fz:=EB.fz
   have hlen:=(M2.E k e he).len
   have hcl:=(I.cl e (List.mem_of_getElem? he)).2
   have hv:=I.hv
   simp -implicitDefEqProofs (disch:=omega) [go_sem,e0]
   have ci:=containsFunc_ok (cs:=[.pointer (some ⟨h.size,0,none⟩),.pointer (some ⟨h.size+1,0,none⟩)]) (c:=cap) R rfl (by omega) (dropP s.l k) (fun x hx=>dropF_ok M2 q1 q2 (by have:=hcl x hx; omega) (by have:=hcl x hx; omega))
   refine useC ci ?_
   rintro _ h4 ⟨rfl,rfl⟩
   cases ha:e.lits.any (dropP s.l k) with
   | true =>
     simp -implicitDefEqProofs (disch:=omega) [go_sem]
     exact ⟨f2,.inr ((dropP_any I he).1 ha)⟩
   | false =>
     simp -implicitDefEqProofs (disch:=omega) [go_sem,fz,e3]
     have hn:∀ t∈s.l,t.rs≠k:=fun t ht hr=>by
       have:=(dropP_any I he).2 ⟨t,ht,hr⟩
       rw [ha] at this; cases this
     refine ⟨k,rfl,e,he,hge,hn,M2.setGone he,?_⟩
     exact (Stp.fr0 f2).trans (stp_set M2 (M2.E k e he).cb)
end
end Xe
namespace Xe
open Go Tp Go.Proofs
set_option maxRecDepth 16000
set_option maxHeartbeats 1000000
theorem some_at {l:List Int} {i:Nat} (h:i<l.length):∃ x,l[i]?=some x:=⟨_,List.getElem?_eq_getElem h⟩
theorem take_at {α:Type} {l:List α} {i:Nat} {x:α} (h:l[i]?=some x):l.take (i+1)=l.take i++[x]:=by
 rw [List.take_add_one,h]; rfl
section
variable {h:Heap}
end
section
variable {h:Heap}
end
theorem lits_take (l:List St) (n:Nat):(lits l).take n=lits (l.take n):=by unfold lits; rw [List.map_take]
theorem lits_at {l:List St} {i:Nat} {t:St} (h:l[i]?=some t):(lits l)[i]?=some t.lit:=by unfold lits; rw [List.getElem?_map,h]; rfl
section
variable {h:Heap}
theorem slice_fromR {B:Option Addr} {d j:Nat} {vs:List Value} {kd:IntKind} (S:SlAt h B d vs) (hj:j≤vs.length):∃ B' d',sliceV (some (1,none)) (.slice B vs.length d) (some (.int kd (j:Int))) none=some (Value.slice B' (vs.length-j) d')∧RowAt h B' (vs.drop j)∧∀ y,blk B' y→blk B y:=by
 have hl:=S.len
 rcases S.at' with ⟨rfl,rfl⟩ | ⟨bk,rfl,h2,h3,h4,h5⟩
 · have hv:vs=[]:=List.eq_nil_of_length_eq_zero (by omega)
   subst hv
   have hj0:j=0:=by simpa using hj
   subst hj0
   refine ⟨none,0,?_,.inl rfl,fun _ h=>h⟩
   unfold sliceV boundV
   simp
 · refine ⟨some ⟨bk,if d=j then 0 else 0+j*1,none⟩,d-j,?_,RowAt.drop (i:=j) (S.row) hl,fun y ⟨a,ha,hb⟩=>by cases ha; exact ⟨_,rfl,hb⟩⟩
   rw [slice_from2 (by omega) (by omega) hl,Int.toNat_natCast]
theorem buildB {e:TypeId} {b:Nat} {z v:Value} {k:Value→Heap→Prop} (hv:v.cells=#[v]) (hz:z.cells.size=1) (hk:∀ X h',SlAt h' X 1 [v]→(∀ y,blk X y→h.size≤y∧y<h'.size)→Fr (fun _=>False) h h'→k (.slice X 1 1) h') :
  @buildSliceK (some (e,1,b,z)) 1 [(0,v)] ⟨h⟩ ⟨k⟩ :=
 build1 hv hz (hk _ _ (SlAt.new (vs:=[v])) (fun y ⟨a,ha,hb⟩=>by cases ha; subst hb; exact ⟨Nat.le_refl _,by rw [push_size]; exact Nat.lt_succ_self _⟩) ((Fr.refl _ _).push))
theorem appendB {e:TypeId} {bt n m xc cap:Nat} {z:Value} {A xb:Option Addr} {vs ws:List Value} {k:Value→Heap→Prop} (S:SlAt h A cap vs) (hn:n=vs.length)
  (hw:RowAt h xb ws) (hm:m=ws.length) (hone:∀ w∈ws,w.oneCell'=true) (hlen:(n+m)*bt≤2^47) (hlm:n+m<2^50)
  (hk:∀ A' cap' h',SlAt h' A' cap' (vs++ws)→Fr (blk A) h h'→(∀ x,blk A' x→blk A x∨h.size≤x)→k (.slice A' (n+m) cap') h') :
  @appendK (some (e,1,bt,z)) (.slice A n cap) (.slice xb m xc) ⟨h⟩ ⟨k⟩ :=
 appendN (sz:=1) (by rw [Nat.mul_one]; exact S) (by rw [Nat.mul_one]; exact hn) hw (by rw [Nat.mul_one]; exact hm) (by omega) hone hlen hlm (fun A' c' h' S'=>hk A' c' h' (by rw [Nat.mul_one] at S'; exact S'))
end
structure LrM (N:Nat) (h:Heap) (bb:Nat) (p:BP) (s:WS) (xb:Nat) (K U:Option Addr) (c u:List Int):Prop where
 M:BaseM h bb p s
 ex:∃ kc uc,ListB h xb [.pointer (some ⟨bb,0,none⟩),.pointer (some ⟨p.tb,0,none⟩),.slice K c.length kc,.slice U u.length uc]∧SlAt h K kc (ints c)∧SlAt h U uc (ints u) ∧
  (∀ y,blk K y→N≤y∧y≠xb)∧∀ y,blk U y→N≤y∧y≠xb∧¬ blk K y
 hx:N≤xb
 hN:∀ x t,p.c x=some t→x<N
section
variable {N:Nat} {h:Heap} {bb:Nat} {p:BP} {s:WS} {xb:Nat} {K U:Option Addr} {c u:List Int}
theorem LrM.fr0 (L:LrM N h bb p s xb K U c u) {h':Heap} (f:Fr (fun _=>False) h h'):LrM N h' bb p s xb K U c u:=by
 obtain ⟨kc,uc,B,SK,SU,hK,hU⟩:=L.ex
 exact ⟨L.M.fr0 f,⟨kc,uc,B.fr f id,SK.fr f fun _ _=>id,SU.fr f fun _ _=>id,hK,hU⟩,L.hx,L.hN⟩
theorem LrM.baseFr (L:LrM N h bb p s xb K U c u) {h':Heap} (f:Fr (fun y=>N≤y) h h'):BaseM h' bb p s:=L.M.fr f fun x hx=>by
 cases hc:p.c x with
 | none=>rfl
 | some t=>have:=L.hN x t hc; omega
theorem lvi_nat {l:List St} {x:Int}:LVi l (x.natAbs:Int)=lvx l x:=by
 unfold LVi lvx
 rw [if_neg (by omega)]; rfl
theorem pli_nat {l:List St} {x:Int}:PLi l (x.natAbs:Int)=plx l x:=by
 unfold PLi plx
 rw [if_neg (by omega)]; rfl
theorem rsi_nat {l:List St} {x:Int}:RSi l (x.natAbs:Int)=RS l x.natAbs:=by
 unfold RSi
 rw [if_neg (by omega)]; rfl
theorem variable_ok {x:Int} (h0:-9223372036854775807≤x) (h1:x≤9223372036854775807):CallsH Tryz.prog 65 [.int .i64 x] h fun r h'=>r=.int .i64 (x.natAbs:Int)∧h'=h:=by
 refine calls_of 7 [.tmp 2] Go.Proofs.Tryz.func65 rfl rfl rfl ?_
 have e:max x (-x)=(x.natAbs:Int):=by omega
 simp -implicitDefEqProofs (disch:=omega) [go_sem,e]
theorem spot_ok (L:LrM N h bb p s xb K U c u) {x:Int} (h0:-9223372036854775807≤x) (h1:x≤9223372036854775807) :
  CallsH Tryz.prog 161 [.pointer (some ⟨xb,0,none⟩),.int .i64 x] h fun r h'=>r=.complex .f64 (Fx.enc (lvx s.l x)) (Fx.enc (plx s.l x))∧h'=h:=by
 obtain ⟨kc,uc,B,SK,SU,hK,hU⟩:=L.ex
 have b1:=B.at' 1 _ rfl
 have T:=L.M.T
 have v1:=LVi_b T (x.natAbs:Int)
 have v2:=PLi_b T (x.natAbs:Int)
 rw [lvi_nat] at v1
 rw [pli_nat] at v2
 have hv:=T.hv
 have hl:=T.len
 refine calls_of 23 [.tmp 4] Go.Proofs.Tryz.func161 rfl rfl rfl ?_
 simp -implicitDefEqProofs (disch:=omega) [go_sem]
 refine useC (variable_ok h0 h1) ?_
 rintro _ h2 ⟨rfl,rfl⟩
 simp -implicitDefEqProofs (disch:=omega) [go_sem]
 refine drawC [(0,0),(1,0),(2,0),(3,1),(4,0),(7,0),(8,0),(9,0),(10,2),(11,0),(5,3),(6,0),(12,3),(13,0),(14,0),(15,0)] (Eq _) rfl ?_
 simp -implicitDefEqProofs (disch:=omega) [go_sem,b1]
 refine useC (tlevelOf_ok T (by omega) (by omega)) ?_
 rintro _ h2 ⟨rfl,rfl⟩
 simp -implicitDefEqProofs (disch:=omega) [go_sem,b1]
 refine useC (tplace_ok T (by omega) (by omega)) ?_
 rintro _ h2 ⟨rfl,rfl⟩
 rw [lvi_nat,pli_nat]
 simp -implicitDefEqProofs (disch:=omega) [go_sem,b1]
end
end Xe
