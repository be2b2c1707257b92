/- Stable sorting in place, walked: what stands in the slice is turned about, no more. -/
import Derived.Test.YtkghjecglmmloaaGreatL2
import Derived.Test.YtkghjecglmmloaaGreatSP5
namespace Xe
open Go Go.Proofs
set_option maxRecDepth 16000
set_option maxHeartbeats 1000000
theorem shr2_u64 {P:Program} {t:TypeId} (i j:Nat):cmpV P .shr t (.int .u64 ((i:Int)+(j:Int))) (.int .u64 1)=some (.int .u64 (((i+j) / 2:Nat):Int)):=by
 simp [cmpV,binV]
 rw [show min 1 IntKind.u64.bits=1 from rfl,Int.fdiv_eq_ediv_of_nonneg _ (by omega)]
 rfl
section
variable {h:Heap} {A:Option Addr} {cap:Nat} {fn:FuncId} {cs:List Value} {cf:Value→Value→Int} {ok:Value→Prop} {L:List Value} {n a b:Nat}
theorem swapRange_ok {x y q:Nat} (S:SlAt h A cap L) (hn:n=L.length) (hs:n<2^40) (hone:∀ w∈L,w.oneCell'=true) (hx:a≤x∧x+q≤b) (hy:a≤y∧y+q≤b) (hxy:x≠y) (hb:b≤n) (f:Value) :
   CallsH Tryz.prog 253 [.slice A n cap,.int .i64 x,.int .i64 y,.int .i64 q,f] h fun _ h'=>∃ L',Dat h A cap L a b h' L':=by
 subst hn
 refine calls_of 38 [] Go.Proofs.Tryz.func253 rfl rfl rfl ?_
 simp -implicitDefEqProofs (disch:=omega) [go_sem]
 refine loopK (fun ρ h'=>ρ 0=.slice A L.length cap∧ρ 1=.int .i64 x∧ρ 2=.int .i64 y∧ρ 3=.int .i64 q∧∃ (i:Nat) (L':List Value),ρ 10=.int .i64 i∧i≤q∧Dat h A cap L a b h' L')
   (fun ρ _=>q-(intOf (ρ 10)).toNat) (by kernel_rfl) ?_ ?_
 · exact ⟨rfl,rfl,rfl,rfl,0,L,rfl,by omega,Dat.refl S⟩
 · rintro ρ h1 ⟨r0,r1,r2,r3,i,L',r10,hi,D⟩
   have hlen:=D.R.len
   have S1:=D.S
   by_cases hin:i<q
   · obtain ⟨bk,rfl,hbk,hfz,hc⟩:=S1.base (by omega)
     have c0:=hc (x+i) _ (gv_at (by omega))
     have c1:=hc (y+i) _ (gv_at (by omega))
     have ne1:¬ y+i=x+i:=by omega
     have ne2:¬ x+i=y+i:=by omega
     have o0:=D.one hone (p:=x+i) (by omega)
     have o1:=D.one hone (p:=y+i) (by omega)
     have ex:((x:Int)+(i:Int)).toNat=x+i:=by omega
     have ey:((y:Int)+(i:Int)).toNat=y+i:=by omega
     simp -implicitDefEqProofs (disch:=omega) [go_sem,r0,r1,r2,r3,r10]
     refine drawK [(0,0),(1,0),(2,0),(3,0),(4,0),(5,0),(6,0),(7,0),(8,0),(9,0),(10,0),(11,0),(12,0),(13,1),(14,0),(15,0),(16,0),(17,0),(18,0),(19,1),(20,0),(21,3),(22,0),(23,3)] ?_
     have w0:=store_one o0
     have w1:=store_one o1
     simp -implicitDefEqProofs (disch:=omega) [go_sem,r0,r1,r2,r3,r10,c0,c1,hfz,ne1,ne2,w0,w1,ex,ey]
     exact ⟨⟨i+1,by omega,by omega,_,D.swp (by omega) (by omega) (by omega)⟩,by omega⟩
   · simp -implicitDefEqProofs (disch:=omega) [go_sem,r0,r1,r2,r3,r10]
     exact ⟨L',D⟩
structure RotJ (h0:Heap) (A:Option Addr) (cap:Nat) (L:List Value) (a m b:Nat) (f:Value) (ρ:Env) (h:Heap):Prop where
 r0:ρ 0=.slice A L.length cap
 r2:ρ 2=.int .i64 m
 r4:ρ 4=f
 ex:∃ (i j:Nat) (L':List Value),ρ 10=.int .i64 i∧ρ 11=.int .i64 j∧1≤i∧1≤j∧i≤m-a∧j≤b-m∧Dat h0 A cap L a b h L'
theorem rotate_ok {m:Nat} (S:SlAt h A cap L) (hn:n=L.length) (hs:n<2^40) (hone:∀ w∈L,w.oneCell'=true) (ham:a<m) (hmb:m<b) (hb:b≤n) (f:Value) :
   CallsH Tryz.prog 252 [.slice A n cap,.int .i64 a,.int .i64 m,.int .i64 b,f] h fun _ h'=>∃ L',Dat h A cap L a b h' L':=by
 subst hn
 refine calls_of 58 [] Go.Proofs.Tryz.func252 rfl rfl rfl ?_
 simp -implicitDefEqProofs (disch:=omega) [go_sem]
 refine loopK (RotJ h A cap L a m b f)
   (fun ρ _=>(intOf (ρ 10)).toNat+(intOf (ρ 11)).toNat) (by kernel_rfl) ?_ ?_
 · exact ⟨rfl,rfl,rfl,m-a,b-m,L,by rw [show ((m-a:Nat):Int)=(m:Int)-(a:Int) by omega]; rfl,by rw [show ((b-m:Nat):Int)=(b:Int)-(m:Int) by omega]; rfl,by omega,by omega,by omega,by omega,Dat.refl S⟩
 · rintro ρ h1 ⟨r0,r2,r4,i,j,L',r10,r11,hi,hj,him,hjb,D⟩
   have hlen:=D.R.len
   have hone':∀ w∈L',w.oneCell'=true:=fun w hw=>hone w (D.R.perm.mem_iff.1 hw)
   have e1:(m:Int)-(i:Int)=((m-i:Nat):Int):=by omega
   by_cases hij:i=j
   · simp -implicitDefEqProofs (disch:=omega) [go_sem,r0,r2,r4,r10,r11,hij]
     subst hij
     rw [e1]
     refine useC (swapRange_ok (a:=a) (b:=b) (x:=m-i) (y:=m) (q:=i) D.S hlen.symm hs hone' (by omega) (by omega) (by omega) hb f) ?_
     rintro _ h2 ⟨L2,D2⟩
     simp -implicitDefEqProofs (disch:=omega) [go_sem]
     exact ⟨L2,D.R.trans D2.R,D2.S,D.f.trans D2.f⟩
   · have hij':¬ (i:Int)=(j:Int):=by omega
     by_cases hgt:j<i
     · have hgt':(j:Int)<(i:Int):=by omega
       simp -implicitDefEqProofs (disch:=omega) [go_sem,r0,r2,r4,r10,r11,hij',hgt']
       rw [e1]
       refine useC (swapRange_ok (a:=a) (b:=b) (x:=m-i) (y:=m) (q:=j) D.S hlen.symm hs hone' (by omega) (by omega) (by omega) hb f) ?_
       rintro _ h2 ⟨L2,D2⟩
       simp -implicitDefEqProofs (disch:=omega) [go_sem,r0,r2,r4,r10,r11]
       exact ⟨⟨r0,r2,r4,i-j,j,L2,by rw [show ((i-j:Nat):Int)=(i:Int)-(j:Int) by omega]; rfl,r11,by omega,by omega,by omega,by omega,D.R.trans D2.R,D2.S,D.f.trans D2.f⟩,by omega⟩
     · have hgt':¬ (j:Int)<(i:Int):=by omega
       simp -implicitDefEqProofs (disch:=omega) [go_sem,r0,r2,r4,r10,r11,hij',hgt']
       rw [e1,show (m:Int)+(j:Int)-(i:Int)=((m+j-i:Nat):Int) by omega]
       refine useC (swapRange_ok (a:=a) (b:=b) (x:=m-i) (y:=m+j-i) (q:=i) D.S hlen.symm hs hone' (by omega) (by omega) (by omega) hb f) ?_
       rintro _ h2 ⟨L2,D2⟩
       simp -implicitDefEqProofs (disch:=omega) [go_sem,r0,r2,r4,r10,r11]
       exact ⟨⟨r0,r2,r4,i,j-i,L2,r10,by rw [show ((j-i:Nat):Int)=(j:Int)-(i:Int) by omega]; rfl,by omega,by omega,by omega,by omega,D.R.trans D2.R,D2.S,D.f.trans D2.f⟩,by omega⟩
structure SymJ (h0:Heap) (A:Option Addr) (cap:Nat) (L:List Value) (a m b:Nat) (fv:Value) (x y lo hi:Nat) (ρ:Env) (h:Heap):Prop where
 r0:ρ 0=.slice A L.length cap
 r1:ρ 1=.int .i64 a
 r2:ρ 2=.int .i64 m
 r3:ρ 3=.int .i64 b
 r4:ρ 4=fv
 D:Dat h0 A cap L a b h L
 ex:∃ (i j:Nat),ρ x=.int .i64 i∧ρ y=.int .i64 j∧lo≤i∧i≤j∧j≤hi
structure SywJ (h0:Heap) (A:Option Addr) (cap:Nat) (L:List Value) (a b:Nat) (x y:Nat) (lo hi:Nat) (ρ:Env) (h:Heap):Prop where
 r0:ρ 0=.slice A L.length cap
 ex:∃ (i j:Nat) (L':List Value),ρ x=.int .i64 i∧ρ y=.int .i64 j∧lo≤i∧i≤hi∧lo≤j∧j≤hi∧Dat h0 A cap L a b h L'
structure SyzJ (h0:Heap) (A:Option Addr) (cap:Nat) (L:List Value) (a m b mid:Nat) (fv:Value) (lo hi:Nat) (ρ:Env) (h:Heap):Prop where
 r0:ρ 0=.slice A L.length cap
 r1:ρ 1=.int .i64 a
 r2:ρ 2=.int .i64 m
 r3:ρ 3=.int .i64 b
 r4:ρ 4=fv
 r18:ρ 18=.int .i64 mid
 r19:ρ 19=.int .i64 (mid+m:Nat)
 r22:ρ 22=.int .i64 (mid+m-1:Nat)
 D:Dat h0 A cap L a b h L
 ex:∃ (i j:Nat),ρ 20=.int .i64 i∧ρ 21=.int .i64 j∧lo≤i∧i≤j∧j≤hi
theorem symMerge_ok (C:Cmp Tryz.prog h A fn cs cf ok) (d:Nat):∀ {h1:Heap} {L:List Value} {a m b:Nat},Fr (blk A) h h1→SlAt h1 A cap L→n=L.length→n<2^40→(∀ w∈L,w.oneCell'=true)→OkR ok L→a<m→m<b→b≤n→b-a≤d →
   CallsH Tryz.prog 250 [.slice A n cap,.int .i64 a,.int .i64 m,.int .i64 b,.func (.func fn) #[] cs.toArray] h1 fun _ h'=>∃ L',Dat h1 A cap L a b h' L':=by
 induction d with
 | zero=>intro h1 L a m b _ _ _ _ _ _ h1 h2 h3 h4; omega
 | succ d ih =>
   intro h1 L a m b f1 S hn hs hone hok ham hmb hb hd
   subst hn
   have C1:=C.fr f1
   refine calls_of 220 [] Go.Proofs.Tryz.func250 rfl rfl rfl ?_
   have one2:∀ {L2:List Value},Rng a b L L2→∀ w∈L2,w.oneCell'=true:=fun R w hw=>hone w (R.perm.mem_iff.1 hw)
   by_cases g1:m=a+1
   · subst g1
     simp -implicitDefEqProofs (disch:=omega) [go_sem]
     refine loopK (SymJ h1 A cap L a (a+1) b (.func (.func fn) #[] cs.toArray) 10 11 (a+1) b) (fun ρ _=>(intOf (ρ 11)).toNat-(intOf (ρ 10)).toNat) (by kernel_rfl) ?_ ?_
     · exact ⟨rfl,rfl,rfl,rfl,rfl,Dat.refl S,(a+1),b,rfl,rfl,by omega,by omega,by omega⟩
     · rintro ρ h2 ⟨r0,r1,r2,r3,r4,D,i,j,rx,ry,hi,hij,hj⟩
       by_cases hin:i<j
       · obtain ⟨w,hw⟩:∃ w,w=(i+j) / 2:=⟨_,rfl⟩
         obtain ⟨bk,rfl,hbk,hfz,hc⟩:=D.S.base (by omega)
         have c0:=hc (w) _ (gv_at (by omega))
         have c1:=hc (a) _ (gv_at (by omega))
         simp -implicitDefEqProofs (disch:=omega) [go_sem,r0,r1,r2,r3,r4,rx,ry,shr2_u64,← hw]
         refine drawK [(0,0),(1,0),(2,0),(3,0),(4,1),(5,0),(6,0),(7,0),(8,1),(9,3),(10,0)] ?_
         simp -implicitDefEqProofs (disch:=omega) [go_sem,r0,r1,r2,r3,r4,rx,ry,c0,c1]
         refine useC (C1.call h2 D.f _ _ (hok (w) (by omega)) (hok (a) (by omega))) ?_
         rintro _ h3 ⟨rfl,f3⟩
         have D3:=D.fr0 f3
         by_cases hlt:cf (gv L (w)) (gv L (a))<0
         · simp -implicitDefEqProofs (disch:=omega) [go_sem,r0,r1,r2,r3,r4,rx,ry,hlt]
           exact ⟨⟨r0,r1,r2,r3,r4,D3,w+1,j,rfl,ry,by omega,by omega,by omega⟩,by omega⟩
         · simp -implicitDefEqProofs (disch:=omega) [go_sem,r0,r1,r2,r3,r4,rx,ry,hlt]
           exact ⟨⟨r0,r1,r2,r3,r4,D3,i,w,rx,rfl,by omega,by omega,by omega⟩,by omega⟩
       · simp -implicitDefEqProofs (disch:=omega) [go_sem,r0,r1,r2,r3,r4,rx,ry]
         have D':=D
         obtain ⟨bk0,rfl,_,_,_⟩:=D.S.base (by omega)
         refine loopK (SywJ h1 (some ⟨bk0,0,none⟩) cap L a b 13 10 a b) (fun ρ _=>(intOf (ρ 10)).toNat-(intOf (ρ 13)).toNat) (by kernel_rfl) ?_ ?_
         · exact ⟨r0,a,i,L,rfl,rx,by omega,by omega,by omega,by omega,D⟩
         · clear r0 r1 r2 r3 r4 rx ry hin hi hij hj D
           clear i
           rintro ρ h3 ⟨r0,k,i,L2,rk,rx,hk1,hk2,hi1,hi2,D⟩
           have hl2:=D.R.len
           by_cases hlt:k+1<i
           · have hlt':(k:Int)<(i:Int)-1:=by omega
             obtain ⟨bk,hA,hbk,hfz,hc⟩:=D.S.base (by omega)
             cases hA
             have c0:=hc k _ (gv_at (by omega))
             have c1:=hc (k+1) _ (gv_at (by omega))
             have w0:=store_one (D.one hone (p:=k) (by omega))
             have w1:=store_one (D.one hone (p:=k+1) (by omega))
             have ne1:¬ k+1=k:=by omega
             have ne2:¬ k=k+1:=by omega
             have ek:((k:Int)+1).toNat=k+1:=by omega
             simp -implicitDefEqProofs (disch:=omega) [go_sem,r0,rk,rx,hlt']
             refine drawK [(0,0),(1,0),(2,0),(3,0),(4,0),(5,0),(6,0),(7,0),(8,0),(9,1),(10,0),(11,0),(12,0),(13,1),(14,0),(15,3),(16,0),(17,3)] ?_
             simp -implicitDefEqProofs (disch:=omega) [go_sem,r0,rk,rx,c0,c1,ek,hfz,ne1,ne2,w0,w1]
             exact ⟨⟨r0,k+1,i,_,rfl,rx,by omega,by omega,by omega,by omega,D.swp (by omega) (by omega) (by omega)⟩,by omega⟩
           · have hlt':¬ (k:Int)<(i:Int)-1:=by omega
             simp -implicitDefEqProofs (disch:=omega) [go_sem,r0,rk,rx,hlt']
             exact ⟨L2,D⟩
   have g1':¬ (m:Int)-(a:Int)=1:=by omega
   by_cases g2:b=m+1
   · have g2e:(b:Int)-(m:Int)=1:=by omega
     simp -implicitDefEqProofs (disch:=omega) [go_sem,g1',g2e]
     refine loopK (SymJ h1 A cap L a m b (.func (.func fn) #[] cs.toArray) 14 15 a m) (fun ρ _=>(intOf (ρ 15)).toNat-(intOf (ρ 14)).toNat) (by kernel_rfl) ?_ ?_
     · exact ⟨rfl,rfl,rfl,rfl,rfl,Dat.refl S,a,m,rfl,rfl,by omega,by omega,by omega⟩
     · rintro ρ h2 ⟨r0,r1,r2,r3,r4,D,i,j,rx,ry,hi,hij,hj⟩
       by_cases hin:i<j
       · obtain ⟨w,hw⟩:∃ w,w=(i+j) / 2:=⟨_,rfl⟩
         obtain ⟨bk,rfl,hbk,hfz,hc⟩:=D.S.base (by omega)
         have c0:=hc (m) _ (gv_at (by omega))
         have c1:=hc (w) _ (gv_at (by omega))
         simp -implicitDefEqProofs (disch:=omega) [go_sem,r0,r1,r2,r3,r4,rx,ry,shr2_u64,← hw,g1']
         refine drawK [(0,0),(1,0),(2,0),(3,0),(4,1),(5,0),(6,0),(7,0),(8,1),(9,3),(10,0),(11,0)] ?_
         simp -implicitDefEqProofs (disch:=omega) [go_sem,r0,r1,r2,r3,r4,rx,ry,c0,c1,g1']
         refine useC (C1.call h2 D.f _ _ (hok (m) (by omega)) (hok (w) (by omega))) ?_
         rintro _ h3 ⟨rfl,f3⟩
         have D3:=D.fr0 f3
         by_cases hlt:cf (gv L (m)) (gv L (w))<0
         · simp -implicitDefEqProofs (disch:=omega) [go_sem,r0,r1,r2,r3,r4,rx,ry,hlt,g1']
           exact ⟨⟨r0,r1,r2,r3,r4,D3,i,w,rx,rfl,by omega,by omega,by omega⟩,by omega⟩
         · simp -implicitDefEqProofs (disch:=omega) [go_sem,r0,r1,r2,r3,r4,rx,ry,hlt,g1']
           exact ⟨⟨r0,r1,r2,r3,r4,D3,w+1,j,rfl,ry,by omega,by omega,by omega⟩,by omega⟩
       · simp -implicitDefEqProofs (disch:=omega) [go_sem,r0,r1,r2,r3,r4,rx,ry,g1']
         have D':=D
         obtain ⟨bk0,rfl,_,_,_⟩:=D.S.base (by omega)
         refine loopK (SywJ h1 (some ⟨bk0,0,none⟩) cap L a b 17 14 a m) (fun ρ _=>(intOf (ρ 17)).toNat-(intOf (ρ 14)).toNat) (by kernel_rfl) ?_ ?_
         · exact ⟨r0,m,i,L,rfl,rx,by omega,by omega,by omega,by omega,D⟩
         · clear r0 r1 r2 r3 r4 rx ry hin hi hij hj D
           clear i
           rintro ρ h3 ⟨r0,k,i,L2,rk,rx,hk1,hk2,hi1,hi2,D⟩
           have hl2:=D.R.len
           by_cases hlt:i<k
           · have hlt':(i:Int)<(k:Int):=by omega
             obtain ⟨bk,hA,hbk,hfz,hc⟩:=D.S.base (by omega)
             cases hA
             have c0:=hc k _ (gv_at (by omega))
             have c1:=hc (k-1) _ (gv_at (by omega))
             have w0:=store_one (D.one hone (p:=k) (by omega))
             have w1:=store_one (D.one hone (p:=k-1) (by omega))
             have ne1:¬ k-1=k:=by omega
             have ne2:¬ k=k-1:=by omega
             have ek:((k:Int)-1).toNat=k-1:=by omega
             simp -implicitDefEqProofs (disch:=omega) [go_sem,r0,rk,rx,hlt']
             refine drawK [(0,0),(1,0),(2,0),(3,0),(4,0),(5,0),(6,0),(7,0),(8,0),(9,1),(10,0),(11,0),(12,0),(13,1),(14,0),(15,3),(16,0),(17,3)] ?_
             simp -implicitDefEqProofs (disch:=omega) [go_sem,r0,rk,rx,c0,c1,ek,hfz,ne1,ne2,w0,w1]
             exact ⟨⟨r0,k-1,i,_,by rw [show ((k-1:Nat):Int)=(k:Int)-1 by omega]; rfl,rx,by omega,by omega,by omega,by omega,D.swp (by omega) (by omega) (by omega)⟩,by omega⟩
           · have hlt':¬ (i:Int)<(k:Int):=by omega
             simp -implicitDefEqProofs (disch:=omega) [go_sem,r0,rk,rx,hlt']
             exact ⟨L2,D⟩
   have g2':¬ (b:Int)-(m:Int)=1:=by omega
   obtain ⟨mid,hmid⟩:∃ mid,mid=(a+b) / 2:=⟨_,rfl⟩
   by_cases hgt:mid<m
   · have hgt':(mid:Int)<(m:Int):=by omega
     simp -implicitDefEqProofs (disch:=omega) [go_sem,g1',g2',shr2_u64,← hmid,hgt']
     refine loopK (SyzJ h1 A cap L a m b mid (.func (.func fn) #[] cs.toArray) (mid+m-b) (mid)) (fun ρ _=>(intOf (ρ 21)).toNat-(intOf (ρ 20)).toNat) (by kernel_rfl) ?_ ?_
     · exact ⟨rfl,rfl,rfl,rfl,rfl,rfl,rfl,by rw [show ((mid+m-1:Nat):Int)=(mid:Int)+(m:Int)-1 by omega]; rfl,Dat.refl S,mid+m-b,mid,by rw [show ((mid+m-b:Nat):Int)=(mid:Int)+(m:Int)-(b:Int) by omega]; rfl,rfl,by omega,by omega,by omega⟩
     · rintro ρ h2 ⟨r0,r1,r2,r3,r4,r18,r19,r22,D,i,j,rx,ry,hi,hij,hj⟩
       by_cases hin:i<j
       · obtain ⟨w,hw⟩:∃ w,w=(i+j) / 2:=⟨_,rfl⟩
         obtain ⟨bk,rfl,hbk,hfz,hc⟩:=D.S.base (by omega)
         have c0:=hc (mid+m-1-w) _ (gv_at (by omega))
         have c1:=hc w _ (gv_at (by omega))
         have ep:(((mid+m-1:Nat):Int)-(w:Int)).toNat=mid+m-1-w:=by omega
         simp -implicitDefEqProofs (disch:=omega) [go_sem,r0,r1,r2,r3,r4,r18,r19,r22,rx,ry,shr2_u64,← hw]
         refine drawK [(0,0),(1,0),(2,0),(3,0),(4,0),(5,0),(6,1),(7,0),(8,0),(9,0),(10,1),(11,3),(12,0),(13,0)] ?_
         simp -implicitDefEqProofs (disch:=omega) [go_sem,r0,r1,r2,r3,r4,r18,r19,r22,rx,ry,c0,c1,ep]
         refine useC (C1.call h2 D.f _ _ (hok (mid+m-1-w) (by omega)) (hok w (by omega))) ?_
         rintro _ h3 ⟨rfl,f3⟩
         have D3:=D.fr0 f3
         by_cases hlt:cf (gv L (mid+m-1-w)) (gv L w)<0
         · simp -implicitDefEqProofs (disch:=omega) [go_sem,r0,r1,r2,r3,r4,r18,r19,r22,rx,ry,hlt]
           exact ⟨⟨r0,r1,r2,r3,r4,r18,r19,r22,D3,i,w,rx,rfl,by omega,by omega,by omega⟩,by omega⟩
         · simp -implicitDefEqProofs (disch:=omega) [go_sem,r0,r1,r2,r3,r4,r18,r19,r22,rx,ry,hlt]
           exact ⟨⟨r0,r1,r2,r3,r4,r18,r19,r22,D3,w+1,j,rfl,ry,by omega,by omega,by omega⟩,by omega⟩
       · have ej:i=j:=by omega
         subst ej
         obtain ⟨e,he,he'⟩:∃ e:Nat,(mid:Int)+(m:Int)-(i:Int)=(e:Int)∧e=mid+m-i:=⟨mid+m-i,by omega,rfl⟩
         by_cases p1:i<m
         · by_cases q1:m<e
           · first
               | (exfalso; omega)
               | (skip
                  have p1I:(i:Int)<(m:Int):=by omega
                  have q1I:(m:Int)<(e:Int):=by omega
                  simp -implicitDefEqProofs (disch:=omega) [go_sem,r0,r1,r2,r3,r4,r18,r19,r22,rx,ry,he,p1I,q1I]
                  refine useC (rotate_ok (a:=i) (m:=m) (b:=e) D.S D.R.len.symm hs (one2 D.R) (by omega) (by omega) (by omega) (.func (.func fn) #[] cs.toArray)) ?_
                  rintro _ hh1 ⟨L1,E1⟩
                  have D1:Dat h1 A cap L a b hh1 L1:=⟨D.R.trans (E1.R.mono (by omega) (by omega) (by have:=D.R.len; omega)),E1.S,D.f.trans E1.f⟩
                  by_cases p2:a<i
                  · by_cases q2:i<mid
                    · first
                        | (exfalso; omega)
                        | (skip
                           have p2I:(a:Int)<(i:Int):=by omega
                           have q2I:(i:Int)<(mid:Int):=by omega
                           simp -implicitDefEqProofs (disch:=omega) [go_sem,r0,r1,r2,r3,r4,r18,r19,r22,rx,ry,he,p1I,q1I,p2I,q2I]
                           refine useC (ih (a:=a) (m:=i) (b:=mid) (f1.trans D1.f) D1.S D1.R.len.symm hs (one2 D1.R) (hok.rng D1.R hb) (by omega) (by omega) (by omega) (by omega)) ?_
                           rintro _ hh2 ⟨L2,E2⟩
                           have D2:Dat h1 A cap L a b hh2 L2:=⟨D1.R.trans (E2.R.mono (by omega) (by omega) (by have:=D1.R.len; omega)),E2.S,D1.f.trans E2.f⟩
                           by_cases p3:mid<e
                           · by_cases q3:e<b
                             · first
                                 | (exfalso; omega)
                                 | (skip
                                    have p3I:(mid:Int)<(e:Int):=by omega
                                    have q3I:(e:Int)<(b:Int):=by omega
                                    simp -implicitDefEqProofs (disch:=omega) [go_sem,r0,r1,r2,r3,r4,r18,r19,r22,rx,ry,he,p1I,q1I,p2I,q2I,p3I,q3I]
                                    refine useC (ih (a:=mid) (m:=e) (b:=b) (f1.trans D2.f) D2.S D2.R.len.symm hs (one2 D2.R) (hok.rng D2.R hb) (by omega) (by omega) (by omega) (by omega)) ?_
                                    rintro _ hh3 ⟨L3,E3⟩
                                    have D3:Dat h1 A cap L a b hh3 L3:=⟨D2.R.trans (E3.R.mono (by omega) (by omega) (by have:=D2.R.len; omega)),E3.S,D2.f.trans E3.f⟩
                                    simp -implicitDefEqProofs (disch:=omega) [go_sem,r0,r1,r2,r3,r4,r18,r19,r22,rx,ry,he,p1I,q1I,p2I,q2I,p3I,q3I]
                                    exact ⟨L3,D3⟩)
                             · first
                                 | (exfalso; omega)
                                 | (skip
                                    have p3I:(mid:Int)<(e:Int):=by omega
                                    have q3I:¬ (e:Int)<(b:Int):=by omega
                                    simp -implicitDefEqProofs (disch:=omega) [go_sem,r0,r1,r2,r3,r4,r18,r19,r22,rx,ry,he,p1I,q1I,p2I,q2I,p3I,q3I]
                                    exact ⟨L2,D2⟩)
                           · first
                               | (exfalso; omega)
                               | (skip
                                  have p3I:¬ (mid:Int)<(e:Int):=by omega
                                  simp -implicitDefEqProofs (disch:=omega) [go_sem,r0,r1,r2,r3,r4,r18,r19,r22,rx,ry,he,p1I,q1I,p2I,q2I,p3I]
                                  exact ⟨L2,D2⟩))
                    · first
                        | (exfalso; omega)
                        | (skip
                           have p2I:(a:Int)<(i:Int):=by omega
                           have q2I:¬ (i:Int)<(mid:Int):=by omega
                           by_cases p4:mid<e
                           · by_cases q4:e<b
                             · first
                                 | (exfalso; omega)
                                 | (skip
                                    have p4I:(mid:Int)<(e:Int):=by omega
                                    have q4I:(e:Int)<(b:Int):=by omega
                                    simp -implicitDefEqProofs (disch:=omega) [go_sem,r0,r1,r2,r3,r4,r18,r19,r22,rx,ry,he,p1I,q1I,p2I,q2I,p4I,q4I]
                                    refine useC (ih (a:=mid) (m:=e) (b:=b) (f1.trans D1.f) D1.S D1.R.len.symm hs (one2 D1.R) (hok.rng D1.R hb) (by omega) (by omega) (by omega) (by omega)) ?_
                                    rintro _ hh4 ⟨L4,E4⟩
                                    have D4:Dat h1 A cap L a b hh4 L4:=⟨D1.R.trans (E4.R.mono (by omega) (by omega) (by have:=D1.R.len; omega)),E4.S,D1.f.trans E4.f⟩
                                    simp -implicitDefEqProofs (disch:=omega) [go_sem,r0,r1,r2,r3,r4,r18,r19,r22,rx,ry,he,p1I,q1I,p2I,q2I,p4I,q4I]
                                    exact ⟨L4,D4⟩)
                             · first
                                 | (exfalso; omega)
                                 | (skip
                                    have p4I:(mid:Int)<(e:Int):=by omega
                                    have q4I:¬ (e:Int)<(b:Int):=by omega
                                    simp -implicitDefEqProofs (disch:=omega) [go_sem,r0,r1,r2,r3,r4,r18,r19,r22,rx,ry,he,p1I,q1I,p2I,q2I,p4I,q4I]
                                    exact ⟨L1,D1⟩)
                           · first
                               | (exfalso; omega)
                               | (skip
                                  have p4I:¬ (mid:Int)<(e:Int):=by omega
                                  simp -implicitDefEqProofs (disch:=omega) [go_sem,r0,r1,r2,r3,r4,r18,r19,r22,rx,ry,he,p1I,q1I,p2I,q2I,p4I]
                                  exact ⟨L1,D1⟩))
                  · first
                      | (exfalso; omega)
                      | (skip
                         have p2I:¬ (a:Int)<(i:Int):=by omega
                         by_cases p5:mid<e
                         · by_cases q5:e<b
                           · first
                               | (exfalso; omega)
                               | (skip
                                  have p5I:(mid:Int)<(e:Int):=by omega
                                  have q5I:(e:Int)<(b:Int):=by omega
                                  simp -implicitDefEqProofs (disch:=omega) [go_sem,r0,r1,r2,r3,r4,r18,r19,r22,rx,ry,he,p1I,q1I,p2I,p5I,q5I]
                                  refine useC (ih (a:=mid) (m:=e) (b:=b) (f1.trans D1.f) D1.S D1.R.len.symm hs (one2 D1.R) (hok.rng D1.R hb) (by omega) (by omega) (by omega) (by omega)) ?_
                                  rintro _ hh5 ⟨L5,E5⟩
                                  have D5:Dat h1 A cap L a b hh5 L5:=⟨D1.R.trans (E5.R.mono (by omega) (by omega) (by have:=D1.R.len; omega)),E5.S,D1.f.trans E5.f⟩
                                  simp -implicitDefEqProofs (disch:=omega) [go_sem,r0,r1,r2,r3,r4,r18,r19,r22,rx,ry,he,p1I,q1I,p2I,p5I,q5I]
                                  exact ⟨L5,D5⟩)
                           · first
                               | (exfalso; omega)
                               | (skip
                                  have p5I:(mid:Int)<(e:Int):=by omega
                                  have q5I:¬ (e:Int)<(b:Int):=by omega
                                  simp -implicitDefEqProofs (disch:=omega) [go_sem,r0,r1,r2,r3,r4,r18,r19,r22,rx,ry,he,p1I,q1I,p2I,p5I,q5I]
                                  exact ⟨L1,D1⟩)
                         · first
                             | (exfalso; omega)
                             | (skip
                                have p5I:¬ (mid:Int)<(e:Int):=by omega
                                simp -implicitDefEqProofs (disch:=omega) [go_sem,r0,r1,r2,r3,r4,r18,r19,r22,rx,ry,he,p1I,q1I,p2I,p5I]
                                exact ⟨L1,D1⟩)))
           · first
               | (exfalso; omega)
               | (skip
                  have p1I:(i:Int)<(m:Int):=by omega
                  have q1I:¬ (m:Int)<(e:Int):=by omega
                  by_cases p6:a<i
                  · by_cases q6:i<mid
                    · first
                        | (exfalso; omega)
                        | (skip
                           have p6I:(a:Int)<(i:Int):=by omega
                           have q6I:(i:Int)<(mid:Int):=by omega
                           simp -implicitDefEqProofs (disch:=omega) [go_sem,r0,r1,r2,r3,r4,r18,r19,r22,rx,ry,he,p1I,q1I,p6I,q6I]
                           refine useC (ih (a:=a) (m:=i) (b:=mid) (f1.trans D.f) D.S D.R.len.symm hs (one2 D.R) (hok.rng D.R hb) (by omega) (by omega) (by omega) (by omega)) ?_
                           rintro _ hh6 ⟨L6,E6⟩
                           have D6:Dat h1 A cap L a b hh6 L6:=⟨D.R.trans (E6.R.mono (by omega) (by omega) (by have:=D.R.len; omega)),E6.S,D.f.trans E6.f⟩
                           by_cases p7:mid<e
                           · by_cases q7:e<b
                             · first
                                 | (exfalso; omega)
                                 | (skip
                                    have p7I:(mid:Int)<(e:Int):=by omega
                                    have q7I:(e:Int)<(b:Int):=by omega
                                    simp -implicitDefEqProofs (disch:=omega) [go_sem,r0,r1,r2,r3,r4,r18,r19,r22,rx,ry,he,p1I,q1I,p6I,q6I,p7I,q7I]
                                    refine useC (ih (a:=mid) (m:=e) (b:=b) (f1.trans D6.f) D6.S D6.R.len.symm hs (one2 D6.R) (hok.rng D6.R hb) (by omega) (by omega) (by omega) (by omega)) ?_
                                    rintro _ hh7 ⟨L7,E7⟩
                                    have D7:Dat h1 A cap L a b hh7 L7:=⟨D6.R.trans (E7.R.mono (by omega) (by omega) (by have:=D6.R.len; omega)),E7.S,D6.f.trans E7.f⟩
                                    simp -implicitDefEqProofs (disch:=omega) [go_sem,r0,r1,r2,r3,r4,r18,r19,r22,rx,ry,he,p1I,q1I,p6I,q6I,p7I,q7I]
                                    exact ⟨L7,D7⟩)
                             · first
                                 | (exfalso; omega)
                                 | (skip
                                    have p7I:(mid:Int)<(e:Int):=by omega
                                    have q7I:¬ (e:Int)<(b:Int):=by omega
                                    simp -implicitDefEqProofs (disch:=omega) [go_sem,r0,r1,r2,r3,r4,r18,r19,r22,rx,ry,he,p1I,q1I,p6I,q6I,p7I,q7I]
                                    exact ⟨L6,D6⟩)
                           · first
                               | (exfalso; omega)
                               | (skip
                                  have p7I:¬ (mid:Int)<(e:Int):=by omega
                                  simp -implicitDefEqProofs (disch:=omega) [go_sem,r0,r1,r2,r3,r4,r18,r19,r22,rx,ry,he,p1I,q1I,p6I,q6I,p7I]
                                  exact ⟨L6,D6⟩))
                    · first
                        | (exfalso; omega)
                        | (skip
                           have p6I:(a:Int)<(i:Int):=by omega
                           have q6I:¬ (i:Int)<(mid:Int):=by omega
                           by_cases p8:mid<e
                           · by_cases q8:e<b
                             · first
                                 | (exfalso; omega)
                                 | (skip
                                    have p8I:(mid:Int)<(e:Int):=by omega
                                    have q8I:(e:Int)<(b:Int):=by omega
                                    simp -implicitDefEqProofs (disch:=omega) [go_sem,r0,r1,r2,r3,r4,r18,r19,r22,rx,ry,he,p1I,q1I,p6I,q6I,p8I,q8I]
                                    refine useC (ih (a:=mid) (m:=e) (b:=b) (f1.trans D.f) D.S D.R.len.symm hs (one2 D.R) (hok.rng D.R hb) (by omega) (by omega) (by omega) (by omega)) ?_
                                    rintro _ hh8 ⟨L8,E8⟩
                                    have D8:Dat h1 A cap L a b hh8 L8:=⟨D.R.trans (E8.R.mono (by omega) (by omega) (by have:=D.R.len; omega)),E8.S,D.f.trans E8.f⟩
                                    simp -implicitDefEqProofs (disch:=omega) [go_sem,r0,r1,r2,r3,r4,r18,r19,r22,rx,ry,he,p1I,q1I,p6I,q6I,p8I,q8I]
                                    exact ⟨L8,D8⟩)
                             · first
                                 | (exfalso; omega)
                                 | (skip
                                    have p8I:(mid:Int)<(e:Int):=by omega
                                    have q8I:¬ (e:Int)<(b:Int):=by omega
                                    simp -implicitDefEqProofs (disch:=omega) [go_sem,r0,r1,r2,r3,r4,r18,r19,r22,rx,ry,he,p1I,q1I,p6I,q6I,p8I,q8I]
                                    exact ⟨L,D⟩)
                           · first
                               | (exfalso; omega)
                               | (skip
                                  have p8I:¬ (mid:Int)<(e:Int):=by omega
                                  simp -implicitDefEqProofs (disch:=omega) [go_sem,r0,r1,r2,r3,r4,r18,r19,r22,rx,ry,he,p1I,q1I,p6I,q6I,p8I]
                                  exact ⟨L,D⟩))
                  · first
                      | (exfalso; omega)
                      | (skip
                         have p6I:¬ (a:Int)<(i:Int):=by omega
                         by_cases p9:mid<e
                         · by_cases q9:e<b
                           · first
                               | (exfalso; omega)
                               | (skip
                                  have p9I:(mid:Int)<(e:Int):=by omega
                                  have q9I:(e:Int)<(b:Int):=by omega
                                  simp -implicitDefEqProofs (disch:=omega) [go_sem,r0,r1,r2,r3,r4,r18,r19,r22,rx,ry,he,p1I,q1I,p6I,p9I,q9I]
                                  refine useC (ih (a:=mid) (m:=e) (b:=b) (f1.trans D.f) D.S D.R.len.symm hs (one2 D.R) (hok.rng D.R hb) (by omega) (by omega) (by omega) (by omega)) ?_
                                  rintro _ hh9 ⟨L9,E9⟩
                                  have D9:Dat h1 A cap L a b hh9 L9:=⟨D.R.trans (E9.R.mono (by omega) (by omega) (by have:=D.R.len; omega)),E9.S,D.f.trans E9.f⟩
                                  simp -implicitDefEqProofs (disch:=omega) [go_sem,r0,r1,r2,r3,r4,r18,r19,r22,rx,ry,he,p1I,q1I,p6I,p9I,q9I]
                                  exact ⟨L9,D9⟩)
                           · first
                               | (exfalso; omega)
                               | (skip
                                  have p9I:(mid:Int)<(e:Int):=by omega
                                  have q9I:¬ (e:Int)<(b:Int):=by omega
                                  simp -implicitDefEqProofs (disch:=omega) [go_sem,r0,r1,r2,r3,r4,r18,r19,r22,rx,ry,he,p1I,q1I,p6I,p9I,q9I]
                                  exact ⟨L,D⟩)
                         · first
                             | (exfalso; omega)
                             | (skip
                                have p9I:¬ (mid:Int)<(e:Int):=by omega
                                simp -implicitDefEqProofs (disch:=omega) [go_sem,r0,r1,r2,r3,r4,r18,r19,r22,rx,ry,he,p1I,q1I,p6I,p9I]
                                exact ⟨L,D⟩)))
         · first
             | (exfalso; omega)
             | (skip
                have p1I:¬ (i:Int)<(m:Int):=by omega
                by_cases p10:a<i
                · by_cases q10:i<mid
                  · first
                      | (exfalso; omega)
                      | (skip
                         have p10I:(a:Int)<(i:Int):=by omega
                         have q10I:(i:Int)<(mid:Int):=by omega
                         simp -implicitDefEqProofs (disch:=omega) [go_sem,r0,r1,r2,r3,r4,r18,r19,r22,rx,ry,he,p1I,p10I,q10I]
                         refine useC (ih (a:=a) (m:=i) (b:=mid) (f1.trans D.f) D.S D.R.len.symm hs (one2 D.R) (hok.rng D.R hb) (by omega) (by omega) (by omega) (by omega)) ?_
                         rintro _ hh10 ⟨L10,E10⟩
                         have D10:Dat h1 A cap L a b hh10 L10:=⟨D.R.trans (E10.R.mono (by omega) (by omega) (by have:=D.R.len; omega)),E10.S,D.f.trans E10.f⟩
                         by_cases p11:mid<e
                         · by_cases q11:e<b
                           · first
                               | (exfalso; omega)
                               | (skip
                                  have p11I:(mid:Int)<(e:Int):=by omega
                                  have q11I:(e:Int)<(b:Int):=by omega
                                  simp -implicitDefEqProofs (disch:=omega) [go_sem,r0,r1,r2,r3,r4,r18,r19,r22,rx,ry,he,p1I,p10I,q10I,p11I,q11I]
                                  refine useC (ih (a:=mid) (m:=e) (b:=b) (f1.trans D10.f) D10.S D10.R.len.symm hs (one2 D10.R) (hok.rng D10.R hb) (by omega) (by omega) (by omega) (by omega)) ?_
                                  rintro _ hh11 ⟨L11,E11⟩
                                  have D11:Dat h1 A cap L a b hh11 L11:=⟨D10.R.trans (E11.R.mono (by omega) (by omega) (by have:=D10.R.len; omega)),E11.S,D10.f.trans E11.f⟩
                                  simp -implicitDefEqProofs (disch:=omega) [go_sem,r0,r1,r2,r3,r4,r18,r19,r22,rx,ry,he,p1I,p10I,q10I,p11I,q11I]
                                  exact ⟨L11,D11⟩)
                           · first
                               | (exfalso; omega)
                               | (skip
                                  have p11I:(mid:Int)<(e:Int):=by omega
                                  have q11I:¬ (e:Int)<(b:Int):=by omega
                                  simp -implicitDefEqProofs (disch:=omega) [go_sem,r0,r1,r2,r3,r4,r18,r19,r22,rx,ry,he,p1I,p10I,q10I,p11I,q11I]
                                  exact ⟨L10,D10⟩)
                         · first
                             | (exfalso; omega)
                             | (skip
                                have p11I:¬ (mid:Int)<(e:Int):=by omega
                                simp -implicitDefEqProofs (disch:=omega) [go_sem,r0,r1,r2,r3,r4,r18,r19,r22,rx,ry,he,p1I,p10I,q10I,p11I]
                                exact ⟨L10,D10⟩))
                  · first
                      | (exfalso; omega)
                      | (skip
                         have p10I:(a:Int)<(i:Int):=by omega
                         have q10I:¬ (i:Int)<(mid:Int):=by omega
                         by_cases p12:mid<e
                         · by_cases q12:e<b
                           · first
                               | (exfalso; omega)
                               | (skip
                                  have p12I:(mid:Int)<(e:Int):=by omega
                                  have q12I:(e:Int)<(b:Int):=by omega
                                  simp -implicitDefEqProofs (disch:=omega) [go_sem,r0,r1,r2,r3,r4,r18,r19,r22,rx,ry,he,p1I,p10I,q10I,p12I,q12I]
                                  refine useC (ih (a:=mid) (m:=e) (b:=b) (f1.trans D.f) D.S D.R.len.symm hs (one2 D.R) (hok.rng D.R hb) (by omega) (by omega) (by omega) (by omega)) ?_
                                  rintro _ hh12 ⟨L12,E12⟩
                                  have D12:Dat h1 A cap L a b hh12 L12:=⟨D.R.trans (E12.R.mono (by omega) (by omega) (by have:=D.R.len; omega)),E12.S,D.f.trans E12.f⟩
                                  simp -implicitDefEqProofs (disch:=omega) [go_sem,r0,r1,r2,r3,r4,r18,r19,r22,rx,ry,he,p1I,p10I,q10I,p12I,q12I]
                                  exact ⟨L12,D12⟩)
                           · first
                               | (exfalso; omega)
                               | (skip
                                  have p12I:(mid:Int)<(e:Int):=by omega
                                  have q12I:¬ (e:Int)<(b:Int):=by omega
                                  simp -implicitDefEqProofs (disch:=omega) [go_sem,r0,r1,r2,r3,r4,r18,r19,r22,rx,ry,he,p1I,p10I,q10I,p12I,q12I]
                                  exact ⟨L,D⟩)
                         · first
                             | (exfalso; omega)
                             | (skip
                                have p12I:¬ (mid:Int)<(e:Int):=by omega
                                simp -implicitDefEqProofs (disch:=omega) [go_sem,r0,r1,r2,r3,r4,r18,r19,r22,rx,ry,he,p1I,p10I,q10I,p12I]
                                exact ⟨L,D⟩))
                · first
                    | (exfalso; omega)
                    | (skip
                       have p10I:¬ (a:Int)<(i:Int):=by omega
                       by_cases p13:mid<e
                       · by_cases q13:e<b
                         · first
                             | (exfalso; omega)
                             | (skip
                                have p13I:(mid:Int)<(e:Int):=by omega
                                have q13I:(e:Int)<(b:Int):=by omega
                                simp -implicitDefEqProofs (disch:=omega) [go_sem,r0,r1,r2,r3,r4,r18,r19,r22,rx,ry,he,p1I,p10I,p13I,q13I]
                                refine useC (ih (a:=mid) (m:=e) (b:=b) (f1.trans D.f) D.S D.R.len.symm hs (one2 D.R) (hok.rng D.R hb) (by omega) (by omega) (by omega) (by omega)) ?_
                                rintro _ hh13 ⟨L13,E13⟩
                                have D13:Dat h1 A cap L a b hh13 L13:=⟨D.R.trans (E13.R.mono (by omega) (by omega) (by have:=D.R.len; omega)),E13.S,D.f.trans E13.f⟩
                                simp -implicitDefEqProofs (disch:=omega) [go_sem,r0,r1,r2,r3,r4,r18,r19,r22,rx,ry,he,p1I,p10I,p13I,q13I]
                                exact ⟨L13,D13⟩)
                         · first
                             | (exfalso; omega)
                             | (skip
                                have p13I:(mid:Int)<(e:Int):=by omega
                                have q13I:¬ (e:Int)<(b:Int):=by omega
                                simp -implicitDefEqProofs (disch:=omega) [go_sem,r0,r1,r2,r3,r4,r18,r19,r22,rx,ry,he,p1I,p10I,p13I,q13I]
                                exact ⟨L,D⟩)
                       · first
                           | (exfalso; omega)
                           | (skip
                              have p13I:¬ (mid:Int)<(e:Int):=by omega
                              simp -implicitDefEqProofs (disch:=omega) [go_sem,r0,r1,r2,r3,r4,r18,r19,r22,rx,ry,he,p1I,p10I,p13I]
                              exact ⟨L,D⟩)))
   · have hgt':¬ (mid:Int)<(m:Int):=by omega
     simp -implicitDefEqProofs (disch:=omega) [go_sem,g1',g2',shr2_u64,← hmid,hgt']
     refine loopK (SyzJ h1 A cap L a m b mid (.func (.func fn) #[] cs.toArray) (a) (m)) (fun ρ _=>(intOf (ρ 21)).toNat-(intOf (ρ 20)).toNat) (by kernel_rfl) ?_ ?_
     · exact ⟨rfl,rfl,rfl,rfl,rfl,rfl,rfl,by rw [show ((mid+m-1:Nat):Int)=(mid:Int)+(m:Int)-1 by omega]; rfl,Dat.refl S,a,m,rfl,rfl,by omega,by omega,by omega⟩
     · rintro ρ h2 ⟨r0,r1,r2,r3,r4,r18,r19,r22,D,i,j,rx,ry,hi,hij,hj⟩
       by_cases hin:i<j
       · obtain ⟨w,hw⟩:∃ w,w=(i+j) / 2:=⟨_,rfl⟩
         obtain ⟨bk,rfl,hbk,hfz,hc⟩:=D.S.base (by omega)
         have c0:=hc (mid+m-1-w) _ (gv_at (by omega))
         have c1:=hc w _ (gv_at (by omega))
         have ep:(((mid+m-1:Nat):Int)-(w:Int)).toNat=mid+m-1-w:=by omega
         simp -implicitDefEqProofs (disch:=omega) [go_sem,r0,r1,r2,r3,r4,r18,r19,r22,rx,ry,shr2_u64,← hw]
         refine drawK [(0,0),(1,0),(2,0),(3,0),(4,0),(5,0),(6,1),(7,0),(8,0),(9,0),(10,1),(11,3),(12,0),(13,0)] ?_
         simp -implicitDefEqProofs (disch:=omega) [go_sem,r0,r1,r2,r3,r4,r18,r19,r22,rx,ry,c0,c1,ep]
         refine useC (C1.call h2 D.f _ _ (hok (mid+m-1-w) (by omega)) (hok w (by omega))) ?_
         rintro _ h3 ⟨rfl,f3⟩
         have D3:=D.fr0 f3
         by_cases hlt:cf (gv L (mid+m-1-w)) (gv L w)<0
         · simp -implicitDefEqProofs (disch:=omega) [go_sem,r0,r1,r2,r3,r4,r18,r19,r22,rx,ry,hlt]
           exact ⟨⟨r0,r1,r2,r3,r4,r18,r19,r22,D3,i,w,rx,rfl,by omega,by omega,by omega⟩,by omega⟩
         · simp -implicitDefEqProofs (disch:=omega) [go_sem,r0,r1,r2,r3,r4,r18,r19,r22,rx,ry,hlt]
           exact ⟨⟨r0,r1,r2,r3,r4,r18,r19,r22,D3,w+1,j,rfl,ry,by omega,by omega,by omega⟩,by omega⟩
       · have ej:i=j:=by omega
         subst ej
         obtain ⟨e,he,he'⟩:∃ e:Nat,(mid:Int)+(m:Int)-(i:Int)=(e:Int)∧e=mid+m-i:=⟨mid+m-i,by omega,rfl⟩
         by_cases p1:i<m
         · by_cases q1:m<e
           · first
               | (exfalso; omega)
               | (skip
                  have p1I:(i:Int)<(m:Int):=by omega
                  have q1I:(m:Int)<(e:Int):=by omega
                  simp -implicitDefEqProofs (disch:=omega) [go_sem,r0,r1,r2,r3,r4,r18,r19,r22,rx,ry,he,p1I,q1I]
                  refine useC (rotate_ok (a:=i) (m:=m) (b:=e) D.S D.R.len.symm hs (one2 D.R) (by omega) (by omega) (by omega) (.func (.func fn) #[] cs.toArray)) ?_
                  rintro _ hh1 ⟨L1,E1⟩
                  have D1:Dat h1 A cap L a b hh1 L1:=⟨D.R.trans (E1.R.mono (by omega) (by omega) (by have:=D.R.len; omega)),E1.S,D.f.trans E1.f⟩
                  by_cases p2:a<i
                  · by_cases q2:i<mid
                    · first
                        | (exfalso; omega)
                        | (skip
                           have p2I:(a:Int)<(i:Int):=by omega
                           have q2I:(i:Int)<(mid:Int):=by omega
                           simp -implicitDefEqProofs (disch:=omega) [go_sem,r0,r1,r2,r3,r4,r18,r19,r22,rx,ry,he,p1I,q1I,p2I,q2I]
                           refine useC (ih (a:=a) (m:=i) (b:=mid) (f1.trans D1.f) D1.S D1.R.len.symm hs (one2 D1.R) (hok.rng D1.R hb) (by omega) (by omega) (by omega) (by omega)) ?_
                           rintro _ hh2 ⟨L2,E2⟩
                           have D2:Dat h1 A cap L a b hh2 L2:=⟨D1.R.trans (E2.R.mono (by omega) (by omega) (by have:=D1.R.len; omega)),E2.S,D1.f.trans E2.f⟩
                           by_cases p3:mid<e
                           · by_cases q3:e<b
                             · first
                                 | (exfalso; omega)
                                 | (skip
                                    have p3I:(mid:Int)<(e:Int):=by omega
                                    have q3I:(e:Int)<(b:Int):=by omega
                                    simp -implicitDefEqProofs (disch:=omega) [go_sem,r0,r1,r2,r3,r4,r18,r19,r22,rx,ry,he,p1I,q1I,p2I,q2I,p3I,q3I]
                                    refine useC (ih (a:=mid) (m:=e) (b:=b) (f1.trans D2.f) D2.S D2.R.len.symm hs (one2 D2.R) (hok.rng D2.R hb) (by omega) (by omega) (by omega) (by omega)) ?_
                                    rintro _ hh3 ⟨L3,E3⟩
                                    have D3:Dat h1 A cap L a b hh3 L3:=⟨D2.R.trans (E3.R.mono (by omega) (by omega) (by have:=D2.R.len; omega)),E3.S,D2.f.trans E3.f⟩
                                    simp -implicitDefEqProofs (disch:=omega) [go_sem,r0,r1,r2,r3,r4,r18,r19,r22,rx,ry,he,p1I,q1I,p2I,q2I,p3I,q3I]
                                    exact ⟨L3,D3⟩)
                             · first
                                 | (exfalso; omega)
                                 | (skip
                                    have p3I:(mid:Int)<(e:Int):=by omega
                                    have q3I:¬ (e:Int)<(b:Int):=by omega
                                    simp -implicitDefEqProofs (disch:=omega) [go_sem,r0,r1,r2,r3,r4,r18,r19,r22,rx,ry,he,p1I,q1I,p2I,q2I,p3I,q3I]
                                    exact ⟨L2,D2⟩)
                           · first
                               | (exfalso; omega)
                               | (skip
                                  have p3I:¬ (mid:Int)<(e:Int):=by omega
                                  simp -implicitDefEqProofs (disch:=omega) [go_sem,r0,r1,r2,r3,r4,r18,r19,r22,rx,ry,he,p1I,q1I,p2I,q2I,p3I]
                                  exact ⟨L2,D2⟩))
                    · first
                        | (exfalso; omega)
                        | (skip
                           have p2I:(a:Int)<(i:Int):=by omega
                           have q2I:¬ (i:Int)<(mid:Int):=by omega
                           by_cases p4:mid<e
                           · by_cases q4:e<b
                             · first
                                 | (exfalso; omega)
                                 | (skip
                                    have p4I:(mid:Int)<(e:Int):=by omega
                                    have q4I:(e:Int)<(b:Int):=by omega
                                    simp -implicitDefEqProofs (disch:=omega) [go_sem,r0,r1,r2,r3,r4,r18,r19,r22,rx,ry,he,p1I,q1I,p2I,q2I,p4I,q4I]
                                    refine useC (ih (a:=mid) (m:=e) (b:=b) (f1.trans D1.f) D1.S D1.R.len.symm hs (one2 D1.R) (hok.rng D1.R hb) (by omega) (by omega) (by omega) (by omega)) ?_
                                    rintro _ hh4 ⟨L4,E4⟩
                                    have D4:Dat h1 A cap L a b hh4 L4:=⟨D1.R.trans (E4.R.mono (by omega) (by omega) (by have:=D1.R.len; omega)),E4.S,D1.f.trans E4.f⟩
                                    simp -implicitDefEqProofs (disch:=omega) [go_sem,r0,r1,r2,r3,r4,r18,r19,r22,rx,ry,he,p1I,q1I,p2I,q2I,p4I,q4I]
                                    exact ⟨L4,D4⟩)
                             · first
                                 | (exfalso; omega)
                                 | (skip
                                    have p4I:(mid:Int)<(e:Int):=by omega
                                    have q4I:¬ (e:Int)<(b:Int):=by omega
                                    simp -implicitDefEqProofs (disch:=omega) [go_sem,r0,r1,r2,r3,r4,r18,r19,r22,rx,ry,he,p1I,q1I,p2I,q2I,p4I,q4I]
                                    exact ⟨L1,D1⟩)
                           · first
                               | (exfalso; omega)
                               | (skip
                                  have p4I:¬ (mid:Int)<(e:Int):=by omega
                                  simp -implicitDefEqProofs (disch:=omega) [go_sem,r0,r1,r2,r3,r4,r18,r19,r22,rx,ry,he,p1I,q1I,p2I,q2I,p4I]
                                  exact ⟨L1,D1⟩))
                  · first
                      | (exfalso; omega)
                      | (skip
                         have p2I:¬ (a:Int)<(i:Int):=by omega
                         by_cases p5:mid<e
                         · by_cases q5:e<b
                           · first
                               | (exfalso; omega)
                               | (skip
                                  have p5I:(mid:Int)<(e:Int):=by omega
                                  have q5I:(e:Int)<(b:Int):=by omega
                                  simp -implicitDefEqProofs (disch:=omega) [go_sem,r0,r1,r2,r3,r4,r18,r19,r22,rx,ry,he,p1I,q1I,p2I,p5I,q5I]
                                  refine useC (ih (a:=mid) (m:=e) (b:=b) (f1.trans D1.f) D1.S D1.R.len.symm hs (one2 D1.R) (hok.rng D1.R hb) (by omega) (by omega) (by omega) (by omega)) ?_
                                  rintro _ hh5 ⟨L5,E5⟩
                                  have D5:Dat h1 A cap L a b hh5 L5:=⟨D1.R.trans (E5.R.mono (by omega) (by omega) (by have:=D1.R.len; omega)),E5.S,D1.f.trans E5.f⟩
                                  simp -implicitDefEqProofs (disch:=omega) [go_sem,r0,r1,r2,r3,r4,r18,r19,r22,rx,ry,he,p1I,q1I,p2I,p5I,q5I]
                                  exact ⟨L5,D5⟩)
                           · first
                               | (exfalso; omega)
                               | (skip
                                  have p5I:(mid:Int)<(e:Int):=by omega
                                  have q5I:¬ (e:Int)<(b:Int):=by omega
                                  simp -implicitDefEqProofs (disch:=omega) [go_sem,r0,r1,r2,r3,r4,r18,r19,r22,rx,ry,he,p1I,q1I,p2I,p5I,q5I]
                                  exact ⟨L1,D1⟩)
                         · first
                             | (exfalso; omega)
                             | (skip
                                have p5I:¬ (mid:Int)<(e:Int):=by omega
                                simp -implicitDefEqProofs (disch:=omega) [go_sem,r0,r1,r2,r3,r4,r18,r19,r22,rx,ry,he,p1I,q1I,p2I,p5I]
                                exact ⟨L1,D1⟩)))
           · first
               | (exfalso; omega)
               | (skip
                  have p1I:(i:Int)<(m:Int):=by omega
                  have q1I:¬ (m:Int)<(e:Int):=by omega
                  by_cases p6:a<i
                  · by_cases q6:i<mid
                    · first
                        | (exfalso; omega)
                        | (skip
                           have p6I:(a:Int)<(i:Int):=by omega
                           have q6I:(i:Int)<(mid:Int):=by omega
                           simp -implicitDefEqProofs (disch:=omega) [go_sem,r0,r1,r2,r3,r4,r18,r19,r22,rx,ry,he,p1I,q1I,p6I,q6I]
                           refine useC (ih (a:=a) (m:=i) (b:=mid) (f1.trans D.f) D.S D.R.len.symm hs (one2 D.R) (hok.rng D.R hb) (by omega) (by omega) (by omega) (by omega)) ?_
                           rintro _ hh6 ⟨L6,E6⟩
                           have D6:Dat h1 A cap L a b hh6 L6:=⟨D.R.trans (E6.R.mono (by omega) (by omega) (by have:=D.R.len; omega)),E6.S,D.f.trans E6.f⟩
                           by_cases p7:mid<e
                           · by_cases q7:e<b
                             · first
                                 | (exfalso; omega)
                                 | (skip
                                    have p7I:(mid:Int)<(e:Int):=by omega
                                    have q7I:(e:Int)<(b:Int):=by omega
                                    simp -implicitDefEqProofs (disch:=omega) [go_sem,r0,r1,r2,r3,r4,r18,r19,r22,rx,ry,he,p1I,q1I,p6I,q6I,p7I,q7I]
                                    refine useC (ih (a:=mid) (m:=e) (b:=b) (f1.trans D6.f) D6.S D6.R.len.symm hs (one2 D6.R) (hok.rng D6.R hb) (by omega) (by omega) (by omega) (by omega)) ?_
                                    rintro _ hh7 ⟨L7,E7⟩
                                    have D7:Dat h1 A cap L a b hh7 L7:=⟨D6.R.trans (E7.R.mono (by omega) (by omega) (by have:=D6.R.len; omega)),E7.S,D6.f.trans E7.f⟩
                                    simp -implicitDefEqProofs (disch:=omega) [go_sem,r0,r1,r2,r3,r4,r18,r19,r22,rx,ry,he,p1I,q1I,p6I,q6I,p7I,q7I]
                                    exact ⟨L7,D7⟩)
                             · first
                                 | (exfalso; omega)
                                 | (skip
                                    have p7I:(mid:Int)<(e:Int):=by omega
                                    have q7I:¬ (e:Int)<(b:Int):=by omega
                                    simp -implicitDefEqProofs (disch:=omega) [go_sem,r0,r1,r2,r3,r4,r18,r19,r22,rx,ry,he,p1I,q1I,p6I,q6I,p7I,q7I]
                                    exact ⟨L6,D6⟩)
                           · first
                               | (exfalso; omega)
                               | (skip
                                  have p7I:¬ (mid:Int)<(e:Int):=by omega
                                  simp -implicitDefEqProofs (disch:=omega) [go_sem,r0,r1,r2,r3,r4,r18,r19,r22,rx,ry,he,p1I,q1I,p6I,q6I,p7I]
                                  exact ⟨L6,D6⟩))
                    · first
                        | (exfalso; omega)
                        | (skip
                           have p6I:(a:Int)<(i:Int):=by omega
                           have q6I:¬ (i:Int)<(mid:Int):=by omega
                           by_cases p8:mid<e
                           · by_cases q8:e<b
                             · first
                                 | (exfalso; omega)
                                 | (skip
                                    have p8I:(mid:Int)<(e:Int):=by omega
                                    have q8I:(e:Int)<(b:Int):=by omega
                                    simp -implicitDefEqProofs (disch:=omega) [go_sem,r0,r1,r2,r3,r4,r18,r19,r22,rx,ry,he,p1I,q1I,p6I,q6I,p8I,q8I]
                                    refine useC (ih (a:=mid) (m:=e) (b:=b) (f1.trans D.f) D.S D.R.len.symm hs (one2 D.R) (hok.rng D.R hb) (by omega) (by omega) (by omega) (by omega)) ?_
                                    rintro _ hh8 ⟨L8,E8⟩
                                    have D8:Dat h1 A cap L a b hh8 L8:=⟨D.R.trans (E8.R.mono (by omega) (by omega) (by have:=D.R.len; omega)),E8.S,D.f.trans E8.f⟩
                                    simp -implicitDefEqProofs (disch:=omega) [go_sem,r0,r1,r2,r3,r4,r18,r19,r22,rx,ry,he,p1I,q1I,p6I,q6I,p8I,q8I]
                                    exact ⟨L8,D8⟩)
                             · first
                                 | (exfalso; omega)
                                 | (skip
                                    have p8I:(mid:Int)<(e:Int):=by omega
                                    have q8I:¬ (e:Int)<(b:Int):=by omega
                                    simp -implicitDefEqProofs (disch:=omega) [go_sem,r0,r1,r2,r3,r4,r18,r19,r22,rx,ry,he,p1I,q1I,p6I,q6I,p8I,q8I]
                                    exact ⟨L,D⟩)
                           · first
                               | (exfalso; omega)
                               | (skip
                                  have p8I:¬ (mid:Int)<(e:Int):=by omega
                                  simp -implicitDefEqProofs (disch:=omega) [go_sem,r0,r1,r2,r3,r4,r18,r19,r22,rx,ry,he,p1I,q1I,p6I,q6I,p8I]
                                  exact ⟨L,D⟩))
                  · first
                      | (exfalso; omega)
                      | (skip
                         have p6I:¬ (a:Int)<(i:Int):=by omega
                         by_cases p9:mid<e
                         · by_cases q9:e<b
                           · first
                               | (exfalso; omega)
                               | (skip
                                  have p9I:(mid:Int)<(e:Int):=by omega
                                  have q9I:(e:Int)<(b:Int):=by omega
                                  simp -implicitDefEqProofs (disch:=omega) [go_sem,r0,r1,r2,r3,r4,r18,r19,r22,rx,ry,he,p1I,q1I,p6I,p9I,q9I]
                                  refine useC (ih (a:=mid) (m:=e) (b:=b) (f1.trans D.f) D.S D.R.len.symm hs (one2 D.R) (hok.rng D.R hb) (by omega) (by omega) (by omega) (by omega)) ?_
                                  rintro _ hh9 ⟨L9,E9⟩
                                  have D9:Dat h1 A cap L a b hh9 L9:=⟨D.R.trans (E9.R.mono (by omega) (by omega) (by have:=D.R.len; omega)),E9.S,D.f.trans E9.f⟩
                                  simp -implicitDefEqProofs (disch:=omega) [go_sem,r0,r1,r2,r3,r4,r18,r19,r22,rx,ry,he,p1I,q1I,p6I,p9I,q9I]
                                  exact ⟨L9,D9⟩)
                           · first
                               | (exfalso; omega)
                               | (skip
                                  have p9I:(mid:Int)<(e:Int):=by omega
                                  have q9I:¬ (e:Int)<(b:Int):=by omega
                                  simp -implicitDefEqProofs (disch:=omega) [go_sem,r0,r1,r2,r3,r4,r18,r19,r22,rx,ry,he,p1I,q1I,p6I,p9I,q9I]
                                  exact ⟨L,D⟩)
                         · first
                             | (exfalso; omega)
                             | (skip
                                have p9I:¬ (mid:Int)<(e:Int):=by omega
                                simp -implicitDefEqProofs (disch:=omega) [go_sem,r0,r1,r2,r3,r4,r18,r19,r22,rx,ry,he,p1I,q1I,p6I,p9I]
                                exact ⟨L,D⟩)))
         · first
             | (exfalso; omega)
             | (skip
                have p1I:¬ (i:Int)<(m:Int):=by omega
                by_cases p10:a<i
                · by_cases q10:i<mid
                  · first
                      | (exfalso; omega)
                      | (skip
                         have p10I:(a:Int)<(i:Int):=by omega
                         have q10I:(i:Int)<(mid:Int):=by omega
                         simp -implicitDefEqProofs (disch:=omega) [go_sem,r0,r1,r2,r3,r4,r18,r19,r22,rx,ry,he,p1I,p10I,q10I]
                         refine useC (ih (a:=a) (m:=i) (b:=mid) (f1.trans D.f) D.S D.R.len.symm hs (one2 D.R) (hok.rng D.R hb) (by omega) (by omega) (by omega) (by omega)) ?_
                         rintro _ hh10 ⟨L10,E10⟩
                         have D10:Dat h1 A cap L a b hh10 L10:=⟨D.R.trans (E10.R.mono (by omega) (by omega) (by have:=D.R.len; omega)),E10.S,D.f.trans E10.f⟩
                         by_cases p11:mid<e
                         · by_cases q11:e<b
                           · first
                               | (exfalso; omega)
                               | (skip
                                  have p11I:(mid:Int)<(e:Int):=by omega
                                  have q11I:(e:Int)<(b:Int):=by omega
                                  simp -implicitDefEqProofs (disch:=omega) [go_sem,r0,r1,r2,r3,r4,r18,r19,r22,rx,ry,he,p1I,p10I,q10I,p11I,q11I]
                                  refine useC (ih (a:=mid) (m:=e) (b:=b) (f1.trans D10.f) D10.S D10.R.len.symm hs (one2 D10.R) (hok.rng D10.R hb) (by omega) (by omega) (by omega) (by omega)) ?_
                                  rintro _ hh11 ⟨L11,E11⟩
                                  have D11:Dat h1 A cap L a b hh11 L11:=⟨D10.R.trans (E11.R.mono (by omega) (by omega) (by have:=D10.R.len; omega)),E11.S,D10.f.trans E11.f⟩
                                  simp -implicitDefEqProofs (disch:=omega) [go_sem,r0,r1,r2,r3,r4,r18,r19,r22,rx,ry,he,p1I,p10I,q10I,p11I,q11I]
                                  exact ⟨L11,D11⟩)
                           · first
                               | (exfalso; omega)
                               | (skip
                                  have p11I:(mid:Int)<(e:Int):=by omega
                                  have q11I:¬ (e:Int)<(b:Int):=by omega
                                  simp -implicitDefEqProofs (disch:=omega) [go_sem,r0,r1,r2,r3,r4,r18,r19,r22,rx,ry,he,p1I,p10I,q10I,p11I,q11I]
                                  exact ⟨L10,D10⟩)
                         · first
                             | (exfalso; omega)
                             | (skip
                                have p11I:¬ (mid:Int)<(e:Int):=by omega
                                simp -implicitDefEqProofs (disch:=omega) [go_sem,r0,r1,r2,r3,r4,r18,r19,r22,rx,ry,he,p1I,p10I,q10I,p11I]
                                exact ⟨L10,D10⟩))
                  · first
                      | (exfalso; omega)
                      | (skip
                         have p10I:(a:Int)<(i:Int):=by omega
                         have q10I:¬ (i:Int)<(mid:Int):=by omega
                         by_cases p12:mid<e
                         · by_cases q12:e<b
                           · first
                               | (exfalso; omega)
                               | (skip
                                  have p12I:(mid:Int)<(e:Int):=by omega
                                  have q12I:(e:Int)<(b:Int):=by omega
                                  simp -implicitDefEqProofs (disch:=omega) [go_sem,r0,r1,r2,r3,r4,r18,r19,r22,rx,ry,he,p1I,p10I,q10I,p12I,q12I]
                                  refine useC (ih (a:=mid) (m:=e) (b:=b) (f1.trans D.f) D.S D.R.len.symm hs (one2 D.R) (hok.rng D.R hb) (by omega) (by omega) (by omega) (by omega)) ?_
                                  rintro _ hh12 ⟨L12,E12⟩
                                  have D12:Dat h1 A cap L a b hh12 L12:=⟨D.R.trans (E12.R.mono (by omega) (by omega) (by have:=D.R.len; omega)),E12.S,D.f.trans E12.f⟩
                                  simp -implicitDefEqProofs (disch:=omega) [go_sem,r0,r1,r2,r3,r4,r18,r19,r22,rx,ry,he,p1I,p10I,q10I,p12I,q12I]
                                  exact ⟨L12,D12⟩)
                           · first
                               | (exfalso; omega)
                               | (skip
                                  have p12I:(mid:Int)<(e:Int):=by omega
                                  have q12I:¬ (e:Int)<(b:Int):=by omega
                                  simp -implicitDefEqProofs (disch:=omega) [go_sem,r0,r1,r2,r3,r4,r18,r19,r22,rx,ry,he,p1I,p10I,q10I,p12I,q12I]
                                  exact ⟨L,D⟩)
                         · first
                             | (exfalso; omega)
                             | (skip
                                have p12I:¬ (mid:Int)<(e:Int):=by omega
                                simp -implicitDefEqProofs (disch:=omega) [go_sem,r0,r1,r2,r3,r4,r18,r19,r22,rx,ry,he,p1I,p10I,q10I,p12I]
                                exact ⟨L,D⟩))
                · first
                    | (exfalso; omega)
                    | (skip
                       have p10I:¬ (a:Int)<(i:Int):=by omega
                       by_cases p13:mid<e
                       · by_cases q13:e<b
                         · first
                             | (exfalso; omega)
                             | (skip
                                have p13I:(mid:Int)<(e:Int):=by omega
                                have q13I:(e:Int)<(b:Int):=by omega
                                simp -implicitDefEqProofs (disch:=omega) [go_sem,r0,r1,r2,r3,r4,r18,r19,r22,rx,ry,he,p1I,p10I,p13I,q13I]
                                refine useC (ih (a:=mid) (m:=e) (b:=b) (f1.trans D.f) D.S D.R.len.symm hs (one2 D.R) (hok.rng D.R hb) (by omega) (by omega) (by omega) (by omega)) ?_
                                rintro _ hh13 ⟨L13,E13⟩
                                have D13:Dat h1 A cap L a b hh13 L13:=⟨D.R.trans (E13.R.mono (by omega) (by omega) (by have:=D.R.len; omega)),E13.S,D.f.trans E13.f⟩
                                simp -implicitDefEqProofs (disch:=omega) [go_sem,r0,r1,r2,r3,r4,r18,r19,r22,rx,ry,he,p1I,p10I,p13I,q13I]
                                exact ⟨L13,D13⟩)
                         · first
                             | (exfalso; omega)
                             | (skip
                                have p13I:(mid:Int)<(e:Int):=by omega
                                have q13I:¬ (e:Int)<(b:Int):=by omega
                                simp -implicitDefEqProofs (disch:=omega) [go_sem,r0,r1,r2,r3,r4,r18,r19,r22,rx,ry,he,p1I,p10I,p13I,q13I]
                                exact ⟨L,D⟩)
                       · first
                           | (exfalso; omega)
                           | (skip
                              have p13I:¬ (mid:Int)<(e:Int):=by omega
                              simp -implicitDefEqProofs (disch:=omega) [go_sem,r0,r1,r2,r3,r4,r18,r19,r22,rx,ry,he,p1I,p10I,p13I]
                              exact ⟨L,D⟩)))
end
end Xe
