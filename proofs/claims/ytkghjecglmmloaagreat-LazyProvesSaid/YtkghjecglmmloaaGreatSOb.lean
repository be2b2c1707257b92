/- Sorting in place, walked: what is ordered. -/
import Derived.Test.YtkghjecglmmloaaGreatSOa
namespace Xe.So
open Go Go.Proofs
set_option maxRecDepth 16000
set_option maxHeartbeats 1000000
def HB (cf:Value→Value→Int) (L:List Value) (f lo hi:Nat):Prop:=∀ i c,lo≤i→c<hi→(c=2*i+1∨c=2*i+2)→0≤cf (gv L (f+i)) (gv L (f+c))
structure HX (cf:Value→Value→Int) (L:List Value) (f lo hi r:Nat):Prop where
 low:lo≤r
 but:∀ i c,lo≤i→i≠r→c<hi→(c=2*i+1∨c=2*i+2)→0≤cf (gv L (f+i)) (gv L (f+c))
 grand:∀ i c,lo≤i→(r=2*i+1∨r=2*i+2)→c<hi→(c=2*r+1∨c=2*r+2)→0≤cf (gv L (f+i)) (gv L (f+c))
section
variable {cf:Value→Value→Int} {ok:Value→Prop} {L:List Value} {f lo hi r ch:Nat}
theorem HB.start (H:HB cf L f (lo+1) hi):HX cf L f lo hi lo :=
 ⟨Nat.le_refl _,fun i c h1 h2 h3 h4=>H i c (by omega) h3 h4,fun i c h1 h2=>by omega⟩
theorem HX.done (H:HX cf L f lo hi r) (h:∀ c,c<hi→(c=2*r+1∨c=2*r+2)→0≤cf (gv L (f+r)) (gv L (f+c))):HB cf L f lo hi:=fun i c h1 h2 h3=>by
 by_cases e:i=r
 · rw [e] at h3 ⊢; exact h c h2 h3
 · exact H.but i c h1 e h2 h3
theorem HX.step (C:COk cf ok) (hok:OkR ok L) (hl:f+hi≤L.length) (H:HX cf L f lo hi r) (hc:ch=2*r+1∨ch=2*r+2) (hch:ch<hi) (hmax:∀ c,c<hi→(c=2*r+1∨c=2*r+2)→0≤cf (gv L (f+ch)) (gv L (f+c)))
   (hlt:cf (gv L (f+r)) (gv L (f+ch))<0):HX cf (swp L (f+r) (f+ch)) f lo hi ch:=by
 have hlo:=H.low
 have hg:=gv_swp (L:=L) (i:=f+r) (j:=f+ch) (by omega) (by omega)
 refine ⟨by omega,fun i c h1 h2 h3 h4=>?_,fun i c h1 h2 h3 h4=>?_⟩
 · rw [hg,hg]
   by_cases ei:i=r
   · subst ei
     rw [if_neg (by omega),if_pos rfl]
     by_cases ec:c=ch
     · subst ec; rw [if_pos rfl]; exact C.asy _ _ (hok _ (by omega)) (hok _ (by omega)) hlt
     · rw [if_neg (by omega),if_neg (by omega)]; exact hmax c h3 h4
   · rw [if_neg (by omega),if_neg (by omega)]
     by_cases ec:c=r
     · subst ec; rw [if_neg (by omega),if_pos rfl]; exact H.grand i ch h1 h4 hch hc
     · rw [if_neg (by omega),if_neg (by omega)]; exact H.but i c h1 ei h3 h4
 · have ei:i=r:=by omega
   subst ei
   rw [hg,hg,if_neg (by omega),if_pos rfl,if_neg (by omega),if_neg (by omega)]
   exact H.but ch c (by omega) (by omega) h3 h4
theorem HB.max (C:COk cf ok) (hok:OkR ok L) (hl:f+hi≤L.length) (H:HB cf L f 0 hi):∀ c,c<hi→0≤cf (gv L f) (gv L (f+c)):=by
 intro c
 induction c using Nat.strongRecOn with
 | _ c ih =>
   intro hc
   by_cases e:c=0
   · subst e
     rw [Nat.add_zero]
     rcases Int.lt_or_le (cf (gv L f) (gv L f)) 0 with h | h
     · have:=C.asy _ _ (hok _ (by omega)) (hok _ (by omega)) h; exact this
     · exact h
   · have hp:=H ((c-1) / 2) c (by omega) hc (by omega)
     have:=ih ((c-1) / 2) (by omega) (by omega)
     exact C.tr _ _ _ (hok _ (by omega)) (hok _ (by omega)) (hok _ (by omega)) hp this
end
section
variable {h:Heap} {A:Option Addr} {cap:Nat} {fn:FuncId} {cs:List Value} {cf:Value→Value→Int} {ok:Value→Prop} {L:List Value} {n f lo hi:Nat}
theorem sift_ok (C:Cmp Tryz.prog h A fn cs cf ok) (S:SlAt h A cap L) (hn:n=L.length) (hs:n<2^40) (hone:∀ w∈L,w.oneCell'=true) (hok:OkR ok L) (H:HB cf L f (lo+1) hi) (hb':f+hi≤n) (hlo:lo<2^40) :
   CallsH Tryz.prog 217 [.slice A n cap,.int .i64 lo,.int .i64 hi,.int .i64 f] h fun _ h'=>∃ L',Dat h A cap L (f+lo) (f+hi) h' L'∧HB cf L' f lo hi:=by
 subst hn
 have hb:f+hi≤L.length:=hb'
 refine calls_of 76 [] Go.Proofs.Tryz.func217 rfl rfl rfl ?_
 simp -implicitDefEqProofs (disch:=omega) [go_sem]
 refine loopK (fun ρ h'=>ρ 0=.slice A L.length cap∧ρ 2=.int .i64 hi∧ρ 3=.int .i64 f∧ρ 0=.slice A L.length cap∧∃ (r:Nat) (L':List Value),ρ 8=.int .i64 r∧r<2^40∧Dat h A cap L (f+lo) (f+hi) h' L'∧HX cf L' f lo hi r)
   (fun ρ _=>2^40-(intOf (ρ 8)).toNat) (by kernel_rfl) ?_ ?_
 · exact ⟨rfl,rfl,rfl,rfl,lo,L,rfl,hlo,Dat.refl S,H.start⟩
 · rintro ρ h1 ⟨r0,r2,r3,r4,r,L1,r10,hr40,D,X⟩
   have hlen:=D.R.len
   have hX:=X.low
   by_cases hend:hi≤2*r+1
   · simp -implicitDefEqProofs (disch:=omega) [go_sem,r0,r2,r3,r4,r10]
     exact ⟨L1,D,X.done fun c h1 h2=>by omega⟩
   · obtain ⟨bk,hA,hbk,hfz,hc⟩:=D.S.base (by omega)
     have hokk:=hok.rng D.R hb
     have cr:=hc (f+r) _ (gv_at (by omega))
     have c1:=hc (f+(2*r+1)) _ (gv_at (by omega))
     subst hA
     simp -implicitDefEqProofs (disch:=omega) [go_sem,r0,r2,r3,r4,r10]
     refine drawK [(0,0),(1,0),(2,0),(3,0),(4,0),(5,0),(6,0),(7,0),(8,0),(9,0),(10,1),(11,0),(12,0),(13,0),(14,0),(15,0),(16,0),(17,1),(18,3),(19,0)] ?_
     obtain ⟨k,hk⟩:∃ k:Nat,k=2*r+1:=⟨_,rfl⟩
     have hkI:2*(r:Int)+1=(k:Int):=by omega
     have orr:=hokk (f+r) (by omega)
     have hrefl:∀ x,ok x→0≤cf x x:=fun x hx=>by
       rcases Int.lt_or_le (cf x x) 0 with h | h
       · exact C.c.asy _ _ hx hx h
       · exact h
     by_cases h2:k+1<hi
     · have ck:=hc (f+k) _ (gv_at (by omega))
       have ck1:=hc (f+(k+1)) _ (gv_at (by omega))
       have ok0:=hokk (f+k) (by omega)
       have ok1:=hokk (f+(k+1)) (by omega)
       have iy1:((f:Int)+k).toNat=f+k:=by omega
       have iy2:((f:Int)+k+1).toNat=f+(k+1):=by omega
       simp -implicitDefEqProofs (disch:=omega) [go_sem,r0,r2,r3,r4,r10,hkI,ck,ck1,iy1,iy2]
       refine useC (C.call h1 D.f _ _ ok0 ok1) ?_
       rintro _ h2 ⟨rfl,f2⟩
       have D2:=D.fr0 f2
       by_cases hlt:cf (gv L1 (f+k)) (gv L1 (f+(k+1)))<0
       · simp -implicitDefEqProofs (disch:=omega) [go_sem,r0,r2,r3,r4,r10,hkI,hlt]
         have cch:=hc (f+(k+1)) _ (gv_at (by omega))
         have och:=hokk (f+(k+1)) (by omega)
         have crr:=(f2.cell (o:=f+r) hbk id).trans cr
         have ccc:=(f2.cell (o:=f+(k+1)) hbk id).trans cch
         have hfz2:∀ o,hfrz h2 ⟨bk,o,none⟩=false:=fun o=>(f2.frz hbk id).trans (hfz o)
         have ix1:((f:Int)+r).toNat=f+r:=by omega
         have ix2:((f:Int)+((k+1:Nat):Int)).toNat=f+(k+1):=by omega
         have ix3:((f:Int)+((k:Int)+1)).toNat=f+(k+1):=by omega
         have hcd:k+1=2*r+1∨k+1=2*r+2:=by omega
         have hmx:∀ c,c<hi→(c=2*r+1∨c=2*r+2)→0≤cf (gv L1 (f+(k+1))) (gv L1 (f+c)):=fun c g1 g2=>(show c=k∨c=k+1 by omega).elim (fun e=>by rw [e]; exact C.c.asy _ _ ok0 ok1 hlt) fun e=>by rw [e]; exact hrefl _ ok1
         refine drawK [(0,0),(1,0),(2,0),(3,0),(4,0),(5,1),(6,0),(7,0),(8,0),(9,0),(10,0),(11,1),(12,3),(13,0)] ?_
         simp -implicitDefEqProofs (disch:=omega) [go_sem,r0,r2,r3,r4,r10,hkI,crr,ccc,ix1,ix2,ix3]
         refine useC (C.call h2 D2.f _ _ orr och) ?_
         rintro _ h3 ⟨rfl,f3⟩
         have D3:=D2.fr0 f3
         by_cases hlt2:cf (gv L1 (f+r)) (gv L1 (f+(k+1)))<0
         · have w0:=store_one (D.one hone (p:=f+r) (by omega))
           have w1:=store_one (D.one hone (p:=f+(k+1)) (by omega))
           have crr3:=(f3.cell (o:=f+r) (hcell_lt crr) id).trans crr
           have ccc3:=(f3.cell (o:=f+(k+1)) (hcell_lt crr) id).trans ccc
           have hfz3:∀ o,hfrz h3 ⟨bk,o,none⟩=false:=fun o=>(f3.frz (hcell_lt crr) id).trans (hfz2 o)
           have ne1:¬ f+(k+1)=f+r:=by omega
           have ne2:¬ k+1=r:=by omega
           simp -implicitDefEqProofs (disch:=omega) [go_sem,r0,r2,r3,r4,r10,hkI,hlt2]
           refine drawK [(0,0),(1,0),(2,0),(3,0),(4,0),(5,0),(6,0),(7,0),(8,0),(9,0),(10,0),(11,0),(12,0),(13,1),(14,0),(15,0),(16,0),(17,0),(18,0),(19,1),(20,0),(21,3),(22,0),(23,3)] ?_
           simp -implicitDefEqProofs (disch:=omega) [go_sem,r0,r2,r3,r4,r10,hkI,crr3,ccc3,ix1,ix2,ix3,hfz3,ne1,ne2,w0,w1]
           have D4:=D3.swp (i:=f+r) (j:=f+(k+1)) ⟨by omega,by omega⟩ ⟨by omega,by omega⟩ hb
           exact ⟨⟨k+1,by omega,by omega,_,D4,X.step C.c hokk (by omega) hcd (by omega) hmx hlt2⟩,by omega⟩
         · simp -implicitDefEqProofs (disch:=omega) [go_sem,r0,r2,r3,r4,r10,hkI,hlt2]
           exact ⟨L1,D3,X.done fun c g1 g2=>C.c.tr _ _ _ (hokk _ (by omega)) och orr (hmx c g1 g2) (by omega)⟩
       · simp -implicitDefEqProofs (disch:=omega) [go_sem,r0,r2,r3,r4,r10,hkI,hlt]
         have cch:=hc (f+(k)) _ (gv_at (by omega))
         have och:=hokk (f+(k)) (by omega)
         have crr:=(f2.cell (o:=f+r) hbk id).trans cr
         have ccc:=(f2.cell (o:=f+(k)) hbk id).trans cch
         have hfz2:∀ o,hfrz h2 ⟨bk,o,none⟩=false:=fun o=>(f2.frz hbk id).trans (hfz o)
         have ix1:((f:Int)+r).toNat=f+r:=by omega
         have ix2:((f:Int)+((k:Nat):Int)).toNat=f+(k):=by omega
         have ix3:((f:Int)+((k:Int)+1)).toNat=f+(k+1):=by omega
         have hcd:k=2*r+1∨k=2*r+2:=by omega
         have hmx:∀ c,c<hi→(c=2*r+1∨c=2*r+2)→0≤cf (gv L1 (f+(k))) (gv L1 (f+c)):=fun c g1 g2=>(show c=k∨c=k+1 by omega).elim (fun e=>by rw [e]; exact hrefl _ ok0) fun e=>by rw [e]; omega
         refine drawK [(0,0),(1,0),(2,0),(3,0),(4,0),(5,1),(6,0),(7,0),(8,0),(9,0),(10,0),(11,1),(12,3),(13,0)] ?_
         simp -implicitDefEqProofs (disch:=omega) [go_sem,r0,r2,r3,r4,r10,hkI,crr,ccc,ix1,ix2,ix3]
         refine useC (C.call h2 D2.f _ _ orr och) ?_
         rintro _ h3 ⟨rfl,f3⟩
         have D3:=D2.fr0 f3
         by_cases hlt2:cf (gv L1 (f+r)) (gv L1 (f+(k)))<0
         · have w0:=store_one (D.one hone (p:=f+r) (by omega))
           have w1:=store_one (D.one hone (p:=f+(k)) (by omega))
           have crr3:=(f3.cell (o:=f+r) (hcell_lt crr) id).trans crr
           have ccc3:=(f3.cell (o:=f+(k)) (hcell_lt crr) id).trans ccc
           have hfz3:∀ o,hfrz h3 ⟨bk,o,none⟩=false:=fun o=>(f3.frz (hcell_lt crr) id).trans (hfz2 o)
           have ne1:¬ f+(k)=f+r:=by omega
           have ne2:¬ k=r:=by omega
           simp -implicitDefEqProofs (disch:=omega) [go_sem,r0,r2,r3,r4,r10,hkI,hlt2]
           refine drawK [(0,0),(1,0),(2,0),(3,0),(4,0),(5,0),(6,0),(7,0),(8,0),(9,0),(10,0),(11,0),(12,0),(13,1),(14,0),(15,0),(16,0),(17,0),(18,0),(19,1),(20,0),(21,3),(22,0),(23,3)] ?_
           simp -implicitDefEqProofs (disch:=omega) [go_sem,r0,r2,r3,r4,r10,hkI,crr3,ccc3,ix1,ix2,ix3,hfz3,ne1,ne2,w0,w1]
           have D4:=D3.swp (i:=f+r) (j:=f+(k)) ⟨by omega,by omega⟩ ⟨by omega,by omega⟩ hb
           exact ⟨⟨k,by omega,by omega,_,D4,X.step C.c hokk (by omega) hcd (by omega) hmx hlt2⟩,by omega⟩
         · simp -implicitDefEqProofs (disch:=omega) [go_sem,r0,r2,r3,r4,r10,hkI,hlt2]
           exact ⟨L1,D3,X.done fun c g1 g2=>C.c.tr _ _ _ (hokk _ (by omega)) och orr (hmx c g1 g2) (by omega)⟩
     · have h2:=h1
       obtain ⟨h2,e2⟩:∃ h2,h2=h1:=⟨_,rfl⟩
       have f2:Fr (fun _=>False) h1 h2:=by rw [e2]; exact Fr.refl _ _
       have D2:Dat h (some ⟨bk,0,none⟩) cap L (f+lo) (f+hi) h2 L1:=by rw [e2]; exact D
       simp -implicitDefEqProofs (disch:=omega) [go_sem,r0,r2,r3,r4,r10,hkI]
       rw [← e2]
       have cch:=hc (f+(k)) _ (gv_at (by omega))
       have och:=hokk (f+(k)) (by omega)
       have crr:=(f2.cell (o:=f+r) hbk id).trans cr
       have ccc:=(f2.cell (o:=f+(k)) hbk id).trans cch
       have hfz2:∀ o,hfrz h2 ⟨bk,o,none⟩=false:=fun o=>(f2.frz hbk id).trans (hfz o)
       have ix1:((f:Int)+r).toNat=f+r:=by omega
       have ix2:((f:Int)+((k:Nat):Int)).toNat=f+(k):=by omega
       have ix3:((f:Int)+((k:Int)+1)).toNat=f+(k+1):=by omega
       have hcd:k=2*r+1∨k=2*r+2:=by omega
       have hmx:∀ c,c<hi→(c=2*r+1∨c=2*r+2)→0≤cf (gv L1 (f+(k))) (gv L1 (f+c)):=fun c g1 g2=>by rw [show c=k by omega]; exact hrefl _ (hokk _ (by omega))
       refine drawK [(0,0),(1,0),(2,0),(3,0),(4,0),(5,1),(6,0),(7,0),(8,0),(9,0),(10,0),(11,1),(12,3),(13,0)] ?_
       simp -implicitDefEqProofs (disch:=omega) [go_sem,r0,r2,r3,r4,r10,hkI,crr,ccc,ix1,ix2,ix3]
       refine useC (C.call h2 D2.f _ _ orr och) ?_
       rintro _ h3 ⟨rfl,f3⟩
       have D3:=D2.fr0 f3
       by_cases hlt2:cf (gv L1 (f+r)) (gv L1 (f+(k)))<0
       · have w0:=store_one (D.one hone (p:=f+r) (by omega))
         have w1:=store_one (D.one hone (p:=f+(k)) (by omega))
         have crr3:=(f3.cell (o:=f+r) (hcell_lt crr) id).trans crr
         have ccc3:=(f3.cell (o:=f+(k)) (hcell_lt crr) id).trans ccc
         have hfz3:∀ o,hfrz h3 ⟨bk,o,none⟩=false:=fun o=>(f3.frz (hcell_lt crr) id).trans (hfz2 o)
         have ne1:¬ f+(k)=f+r:=by omega
         have ne2:¬ k=r:=by omega
         simp -implicitDefEqProofs (disch:=omega) [go_sem,r0,r2,r3,r4,r10,hkI,hlt2]
         refine drawK [(0,0),(1,0),(2,0),(3,0),(4,0),(5,0),(6,0),(7,0),(8,0),(9,0),(10,0),(11,0),(12,0),(13,1),(14,0),(15,0),(16,0),(17,0),(18,0),(19,1),(20,0),(21,3),(22,0),(23,3)] ?_
         simp -implicitDefEqProofs (disch:=omega) [go_sem,r0,r2,r3,r4,r10,hkI,crr3,ccc3,ix1,ix2,ix3,hfz3,ne1,ne2,w0,w1]
         have D4:=D3.swp (i:=f+r) (j:=f+(k)) ⟨by omega,by omega⟩ ⟨by omega,by omega⟩ hb
         exact ⟨⟨k,by omega,by omega,_,D4,X.step C.c hokk (by omega) hcd (by omega) hmx hlt2⟩,by omega⟩
       · simp -implicitDefEqProofs (disch:=omega) [go_sem,r0,r2,r3,r4,r10,hkI,hlt2]
         exact ⟨L1,D3,X.done fun c g1 g2=>C.c.tr _ _ _ (hokk _ (by omega)) och orr (hmx c g1 g2) (by omega)⟩
end
section
variable {h:Heap} {A:Option Addr} {cap:Nat} {fn:FuncId} {cs:List Value} {cf:Value→Value→Int} {ok:Value→Prop} {L:List Value} {n a b:Nat}
theorem Dat.then {h0 h1 h2:Heap} {L0 L1 L2:List Value} {a' b':Nat} (D:Dat h0 A cap L0 a b h1 L1) (E:Dat h1 A cap L1 a' b' h2 L2) (ha:a≤a') (hb:b'≤b) (hl:b≤L0.length):Dat h0 A cap L0 a b h2 L2 :=
 ⟨D.R.trans (E.R.mono ha hb (by rw [D.R.len]; exact hl)),E.S,D.f.trans E.f⟩
theorem Dat.oneR {h0 h1:Heap} {L0 L1:List Value} (D:Dat h0 A cap L0 a b h1 L1) (hone:∀ w∈L0,w.oneCell'=true):∀ w∈L1,w.oneCell'=true:=fun w hw=>hone w (D.R.perm.mem_iff.1 hw)
theorem heapSort_ok (C:Cmp Tryz.prog h A fn cs cf ok) (S:SlAt h A cap L) (hn:n=L.length) (hs:n<2^40) (hone:∀ w∈L,w.oneCell'=true) (hok:OkR ok L) (hab:a<b) (hb':b≤n) :
   CallsH Tryz.prog 167 [.slice A n cap,.int .i64 a,.int .i64 b] h fun _ h'=>∃ L',Dat h A cap L a b h' L'∧Srt cf a b L':=by
 subst hn
 have hb:b≤L.length:=hb'
 refine calls_of 56 [] Go.Proofs.Tryz.func167 rfl rfl rfl ?_
 obtain ⟨m,hm⟩:∃ m:Nat,(b:Int)-a=m:=⟨b-a,by omega⟩
 obtain ⟨q,hq⟩:∃ q:Nat,((m:Int)-1) / 2=q:=⟨(m-1) / 2,by omega⟩
 obtain ⟨bk,hA,hbk,_,_⟩:=S.base (by omega)
 subst hA
 simp -implicitDefEqProofs (disch:=omega) [go_sem,hm,hq]
 refine loopK (fun ρ h'=>ρ 0=.slice (some ⟨bk,0,none⟩) L.length cap∧ρ 0=.slice (some ⟨bk,0,none⟩) L.length cap∧ρ 6=.int .i64 a∧ρ 7=.int .i64 0∧ρ 8=.int .i64 m∧∃ (i:Nat) (L':List Value),ρ 9=.int .i64 ((i:Int)-1)∧i≤m∧Dat h (some ⟨bk,0,none⟩) cap L a b h' L'∧HB cf L' a i m)
   (fun ρ _=>(intOf (ρ 9)+1).toNat) (by kernel_rfl) ?_ ?_
 · refine ⟨rfl,rfl,rfl,rfl,rfl,q+1,L,?_,by omega,Dat.refl S,fun i c h1 h2 h3=>by omega⟩
   have e:((q+1:Nat):Int)-1=q:=by omega
   rw [e]; rfl
 · rintro ρ h1 ⟨r0,r3,r8,r9,r10,i,L1,r11,him,D,H⟩
   have hlen:=D.R.len
   by_cases hi0:i=0
   · subst hi0
     simp -implicitDefEqProofs (disch:=omega) [go_sem,r0,r3,r8,r9,r10,r11]
     refine loopK (fun ρ h'=>ρ 0=.slice (some ⟨bk,0,none⟩) L.length cap∧ρ 0=.slice (some ⟨bk,0,none⟩) L.length cap∧ρ 6=.int .i64 a∧ρ 7=.int .i64 0∧ρ 8=.int .i64 m ∧
         ∃ (i:Nat) (L':List Value),ρ 10=.int .i64 ((i:Int)-1)∧i≤m∧Dat h (some ⟨bk,0,none⟩) cap L a b h' L'∧HB cf L' a 0 i∧∀ p q,a≤p→p<q→q<b→a+i≤q→0≤cf (gv L' q) (gv L' p))
       (fun ρ _=>(intOf (ρ 10)+1).toNat) (by kernel_rfl) ?_ ?_
     · exact ⟨by simp -implicitDefEqProofs [go_sem,r0],by simp -implicitDefEqProofs [go_sem,r3],by simp -implicitDefEqProofs [go_sem,r8],by simp -implicitDefEqProofs [go_sem,r9],by simp -implicitDefEqProofs [go_sem,r10],m,L1,by simp -implicitDefEqProofs [go_sem],by omega,D,H,fun p q h1 h2 h3 h4=>by omega⟩
     · clear r0 r3 r8 r9 r10 r11 D H hlen
       clear L1
       rintro ρ h2 ⟨r0,r3,r8,r9,r10,i,L1,r12,him,D,H,hO⟩
       have hlen:=D.R.len
       by_cases hi0:i=0
       · subst hi0
         simp -implicitDefEqProofs (disch:=omega) [go_sem,r0,r3,r8,r9,r10,r12]
         exact ⟨L1,D,fun p q h1 h2 h3=>hO p q h1 h2 h3 (by omega)⟩
       · obtain ⟨k,rfl⟩:∃ k,i=k+1:=⟨i-1,by omega⟩
         have ek:((k+1:Nat):Int)-1=k:=by omega
         rw [ek] at r12
         have hokk:=hok.rng D.R hb
         obtain ⟨bk',hA,_,hfz,hc⟩:=D.S.base (by omega)
         cases hA
         have c0:=hc a _ (gv_at (by omega))
         have c1:=hc (a+k) _ (gv_at (by omega))
         have w0:=store_one (D.one hone (p:=a) (by omega))
         have w1:=store_one (D.one hone (p:=a+k) (by omega))
         have ix:((a:Int)+k).toNat=a+k:=by omega
         simp -implicitDefEqProofs (disch:=omega) [go_sem,r0,r3,r8,r9,r10,r12]
         refine drawK [(0,0),(1,0),(2,0),(3,0),(4,0),(5,0),(6,0),(7,0),(8,0),(9,0),(10,0),(11,1),(12,0),(13,0),(14,0),(15,1),(16,0),(17,3),(18,0),(19,3)] ?_
         have D4:=D.swp (i:=a) (j:=a+k) ⟨by omega,by omega⟩ ⟨by omega,by omega⟩ hb
         have hmx:=H.max C.c hokk (by omega)
         have hg:=gv_swp (L:=L1) (i:=a) (j:=a+k) (by omega) (by omega)
         have hok4:=hok.rng D4.R hb
         have H4:HB cf (swp L1 a (a+k)) a 1 k:=fun i c h1 h2 h3=>by
           rw [hg,hg,if_neg (by omega),if_neg (by omega),if_neg (by omega),if_neg (by omega)]
           exact H i c (by omega) (by omega) h3
         have P4:∀ q,a+k+1≤q→q<b→∀ p,a≤p→p<q→0≤cf (gv (swp L1 a (a+k)) q) (gv (swp L1 a (a+k)) p):=fun q h1 h2 p h3 h4=>by
           rw [hg,hg,if_neg (by omega),if_neg (by omega)]
           by_cases e1:p=a+k
           · rw [if_pos e1]; exact hO a q (by omega) (by omega) h2 (by omega)
           · rw [if_neg e1]
             by_cases e2:p=a
             · rw [if_pos e2]; exact hO (a+k) q (by omega) (by omega) h2 (by omega)
             · rw [if_neg e2]; exact hO p q h3 h4 h2 (by omega)
         have Q4:∀ p,a≤p→p<a+k→0≤cf (gv L1 a) (gv (swp L1 a (a+k)) p):=fun p h1 h2=>by
           rw [hg,if_neg (by omega)]
           by_cases e2:p=a
           · rw [if_pos e2]; exact hmx k (by omega)
           · rw [if_neg e2]
             have:=hmx (p-a) (by omega)
             rwa [show a+(p-a)=p by omega] at this
         simp -implicitDefEqProofs (disch:=omega) [go_sem,r0,r3,r8,r9,r10,r12,c0,c1,hfz,ix,w0,w1]
         have sk:=sift_ok (lo:=0) (C.fr D4.f) D4.S (by rw [D4.R.len]) hs (D4.oneR hone) hok4 H4 (by omega) (by omega)
         have e0:((0:Nat):Int)=0:=rfl
         rw [e0] at sk
         refine useC sk ?_
         rintro _ h3 ⟨L3,E,H3⟩
         simp -implicitDefEqProofs (disch:=omega) [go_sem,r0,r3,r8,r9,r10,r12]
         refine ⟨k,by omega,by omega,L3,D4.then E (by omega) (by omega) hb,H3,fun p q h1 h2 h3 h4=>?_⟩
         by_cases eq:q=a+k
         · subst eq
           rw [E.R.out (p:=a+k) (by omega),hg (a+k),if_pos rfl]
           exact E.R.all (P:=fun x=>0≤cf (gv L1 a) x) (fun p h1 h2=>Q4 p (by omega) h2) p (by omega) (by omega)
         · rw [E.R.out (p:=q) (by omega)]
           by_cases ep:p<a+k
           · exact E.R.all (P:=fun x=>0≤cf (gv (swp L1 a (a+k)) q) x) (fun p h1 h2=>P4 q (by omega) h3 p (by omega) (by omega)) p (by omega) ep
           · rw [E.R.out (p:=p) (by omega)]; exact P4 q (by omega) h3 p h1 h2
   · obtain ⟨k,rfl⟩:∃ k,i=k+1:=⟨i-1,by omega⟩
     have ek:((k+1:Nat):Int)-1=k:=by omega
     rw [ek] at r11
     have hokk:=hok.rng D.R hb
     simp -implicitDefEqProofs (disch:=omega) [go_sem,r0,r3,r8,r9,r10,r11]
     refine useC (sift_ok (C.fr D.f) D.S (by omega) hs (D.oneR hone) hokk H (by omega) (by omega)) ?_
     rintro _ h3 ⟨L3,E,H3⟩
     simp -implicitDefEqProofs (disch:=omega) [go_sem,r0,r3,r8,r9,r10,r11]
     exact ⟨k,by omega,by omega,L3,D.then E (by omega) (by omega) hb,H3⟩
end
theorem and_le (x y:Int) (hy:0≤y) (hy2:y<2^64):(((BitVec.ofInt 64 x &&& BitVec.ofInt 64 y).toNat:Nat):Int)≤y:=by
 rw [BitVec.toNat_and]
 have h1:(BitVec.ofInt 64 y).toNat=y.toNat:=by
  rw [BitVec.toNat_ofInt]
  have:y % ((2^64:Nat):Int)=y:=Int.emod_eq_of_lt hy (by omega)
  rw [this]
 have:=Nat.and_le_right (n:=(BitVec.ofInt 64 x).toNat) (m:=(BitVec.ofInt 64 y).toNat)
 omega
theorem run_and {P:Program} {t:Nat} {a b:Int} {k:Value→Prop} (hb0:0≤b) (hb:b<2^64) (hk:∀ o:Nat,(o:Int)≤b→k (.int .u64 o)):@runK (cmpV P .and t (.int .u64 a) (.int .u64 b)) ⟨k⟩:=by
 rw [cmpV_and]
 have h1:=and_le a b hb0 hb
 have hw:IntKind.u64.wrap ((BitVec.ofInt 64 a &&& BitVec.ofInt 64 b).toNat:Nat)=((BitVec.ofInt 64 a &&& BitVec.ofInt 64 b).toNat:Nat):=by
  unfold IntKind.wrap
  simp only [IntKind.signed,IntKind.bits,Bool.false_and,if_false,Bool.false_eq_true]
  exact Int.emod_eq_of_lt (Int.natCast_nonneg _) (by omega)
 show k (.int .u64 (IntKind.u64.wrap ((BitVec.ofInt 64 a &&& BitVec.ofInt 64 b).toNat:Nat)))
 rw [hw]
 exact hk _ h1
section
variable {h:Heap} {A:Option Addr} {cap n a b:Nat} {L:List Value}
theorem break_ok (S:SlAt h A cap L) (hn:n=L.length) (hs:n<2^40) (hone:∀ w∈L,w.oneCell'=true) (hab:a+12<b) (hb':b≤n) :
   CallsH Tryz.prog 168 [.slice A n cap,.int .i64 a,.int .i64 b] h fun _ h'=>∃ L',Dat h A cap L a b h' L':=by
 subst hn
 have hb:b≤L.length:=hb'
 refine calls_of 65 [] Go.Proofs.Tryz.func168 rfl rfl rfl ?_
 obtain ⟨m,hm⟩:∃ m:Nat,(b:Int)-a=m:=⟨b-a,by omega⟩
 obtain ⟨q,hq,hq1,hq2⟩:∃ q:Nat,(m:Int) / 4=q∧4*q≤m∧m<4*q+4:=⟨m / 4,by omega,by omega,by omega⟩
 simp -implicitDefEqProofs (disch:=omega) [go_sem,hm]
 have hsz:Fr (fun _=>False) h (h.push (.cells #[.int .u64 (m:Int)] 223)):=(Fr.refl _ _).push
 have w64:IntKind.u64.wrap (m:Int)=m:=by
   unfold IntKind.wrap
   simp only [IntKind.signed,IntKind.bits,Bool.false_and,if_false,Bool.false_eq_true]
   exact Int.emod_eq_of_lt (by omega) (by omega)
 refine useC (nextPow_ok (n:=m) (by omega) (by omega)) ?_
 rintro _ h2 ⟨⟨M,rfl,hM1,hM2⟩,rfl⟩
 simp -implicitDefEqProofs (disch:=omega) [go_sem,hq]
 have hns:¬ blk A h.size:=fun h=>by have:=S.blk_lt h; omega
 refine loopK (fun ρ h'=>ρ 0=.slice A L.length cap∧ρ 1=.int .i64 a∧ρ 6=.int .i64 m∧ρ 7=.pointer (some ⟨h.size,0,none⟩)∧ρ 8=.int .u64 M∧∃ (i:Nat) (y:Int) (L':List Value),ρ 9=.int .i64 i∧a≤i∧i≤a+q*2+2 ∧
     hcell h' ⟨h.size,0,none⟩=some (.int .u64 y)∧(∀ o,hfrz h' ⟨h.size,o,none⟩=false)∧Dat h A cap L a b h' L') (fun ρ _=>a+q*2+2-(intOf (ρ 9)).toNat) (by kernel_rfl) ?_ ?_
 · refine ⟨rfl,rfl,rfl,rfl,rfl,a+q*2-1,m,L,?_,by omega,by omega,?_,?_,?_⟩
   · have e:((a+q*2-1:Nat):Int)=(a:Int)+q*2-1:=by omega
     rw [e]; simp -implicitDefEqProofs [go_sem]
   · rw [hcell_hset,if_pos ⟨rfl,rfl⟩,hcell_push_new]; rfl
   · intro o; rw [hfrz_hset]; exact hfrz_push_new
   · have f0:Fr (fun _=>False) h (h.push (.cells #[.int .u64 0] 223)):=(Fr.refl _ _).push
     have f1:Fr (fun _=>False) h (hset (h.push (.cells #[.int .u64 0] 223)) ⟨h.size,0,none⟩ (.int .u64 m)):=f0.new (Nat.le_refl _)
     exact ⟨.refl _,S.fr f1 (fun _ _=>id),f1.mono fun _ _ h=>h.elim⟩
 · rintro ρ h3 ⟨r0,r1,r8,r9,r10,i,y,L1,r11,hi1,hi2,k1,k2,D⟩
   have hlen:=D.R.len
   by_cases hie:i≤a+q*2+1
   · simp -implicitDefEqProofs (disch:=omega) [go_sem,r0,r1,r8,r9,r10,r11,hq]
     refine useC (next_ok k1 k2) ?_
     rintro _ h4 ⟨z,rfl,hz,k3,k4,f4⟩
     have D4:Dat h A cap L a b h4 L1:=⟨D.R,D.S.fr f4 (fun x hx e=>hns (e ▸ hx)),D.f.trans' f4 fun x hx e=>by omega⟩
     simp -implicitDefEqProofs (disch:=omega) [go_sem,r0,r1,r8,r9,r10,r11,hq]
     refine run_and (by omega) (by omega) fun o ho=>?_
     have hokk:∀ p,p<L.length→(gv L1 p).oneCell'=true:=fun p hp=>D.one hone (by omega)
     obtain ⟨bk,hA,hbk,hfz,hc⟩:=D4.S.base (by omega)
     subst hA
     have ci:=hc i _ (gv_at (by omega))
     have hbs:¬ h.size=bk:=fun e=>hns ⟨⟨bk,0,none⟩,rfl,e.symm⟩
     have w0:=store_one (hokk i (by omega))
     by_cases hom:(m:Int)≤o
     · obtain ⟨u,hu⟩:∃ u:Nat,(o:Int)-m=u:=⟨o-m,by omega⟩
       have cu:=hc (a+u) _ (gv_at (by omega))
       have w1:=store_one (hokk (a+u) (by omega))
       have ix:((a:Int)+u).toNat=a+u:=by omega
       simp -implicitDefEqProofs (disch:=omega) [go_sem,r0,r1,r8,r9,r10,r11,hq,hom,hu]
       refine drawK [(0,0),(1,0),(2,0),(3,0),(4,0),(5,0),(6,0),(7,0),(8,0),(9,0),(10,0),(11,1),(12,0),(13,0),(14,0),(15,1),(16,0),(17,3),(18,0),(19,3)] ?_
       simp -implicitDefEqProofs (disch:=omega) [go_sem,r0,r1,r8,r9,r10,r11,hq,hom,ci,cu,ix,hfz,w0,w1,hbs]
       exact ⟨⟨i+1,by omega,by omega,by omega,⟨z,k3⟩,k4,_,D4.swp (i:=i) (j:=a+u) ⟨by omega,by omega⟩ ⟨by omega,by omega⟩ hb⟩,by omega⟩
     · have cu:=hc (a+o) _ (gv_at (by omega))
       have w1:=store_one (hokk (a+o) (by omega))
       have ix:((a:Int)+o).toNat=a+o:=by omega
       simp -implicitDefEqProofs (disch:=omega) [go_sem,r0,r1,r8,r9,r10,r11,hq,hom]
       refine drawK [(0,0),(1,0),(2,0),(3,0),(4,0),(5,0),(6,0),(7,0),(8,0),(9,0),(10,0),(11,1),(12,0),(13,0),(14,0),(15,1),(16,0),(17,3),(18,0),(19,3)] ?_
       simp -implicitDefEqProofs (disch:=omega) [go_sem,r0,r1,r8,r9,r10,r11,hq,hom,ci,cu,ix,hfz,w0,w1,hbs]
       exact ⟨⟨i+1,by omega,by omega,by omega,⟨z,k3⟩,k4,_,D4.swp (i:=i) (j:=a+o) ⟨by omega,by omega⟩ ⟨by omega,by omega⟩ hb⟩,by omega⟩
   · simp -implicitDefEqProofs (disch:=omega) [go_sem,r0,r1,r8,r9,r10,r11,hq]
     exact ⟨L1,D⟩
end
structure Pl (cf:Value→Value→Int) (L:List Value) (a0 b0 a b:Nat):Prop where
 l:∀ p q,a0≤p→p<q→q<b0→p<a→0≤cf (gv L q) (gv L p)
 r:∀ p q,a0≤p→p<q→q<b0→b≤q→0≤cf (gv L q) (gv L p)
section
variable {cf:Value→Value→Int} {L L':List Value} {a0 b0 a b a' b':Nat}
theorem Pl.start:Pl cf L a0 b0 a0 b0:=⟨fun p q h1 h2 h3 h4=>by omega,fun p q h1 h2 h3 h4=>by omega⟩
theorem Pl.rng (P:Pl cf L a0 b0 a b) (ha:a0≤a) (hb:b≤b0) (hab:a≤b) (R:Rng a b L L'):Pl cf L' a0 b0 a b:=by
 refine ⟨fun p q h1 h2 h3 h4=>?_,fun p q h1 h2 h3 h4=>?_⟩
 · rw [R.out (p:=p) (by omega)]
   by_cases hq:a≤q∧q<b
   · exact R.all (P:=fun x=>0≤cf x (gv L p)) (fun q g1 g2=>P.l p q h1 (by omega) (by omega) h4) q hq.1 hq.2
   · rw [R.out (p:=q) (by omega)]; exact P.l p q h1 h2 h3 h4
 · rw [R.out (p:=q) (by omega)]
   by_cases hp:a≤p∧p<b
   · exact R.all (P:=fun x=>0≤cf (gv L q) x) (fun p g1 g2=>P.r p q (by omega) (by omega) h3 h4) p hp.1 hp.2
   · rw [R.out (p:=p) (by omega)]; exact P.r p q h1 h2 h3 h4
theorem Pl.fin (P:Pl cf L a0 b0 a b) (S:Srt cf a b L):Srt cf a0 b0 L:=fun p q h1 h2 h3=>by
 by_cases hp:p<a
 · exact P.l p q h1 h2 h3 hp
 · by_cases hq:b≤q
   · exact P.r p q h1 h2 h3 hq
   · exact S p q (by omega) h2 (by omega)
theorem Pl.up (P:Pl cf L a0 b0 a b) (h:∀ p q,a≤p→p<a'→p<q→q<b→0≤cf (gv L q) (gv L p)):Pl cf L a0 b0 a' b :=
 ⟨fun p q h1 h2 h3 h4=>by
  by_cases hp:p<a
  · exact P.l p q h1 h2 h3 hp
  · by_cases hq:b≤q
    · exact P.r p q h1 h2 h3 hq
    · exact h p q (by omega) h4 h2 (by omega),P.r⟩
theorem Pl.dn (P:Pl cf L a0 b0 a b) (h:∀ p q,a≤p→p<q→b'≤q→q<b→0≤cf (gv L q) (gv L p)):Pl cf L a0 b0 a b' :=
 ⟨P.l,fun p q h1 h2 h3 h4=>by
  by_cases hp:p<a
  · exact P.l p q h1 h2 h3 hp
  · by_cases hq:b≤q
    · exact P.r p q h1 h2 h3 hq
    · exact h p q (by omega) h2 h4 (by omega)⟩
theorem Pl.left {ok:Value→Prop} {mid:Nat} {L3 L4:List Value} (C:COk cf ok) (hok:OkR ok L3) (P:Pl cf L3 a0 b0 a b) (ha:a0≤a) (hb:b≤b0) (hm:a≤mid) (hm2:mid<b) (hl:b≤L3.length)
   (h1:∀ p,a≤p→p<mid→cf (gv L3 p) (gv L3 mid)<0) (h2:∀ p,mid<p→p<b→0≤cf (gv L3 p) (gv L3 mid)) (R:Rng a mid L3 L4) (S:Srt cf a mid L4):Pl cf L4 a0 b0 (mid+1) b:=by
 have P4:=P.rng ha hb (by omega) (R.mono (Nat.le_refl _) (Nat.le_of_lt hm2) hl)
 have ok4:=hok.rng R (by omega)
 have hl4:=R.len
 refine P4.up fun p q g1 g2 g3 g4=>?_
 by_cases hq:q<mid
 · exact S p q g1 g3 hq
 · have eq3:=R.out (p:=q) (by omega)
   by_cases hp:p=mid
   · subst hp
     rw [eq3,R.out (p:=p) (by omega)]; exact h2 q g3 g4
   · have hlt:=R.all (P:=fun x=>cf x (gv L3 mid)<0) h1 p g1 (by omega)
     have hle:=C.asy _ _ (ok4 p (by omega)) (hok mid (by omega)) hlt
     rw [eq3]
     by_cases e:q=mid
     · subst e; exact hle
     · exact C.tr _ _ _ (ok4 p (by omega)) (hok mid (by omega)) (hok q (by omega)) hle (h2 q (by omega) g4)
theorem Pl.right {ok:Value→Prop} {mid:Nat} {L3 L4:List Value} (C:COk cf ok) (hok:OkR ok L3) (P:Pl cf L3 a0 b0 a b) (ha:a0≤a) (hb:b≤b0) (hm:a≤mid) (hm2:mid<b) (hl:b≤L3.length)
   (h1:∀ p,a≤p→p<mid→cf (gv L3 p) (gv L3 mid)<0) (h2:∀ p,mid<p→p<b→0≤cf (gv L3 p) (gv L3 mid)) (R:Rng (mid+1) b L3 L4) (S:Srt cf (mid+1) b L4):Pl cf L4 a0 b0 a mid:=by
 have P4:=P.rng ha hb (by omega) (R.mono (by omega) (Nat.le_refl _) hl)
 have ok4:=hok.rng R (by omega)
 have hl4:=R.len
 refine P4.dn fun p q g1 g2 g3 g4=>?_
 by_cases hp:mid<p
 · exact S p q (by omega) g2 g4
 · have ep:=R.out (p:=p) (by omega)
   by_cases hq:q=mid
   · subst hq
     rw [ep,R.out (p:=q) (by omega)]; exact C.asy _ _ (hok p (by omega)) (hok q (by omega)) (h1 p g1 g2)
   · have hge:=R.all (P:=fun x=>0≤cf x (gv L3 mid)) (fun p g1 g2=>h2 p (by omega) g2) q (by omega) g4
     rw [ep]
     by_cases e:p=mid
     · subst e; exact hge
     · have hle:=C.asy _ _ (hok p (by omega)) (hok mid (by omega)) (h1 p g1 (by omega))
       exact C.tr _ _ _ (hok p (by omega)) (hok mid (by omega)) (ok4 q (by omega)) hle hge
theorem Pl.equal {ok:Value→Prop} {mid:Nat} {L3:List Value} (C:COk cf ok) (hok:OkR ok L3) (P:Pl cf L3 a0 b0 a b) (hm:a<mid) (hm2:mid≤b) (hl:b≤L3.length) (h0:∀ p,a≤p→p<b→0≤cf (gv L3 p) (gv L3 a))
  (h1:∀ p,a<p→p<mid→0≤cf (gv L3 a) (gv L3 p)):Pl cf L3 a0 b0 mid b:=by
 refine P.up fun p q g1 g2 g3 g4=>?_
 by_cases e:p=a
 · subst e; exact h0 q (by omega) g4
 · exact C.tr _ _ _ (hok p (by omega)) (hok a (by omega)) (hok q (by omega)) (h1 p (by omega) g2) (h0 q (by omega) g4)
theorem Pl.hyp (P:Pl cf L a0 b0 a b) (H:Hyp cf L a0 b0) (ha:a0≤a) (hb:b≤b0):Hyp cf L a b:=by
 by_cases e:a=a0
 · subst e
   rcases H with h | h
   · exact .inl h
   · exact .inr fun p h1 h2=>h p h1 (by omega)
 · exact .inr fun p h1 h2=>P.l (a-1) p (by omega) (by omega) (by omega) (by omega)
end
section
variable {A:Option Addr} {cap n:Nat} {fn:FuncId} {cs:List Value} {cf:Value→Value→Int} {ok:Value→Prop}
theorem pdqG_ok (hs:n<2^40):∀ (N:Nat) {h:Heap} {L:List Value} {a b:Nat} {limit:Int},b-a≤N→Cmp Tryz.prog h A fn cs cf ok→SlAt h A cap L→n=L.length→(∀ w∈L,w.oneCell'=true)→OkR ok L→Hyp cf L a b→a≤b→b≤n→0≤limit→limit<2^62 →
   CallsH Tryz.prog 130 [.slice A n cap,.int .i64 a,.int .i64 b,.int .i64 limit] h fun _ h'=>∃ L',Dat h A cap L a b h' L'∧Srt cf a b L':=by
 intro N
 induction N using Nat.strongRecOn with
 | _ N IH =>
 intro h L a b limit hN C S hn hone hok H hab hb' hl0 hl1
 subst hn
 have hb:b≤L.length:=hb'
 refine calls_of 134 [] Go.Proofs.Tryz.func130 rfl rfl rfl ?_
 simp -implicitDefEqProofs (disch:=omega) [go_sem]
 refine loopK (fun ρ h'=>ρ 0=.slice A L.length cap∧ρ 0=.slice A L.length cap∧∃ (a' b':Nat) (lim:Int) (wb wp:Bool) (L':List Value),ρ 1=.int .i64 a'∧ρ 2=.int .i64 b'∧ρ 3=.int .i64 lim∧ρ 8=.bool wb∧ρ 9=.bool wp ∧
     a≤a'∧a'≤b'∧b'≤b∧0≤lim∧lim<2^62∧Dat h A cap L a b h' L'∧Pl cf L' a b a' b') (fun ρ _=>(intOf (ρ 2)-intOf (ρ 1)).toNat) (by kernel_rfl) ?_ ?_
 · exact ⟨rfl,rfl,a,b,limit,true,true,L,rfl,rfl,rfl,rfl,rfl,by omega,hab,by omega,hl0,hl1,Dat.refl S,Pl.start⟩
 · rintro ρ h1 ⟨r0,r4,a1,b1,lim,wb,wp,L1,r1,r2,r3,r10,r11,ha1,hab1,hb1,hm0,hm1,D,P⟩
   have hlen:=D.R.len
   have C1:=C.fr D.f
   have hok1:=hok.rng D.R hb
   have hone1:=D.oneR hone
   have H1:=P.hyp (H.rng D.R) ha1 hb1
   by_cases h12:(b1:Int)-a1≤12
   · simp -implicitDefEqProofs (disch:=omega) [go_sem,r0,r1,r2,r3,r4,r10,r11,h12]
     refine useC (insertionR_ok C1 D.S hlen.symm (by omega) hone1 hok1 hab1 (by omega)) ?_
     rintro r2' h2 ⟨L2,D2,S2⟩
     simp -implicitDefEqProofs (disch:=omega) [go_sem,r0,r1,r2,r3,r4,r10,r11]
     exact ⟨L2,D.then D2 ha1 hb1 hb,(P.rng ha1 hb1 hab1 D2.R).fin S2⟩
   · by_cases hlz:lim=0
     · simp -implicitDefEqProofs (disch:=omega) [go_sem,r0,r1,r2,r3,r4,r10,r11,h12,hlz]
       refine useC (heapSort_ok C1 D.S hlen.symm (by omega) hone1 hok1 (by omega) (by omega)) ?_
       rintro r2' h2 ⟨L2,D2,S2⟩
       simp -implicitDefEqProofs (disch:=omega) [go_sem,r0,r1,r2,r3,r4,r10,r11]
       exact ⟨L2,D.then D2 ha1 hb1 hb,(P.rng ha1 hb1 hab1 D2.R).fin S2⟩
     · obtain ⟨m,hm⟩:∃ m:Nat,(b1:Int)-a1=m:=⟨b1-a1,by omega⟩
       have hmu:(intOf (ρ 2)-intOf (ρ 1)).toNat=m:=by rw [r1,r2]; simp only [intOf_int]; omega
       simp -implicitDefEqProofs (disch:=omega) [go_sem,r0,r1,r2,r3,r4,r10,r11,h12,hlz,hm]
       refine condCut (fun ρ h'=>ρ 0=.slice A L.length cap∧ρ 0=.slice A L.length cap∧ρ 1=.int .i64 a1∧ρ 2=.int .i64 b1∧ρ 8=.bool wb∧ρ 9=.bool wp∧ρ 10=.int .i64 m∧∃ (lim:Int) (L':List Value),ρ 3=.int .i64 lim∧0≤lim∧lim<2^62∧Dat h A cap L a b h' L'∧Pl cf L' a b a1 b1) ?_ ?_
       · cases wb with
         | true =>
           simp -implicitDefEqProofs (disch:=omega) [go_sem,r0,r1,r2,r3,r4,r10,r11]
           exact ⟨hm0,hm1,L1,D,P⟩
         | false =>
           simp -implicitDefEqProofs (disch:=omega) [go_sem,r0,r1,r2,r3,r4,r10,r11]
           refine useC (break_ok D.S hlen.symm (by omega) hone1 (by omega) (by omega)) ?_
           rintro r2' h2 ⟨L2,D2⟩
           simp -implicitDefEqProofs (disch:=omega) [go_sem,r0,r1,r2,r3,r4,r10,r11]
           exact ⟨by omega,by omega,L2,D.then D2 ha1 hb1 hb,P.rng ha1 hb1 hab1 D2.R⟩
       · clear r0 r1 r2 r3 r4 r10 r11 D P hlen C1 hok1 hone1 H1 hlz hm0 hm1
         clear L1 lim
         rintro ρ h2 ⟨r0,r4,r1,r2,r10,r11,r12,lim,L1,r3,hm0,hm1,D,P⟩
         have hlen:=D.R.len
         have C1:=C.fr D.f
         have hok1:=hok.rng D.R hb
         simp -implicitDefEqProofs (disch:=omega) [go_sem,r0,r1,r2,r3,r4,r10,r11,r12]
         refine useC (choose_ok C1 D.S hlen.symm (by omega) hok1 (by omega) (by omega)) ?_
         rintro _ h3 ⟨pv,t,rfl,hpv1,hpv2,ht,f3⟩
         have D3:=D.fr0 f3
         simp -implicitDefEqProofs (disch:=omega) [go_sem,r0,r1,r2,r3,r4,r10,r11,r12]
         refine condCut (fun ρ h'=>ρ 0=.slice A L.length cap∧ρ 0=.slice A L.length cap∧ρ 1=.int .i64 a1∧ρ 2=.int .i64 b1∧ρ 3=.int .i64 lim∧ρ 8=.bool wb∧ρ 9=.bool wp∧ρ 10=.int .i64 m∧∃ (pv t:Nat) (L':List Value),ρ 11=.int .i64 pv∧ρ 12=.int .i64 t∧a1≤pv∧pv<b1∧Dat h A cap L a b h' L'∧Pl cf L' a b a1 b1) ?_ ?_
         · by_cases ht2:t=2
           · have epv:(b1:Int)-1-((pv:Int)-a1)=((b1-1-(pv-a1):Nat):Int):=by omega
             subst ht2
             simp -implicitDefEqProofs (disch:=omega) [go_sem,r0,r1,r2,r3,r4,r10,r11,r12]
             refine useC (reverse_ok D3.S hlen.symm (by omega) (D.oneR hone) hab1 (by omega)) ?_
             rintro r2' h4 ⟨L2,R2,S2,f4⟩
             have D2:Dat h3 A cap L1 a1 b1 h4 L2:=⟨R2,S2,f4⟩
             simp -implicitDefEqProofs (disch:=omega) [go_sem,r0,r1,r2,r3,r4,r10,r11,r12]
             exact ⟨b1-1-(pv-a1),epv,⟨1,rfl⟩,by omega,by omega,L2,D3.then D2 ha1 hb1 hb,P.rng ha1 hb1 hab1 R2⟩
           · simp -implicitDefEqProofs (disch:=omega) [go_sem,r0,r1,r2,r3,r4,r10,r11,r12,ht2]
             exact ⟨pv,rfl,⟨t,rfl⟩,hpv1,hpv2,L1,D3,P⟩
         · clear r0 r1 r2 r3 r4 r10 r11 r12 D3 D P hlen C1 hok1 f3 hpv1 hpv2 ht
           clear L1 pv t
           rintro ρ h4 ⟨r0,r4,r1,r2,r3,r10,r11,r12,pv,t,L1,r13,r14,hpv1,hpv2,D,P⟩
           have hlen:=D.R.len
           have C1:=C.fr D.f
           have hok1:=hok.rng D.R hb
           have H1:=P.hyp (H.rng D.R) ha1 hb1
           have hcs:wb=false∨(wb=true∧wp=false)∨(wb=true∧wp=true∧t≠1)∨(wb=true∧wp=true∧t=1):=by
             cases wb <;> cases wp <;> simp <;> exact (Nat.decEq t 1).em.symm
           rcases hcs with rfl | ⟨rfl,rfl⟩ | ⟨rfl,rfl,ht1⟩ | ⟨rfl,rfl,rfl⟩
           all_goals
             simp -implicitDefEqProofs (disch:=omega) [go_sem,r0,r1,r2,r3,r4,r10,r11,r12,r13,r14]
           case' inr.inr.inr =>
             refine useC (partial_ok C1 D.S hlen.symm (by omega) (D.oneR hone) hok1 H1 (by omega) (by omega)) ?_
             rintro _ h5 ⟨al,L2,rfl,D2,hS⟩
             have D9:=D.then D2 ha1 hb1 hb
             have P9:=P.rng ha1 hb1 hab1 D2.R
             cases al
             case' true =>
              simp -implicitDefEqProofs (disch:=omega) [go_sem,r0,r1,r2,r3,r4,r10,r11,r12,r13,r14]
              exact ⟨L2,D9,P9.fin (hS rfl)⟩
             case' false =>
              simp -implicitDefEqProofs (disch:=omega) [go_sem,r0,r1,r2,r3,r4,r10,r11,r12,r13,r14]
              clear D2 hS D P
           case' inl | inr.inl | inr.inr.inl =>
             obtain ⟨L2,rfl⟩:∃ L2,L2=L1:=⟨_,rfl⟩
             obtain ⟨h5,rfl⟩:∃ h5,h5=h4:=⟨_,rfl⟩
             have D9:=D
             have P9:=P
           all_goals
             have hlen9:=D9.R.len
             have C9:=C.fr D9.f
             have hok9:=hok.rng D9.R hb
             have H9:=P9.hyp (H.rng D9.R) ha1 hb1
             refine drawK [(0,0),(1,0),(2,0),(3,0),(4,0),(5,0),(6,0),(7,1),(8,0),(9,0),(10,0),(11,1),(12,3),(13,0),(14,0)] ?_
           all_goals
             obtain ⟨bk,hA,hbk,hfz,hc⟩:=D9.S.base (by omega)
             have cp:=hc pv _ (gv_at (by omega))
             have op:=hok9 pv (by omega)
             subst hA
             rcases Nat.eq_zero_or_pos a1 with ha0 | ha0
             case' inl =>
              have hz:¬ (0:Int)<a1:=by omega
              simp -implicitDefEqProofs (disch:=omega) [go_sem,r0,r1,r2,r3,r4,r10,r11,r12,r13,r14,hz]
             case' inr =>
              have hz:(0:Int)<a1:=by omega
              have cm:=hc (a1-1) _ (gv_at (by omega))
              have om:=hok9 (a1-1) (by omega)
              have ix:((a1:Int)-1).toNat=a1-1:=by omega
              simp -implicitDefEqProofs (disch:=omega) [go_sem,r0,r1,r2,r3,r4,r10,r11,r12,r13,r14,cp,cm,ix]
              refine useC (C9.call _ (Fr.refl _ _) _ _ om op) ?_
              rintro _ h6 ⟨rfl,f6⟩
              have D9:=D9.fr0 f6
              have C9:=C.fr D9.f
              by_cases hlt:cf (gv L2 (a1-1)) (gv L2 pv)<0
              case neg =>
                simp -implicitDefEqProofs (disch:=omega) [go_sem,r0,r1,r2,r3,r4,r10,r11,r12,r13,r14,hlt]
                refine useC (partitionEq_ok (pv:=pv) C9 D9.S hlen9.symm (by omega) (D9.oneR hone) hok9 ⟨hpv1,hpv2⟩ (by omega)) ?_
                rintro _ h7 ⟨L3,mid,rfl,D7,g1,g2,g3,g4,g5⟩
                have D8:=D9.then D7 ha1 hb1 hb
                have P8:=P9.rng ha1 hb1 hab1 D7.R
                have hok8:=hok.rng D8.R hb
                have hlen8:=D8.R.len
                have hH:∀ p,a1≤p→p<b1→0≤cf (gv L2 p) (gv L2 (a1-1)):=fun p q1 q2=>H9.elim (fun h=>absurd h (by omega)) fun h=>h p q1 q2
                have hmn:=D7.R.all (P:=fun x=>0≤cf x (gv L2 (a1-1))) hH
                have h0:∀ p,a1≤p→p<b1→0≤cf (gv L3 p) (gv L3 a1):=fun p q1 q2=>by
                 rw [g5]
                 exact C.c.tr _ _ _ op om (hok8 p (by omega)) (by omega) (hmn p q1 q2)
                have P10:=Pl.equal C.c hok8 P8 g1 g2 (by omega) h0 g3
                simp -implicitDefEqProofs (disch:=omega) [go_sem,r0,r1,r2,r3,r4,r10,r11,r12,r13,r14]
                exact ⟨⟨mid,rfl,b1,rfl,by omega,g2,hb1,hm0,hm1,L3,D8,P10⟩,by omega⟩
              case' pos =>
                simp -implicitDefEqProofs (disch:=omega) [go_sem,r0,r1,r2,r3,r4,r10,r11,r12,r13,r14,hlt]
             all_goals
              refine useC (partition_ok (pv:=pv) C9 D9.S hlen9.symm (by omega) (D9.oneR hone) hok9 ⟨hpv1,hpv2⟩ (by omega)) ?_
              rintro _ h7 ⟨L3,mid,al,rfl,D7,g1,g2,g3,g4⟩
              have D8:=D9.then D7 ha1 hb1 hb
              have P8:=P9.rng ha1 hb1 hab1 D7.R
              have hok8:=hok.rng D8.R hb
              have hlen8:=D8.R.len
              have e18:(mid:Int)-a1=((mid-a1:Nat):Int):=by omega
              have e19:(b1:Int)-mid=((b1-mid:Nat):Int):=by omega
              simp -implicitDefEqProofs (disch:=omega) [go_sem,r0,r1,r2,r3,r4,r10,r11,r12,r13,r14,e18,e19]
              by_cases hlr:mid-a1<b1-mid
              · simp -implicitDefEqProofs (disch:=omega) [go_sem,r0,r1,r2,r3,r4,r10,r11,r12,r13,r14,e18,e19,hlr]
                refine useC (IH (mid-a1) (by omega) (Nat.le_refl _) (C.fr D8.f) D8.S hlen8.symm (D8.oneR hone) hok8 ((P8.hyp (H.rng D8.R) ha1 hb1).elim .inl fun h=>.inr fun p q1 q2=>h p q1 (by omega)) g1 (by omega) hm0 hm1) ?_
                rintro _ h8 ⟨L4,D10,S10⟩
                simp -implicitDefEqProofs (disch:=omega) [go_sem,r0,r1,r2,r3,r4,r10,r11,r12,r13,r14,e18,e19]
                have P10:=Pl.left C.c hok8 P8 ha1 hb1 g1 g2 (by omega) g3 g4 D10.R S10
                exact ⟨⟨mid+1,by omega,b1,rfl,by omega,by omega,hb1,hm0,hm1,L4,D8.then D10 ha1 (by omega) hb,P10⟩,by omega⟩
              · obtain ⟨m1,hm1'⟩:∃ m1:Nat,(mid:Int)+1=m1:=⟨mid+1,by omega⟩
                obtain rfl:m1=mid+1:=by omega
                simp -implicitDefEqProofs (disch:=omega) [go_sem,r0,r1,r2,r3,r4,r10,r11,r12,r13,r14,e18,e19,hlr]
                refine useC (IH (b1-(mid+1)) (by omega) (a:=mid+1) (b:=b1) (Nat.le_refl _) (C.fr D8.f) D8.S hlen8.symm (D8.oneR hone) hok8 (.inr fun p q1 q2=>g4 p (by omega) q2) (by omega) (by omega) hm0 hm1) ?_
                rintro _ h8 ⟨L4,D10,S10⟩
                simp -implicitDefEqProofs (disch:=omega) [go_sem,r0,r1,r2,r3,r4,r10,r11,r12,r13,r14,e18,e19]
                have P10:=Pl.right C.c hok8 P8 ha1 hb1 g1 g2 (by omega) g3 g4 D10.R S10
                exact ⟨⟨a1,rfl,mid,rfl,ha1,g1,by omega,hm0,hm1,L4,D8.then D10 (by omega) hb1 hb,P10⟩,by omega⟩
end
section
variable {A:Option Addr} {cap n:Nat} {fn:FuncId} {cs:List Value} {cf:Value→Value→Int} {ok:Value→Prop} {h:Heap} {L:List Value}
theorem sort_ok (hs:n<2^40) (C:Cmp Tryz.prog h A fn cs cf ok) (S:SlAt h A cap L) (hn:n=L.length) (hone:∀ w∈L,w.oneCell'=true) (hok:OkR ok L) :
  CallsH Tryz.prog 83 [.slice A n cap] h fun _ h'=>∃ L',Dat h A cap L 0 n h' L'∧Srt cf 0 n L':=by
 refine calls_of 11 [] Go.Proofs.Tryz.func83 rfl rfl rfl ?_
 simp -implicitDefEqProofs (disch:=omega) [go_sem]
 refine useC (leng_ok hs) ?_
 rintro _ h1 ⟨⟨k,rfl,hk4,hk⟩,rfl⟩
 simp -implicitDefEqProofs (disch:=omega) [go_sem]
 have e0:((0:Nat):Int)=0:=rfl
 have c:=pdqG_ok (a:=0) (b:=n) (limit:=k) hs n (by omega) C S hn hone hok (.inl rfl) (by omega) (by omega) (by omega) (by omega)
 rw [e0] at c
 refine useC c ?_
 rintro _ h2 ⟨L',D,hS⟩
 simp -implicitDefEqProofs (disch:=omega) [go_sem]
 exact ⟨L',D,hS⟩
end
end Xe.So
