/- The document's atoms: All. -/
import Derived.Test.YtkghjecglmmloaaGreatA19
import Derived.Test.YtkghjecglmmloaaGreatA1
import Derived.Test.YtkghjecglmmloaaGreatL2
import Derived.Test.YtkghjecglmmloaaGreatBG
namespace Xe
open Go Tp Go.Proofs Hq
set_option maxRecDepth 16000
set_option maxHeartbeats 4000000
theorem build3a {e:TypeId} {bt:Nat} {a b c:Int} {h:Heap} {k:Value→Heap→Prop} (hk:k (.slice (some ⟨h.size,0,none⟩) 1 1) (h.push (.cells #[.int .i64 a,.int .i64 b,.int .i64 c] e))) :
  @buildSliceK (some (e,3,bt,.agg #[.int .i64 0,.int .i64 0,.int .i64 0])) 1 [(0,.agg #[.int .i64 a,.int .i64 b,.int .i64 c])] ⟨h⟩ ⟨k⟩:=by
 refine ⟨by omega,#[.int .i64 a,.int .i64 b,.int .i64 c],?_,hk⟩
 have hz:(zerosOf (Value.agg #[Value.int .i64 0,Value.int .i64 0,Value.int .i64 0]).cells (1*3)).size=3:=by simp [zerosOf,Value.cells]
 obtain ⟨L,hL⟩:∃ L,zerosOf (Value.agg #[Value.int .i64 0,Value.int .i64 0,Value.int .i64 0]).cells (1*3)=⟨L⟩:=⟨_,rfl⟩
 rw [hL] at hz ⊢
 match L,hz with
 | [p,q,r],_=>simp [Instr.fill,Value.cells,List.zipIdx]
def atC (a:At):List Value:=[.int .i64 a.k,.int .i64 a.p,.int .i64 a.i]
def atsV (zs:List Nat) (n:Nat):List Value:=(List.range n).flatMap fun u=>atC (atN zs 0 u)
theorem atsV_succ {zs:List Nat} {n:Nat}:atsV zs (n+1)=atsV zs n++atC (atN zs 0 n):=by
 unfold atsV
 rw [List.range_succ,List.flatMap_append]
 simp
theorem atsV_len {zs:List Nat} {n:Nat}:(atsV zs n).length=n*3:=by
 induction n with
 | zero=>rfl
 | succ n ih=>rw [atsV_succ,List.length_append,ih]; simp [atC]; omega
structure AaJ (h0:Heap) (zs:List Nat) (B:Option Addr) (c0 p n:Nat) (ρ:Env) (h:Heap):Prop where
 r0:ρ 0=.slice B zs.length c0
 r4:ρ 4=.int .i64 p
 fr:Fr (fun _=>False) h0 h
 ex:∃ X xc,ρ 3=.slice X n xc∧SlAt h X (xc*3) (atsV zs n)∧∀ y,blk X y→h0.size≤y
def AllR (zs:List Nat) (r:Value) (h h':Heap):Prop:=Fr (fun _=>False) h h'∧∃ X xc,r=.slice X (wsum zs) xc∧SlAt h' X (xc*3) (atsV zs (wsum zs))∧∀ y,blk X y→h.size≤y
section
variable {h:Heap} {zs:List Nat} {B:Option Addr} {c0:Nat}
theorem all13_ok (F:Few zs) (R:RowAt h B (ints (nts zs))):CallsH Tryz.prog 54 [.slice B zs.length c0] h fun r h'=>AllR zs r h h':=by
 have hsum:=F.sum
 have hlen:=F.len
 refine calls_of 48 [.tmp 2] Go.Proofs.Tryz.func54 rfl rfl rfl ?_
 simp -implicitDefEqProofs (disch:=omega) [go_sem]
 refine loopK (fun ρ h'=>∃ p:Nat,p≤zs.length∧AaJ h zs B c0 p (wsum (zs.take p)) ρ h') (fun ρ _=>zs.length-(intOf (ρ 4)).toNat) (by kernel_rfl) ?_ ?_
 · exact ⟨0,Nat.zero_le _,rfl,rfl,Fr.refl _ _,none,0,rfl,by simpa [atsV,wsum] using SlAt.nil h,fun y ⟨_,h,_⟩=>(nomatch h)⟩
 · rintro ρ h1 ⟨p,hp,r0,r4,f1,X,xc,r3,SX,hX⟩
   by_cases hpn:p<zs.length
   · obtain ⟨z,hz⟩:∃ z,zs[p]?=some z:=⟨_,List.getElem?_eq_getElem hpn⟩
     have hz4:=F.le z (List.mem_of_getElem? hz)
     have hww:=wsum_take hz
     have hw1:wsum (zs.take (p+1))≤wsum zs:=wsum_take_le
     have hwz:wid z=1+z+(z-1):=rfl
     have hat:∀ j,j<wid z→atN zs 0 (wsum (zs.take p)+j)=atOf z p j:=fun j hj=>by
       have:=atN_eq (q:=0) (u:=wsum (zs.take p)+j) hz (by omega) (by omega)
       rw [this,Nat.zero_add,Nat.add_sub_cancel_left]
     obtain ⟨w,hw⟩:∃ w,w=wsum (zs.take p):=⟨_,rfl⟩
     rw [← hw] at hat hww r3 SX
     have o4:=r4
     obtain ⟨bk,off,hB,hc⟩:=R.get (by rw [ints_len,nts_len]; omega)
     have c0':=hc _ _ (ints_at (nts_at hz))
     subst hB
     have step:∀ {n:Nat} {hh:Heap} {Y:Option Addr} {yc:Nat} {a b c:Int} {K:Value→Heap→Prop},n<40→Fr (fun _=>False) h hh→SlAt hh Y (yc*3) (atsV zs n)→(∀ y,blk Y y→h.size≤y)→atC (atN zs 0 n)=[.int .i64 a,.int .i64 b,.int .i64 c] →
         (∀ Y' yc' h',SlAt h' Y' (yc'*3) (atsV zs (n+1))→(∀ y,blk Y' y→h.size≤y)→Fr (fun _=>False) h h'→K (.slice Y' (n+1) yc') h') →
         @appendK (some (150,3,24,.agg #[.int .i64 0,.int .i64 0,.int .i64 0])) (.slice Y n yc) (.slice (some ⟨hh.size,0,none⟩) 1 1) ⟨hh.push (.cells #[.int .i64 a,.int .i64 b,.int .i64 c] 150)⟩ ⟨K⟩:=by
       intro n hh Y yc a b c K hn fh S hY ha hK
       have f4:Fr (fun _=>False) hh (hh.push (.cells #[.int .i64 a,.int .i64 b,.int .i64 c] 150)):=(Fr.refl _ _).push
       refine appendN (sz:=3) (vs:=atsV zs n) (ws:=[.int .i64 a,.int .i64 b,.int .i64 c]) (S.fr f4 fun _ _ h=>h) (by rw [atsV_len]) (SlAt.new (vs:=[.int .i64 a,.int .i64 b,.int .i64 c])).row rfl (by omega) (by simp [Value.oneCell']) (by omega) (by omega) ?_
       intro Y5 yc5 h5 S5 f5 hY5
       have z1:=fh.size
       have z4:=f4.size
       exact hK Y5 yc5 h5 (by rw [atsV_succ,ha]; exact S5) (fun y hy=>(hY5 y hy).elim (hY y) fun h=>by omega) ((fh.trans f4).trans' f5 fun y hy hb=>by have:=hY y hb; omega)
     simp -implicitDefEqProofs (disch:=omega) [go_sem,r0,r3,r4]
     refine build3a ?_
     simp -implicitDefEqProofs (disch:=omega) [go_sem,r0,r3,r4]
     refine step (n:=w) (by omega) f1 SX hX (by have:=hat 0 (by omega); rw [Nat.add_zero] at this; rw [this]; rfl) ?_
     intro X2 xc2 h2 S2 hX2 f2
     simp -implicitDefEqProofs (disch:=omega) [go_sem,r0,r3,r4]
     refine loopK (fun ρ h'=>∃ j:Nat,AaJ h zs (some ⟨bk,off,none⟩) c0 p (w+1+j) ρ h'∧ρ 5=.int .i64 j∧j≤z-1) (fun ρ _=>(z-1)-(intOf (ρ 5)).toNat) (by kernel_rfl) ?_ ?_
     · exact ⟨0,⟨r0,r4,f2,X2,xc2,rfl,S2,hX2⟩,rfl,Nat.zero_le _⟩
     · clear r0 r4 r3 SX hX f1 S2 hX2 f2
       clear X xc X2 xc2 h2
       rintro ρ h2 ⟨j,⟨r0,r4,f2,X,xc,r3,SX,hX⟩,r5,hj⟩
       have c02:=(f2.cell (hcell_lt c0') fun h=>h).trans c0'
       by_cases hjn:j<z-1
       · have hjz:(j:Int)+1<z:=by omega
         have ha:atN zs 0 (w+1+j)=⟨1,p,j⟩:=by
           rw [Nat.add_assoc,hat (1+j) (by omega)]
           unfold atOf
           rw [if_neg (by omega),if_pos (by omega)]
           congr 1; omega
         simp -implicitDefEqProofs (disch:=omega) [go_sem,o4,r0,r3,r4,r5,c02]
         refine build3a ?_
         simp -implicitDefEqProofs (disch:=omega) [go_sem,o4,r0,r3,r4,r5]
         refine step (n:=w+1+j) (by omega) f2 SX hX (by rw [ha]; rfl) ?_
         intro X2 xc2 h3 S2 hX2 f3
         simp -implicitDefEqProofs (disch:=omega) [go_sem,o4,r0,r3,r4,r5]
         exact ⟨⟨j+1,⟨r0,r4,f3,X2,xc2,rfl,S2,hX2⟩,by omega,by omega⟩,by omega⟩
       · obtain rfl:j=z-1:=by omega
         have hjz:¬ ((z-1:Nat):Int)+1<z:=by omega
         simp -implicitDefEqProofs (disch:=omega) [go_sem,o4,r0,r3,r4,r5,c02,hjz]
         refine loopK (fun ρ h'=>∃ j:Nat,AaJ h zs (some ⟨bk,off,none⟩) c0 p (w+1+(z-1)+j) ρ h'∧ρ 6=.int .i64 j∧j≤z) (fun ρ _=>z-(intOf (ρ 6)).toNat) (by kernel_rfl) ?_ ?_
         · exact ⟨0,⟨r0,r4,f2,X,xc,r3,SX,hX⟩,rfl,Nat.zero_le _⟩
         · clear r0 r4 r3 SX hX f2 r5 c02
           clear X xc h2
           rintro ρ h2 ⟨j,⟨r0,r4,f2,X,xc,r3,SX,hX⟩,r6,hj⟩
           have c02:=(f2.cell (hcell_lt c0') fun h=>h).trans c0'
           by_cases hjn:j<z
           · have ha:atN zs 0 (w+1+(z-1)+j)=⟨2,p,j⟩:=by
              rw [show w+1+(z-1)+j=w+(1+(z-1)+j) by omega,hat (1+(z-1)+j) (by omega)]
              unfold atOf
              rw [if_neg (by omega),if_neg (by omega)]
              congr 1; omega
             simp -implicitDefEqProofs (disch:=omega) [go_sem,o4,r0,r3,r4,r6,c02]
             refine build3a ?_
             simp -implicitDefEqProofs (disch:=omega) [go_sem,o4,r0,r3,r4,r6]
             refine step (n:=w+1+(z-1)+j) (by omega) f2 SX hX (by rw [ha]; rfl) ?_
             intro X2 xc2 h3 S2 hX2 f3
             simp -implicitDefEqProofs (disch:=omega) [go_sem,o4,r0,r3,r4,r6]
             exact ⟨⟨j+1,⟨r0,r4,f3,X2,xc2,rfl,S2,hX2⟩,by omega,by omega⟩,by omega⟩
           · obtain rfl:j=z:=by omega
             simp -implicitDefEqProofs (disch:=omega) [go_sem,o4,r0,r3,r4,r6,c02]
             have ew:w+1+(j-1)+j=wsum (zs.take (p+1)):=by omega
             rw [ew] at r3 SX
             exact ⟨⟨p+1,by omega,r0,rfl,f2,X,xc,r3,SX,hX⟩,by omega⟩
   · obtain rfl:p=zs.length:=by omega
     rw [List.take_length] at r3 SX
     simp -implicitDefEqProofs (disch:=omega) [go_sem,r0,r3,r4]
     exact ⟨f1,X,xc,rfl,SX,hX⟩
end
section
variable {h:Heap} {zs:List Nat} {B C:Option Addr} {c0 d0:Nat} {ch:List Int}
end
section
variable {h h':Heap} {N:Nat} {A:Option Addr} {cap:Nat} {vs:List Value}
end
structure Smz (zl:List Int) (zs:List Nat) (m q:Nat) (gs:Nat→List Int) (sc:Scr):Prop where
 eq:zl=nts zs
 F:Few zs
 n14:wsum zs≤14
 hm:m≤16
 hq:q≤6
 p:sc.picks.length≤20
 g:sc.signs.length≤20
 r:sc.res.length≤20
 d:sc.red.length≤20
 l:∀ i,i<m→(gs i).length≤6
def dbl:List Nat→Nat
 | []=>0
 | z::r=>2*z+1+dbl r
theorem dbl_snoc {l:List Nat} {z:Nat}:dbl (l++[z])=dbl l+(2*z+1):=by
 induction l with
 | nil=>simp [dbl]
 | cons a l ih=>simp only [List.cons_append,dbl,ih]; omega
theorem wsum_dbl {l:List Nat}:wsum l≤dbl l:=by
 induction l with
 | nil=>simp [wsum,dbl]
 | cons a l ih=>simp only [wsum,dbl,wid]; omega
theorem dbl_le {l:List Nat} (h:∀ z∈l,z≤4):dbl l≤9*l.length:=by
 induction l with
 | nil=>simp [dbl]
 | cons a l ih =>
   have h1:=h a List.mem_cons_self
   have h2:=ih fun z hz=>h z (List.mem_cons_of_mem _ hz)
   simp only [dbl,List.length_cons]; omega
section
variable {h:Heap}
theorem small25_ok {Z A B:Option Addr} {zc m c q d:Nat} {zl:List Int} (RZ:RowAt h Z (ints zl)) (hzl:zl.length<2^63) {gs:Nat→List Int} (R:Args2 h A m gs) {sc:Scr} {a:ScrA} (Ms:ScrM h sc a) (hq:q<2^63) :
   CallsH Tryz.prog 45 [.slice Z zl.length zc,.slice A m c,.agg (scrV sc a).toArray,.slice B q d] h fun r h'=>Fr (fun _=>False) h h'∧∃ b:Bool,r=.bool b∧(b=true→∃ zs,Smz zl zs m q gs sc):=by
 have hms:=R.small
 have l1:=Ms.lP
 have l2:=Ms.lG
 have l3:=Ms.lR
 have l4:=Ms.lD
 refine calls_of 89 [.tmp 8] Go.Proofs.Tryz.func45 rfl rfl rfl ?_
 unfold scrV
 simp -implicitDefEqProofs (disch:=omega) [go_sem]
 obtain ⟨h1,e1⟩:∃ h1,h1=h.push (.cells #[.slice a.P sc.picks.length a.pc,.slice a.G sc.signs.length a.gc,.slice a.R sc.res.length a.rc,.slice a.D sc.red.length a.dc,.int .i64 sc.steps] 56):=⟨_,rfl⟩
 have f1:Fr (fun _=>False) h h1:=by rw [e1]; exact (Fr.refl _ _).push
 have V1:ListB h1 h.size [.slice a.P sc.picks.length a.pc,.slice a.G sc.signs.length a.gc,.slice a.R sc.res.length a.rc,.slice a.D sc.red.length a.dc,.int .i64 sc.steps]:=by rw [e1]; exact ListB.new
 have b0:=V1.at' 0 _ rfl
 have b1:=V1.at' 1 _ rfl
 have b2:=V1.at' 2 _ rfl
 have b3:=V1.at' 3 _ rfl
 by_cases g1:4<zl.length
 · have g1':(4:Int)<zl.length:=by omega
   simp -implicitDefEqProofs (disch:=omega) [go_sem,g1']
   exact (Fr.refl _ _).push
 have g1':¬ (4:Int)<zl.length:=by omega
 by_cases g3:16<m
 · have g3':(16:Int)<m:=by omega
   simp -implicitDefEqProofs (disch:=omega) [go_sem,g1',g3']
   exact (Fr.refl _ _).push
 have g3':¬ (16:Int)<m:=by omega
 by_cases g4:6<q
 · have g4':(6:Int)<q:=by omega
   simp -implicitDefEqProofs (disch:=omega) [go_sem,g1',g3',g4']
   exact (Fr.refl _ _).push
 have g4':¬ (6:Int)<q:=by omega
 by_cases g5:20<sc.picks.length
 · have g5':(20:Int)<sc.picks.length:=by omega
   simp -implicitDefEqProofs (disch:=omega) [go_sem,g1',g3',g4',g5',← e1,b0]
   exact f1
 have g5':¬ (20:Int)<sc.picks.length:=by omega
 by_cases g6:20<sc.signs.length
 · have g6':(20:Int)<sc.signs.length:=by omega
   simp -implicitDefEqProofs (disch:=omega) [go_sem,g1',g3',g4',g5',g6',← e1,b0,b1]
   exact f1
 have g6':¬ (20:Int)<sc.signs.length:=by omega
 by_cases g7:20<sc.res.length
 · have g7':(20:Int)<sc.res.length:=by omega
   simp -implicitDefEqProofs (disch:=omega) [go_sem,g1',g3',g4',g5',g6',g7',← e1,b0,b1,b2]
   exact f1
 have g7':¬ (20:Int)<sc.res.length:=by omega
 by_cases g8:20<sc.red.length
 · have g8':(20:Int)<sc.red.length:=by omega
   simp -implicitDefEqProofs (disch:=omega) [go_sem,g1',g3',g4',g5',g6',g7',g8',← e1,b0,b1,b2,b3]
   exact f1
 have g8':¬ (20:Int)<sc.red.length:=by omega
 simp -implicitDefEqProofs (disch:=omega) [go_sem,g1',g3',g4',g5',g6',g7',g8',← e1,b0,b1,b2,b3]
 have R1:=R.fr f1
 have RZ1:=RZ.fr0 f1
 refine loopK (fun ρ h'=>(ρ 0=.slice Z zl.length zc∧ρ 1=.slice A m c∧h'=h1)∧∃ (i:Nat) (zs:List Nat),ρ 10=.int .i64 i∧i≤zl.length∧zl.take i=nts zs∧(∀ z∈zs,z≤4)∧ρ 9=.int .i64 (dbl zs:Nat)) (fun ρ _=>zl.length-(intOf (ρ 10)).toNat) (by kernel_rfl) ?_ ?_
 · exact ⟨⟨rfl,rfl,e1.symm⟩,0,[],rfl,Nat.zero_le _,rfl,fun z hz=>(nomatch hz),rfl⟩
 · rintro ρ h' ⟨⟨r0,r1,rfl⟩,i,zs,r10,hi,htk,hz4,r9⟩
   have hzl:zs.length=i:=by have:=congrArg List.length htk; rw [nts_len,List.length_take] at this; omega
   have hdl:=dbl_le hz4
   by_cases hin:i<zl.length
   · obtain ⟨x,hx⟩:=some_at hin
     obtain ⟨bk,off,rfl,hc⟩:=RZ1.get (by rw [ints_len]; omega)
     have c0:=hc _ _ (ints_at hx)
     by_cases hx0:x<0
     · simp -implicitDefEqProofs (disch:=omega) [go_sem,r0,r1,r9,r10,c0,hx0]
       exact f1
     · by_cases hx4:4<x
       · simp -implicitDefEqProofs (disch:=omega) [go_sem,r0,r1,r9,r10,c0,hx0,hx4]
         exact f1
       · obtain ⟨z,rfl⟩:∃ z:Nat,x=z:=⟨x.toNat,by omega⟩
         have en:(dbl zs:Nat)+2*(z:Int)+1=((dbl (zs++[z]):Nat):Int):=by rw [dbl_snoc]; push_cast; omega
         simp -implicitDefEqProofs (disch:=omega) [go_sem,r0,r1,r9,r10,c0,hx0,hx4,en]
         refine ⟨⟨i+1,by omega,by omega,zs++[z],?_,fun y hy=>?_,rfl⟩,by omega⟩
         · rw [List.take_add_one,hx,htk]; simp [nts]
         · rcases List.mem_append.1 hy with h | h
           · exact hz4 y h
           · rw [List.mem_singleton] at h; omega
   · obtain rfl:i=zl.length:=by omega
     rw [List.take_length] at htk
     simp -implicitDefEqProofs (disch:=omega) [go_sem,r0,r1,r9,r10]
     have hgo:h'.size≤h'.size:=Nat.le_refl _
     refine loopK (fun ρ h2=>(ρ 1=.slice A m c∧ρ 9=.int .i64 (dbl zs:Nat)∧h2=h')∧∃ i:Nat,ρ 11=.int .i64 i∧i≤m∧∀ j,j<i→(gs j).length≤6) (fun ρ _=>m-(intOf (ρ 11)).toNat) (by kernel_rfl) ?_ ?_
     · exact ⟨⟨r1,r9,rfl⟩,0,rfl,Nat.zero_le _,fun j h=>absurd h (Nat.not_lt_zero _)⟩
     · clear r0 r1 r9 r10 hgo
       rintro ρ h2 ⟨⟨r1,r9,rfl⟩,i,r11,hi,hj⟩
       by_cases hin:i<m
       · obtain ⟨bk,off,B',cB,rfl,e0,RB,hBl,hBr⟩:=R1.at' i hin
         by_cases hlen:6<(gs i).length
         · have hl':(6:Int)<(gs i).length:=by omega
           simp -implicitDefEqProofs (disch:=omega) [go_sem,r1,r9,r11,e0,hl']
           exact f1
         · have hl':¬ (6:Int)<(gs i).length:=by omega
           simp -implicitDefEqProofs (disch:=omega) [go_sem,r1,r9,r11,e0,hl']
           refine ⟨⟨i+1,by omega,by omega,fun j hj2=>?_⟩,by omega⟩
           by_cases e:j=i
           · subst e; omega
           · exact hj j (by omega)
       · obtain rfl:i=m:=by omega
         simp -implicitDefEqProofs (disch:=omega) [go_sem,r1,r9,r11]
         have hw:=wsum_dbl (l:=zs)
         exact ⟨f1,fun hle=>⟨zs,htk,⟨by omega,hz4⟩,by omega,by omega,by omega,by omega,by omega,by omega,by omega,hj⟩⟩
end
theorem csOf_len {gs:Nat→List Int} {m:Nat}:(csOf gs m).length=m:=by simp [csOf]
section
variable {h:Heap} {zs:List Nat} {Z A B:Option Addr} {zc m c q d:Nat} {gs:Nat→List Int} {am:List Int}
theorem right25_ok {h0:Heap} (F:Few zs) (RZ:RowAt h Z (ints (nts zs))) (R:Args2 h0 A m gs) (f:Fr (fun _=>False) h0 h) (RA:RowAt h B (ints am)) (hq:q=am.length) (hs:q<2^40) (hr:∀ x∈am,-9223372036854775808≤x∧x≤9223372036854775807) (hm:m<2^40) (hl:∀ i,i<m→(gs i).length<2^40) :
   CallsH Tryz.prog 47 [.slice Z zs.length zc,.slice A m c,.slice B q d] h fun r h'=>Fr (fun _=>False) h h'∧∃ b:Bool,r=.bool b∧(b=true↔(∀ i,i<m→goodC (wsum zs) (gs i)=true)∧goodC (wsum zs) am=true):=by
 have hsum:=F.sum
 refine calls_of 28 [.tmp 6] Go.Proofs.Tryz.func47 rfl rfl rfl ?_
 simp -implicitDefEqProofs (disch:=omega) [go_sem]
 refine useC (all13_ok F RZ) ?_
 rintro _ h2 ⟨f2,X,xc,rfl,SX,ownX⟩
 simp -implicitDefEqProofs (disch:=omega) [go_sem]
 refine loopK (fun ρ h'=>(ρ 1=.slice A m c∧ρ 2=.slice B q d∧ρ 7=.int .i64 (wsum zs:Nat)∧h'=h2)∧∃ i:Nat,ρ 8=.int .i64 i∧i≤m∧∀ j,j<i→goodC (wsum zs) (gs j)=true) (fun ρ _=>m-(intOf (ρ 8)).toNat) (by kernel_rfl) ?_ ?_
 · exact ⟨⟨rfl,rfl,rfl,rfl⟩,0,rfl,Nat.zero_le _,fun j h=>absurd h (Nat.not_lt_zero _)⟩
 · rintro ρ h' ⟨⟨r1,r2,r7,rfl⟩,i,r8,hi,hj⟩
   by_cases hin:i<m
   · obtain ⟨bk,off,B',cB,rfl,e0,RB,hBl,hBr⟩:=(R.fr (f.trans f2)).at' i hin
     have hli:=hl i hin
     simp -implicitDefEqProofs (disch:=omega) [go_sem,r1,r2,r7,r8,e0]
     refine useC (rgood12_ok RB rfl (by omega) (vars:=wsum zs) (by omega) hBr) ?_
     rintro _ h3 ⟨rfl,rfl⟩
     cases hg:goodC (wsum zs) (gs i) with
     | false =>
       simp -implicitDefEqProofs (disch:=omega) [go_sem,r1,r2,r7,r8]
       exact ⟨f2,fun hall=>by have:=hall i hin; rw [hg] at this; cases this⟩
     | true =>
       simp -implicitDefEqProofs (disch:=omega) [go_sem,r1,r2,r7,r8]
       refine ⟨⟨i+1,by omega,by omega,fun j hj2=>?_⟩,by omega⟩
       by_cases e:j=i
       · subst e; exact hg
       · exact hj j (by omega)
   · obtain rfl:i=m:=by omega
     simp -implicitDefEqProofs (disch:=omega) [go_sem,r1,r2,r7,r8]
     refine useC (rgood12_ok (RA.fr0 f2) hq hs (vars:=wsum zs) (by omega) hr) ?_
     rintro _ h3 ⟨rfl,rfl⟩
     simp -implicitDefEqProofs (disch:=omega) [go_sem]
     exact ⟨f2,fun _=>hj⟩
end
section
variable {h:Heap} {zs:List Nat} {Z A B:Option Addr} {zc m c q d:Nat} {Ks:List (List Int)} {am:List Int}
end
theorem filter_le {α:Type} {p q:α→Bool} (hq:∀ x,q x=true→p x=true) (l:List α):(l.filter q).length≤(l.filter p).length:=by
 induction l with
 | nil=>simp
 | cons a l ih =>
   rw [List.filter_cons,List.filter_cons]
   by_cases h1:q a=true
   · rw [if_pos h1,if_pos (hq a h1)]; simp; exact ih
   · rw [if_neg h1]
     split
     · simp; omega
     · exact ih
theorem cnt_ex {K:List (List Int)} (H:KSem [2] [[1],[-2]] K):cntM 4 K≤4:=by
 classical
 have h4:((allB 4).filter fun bs=>decide (0<truB bs 1)&&decide (0<truB bs (-2))).length=4:=by decide
 unfold cntM
 have hh:∀ bs∈allB 4,bs.length=4:=by decide
 have e:(allB 4).filter (fun bs=>decide (∀ k∈K,SatM (MB bs) k))=(allB 4).filter fun bs=>decide (bs.length=4)&&decide (∀ k∈K,SatM (MB bs) k):=by
  refine List.filter_congr fun bs hb=>?_
  rw [decide_eq_true (hh bs hb),Bool.true_and]
 rw [e,← h4]
 refine filter_le (fun bs hb=>?_) _
 rw [Bool.and_eq_true,decide_eq_true_eq,decide_eq_true_eq] at hb
 have h1:=H.to _ (MB_mdl bs) hb.2
 have k1:=(MB_of (bs:=bs) (k:=[1]) fun x hx=>by rw [List.mem_singleton] at hx; rw [hx,hb.1]; decide).1 (h1 [1] (by simp))
 have k2:=(MB_of (bs:=bs) (k:=[-2]) fun x hx=>by rw [List.mem_singleton] at hx; rw [hx,hb.1]; decide).1 (h1 [-2] (by simp))
 simp only [holdB,List.any_cons,List.any_nil,Bool.or_false] at k1 k2
 rw [k1,k2]; rfl
theorem ch_ex {ch:List Int} (V:ValC [2] ch) (hs:∀ C∈[[1],[-2]],SatM (MB (tru [2] ch)) C):ch=[1]:=by
 have hl:ch.length=1:=V.len
 match ch,hl with
 | [r],_ =>
   have hv:=V.at' 0 2 r rfl rfl
   obtain ⟨x,hx,h1⟩:=hs [1] (by simp)
   obtain ⟨y,hy,h2⟩:=hs [-2] (by simp)
   rw [List.mem_singleton] at hx hy
   subst hx hy
   have e1:=(MB_tru (by decide)).1 h1
   have e2:=(MB_tru (by decide)).1 h2
   have a1:litA [2] 1 r=decide (0≤r):=by show (decide (0≤r)==true)=_; simp
   have a2:litA [2] (-2) r=!decide (r≤0):=by show (decide (r≤((0:Nat):Int))==false)=_; simp
   rw [show ([r]:List Int).getD (litAt [2] 1).p 0=r from rfl,a1] at e1
   rw [show ([r]:List Int).getD (litAt [2] (-2)).p 0=r from rfl,a2] at e2
   have g1:=of_decide_eq_true e1
   have g2:¬ r≤0:=by simpa using e2
   have:r=1:=by omega
   rw [this]
theorem val_ex:ValC [2] [1]:=⟨rfl,fun p z r hz hr=>by
 match p,hz,hr with
 | 0,hz,hr=>cases hz; cases hr; omega
 | p+1,hz,hr=>simp at hz⟩
theorem sat_ex:∀ C∈[[1],[-2]],SatM (MB (tru [2] [1])) C:=fun C hC=>by
 rcases List.mem_cons.1 hC with rfl | hC
 · exact ⟨1,by simp,(MB_tru (by decide)).2 (by decide)⟩
 · rw [List.mem_singleton] at hC
   subst hC
   exact ⟨-2,by simp,(MB_tru (by decide)).2 (by decide)⟩
section
variable {h:Heap}
theorem awake25:CallsH Tryz.prog 44 [] h fun r h'=>r=.bool true∧Fr (fun _=>False) h h':=by
 refine calls_of 37 [.tmp 0] Go.Proofs.Tryz.func44 rfl rfl rfl ?_
 simp -implicitDefEqProofs (disch:=omega) [go_sem]
 refine build1 rfl rfl ?_
 obtain ⟨h1,e1⟩:∃ h1,h1=h.push (.cells #[.int .i64 2] 3):=⟨_,rfl⟩
 have f1:Fr (fun _=>False) h h1:=by rw [e1]; exact (Fr.refl _ _).push
 have V1:ListB h1 h.size [.int .i64 2]:=by rw [e1]; exact ListB.new
 rw [← e1]
 simp -implicitDefEqProofs (disch:=omega) [go_sem]
 refine build1 rfl rfl ?_
 obtain ⟨h2,e2⟩:∃ h2,h2=h1.push (.cells #[.int .i64 1] 3):=⟨_,rfl⟩
 have f2:Fr (fun _=>False) h1 h2:=by rw [e2]; exact (Fr.refl _ _).push
 have V2:ListB h2 h1.size [.int .i64 1]:=by rw [e2]; exact ListB.new
 rw [← e2]
 simp -implicitDefEqProofs (disch:=omega) [go_sem]
 refine build1 rfl rfl ?_
 obtain ⟨h3,e3⟩:∃ h3,h3=h2.push (.cells #[.int .i64 (-2)] 3):=⟨_,rfl⟩
 have f3:Fr (fun _=>False) h2 h3:=by rw [e3]; exact (Fr.refl _ _).push
 have V3:ListB h3 h2.size [.int .i64 (-2)]:=by rw [e3]; exact ListB.new
 rw [← e3]
 simp -implicitDefEqProofs (disch:=omega) [go_sem]
 refine build2s ?_
 obtain ⟨h4,e4⟩:∃ h4,h4=h3.push (.cells #[.slice (some ⟨h1.size,0,none⟩) 1 1,.slice (some ⟨h2.size,0,none⟩) 1 1] 23):=⟨_,rfl⟩
 have f4:Fr (fun _=>False) h3 h4:=by rw [e4]; exact (Fr.refl _ _).push
 have V4:ListB h4 h3.size [.slice (some ⟨h1.size,0,none⟩) 1 1,.slice (some ⟨h2.size,0,none⟩) 1 1]:=by rw [e4]; exact ListB.new
 rw [← e4]
 simp -implicitDefEqProofs (disch:=omega) [go_sem]
 have f04:=((f1.trans f2).trans f3).trans f4
 have W1:=V1.fr ((f2.trans f3).trans f4) fun h=>h
 have W2:=V2.fr (f3.trans f4) fun h=>h
 have W3:=V3.fr f4 fun h=>h
 have rowOf:∀ {b:Nat} {x:Int},ListB h4 b [.int .i64 x]→RowAt h4 (some ⟨b,0,none⟩) (ints [x]):=fun {b x} W=>.inr ⟨b,0,rfl,fun i v hv=>by rw [Nat.zero_add]; exact W.at' i v hv⟩
 have F:Few [2]:=⟨by decide,by decide⟩
 have RG:Args2 h4 (some ⟨h3.size,0,none⟩) 2 (fun i=>if i=0 then [1] else [-2]):=⟨by omega,fun i hi=>by
   by_cases e:i=0
   · subst e
     exact ⟨h3.size,0,some ⟨h1.size,0,none⟩,1,rfl,V4.at' 0 _ rfl,rowOf W2,by simp,fun x hx=>by simp at hx; subst hx; omega⟩
   · obtain rfl:i=1:=by omega
     exact ⟨h3.size,0,some ⟨h2.size,0,none⟩,1,rfl,V4.at' 1 _ rfl,rowOf W3,by simp,fun x hx=>by simp at hx; subst hx; omega⟩⟩
 have hCs:csOf (fun i=>if i=0 then [1] else [-2]) 2=[[1],[-2]]:=rfl
 refine useC (lnew_ok (zs:=[2]) (c0:=1) (cA:=2) F (rowOf W1) RG (Fr.refl _ _) (by omega) fun i hi=>by split <;> simp) ?_
 rintro _ h5 ⟨f5,⟨⟨i,hi,hb⟩,_⟩ | ⟨hall,gb,c,K,rfl,IX,hlg,hln,hcs⟩⟩
 · exfalso
   match i,hi,hb with
   | 0,_,hb=>exact absurd hb (by decide)
   | 1,_,hb=>exact absurd hb (by decide)
 obtain ⟨O,I,hO'⟩:=IX (fun _=>False) fun _ h=>h.elim
 have hO:=fun y hy=>(hO' y hy).resolve_right id
 rw [hCs] at I
 simp -implicitDefEqProofs (disch:=omega) [go_sem]
 have Sc:ScrO O h5 (scr0 1000) scr0A:=⟨scr0M (by omega),fun h=>absurd rfl h,fun h=>absurd rfl h,fun h=>absurd rfl h,fun h=>absurd rfl h⟩
 have hl0:c.lg.length=0:=by rw [hlg]; rfl
 have hn0:c.ln.length=0:=by rw [hln]; rfl
 refine useC (esolve_ok (sc:=scr0 1000) (a:=scr0A) (am:=[]) (A:=none) (ac:=0) (D:=80) (M0:=4) (L1:=1000) (L2:=1000) (L3:=1000) I F Sc RowAt.nil (fun h=>absurd rfl h) rfl (by decide) (fun x hx=>(nomatch hx)) (by decide) (cnt_ex I.K) (by decide) ⟨by omega,by omega,by simp⟩ (by decide) (by decide) (by decide)) ?_
 rintro _ h6 ⟨O6,c6,pf6,K6,tot,tn,a6,I6,hz0,hz1,hz2,hz3,E⟩
 have f6:Fr (fun _=>False) h h6:=(f04.trans f5).trans' a6.fr fun y hy ho=>by have:=hO y ho; have:=f04.size; omega
 have hgood:(goodScr (scr0 1000)&&goodC (wsum [2]) [])=true:=by decide
 cases E with
 | bad hb=>rw [hgood] at hb; cases hb
 | @none CA ad cl q1 q2 q3 q4 q5 q6 q7 _ =>
   exact (q7 [1] val_ex sat_ex fun x hx=>(nomatch (q5 x hx))).elim
 | steps q1 q2 q3 q4 =>
   have q3':(tot:Int)=1000:=q3
   omega
 | @model B bc ch q1 q2 q3 q4 q5 q6 q7 =>
   obtain rfl:=ch_ex q5 q6
   simp -implicitDefEqProofs (disch:=omega) [go_sem,ext4]
   refine build1 rfl rfl ?_
   have f7:Fr (fun _=>False) h6 (h6.push (.cells #[.int .i64 1] 3)):=(Fr.refl _ _).push
   simp -implicitDefEqProofs (disch:=omega) [go_sem,ext4]
   refine useC (same12_ok (a:=[1]) (b:=[1]) (q4.row.fr0 f7) (SlAt.new (vs:=[.int .i64 1])).row rfl rfl (by decide) (by decide)) ?_
   rintro _ h8 ⟨rfl,rfl⟩
   simp -implicitDefEqProofs (disch:=omega) [go_sem,ext4]
   refine useC (evars_ok (I6.M.fr0 f7)) ?_
   rintro _ h9 ⟨rfl,rfl⟩
   have ew:((wsum [2]:Nat):Int)=4:=by decide
   simp -implicitDefEqProofs (disch:=omega) [go_sem,ext4,ew]
   exact f6.trans f7
end
theorem needN_le14 {v R:Nat} (hv:v≤14) (hR:R≤20):needN v R≤5160960:=by
 unfold needN
 have h1:(v+1)*2^v≤15*16384:=Nat.mul_le_mul (by omega) (Nat.pow_le_pow_right (n:=2) (by omega) hv)
 have h2:R*((v+1)*2^v)≤20*(15*16384):=Nat.mul_le_mul hR h1
 omega
section
variable {h:Heap}
end
theorem pw1024 {v:Nat} (hv:v≤10):1≤2^v∧2^v≤1024:=⟨Nat.one_le_two_pow,Nat.pow_le_pow_right (n:=2) (by omega) hv⟩
theorem shl_one {P:Program} {t:TypeId} {v:Nat} (hv:v≤10):cmpV P .shl t (.int .i64 1) (.int .i64 (v:Int))=some (.int .i64 ((2^v:Nat):Int)):=by
 obtain rfl | rfl | rfl | rfl | rfl | rfl | rfl | rfl | rfl | rfl | rfl:v=0∨v=1∨v=2∨v=3∨v=4∨v=5∨v=6∨v=7∨v=8∨v=9∨v=10:=by omega
 all_goals rfl
theorem bd_le10 {v R D:Nat} (hv:v≤10) (hR:R≤20) (hD:D≤20):(v+1)*(R+D+1)*3^v≤26640000:=by
 have h1:(v+1)*(R+D+1)≤11*41:=Nat.mul_le_mul (by omega) (by omega)
 have h2:3^v≤3^10:=Nat.pow_le_pow_right (by omega) hv
 exact Nat.le_trans (Nat.mul_le_mul h1 h2) (by decide)
def lbd (v R D:Nat):Nat:=(v+1)*(R+D+1)*3^v*(2^v+1)
theorem lbd_le {v R D:Nat} (hv:v≤10) (hR:R≤20) (hD:D≤20):lbd v R D≤27306000000:=by
 unfold lbd
 exact Nat.le_trans (Nat.mul_le_mul (bd_le10 hv hR hD) (Nat.add_le_add_right (pw1024 hv).2 1)) (by decide)
theorem lbound_ok {h:Heap} {sc:Scr} {a:ScrA} {v:Nat} (hv:v≤10) (hR:sc.res.length≤20) (hD:sc.red.length≤20) :
  CallsH Tryz.prog 55 [.int .i64 v,.agg (scrV sc a).toArray] h fun r h'=>r=.int .i64 (lbd v sc.res.length sc.red.length:Nat)∧Fr (fun _=>False) h h':=by
 have hm:max (v:Int) 0=(v:Int):=by omega
 obtain ⟨N,hN⟩:∃ N,N=(v+1)*(sc.res.length+sc.red.length+1):=⟨_,rfl⟩
 have hle:N*3^v≤26640000:=by rw [hN]; exact bd_le10 hv hR hD
 have hsh:=shl_one (P:=Tryz.prog) (t:=3) hv
 obtain ⟨p1,p2⟩:=pw1024 hv
 have hb:lbd v sc.res.length sc.red.length=N*3^v*(2^v+1):=by rw [hN]; rfl
 rw [hb]
 refine calls_of 26 [.tmp 4] Go.Proofs.Tryz.func55 rfl rfl rfl ?_
 unfold scrV
 simp -implicitDefEqProofs (disch:=omega) [go_sem]
 obtain ⟨h1,e1⟩:∃ h1,h1=h.push (.cells #[.slice a.P sc.picks.length a.pc,.slice a.G sc.signs.length a.gc,.slice a.R sc.res.length a.rc,.slice a.D sc.red.length a.dc,.int .i64 sc.steps] 56):=⟨_,rfl⟩
 have f1:Fr (fun _=>False) h h1:=by rw [e1]; exact (Fr.refl _ _).push
 have V1:ListB h1 h.size (scrV sc a):=by rw [e1]; exact ListB.new
 have ld1:=load5 V1
 rw [← e1]
 simp -implicitDefEqProofs (disch:=omega) [go_sem,ld1]
 refine useC (bound_ok (sc:=sc) (a:=a) (vars:=v) (N:=N) (by omega) (by omega) (by omega) hN (by omega)) ?_
 rintro _ h2 ⟨rfl,f2⟩
 obtain ⟨T,hT⟩:∃ T,T=N*3^v:=⟨_,rfl⟩
 obtain ⟨W,hW⟩:∃ W,W=2^v:=⟨_,rfl⟩
 rw [← hW] at hsh p1 p2
 rw [← hT] at hle
 rw [← hT,← hW]
 have hq:((1099511627776:Int)).tdiv ((W:Int)+1) ≥ 1000000000:=by
  rw [Int.tdiv_eq_ediv_of_nonneg (by omega)]
  exact Int.le_ediv_of_mul_le (by omega) (by omega)
 have hq2:((1099511627776:Int)).tdiv ((W:Int)+1)≤1099511627776:=by
  rw [Int.tdiv_eq_ediv_of_nonneg (by omega)]
  exact Int.ediv_le_self _ (by omega)
 obtain ⟨Q,hQ⟩:∃ Q,(1099511627776:Int).tdiv ((W:Int)+1)=Q:=⟨_,rfl⟩
 rw [hQ] at hq hq2
 have hml:T*(W+1)≤26640000*1025:=Nat.mul_le_mul hle (by omega)
 obtain ⟨U,hU⟩:∃ U,U=T*(W+1):=⟨_,rfl⟩
 have hmul:(T:Int)*((W:Int)+1)=(U:Int):=by rw [hU]; push_cast; rfl
 rw [← hU] at hml ⊢
 simp -implicitDefEqProofs (disch:=omega) [go_sem,hm,hsh,hQ,hmul]
 exact f1.trans f2
section
variable {h h':Heap} {O X:Nat→Prop} {gb:Nat} {zs:List Nat} {Cs:List (List Int)} {c:CSt} {pf:List (Int × List Int)} {K:List (List Int)} {st tn:Int}
theorem EngI.oth (I:EngI h O X gb zs Cs c pf K st tn) (f:Fr X h h'):EngI h' O X gb zs Cs c pf K st tn:=by
 obtain ⟨tb,cb,k,P,pc,vs,E⟩:=I.M.ex
 have a:ESt O O h h':=⟨fun _ h=>.inl h,f.mono fun y _ hy=>(E.XO y hy).1⟩
 exact ⟨⟨tb,cb,k,P,pc,vs,E.B.fr f fun hx=>(E.XO _ hx).2.2.1 rfl,E.C.frN f fun y hy=>(E.XO y hy).2.1,E.tab a,E.S.next a (E.S.S.fr f fun y hy hx=>(E.XO y hx).2.2.2 hy),E.kO,E.gO,E.kg,E.PO,fun y hy=>Nat.lt_of_lt_of_le (E.low y hy) f.size,E.XO⟩,I.S,I.HF,I.hv,I.P,I.K⟩
theorem EngI.fr0 (I:EngI h O X gb zs Cs c pf K st tn) (f:Fr (fun _=>False) h h'):EngI h' O X gb zs Cs c pf K st tn:=I.oth (f.mono fun _ _ h=>h.elim)
theorem EngI.shrink (I:EngI h O X gb zs Cs c pf K st tn):EngI h (fun y=>O y∧¬ X y) (fun _=>False) gb zs Cs c pf K st tn:=by
 obtain ⟨tb,cb,k,P,pc,vs,E⟩:=I.M.ex
 have hm:∀ y,y<h.size∧¬ O y→y<h.size∧¬ (O y∧¬ X y):=fun y hy=>⟨hy.1,fun ho=>hy.2 ho.1⟩
 exact ⟨⟨tb,cb,k,P,pc,vs,E.B,E.C,E.T.mono hm,⟨E.S.S,E.S.len,E.S.one,fun i kd c hi=>by
  obtain ⟨A,d,h1,h2,h3,h4⟩:=E.S.at' i kd c hi
  exact ⟨A,d,h1,h2,h3,fun y hy=>hm y (h4 y hy)⟩⟩,fun y hy=>⟨E.kO y hy,fun hx=>hy (E.XO y hx).2.1⟩,⟨E.gO,fun hx=>(E.XO _ hx).2.2.1 rfl⟩,E.kg,fun y hy=>⟨⟨(E.PO y hy).1,fun hx=>(E.XO y hx).2.2.2 hy⟩,(E.PO y hy).2⟩,fun y hy=>E.low y hy.1,fun _ h=>h.elim⟩,I.S,I.HF,I.hv,I.P,I.K⟩
end
theorem scI_good2 {sc:Scr} {x:Int} (hg:goodScr sc=true) (h0:0≤x) (h1:x≤1099511627776):goodScr (scI sc x)=true:=by
 have:goodScr (scI sc x)=((rightL sc.picks&&rightL sc.res&&rightL sc.red&&decide (sc.signs.length≤1000))&&decide (0≤x)&&decide (x≤1099511627776)):=rfl
 rw [this]
 have e:(rightL sc.picks&&rightL sc.res&&rightL sc.red&&decide (sc.signs.length≤1000))=true:=by
  unfold goodScr at hg
  rw [Bool.and_eq_true,Bool.and_eq_true] at hg
  exact hg.1.1
 rw [e,decide_eq_true h0,decide_eq_true h1]
 rfl
theorem lbd_need {v R D:Nat}:(2^v+1)*needN v R≤lbd v R D:=by
 unfold lbd
 rw [Nat.mul_comm]
 exact Nat.mul_le_mul_right _ needN_bd
section
variable {h:Heap}
end
end Xe
namespace Xe
open Go Tp Go.Proofs
set_option maxRecDepth 16000
set_option maxHeartbeats 2000000
section
variable {h:Heap} {A B:Option Addr} {n m c d:Nat} {a b l:List Int}
theorem equal_ok (RA:RowAt h A (ints a)) (RB:RowAt h B (ints b)) (hn:n=a.length) (hm:m=b.length) (hs:n<2^40) (hs2:m<2^40) :
   CallsH Tryz.prog 204 [.slice A n c,.slice B m d] h fun r h'=>r=.bool (decide (a=b))∧h'=h:=by
 subst hn hm
 refine calls_of 26 [.tmp 4] Go.Proofs.Tryz.func204 rfl rfl rfl ?_
 by_cases hl:a.length=b.length
 · have hl':(a.length:Int)=(b.length:Int):=by omega
   simp -implicitDefEqProofs (disch:=omega) [go_sem,hl']
   refine loopK (fun ρ h'=>(ρ 0=.slice A a.length c∧ρ 1=.slice B b.length d∧ρ 12=.int .i64 b.length∧h'=h)∧∃ i:Nat,ρ 13=.int .i64 i∧i≤a.length∧a.take i=b.take i)
     (fun ρ _=>a.length-(intOf (ρ 13)).toNat) (by kernel_rfl) ?_ ?_
   · exact ⟨⟨rfl,rfl,rfl,rfl⟩,0,rfl,Nat.zero_le _,rfl⟩
   · rintro ρ h' ⟨⟨r0,r1,r12,rfl⟩,i,r13,hi,ht⟩
     by_cases hin:i<a.length
     · obtain ⟨x,hx⟩:=some_at hin
       obtain ⟨y,hy⟩:=some_at (show i<b.length by omega)
       obtain ⟨bk,off,rfl,hc⟩:=RA.get (by rw [ints_len]; omega)
       obtain ⟨bk2,off2,rfl,hc2⟩:=RB.get (by rw [ints_len]; omega)
       have c0:=hc _ _ (ints_at hx)
       have c1:=hc2 _ _ (ints_at hy)
       simp -implicitDefEqProofs (disch:=omega) [go_sem,r0,r1,r12,r13]
       refine drawC [(0,0),(1,0),(2,0),(3,1),(4,0),(5,0),(6,0),(7,1),(8,0)] (Eq h') rfl ?_
       simp -implicitDefEqProofs (disch:=omega) [go_sem,r0,r1,r12,r13,c0,c1]
       by_cases e:x=y
       · simp -implicitDefEqProofs (disch:=omega) [go_sem,r0,r1,r12,r13,c0,c1,e]
         refine ⟨⟨i+1,by omega,by omega,?_⟩,by omega⟩
         rw [take_at hx,take_at hy,ht,e]
       · have hne:¬ a=b:=fun h=>by rw [h,hy] at hx; cases hx; exact e rfl
         simp -implicitDefEqProofs (disch:=omega) [go_sem,r0,r1,r12,r13,c0,c1,e,hne]
     · have he:a=b:=by
         rw [List.take_of_length_le (by omega),List.take_of_length_le (by omega)] at ht
         exact ht
       simp -implicitDefEqProofs (disch:=omega) [go_sem,r0,r1,r12,r13]
       exact he
 · have hl':¬ (a.length:Int)=(b.length:Int):=by omega
   have hne:¬ a=b:=fun h=>hl (congrArg _ h)
   simp -implicitDefEqProofs (disch:=omega) [go_sem,hl',hne]
def idxR (p:List Int→Bool) (S:List (List Int)):Int:=match S.findIdx? p with | some i=>i | none=>-1
theorem idxR_at {p:List Int→Bool} {S:List (List Int)} {i:Nat} {x:List Int} (hx:S[i]?=some x) (hp:p x=true) (hj:∀ (j:Nat) y,j<i→S[j]?=some y→p y=false):idxR p S=i:=by
 have:S.findIdx? p=some i:=by
  rw [List.findIdx?_eq_some_iff_getElem]
  obtain ⟨h1,h2⟩:=List.getElem?_eq_some_iff.1 hx
  exact ⟨h1,by rw [h2]; exact hp,fun j hji=>by rw [hj j _ hji (List.getElem?_eq_getElem (by omega))]; simp⟩
 unfold idxR; rw [this]
theorem idxR_no {p:List Int→Bool} {S:List (List Int)} (hj:∀ (j:Nat) y,S[j]?=some y→p y=false):idxR p S=-1:=by
 have:S.findIdx? p=none:=by
  rw [List.findIdx?_eq_none_iff]
  intro x hx
  obtain ⟨j,hj'⟩:=List.getElem?_of_mem hx
  exact hj j x hj'
 unfold idxR; rw [this]
theorem indexFuncR_ok {S:List (List Int)} {P:Option Addr} {pc fn:Nat} {cs:List Value} (R:RowsA h P S) (hn:n=S.length) (hs:n<2^40) (p:List Int→Bool)
   (hf:∀ x∈S,∀ B d,RowAt h B (ints x)→CallsH Tryz.prog fn ([.slice B x.length d]++cs) h fun r h'=>r=.bool (p x)∧h'=h) :
   CallsH Tryz.prog 125 [.slice P n pc,.func (.func fn) #[] cs.toArray] h fun r h'=>r=.int .i64 (idxR p S)∧h'=h:=by
 subst hn
 refine calls_of 19 [.tmp 4] Go.Proofs.Tryz.func125 rfl rfl rfl ?_
 simp -implicitDefEqProofs (disch:=omega) [go_sem]
 refine loopK (fun ρ h'=>ρ 0=.slice P S.length pc∧ρ 1=.func (.func fn) #[] cs.toArray∧ρ 7=.int .i64 S.length∧h'=h∧∃ i:Nat,ρ 8=.int .i64 i∧i≤S.length∧∀ (j:Nat) y,j<i→S[j]?=some y→p y=false)
   (fun ρ _=>S.length-(intOf (ρ 8)).toNat) (by kernel_rfl) ?_ ?_
 · exact ⟨rfl,rfl,rfl,rfl,0,rfl,by omega,fun j y hj=>by omega⟩
 · rintro ρ h' ⟨r0,r1,r7,rfl,i,r8,hi,hj⟩
   by_cases hin:i<S.length
   · obtain ⟨x,hx⟩:∃ x,S[i]?=some x:=⟨_,List.getElem?_eq_getElem hin⟩
     obtain ⟨bk,off,B',c',rfl,c0,RB⟩:=R i x hx
     simp -implicitDefEqProofs (disch:=omega) [go_sem,r0,r1,r7,r8,c0]
     refine useC (hf x (List.mem_of_getElem? hx) _ _ RB) ?_
     rintro _ h2 ⟨rfl,rfl⟩
     cases hp:p x with
     | true =>
       have e:=idxR_at hx hp hj
       simp -implicitDefEqProofs (disch:=omega) [go_sem,r0,r1,r7,r8,e]
     | false =>
       simp -implicitDefEqProofs (disch:=omega) [go_sem,r0,r1,r7,r8]
       refine ⟨⟨i+1,by omega,by omega,fun j y hj2 hy=>?_⟩,by omega⟩
       by_cases ej:j=i
       · subst ej; rw [hx] at hy; cases hy; exact hp
       · exact hj j y (by omega) hy
   · have e:idxR p S=-1:=idxR_no fun j y hy=>hj j y (by have:=(List.getElem?_eq_some_iff.1 hy).1; omega) hy
     simp -implicitDefEqProofs (disch:=omega) [go_sem,r0,r1,r7,r8,e]
def RclR (l:List Int) (r:Value) (h h':Heap):Prop:=(∃ o,CleanR l o∧match o with
 | none=>r=.tuple #[.slice none 0 0,.bool false]
 | some L=>∃ A' c',r=.tuple #[.slice A' L.length c',.bool true]∧SlAt h' A' c' (ints L)∧∀ y,blk A' y→h.size≤y)∧Fr (fun _=>False) h h'
theorem rclean_ok (R:RowAt h A (ints l)) (hn:n=l.length) (hs:n<2^40) (hg:∀ x∈l,1≤x.natAbs∧x.natAbs≤16777216) :
   CallsH Tryz.prog 147 [.slice A n c] h fun r h'=>RclR l r h h':=by
 have hr:∀ x∈l,-9223372036854775808≤x∧x≤9223372036854775807:=fun x hx=>by have:=hg x hx; omega
 refine calls_of 17 [.tmp 2,.tmp 3] Go.Proofs.Tryz.func147 rfl rfl rfl ?_
 simp -implicitDefEqProofs (disch:=omega) [go_sem]
 refine useC (cgood_ok (vars:=16777216) R hn hs (by omega) hr) ?_
 rintro _ h1 ⟨rfl,f1⟩
 rw [good_of (vars:=16777216) hg]
 simp -implicitDefEqProofs (disch:=omega) [go_sem]
 refine useC (cleanG_ok (R.fr0 f1) hn hs hr) ?_
 rintro _ h2 ⟨⟨o,ho,hm⟩,f2⟩
 cases o with
 | none =>
   obtain rfl:=hm
   simp -implicitDefEqProofs (disch:=omega) [go_sem]
   exact ⟨⟨none,ho,rfl⟩,f1.trans f2⟩
 | some L =>
   obtain ⟨A',c',rfl,S,own⟩:=hm
   simp -implicitDefEqProofs (disch:=omega) [go_sem]
   exact ⟨⟨some L,ho,A',c',rfl,S,fun y hy=>Nat.le_trans f1.size (own y hy)⟩,f1.trans f2⟩
end
structure StM (h:Heap) (N sb:Nat) (S:List (List Int)):Prop where
 ex:∃ P pc vs,ListB h sb [.slice P S.length pc]∧SlAt h P pc vs∧vs.length=S.length∧(∀ w∈vs,w.oneCell'=true)∧N≤sb∧(∀ y,blk P y→N≤y∧y≠sb) ∧
  ∀ (i:Nat) k,S[i]?=some k→∃ B c,vs[i]?=some (Value.slice B k.length c)∧RowAt h B (ints k)∧∀ y,blk B y→y<h.size∧y≠sb∧¬ blk P y
section
variable {h h':Heap} {N sb:Nat} {S:List (List Int)}
theorem StM.fr0 (M:StM h N sb S) (f:Fr (fun _=>False) h h'):StM h' N sb S:=by
 obtain ⟨P,pc,vs,B,SP,e1,e2,e3,e4,e5⟩:=M.ex
 refine ⟨P,pc,vs,B.fr f fun h=>h,SP.fr f fun _ _ h=>h,e1,e2,e3,e4,fun i k hk=>?_⟩
 obtain ⟨D,c,g1,g2,g3⟩:=e5 i k hk
 exact ⟨D,c,g1,g2.fr0 f,fun y hy=>⟨Nat.lt_of_lt_of_le (g3 y hy).1 f.size,(g3 y hy).2⟩⟩
theorem StM.rows (M:StM h N sb S):∃ P pc,ListB h sb [.slice P S.length pc]∧RowsA h P S:=by
 obtain ⟨P,pc,vs,B,SP,e1,e2,e3,e4,e5⟩:=M.ex
 refine ⟨P,pc,B,fun i k hk=>?_⟩
 obtain ⟨D,c,g1,g2,g3⟩:=e5 i k hk
 have hi:=(List.getElem?_eq_some_iff.1 g1).1
 obtain ⟨bk,off,rfl,hc⟩:=SP.row.get (by omega)
 exact ⟨bk,off,D,c,rfl,hc _ _ g1,g2⟩
def RadR (N sb:Nat) (S:List (List Int)) (l:List Int) (r:Value) (h h':Heap):Prop:=Fr (fun y=>N≤y) h h' ∧
 ((CleanR l none∧r=.bool false∧StM h' N sb S)∨∃ L,CleanR l (some L)∧r=.bool true∧StM h' N sb (S++[L]))
theorem radd_ok {A:Option Addr} {n c:Nat} {l:List Int} (M:StM h N sb S) (R:RowAt h A (ints l)) (hn:n=l.length) (hs:n<2^40) (hg:∀ x∈l,1≤x.natAbs∧x.natAbs≤16777216) (hS:S.length<2^40) :
   CallsH Tryz.prog 103 [.pointer (some ⟨sb,0,none⟩),.slice A n c] h fun r h'=>RadR N sb S l r h h':=by
 obtain ⟨P,pc,vs,B0,SP0,e1,e2,e3,e4,e5⟩:=M.ex
 have hsb:=B0.lt
 refine calls_of 23 [.tmp 4] Go.Proofs.Tryz.func103 rfl rfl rfl ?_
 simp -implicitDefEqProofs (disch:=omega) [go_sem]
 refine useC (rclean_ok R hn hs hg) ?_
 rintro _ h1 ⟨⟨o,ho,hm⟩,f1⟩
 have M1:=M.fr0 f1
 cases o with
 | none =>
   obtain rfl:=hm
   simp -implicitDefEqProofs (disch:=omega) [go_sem]
   exact ⟨f1.mono fun _ _ h=>h.elim,.inl ⟨ho,rfl,M1⟩⟩
 | some L =>
   obtain ⟨A',c',rfl,SL,own⟩:=hm
   have B:=B0.fr f1 fun h=>h
   have SP:=SP0.fr f1 fun _ _ h=>h
   have b0:=B.at' 0 _ rfl
   simp -implicitDefEqProofs (disch:=omega) [go_sem,b0]
   refine buildB rfl rfl ?_
   intro Q h2 SQ hQ f2
   simp -implicitDefEqProofs (disch:=omega) [go_sem]
   refine appendB (vs:=vs) (ws:=[.slice A' L.length c']) (SP.fr f2 fun _ _ h=>h) e1.symm SQ.row rfl (by simp [Value.oneCell']) (by omega) (by omega) ?_
   intro P3 pc3 h3 S3 f3 hP3
   have B3:=(B.fr f2 fun h=>h).fr f3 fun hb=>(e4 _ hb).2 rfl
   have b3:=B3.at' 0 _ rfl
   have fz:=B3.fz
   simp -implicitDefEqProofs (disch:=omega) [go_sem,b3,fz]
   obtain ⟨h4,e4'⟩:∃ h4,h4=hset h3 ⟨sb,0,none⟩ (.slice P3 (S.length+1) pc3):=⟨_,rfl⟩
   have f4:Fr (fun y=>y=sb) h3 h4:=by rw [e4']; exact (Fr.refl _ _).set rfl
   have B4:ListB h4 sb [.slice P3 (S++[L]).length pc3]:=by
     rw [e4',List.length_append]
     exact B3.set (i:=0) (.slice P3 (S.length+1) pc3) (by simp)
   rw [← e4']
   have z1:=f1.size
   have z2:=f2.size
   have z3:=f3.size
   have hP3':∀ y,blk P3 y→N≤y∧y≠sb:=fun y hy=>(hP3 y hy).elim (e4 y) fun hh=>by omega
   have hA':∀ y,blk A' y→y<h4.size∧y≠sb∧¬ blk P3 y:=fun y hy=>by
     have h1:=own y hy
     have h2:=SL.blk_lt hy
     refine ⟨by have:=f4.size; omega,by omega,fun hb=>(hP3 y hb).elim (fun hp=>?_) fun hh=>by omega⟩
     have:=SP0.blk_lt hp; omega
   refine ⟨?_,.inr ⟨L,ho,rfl,P3,pc3,_,B4,S3.fr f4 fun y hy e=>(hP3' y hy).2 e,?_,?_,e3,hP3',fun i k hk=>?_⟩⟩
   · exact ((f1.mono fun _ _ h=>h.elim).trans (f2.mono fun _ _ h=>h.elim)).trans ((f3.mono fun y _ hy=>(e4 y hy).1).trans (f4.mono fun y _ hy=>by omega))
   · rw [List.length_append,List.length_append,e1]; rfl
   · intro w hw
     rcases List.mem_append.1 hw with hw | hw
     · exact e2 w hw
     · rw [List.mem_singleton] at hw; rw [hw]; rfl
   · by_cases hi:i<S.length
     · rw [List.getElem?_append_left hi] at hk
       obtain ⟨D,d,g1,g2,g3⟩:=e5 i k hk
       refine ⟨D,d,by rw [List.getElem?_append_left (by omega)]; exact g1,(((g2.fr0 f1).fr0 f2).fr f3 fun y hy=>(g3 y hy).2.2).fr f4 fun y hy=>(g3 y hy).2.1,fun y hy=>⟨by have:=(g3 y hy).1; have:=f4.size; omega,(g3 y hy).2.1,fun hb=>(hP3 y hb).elim (g3 y hy).2.2 fun hh=>by have:=(g3 y hy).1; omega⟩⟩
     · have hlt:=(List.getElem?_eq_some_iff.1 hk).1
       rw [List.length_append,List.length_singleton] at hlt
       obtain rfl:i=S.length:=by omega
       rw [List.getElem?_append_right (Nat.le_refl _),Nat.sub_self] at hk
       cases hk
       exact ⟨A',c',by rw [List.getElem?_append_right (by omega),e1,Nat.sub_self]; rfl,((SL.row.fr0 f2).fr f3 fun y hy hb=>by have:=own y hy; have:=SP0.blk_lt hb; omega).fr f4 fun y hy=>(hA' y hy).2.1,hA'⟩
end
end Xe
