/- Package atoms: a table, made. -/
import Derived.Test.YtkghjecglmmloaaGreatA1
import Derived.Test.YtkghjecglmmloaaGreatL5
namespace Xe
open Go Tp Go.Proofs Hq
set_option maxRecDepth 16000
set_option maxHeartbeats 4000000
def nts (zs:List Nat):List Int:=zs.map fun z:Nat=>(z:Int)
theorem nts_len {zs:List Nat}:(nts zs).length=zs.length:=by simp [nts]
theorem nts_at {zs:List Nat} {p z:Nat} (h:zs[p]?=some z):(nts zs)[p]?=some (z:Int):=by simp [nts,h]
structure TabM (h:Heap) (T:Nat→Prop) (tb:Nat) (zs:List Nat):Prop where
 ex:∃ A1 c1 A2 c2,ListB h tb [.slice A1 zs.length c1,.slice A2 zs.length c2,.int .i64 (wsum zs:Nat)]∧RowAt h A1 (ints (begs zs 1))∧RowAt h A2 (ints (nts zs))∧T tb∧(∀ y,blk A1 y→T y)∧∀ y,blk A2 y→T y
theorem TabM.fr {h h':Heap} {T:Nat→Prop} {tb:Nat} {zs:List Nat} (M:TabM h T tb zs) {S:Nat→Prop} (f:Fr S h h') (hs:∀ y,T y→¬ S y):TabM h' T tb zs:=by
 obtain ⟨A1,c1,A2,c2,B,R1,R2,t0,t1,t2⟩:=M.ex
 exact ⟨A1,c1,A2,c2,B.fr f (hs _ t0),R1.fr f fun y hy=>hs y (t1 y hy),R2.fr f fun y hy=>hs y (t2 y hy),t0,t1,t2⟩
theorem TabM.fr0 {h h':Heap} {T:Nat→Prop} {tb:Nat} {zs:List Nat} (M:TabM h T tb zs) (f:Fr (fun _=>False) h h'):TabM h' T tb zs:=M.fr f fun _ _ h=>h
theorem TabM.mono {h:Heap} {T T':Nat→Prop} {tb:Nat} {zs:List Nat} (M:TabM h T tb zs) (hT:∀ y,T y→T' y):TabM h T' tb zs:=by
 obtain ⟨A1,c1,A2,c2,B,R1,R2,t0,t1,t2⟩:=M.ex
 exact ⟨A1,c1,A2,c2,B,R1,R2,hT _ t0,fun y hy=>hT y (t1 y hy),fun y hy=>hT y (t2 y hy)⟩
theorem width_ok {h:Heap} {z:Nat} (hz:z≤16777216):CallsH Tryz.prog 143 [.int .i64 z] h fun r h'=>r=.int .i64 (wid z:Nat)∧h'=h:=by
 have hm:max ((z:Int)-1) 0=((z-1:Nat):Int):=by omega
 have e:1+(z:Int)+((z-1:Nat):Int)=(wid z:Nat):=by unfold wid; omega
 refine calls_of 9 [.tmp 2] Go.Proofs.Tryz.func143 rfl rfl rfl ?_
 simp -implicitDefEqProofs (disch:=omega) [go_sem,hm,e]
structure TnJ (h0:Heap) (A:Option Addr) (c tb:Nat) (zs:List Nat) (ρ:Env) (h:Heap):Prop where
 r13:ρ 13=.slice A zs.length c
 r14:ρ 14=.int .i64 zs.length
 r3:ρ 3=.pointer (some ⟨tb,0,none⟩)
 fr:Fr (fun _=>False) h0 h
 htb:h0.size≤tb
 ex:∃ (i:Nat) (B:Option Addr) (bc:Nat) (S:Option Addr) (sc:Nat),ρ 15=.int .i64 i∧i≤zs.length∧ListB h tb [.slice B i bc,.slice S zs.length sc,.int .i64 (wsum (zs.take i):Nat)]∧SlAt h B bc (ints (begs (zs.take i) 1))∧RowAt h S (ints (nts zs)) ∧
  (∀ y,blk B y→h0.size≤y∧y≠tb)∧∀ y,blk S y→h0.size≤y∧y≠tb∧¬ blk B y∧y<h.size
theorem anew_ok {h:Heap} {A:Option Addr} {c:Nat} {zs:List Nat} (F:Few zs) (R:RowAt h A (ints (nts zs))) :
   CallsH Tryz.prog 94 [.slice A zs.length c] h fun r h'=>Fr (fun _=>False) h h'∧∃ tb,r=.pointer (some ⟨tb,0,none⟩)∧TabM h' (fun y=>h.size≤y∧y<h'.size) tb zs:=by
 have hl:=F.len
 refine calls_of 60 [.tmp 2] Go.Proofs.Tryz.func94 rfl rfl rfl ?_
 simp -implicitDefEqProofs (disch:=omega) [go_sem]
 refine useC (clone_ok R (by rw [ints_len,nts_len]) ints_one (by omega)) ?_
 rintro _ h1 ⟨S,sc,rfl,SS,ownS,f1⟩
 simp -implicitDefEqProofs (disch:=omega) [go_sem]
 obtain ⟨h2,e2⟩:∃ h2,h2=h1.push (.cells #[.slice none 0 0,.slice S zs.length sc,.int .i64 0] 177):=⟨_,rfl⟩
 have f2:Fr (fun _=>False) h1 h2:=by rw [e2]; exact (Fr.refl _ _).push
 have V2:ListB h2 h1.size [.slice none 0 0,.slice S zs.length sc,.int .i64 0]:=by rw [e2]; exact ListB.new
 rw [← e2]
 have z1:=f1.size
 refine loopK (TnJ h A c h1.size zs) (fun ρ _=>zs.length-(intOf (ρ 15)).toNat) (by kernel_rfl) ?_ ?_
 · exact ⟨rfl,rfl,rfl,f1.trans f2,z1,0,none,0,S,sc,rfl,Nat.zero_le _,V2,SlAt.nil _,SS.row.fr0 f2,fun y ⟨_,h,_⟩=>(nomatch h),fun y hy=>⟨ownS y hy,by have:=SS.blk_lt hy; omega,fun ⟨_,h,_⟩=>(nomatch h),by have:=SS.blk_lt hy; have:=f2.size; omega⟩⟩
 · clear V2 e2 f2 SS ownS
   clear h2
   rintro ρ h2 ⟨r13,r14,r3,f02,htb,i,B,bc,S,sc,r15,hi,V,SB,RS,hB,hS⟩
   by_cases hin:i<zs.length
   · obtain ⟨z,hz⟩:∃ z,zs[i]?=some z:=⟨_,List.getElem?_eq_getElem hin⟩
     have hz4:=F.le z (List.mem_of_getElem? hz)
     obtain ⟨bk,off,hA,hc⟩:=(R.fr0 f02).get (by rw [ints_len,nts_len]; omega)
     have c0:=hc _ _ (ints_at (nts_at hz))
     have hw:wsum (zs.take i)≤32:=Nat.le_trans wsum_take_le F.sum
     have hwz:wid z≤8:=by unfold wid; omega
     have hww:=wsum_take hz
     obtain ⟨u,hu⟩:∃ u,u=wsum (zs.take i):=⟨_,rfl⟩
     rw [← hu] at V hw hww
     have b0:=V.at' 0 _ rfl
     have b2:=V.at' 2 _ rfl
     subst hA
     simp -implicitDefEqProofs (disch:=omega) [go_sem,r3,r13,r14,r15,c0]
     refine drawC [(0,0),(1,0),(2,0),(3,0),(4,0),(5,0),(6,0),(7,0),(9,0),(10,0),(11,0),(12,2),(13,0),(8,3),(14,0),(15,0)] (fun h'=>hcell h' ⟨h1.size,2,none⟩=some (.int .i64 u)) b2 ?_
     simp -implicitDefEqProofs (disch:=omega) [go_sem,r3,r13,r14,r15]
     refine float2g (.int .i64 u) (by rfl) (fun h' hC=>by simp -implicitDefEqProofs (disch:=omega) [go_sem,r3,hC]) ?_
     simp -implicitDefEqProofs (disch:=omega) [go_sem,r3,r13,r14,r15]
     refine useC (width_ok (z:=z) (by omega)) ?_
     rintro _ h3 ⟨rfl,rfl⟩
     refine ⟨b2,?_⟩
     simp -implicitDefEqProofs (disch:=omega) [go_sem,r3,r13,r14,r15]
     refine drawC [(0,0),(1,0),(2,0),(3,0),(4,2),(5,0),(6,0),(7,0),(8,1),(9,0),(10,3),(11,3),(12,0),(13,0),(14,4)] (fun h'=>hcell h' ⟨h1.size,0,none⟩=some (.slice B i bc)) b0 ?_
     simp -implicitDefEqProofs (disch:=omega) [go_sem,r3,r13,r14,r15,b2]
     refine float2 (.slice B i bc) (fun h' hC=>by simp -implicitDefEqProofs (disch:=omega) [go_sem,r3,hC]) ?_
     simp -implicitDefEqProofs (disch:=omega) [go_sem,r3,r13,r14,r15,b2]
     refine build1 rfl rfl ?_
     have f4:Fr (fun _=>False) h3 (h3.push (.cells #[.int .i64 ((u:Int)+1)] 3)):=(Fr.refl _ _).push
     have V4:=V.fr f4 fun h=>h
     have SB4:=SB.fr f4 fun _ _ h=>h
     have RS4:=RS.fr0 f4
     have f04:=f02.trans f4
     have z4:=f4.size
     obtain ⟨h4,e4⟩:∃ h4,h4=h3.push (.cells #[.int .i64 ((u:Int)+1)] 3):=⟨_,rfl⟩
     have W4:SlAt h4 (some ⟨h3.size,0,none⟩) 1 [.int .i64 ((u:Int)+1)]:=by rw [e4]; exact SlAt.new (vs:=[.int .i64 ((u:Int)+1)])
     rw [← e4] at f4 V4 SB4 RS4 f04 z4
     rw [← e4]
     refine ⟨V4.at' 0 _ rfl,?_⟩
     simp -implicitDefEqProofs (disch:=omega) [go_sem,r3,r13,r14,r15]
     refine appendB (vs:=ints (begs (zs.take i) 1)) (ws:=[.int .i64 ((u:Int)+1)]) SB4 (by rw [ints_len,begs_len,List.length_take]; omega) W4.row rfl (by simp [Value.oneCell']) (by omega) (by omega) ?_
     intro B5 bc5 h5 S5 f5 hB5
     have nB:¬ blk B h1.size:=fun h=>(hB _ h).2 rfl
     have V5:=V4.fr f5 nB
     have RS5:RowAt h5 S (ints (nts zs)):=RS4.fr f5 fun y hy=>(hS y hy).2.2.1
     have b05:=V5.at' 0 _ rfl
     have b25:=V5.at' 2 _ rfl
     have fz5:=V5.fz
     refine ⟨b05,?_⟩
     simp -implicitDefEqProofs (disch:=omega) [go_sem,r3,r13,r14,r15,b05,fz5]
     obtain ⟨h6,e6⟩:∃ h6,h6=hset h5 ⟨h1.size,0,none⟩ (.slice B5 (i+1) bc5):=⟨_,rfl⟩
     have V6:ListB h6 h1.size [.slice B5 (i+1) bc5,.slice S zs.length sc,.int .i64 u]:=by rw [e6]; exact V5.set (i:=0) _ (by simp)
     have f56:Fr (fun y=>y=h1.size) h5 h6:=by rw [e6]; exact (Fr.refl _ _).set rfl
     rw [← e6]
     have b26:=V6.at' 2 _ rfl
     refine drawC [(0,0),(1,0),(2,0),(3,2),(4,0),(5,3),(6,0),(7,0),(8,0),(9,4)] (fun h'=>hcell h' ⟨h1.size,2,none⟩=some (.int .i64 u)) b26 ?_
     simp -implicitDefEqProofs (disch:=omega) [go_sem,r3,r13,r14,r15]
     refine float2 (.int .i64 u) (fun h' hC=>by simp -implicitDefEqProofs (disch:=omega) [go_sem,r3,hC]) ?_
     simp -implicitDefEqProofs (disch:=omega) [go_sem,r3,r13,r14,r15]
     refine useC (width_ok (z:=z) (by omega)) ?_
     rintro _ h7 ⟨rfl,rfl⟩
     refine ⟨b26,?_⟩
     have fz6:=V6.fz
     have eu:(u:Int)+(wid z:Nat)=(wsum (zs.take (i+1)):Nat):=by rw [hww]; push_cast; rfl
     simp -implicitDefEqProofs (disch:=omega) [go_sem,r3,r13,r14,r15,b26,fz6,eu]
     obtain ⟨h8,e8⟩:∃ h8,h8=hset h7 ⟨h1.size,2,none⟩ (.int .i64 (wsum (zs.take (i+1)):Nat)):=⟨_,rfl⟩
     have V8:ListB h8 h1.size [.slice B5 (i+1) bc5,.slice S zs.length sc,.int .i64 (wsum (zs.take (i+1)):Nat)]:=by rw [e8]; exact V6.set (i:=2) _ (by simp)
     have f78:Fr (fun y=>y=h1.size) h7 h8:=by rw [e8]; exact (Fr.refl _ _).set rfl
     rw [← e8]
     have f58:=f56.trans f78
     have hB8:∀ y,blk B5 y→h.size≤y∧y≠h1.size:=fun y hy=>by
      rcases hB5 y hy with h | h
      · exact hB y h
      · have:=V4.lt; have:=f02.size; omega
     have hS8:∀ y,blk S y→h.size≤y∧y≠h1.size∧¬ blk B5 y∧y<h8.size:=fun y hy=>by
      obtain ⟨g1,g2,g3,g4⟩:=hS y hy
      have:=f5.size; have:=f58.size
      exact ⟨g1,g2,fun h=>(hB5 y h).elim g3 fun h=>by omega,by omega⟩
     have f08:Fr (fun _=>False) h h8:=(f04.trans' f5 fun y hy hb=>by have:=(hB y hb).1; omega).trans' f58 fun y hy hb=>by omega
     have e9:ints (begs (zs.take i) 1)++[.int .i64 ((u:Int)+1)]=ints (begs (zs.take (i+1)) 1):=by
      rw [List.take_add_one,hz]
      show _=ints (begs (zs.take i++[z]) 1)
      rw [begs_snoc,← hu]
      unfold ints
      rw [List.map_append]
      simp [Int.add_comm]
     rw [e9] at S5
     exact ⟨⟨r13,r14,r3,f08,htb,i+1,B5,bc5,S,sc,rfl,by omega,V8,S5.fr f58 (fun y hy h=>(hB8 y hy).2 h),RS5.fr f58 (fun y hy h=>(hS y hy).2.1 h),hB8,hS8⟩,by omega⟩
   · obtain rfl:i=zs.length:=by omega
     simp -implicitDefEqProofs (disch:=omega) [go_sem,r3,r13,r14,r15]
     rw [List.take_length] at V SB
     exact ⟨f02,⟨B,bc,S,sc,V,SB.row,RS,⟨htb,V.lt⟩,fun y hy=>⟨(hB y hy).1,SB.blk_lt hy⟩,fun y hy=>⟨(hS y hy).1,(hS y hy).2.2.2⟩⟩⟩
section
variable {P:Program} {a b:Int} {t:Nat}
theorem cmp_ge:(some (compare a b)==some Ordering.gt||some (compare a b)==some Ordering.eq)=decide (b≤a):=by
 rw [cmp_gt,cmp_eq,Bool.eq_iff_iff]
 simp
 omega
theorem cmpV_fge (h1:-9007199254740992<a) (h2:a<9007199254740992) (h3:-9007199254740992<b) (h4:b<9007199254740992) :
  cmpV P .geq t (.float .f64 (Fx.enc a)) (.float .f64 (Fx.enc b))=some (.bool (decide (b≤a))):=by
 simp only [cmpV,binV,if_true,ford h1 h2 h3 h4,cmp_ge]
end
section
variable {h:Heap} {T:Nat→Prop} {tb:Nat} {zs:List Nat}
theorem avars_ok (M:TabM h T tb zs):CallsH Tryz.prog 95 [.pointer (some ⟨tb,0,none⟩)] h fun r h'=>r=.int .i64 (wsum zs:Nat)∧h'=h:=by
 obtain ⟨A1,c1,A2,c2,B,R1,R2,_⟩:=M.ex
 have b2:=B.at' 2 _ rfl
 refine calls_of 7 [.tmp 2] Go.Proofs.Tryz.func95 rfl rfl rfl ?_
 simp -implicitDefEqProofs (disch:=omega) [go_sem,b2]
theorem apacks_ok (M:TabM h T tb zs):CallsH Tryz.prog 196 [.pointer (some ⟨tb,0,none⟩)] h fun r h'=>r=.int .i64 zs.length∧h'=h:=by
 obtain ⟨A1,c1,A2,c2,B,R1,R2,_⟩:=M.ex
 have b1:=B.at' 1 _ rfl
 refine calls_of 8 [.tmp 2] Go.Proofs.Tryz.func196 rfl rfl rfl ?_
 simp -implicitDefEqProofs (disch:=omega) [go_sem,b1]
theorem asize_ok (M:TabM h T tb zs) (F:Few zs) {p z:Nat} (hz:zs[p]?=some z):CallsH Tryz.prog 200 [.pointer (some ⟨tb,0,none⟩),.int .i64 p] h fun r h'=>r=.int .i64 z∧h'=h:=by
 obtain ⟨A1,c1,A2,c2,B,R1,R2,_⟩:=M.ex
 have hl:=F.len
 have hp:=(List.getElem?_eq_some_iff.1 hz).1
 have b1:=B.at' 1 _ rfl
 obtain ⟨bk,off,rfl,hc⟩:=R2.get (by rw [ints_len,nts_len]; omega)
 have c0:=hc _ _ (ints_at (nts_at hz))
 refine calls_of 23 [.tmp 4] Go.Proofs.Tryz.func200 rfl rfl rfl ?_
 simp -implicitDefEqProofs (disch:=omega) [go_sem,b1,c0]
theorem aends_ok (M:TabM h T tb zs) (F:Few zs) {p z:Nat} (hz:zs[p]?=some z) :
  CallsH Tryz.prog 247 [.pointer (some ⟨tb,0,none⟩),.int .i64 p] h fun r h'=>r=.complex .f64 (Fx.enc ((1+wsum (zs.take p):Nat):Int)) (Fx.enc ((1+wsum (zs.take p)+wid z:Nat):Int))∧h'=h:=by
 obtain ⟨A1,c1,A2,c2,B,R1,R2,_⟩:=M.ex
 have hl:=F.len
 have hp:=(List.getElem?_eq_some_iff.1 hz).1
 have hz4:=F.le z (List.mem_of_getElem? hz)
 have hw:wsum (zs.take p)≤32:=Nat.le_trans wsum_take_le F.sum
 have hwz:wid z≤8:=by unfold wid; omega
 have b0:=B.at' 0 _ rfl
 have b1:=B.at' 1 _ rfl
 obtain ⟨bk,off,rfl,hc⟩:=R2.get (by rw [ints_len,nts_len]; omega)
 have c0:=hc _ _ (ints_at (nts_at hz))
 obtain ⟨bk1,off1,rfl,hc1⟩:=R1.get (by rw [ints_len,begs_len]; omega)
 have d0:=hc1 _ _ (ints_at (begs_at (s:=1) hp))
 obtain ⟨u,hu⟩:∃ u,u=1+wsum (zs.take p):=⟨_,rfl⟩
 rw [← hu] at d0 ⊢
 refine calls_of 31 [.tmp 4] Go.Proofs.Tryz.func247 rfl rfl rfl ?_
 simp -implicitDefEqProofs (disch:=omega) [go_sem]
 refine drawC [(0,0),(1,0),(2,0),(3,2),(4,0),(5,0),(6,2),(7,0),(8,0),(9,0),(10,0),(11,2),(12,0),(13,0),(14,2),(15,0),(16,0),(17,0),(18,1),(19,0),(20,0),(21,1),(22,3),(23,0),(24,0),(25,0),(26,0)] (Eq h) rfl ?_
 simp -implicitDefEqProofs (disch:=omega) [go_sem,b0,b1,c0,d0]
 refine useC (width_ok (z:=z) (by omega)) ?_
 rintro _ h2 ⟨rfl,rfl⟩
 refine ⟨rfl,?_⟩
 simp -implicitDefEqProofs (disch:=omega) [go_sem,b0,b1,c0,d0]
def atV (a:At):Value:=.agg #[.int .i64 a.k,.int .i64 a.p,.int .i64 a.i]
structure AtJ (h1:Heap) (tb:Nat) (zs:List Nat) (u rb:Nat) (m:Nat) (ρ:Env) (h:Heap):Prop where
 r0:ρ 0=.pointer (some ⟨tb,0,none⟩)
 r1:ρ 1=.int .i64 ((u:Int)+1)
 r4:ρ 4=.pointer (some ⟨rb,0,none⟩)
 r7:ρ 7=.float .f64 (Fx.enc ((u:Int)+1))
 he:h=h1
 ex:∃ p:Nat,ρ 6=.int .i64 p∧p+m=zs.length∧wsum (zs.take p)≤u
theorem aatom_ok (M:TabM h T tb zs) (F:Few zs) {u:Nat} (hu:u<wsum zs) :
   CallsH Tryz.prog 234 [.pointer (some ⟨tb,0,none⟩),.int .i64 ((u:Int)+1)] h fun r h'=>r=.tuple #[atV (atN zs 0 u),.bool true]∧Fr (fun _=>False) h h':=by
 have hl:=F.len
 have hsum:=F.sum
 refine calls_of 69 [.cell 4 150,.tmp 5] Go.Proofs.Tryz.func234 rfl rfl rfl ?_
 simp -implicitDefEqProofs (disch:=omega) [go_sem]
 obtain ⟨h1,e1⟩:∃ h1,h1=h.push (.cells #[.int .i64 0,.int .i64 0,.int .i64 0] 150):=⟨_,rfl⟩
 have f1:Fr (fun _=>False) h h1:=by rw [e1]; exact (Fr.refl _ _).push
 have V1:ListB h1 h.size [.int .i64 0,.int .i64 0,.int .i64 0]:=by rw [e1]; exact ListB.new
 rw [← e1]
 have M1:=M.fr0 f1
 obtain ⟨A1,c1,A2,c2,B,R1,R2,_⟩:=M1.ex
 have b0:=B.at' 0 _ rfl
 have b1:=B.at' 1 _ rfl
 have b2:=B.at' 2 _ rfl
 refine scopeMG 0 (AtJ h1 tb zs u h.size) rfl rfl (by kernel_rfl) ?_ ?_
 · simp -implicitDefEqProofs (disch:=omega) [go_sem,b2]
   exact ⟨zs.length,rfl,rfl,rfl,rfl,rfl,0,rfl,by omega,by simp [wsum]⟩
 · rintro m ρ h2 ⟨r0,r1,r4,r7,rfl,p,r6,hpm,hle⟩
   have hp:p<zs.length:=by
     refine Classical.byContradiction fun h=>?_
     have:zs.take p=zs:=List.take_of_length_le (by omega)
     rw [this] at hle; omega
   obtain ⟨z,hz⟩:∃ z,zs[p]?=some z:=⟨_,List.getElem?_eq_getElem hp⟩
   have hz4:=F.le z (List.mem_of_getElem? hz)
   have hwz:wid z≤8:=by unfold wid; omega
   have hww:=wsum_take hz
   simp -implicitDefEqProofs (disch:=omega) [go_sem,r0,r1,r4,r6,r7]
   refine useC (aends_ok M1 F hz) ?_
   rintro _ h3 ⟨rfl,rfl⟩
   by_cases hin:wsum (zs.take p)+wid z≤u
   · simp -implicitDefEqProofs (disch:=omega) [go_sem,r0,r1,r4,r6,r7,cmpV_fge]
     exact ⟨m-1,by omega,r0,r1,r4,r7,rfl,p+1,rfl,by omega,by omega⟩
   · obtain ⟨w,hw⟩:∃ w,w=wsum (zs.take p):=⟨_,rfl⟩
     have hat:=atN_eq (q:=0) hz hle (by omega)
     rw [Nat.zero_add] at hat
     have hw32:w≤32:=by rw [hw]; exact Nat.le_trans wsum_take_le hsum
     have hbeg:=begs_at (s:=1) hp
     rw [← hw] at hle hin hat hbeg
     obtain ⟨e,rfl⟩:∃ e,u=w+e:=⟨u-w,by omega⟩
     rw [Nat.add_sub_cancel_left] at hat
     rw [hat]
     obtain ⟨bk,off,rfl,hc⟩:=R2.get (by rw [ints_len,nts_len]; omega)
     have c0:=hc _ _ (ints_at (nts_at hz))
     obtain ⟨bk1,off1,rfl,hc1⟩:=R1.get (by rw [ints_len,begs_len]; omega)
     have d0:=hc1 _ _ (ints_at hbeg)
     have q0:=V1.at' 0 _ rfl
     have q1:=V1.at' 1 _ rfl
     have q2:=V1.at' 2 _ rfl
     have fz:=V1.fz
     have hmx:max ((z:Int)-1) 0=((z-1:Nat):Int):=by omega
     have ek:(w:Int)+(e:Int)+1-(1+(w:Int))-1=(e:Int)-1:=by omega
     simp -implicitDefEqProofs (disch:=omega) [go_sem,r0,r1,r4,r6,r7,cmpV_fge]
     refine drawK [(0,0),(1,0),(2,0),(3,0),(4,1),(5,0),(6,0),(7,1),(8,0),(9,0),(10,0),(11,0),(12,0),(13,1),(14,0),(15,0),(16,1),(17,0),(18,0),(19,0),(20,0)] ?_
     simp -implicitDefEqProofs (disch:=omega) [go_sem,r0,r1,r4,r6,r7,b0,b1,c0,d0,hmx,ek]
     have f3:∀ {a b c:Value},Fr (fun _=>False) h (hset (hset (hset h3 ⟨h.size,0,none⟩ a) ⟨h.size,1,none⟩ b) ⟨h.size,2,none⟩ c):=((f1.new (Nat.le_refl _)).new (Nat.le_refl _)).new (Nat.le_refl _)
     by_cases g0:e=0
     · subst g0
       simp -implicitDefEqProofs (disch:=omega) [go_sem,r0,r1,r4,r6,r7,q0,q1,q2,fz]
       exact ⟨rfl,f3⟩
     · have g0':¬ (e:Int)-1<0:=by omega
       by_cases g1:e-1<z-1
       · have g1':(e:Int)-1<((z-1:Nat):Int):=by omega
         have ea:atOf z p e=⟨1,p,e-1⟩:=by unfold atOf; rw [if_neg g0,if_pos g1]
         have ei:(e:Int)-1=((e-1:Nat):Int):=by omega
         simp -implicitDefEqProofs (disch:=omega) [go_sem,r0,r1,r4,r6,r7,q0,q1,q2,fz,g0',g1']
         rw [ea,ei]
         exact ⟨rfl,f3⟩
       · have g1':¬ (e:Int)-1<((z-1:Nat):Int):=by omega
         have ea:atOf z p e=⟨2,p,e-1-(z-1)⟩:=by unfold atOf; rw [if_neg g0,if_neg g1]
         have ei:(e:Int)-1-((z-1:Nat):Int)=((e-1-(z-1):Nat):Int):=by omega
         simp -implicitDefEqProofs (disch:=omega) [go_sem,r0,r1,r4,r6,r7,q0,q1,q2,fz,g0',g1']
         rw [ea,ei]
         exact ⟨rfl,f3⟩
end
section
variable {h:Heap} {T:Nat→Prop} {tb:Nat} {zs:List Nat}
theorem oatom_ok (M:TabM h T tb zs) (F:Few zs) {x:Int} (hx:1≤x.natAbs∧x.natAbs≤wsum zs) :
  CallsH Tryz.prog 191 [.pointer (some ⟨tb,0,none⟩),.int .i64 x] h fun r h'=>r=.tuple #[atV (litAt zs x),.bool (decide (0<x)),.bool true]∧Fr (fun _=>False) h h':=by
 have hsum:=F.sum
 have hnl:¬ x < -((wsum zs:Nat):Int):=by omega
 have hmx:max x (-x)=((x.natAbs-1:Nat):Int)+1:=by omega
 refine calls_of 26 [.cell 4 150,.tmp 5,.tmp 6] Go.Proofs.Tryz.func191 rfl rfl rfl ?_
 simp -implicitDefEqProofs (disch:=omega) [go_sem]
 obtain ⟨h1,e1⟩:∃ h1,h1=h.push (.cells #[.int .i64 0,.int .i64 0,.int .i64 0] 150):=⟨_,rfl⟩
 have f1:Fr (fun _=>False) h h1:=by rw [e1]; exact (Fr.refl _ _).push
 have V1:ListB h1 h.size [.int .i64 0,.int .i64 0,.int .i64 0]:=by rw [e1]; exact ListB.new
 rw [← e1]
 refine useC (avars_ok (M.fr0 f1)) ?_
 rintro _ h2 ⟨rfl,rfl⟩
 simp -implicitDefEqProofs (disch:=omega) [go_sem,hnl,hmx]
 refine useC (aatom_ok (M.fr0 f1) F (u:=x.natAbs-1) (by omega)) ?_
 rintro _ h3 ⟨rfl,f3⟩
 have V3:=V1.fr f3 fun h=>h
 have q0:=V3.at' 0 _ rfl
 have q1:=V3.at' 1 _ rfl
 have q2:=V3.at' 2 _ rfl
 have fz:=V3.fz
 have f4:∀ {a b c d e g:Value},Fr (fun _=>False) h (hset (hset (hset (hset (hset (hset h3 ⟨h.size,0,none⟩ a) ⟨h.size,1,none⟩ b) ⟨h.size,2,none⟩ c) ⟨h.size,0,none⟩ d) ⟨h.size,1,none⟩ e) ⟨h.size,2,none⟩ g) :=
  (((((((f1.trans f3).new (Nat.le_refl _)).new (Nat.le_refl _)).new (Nat.le_refl _)).new (Nat.le_refl _)).new (Nat.le_refl _)).new (Nat.le_refl _))
 unfold atV
 have ea:atN zs 0 (x.natAbs-1)=litAt zs x:=rfl
 rw [ea]
 simp -implicitDefEqProofs (disch:=omega) [go_sem,q0,q1,q2,fz]
 exact f4
theorem true1_ok {a:At} {r:Int}:CallsH Tryz.prog 236 [atV a,.int .i64 r] h fun v h'=>v=.bool (isA a r)∧Fr (fun _=>False) h h':=by
 unfold atV
 refine calls_of 21 [.tmp 4] Go.Proofs.Tryz.func236 rfl rfl rfl ?_
 simp -implicitDefEqProofs (disch:=omega) [go_sem]
 unfold isA
 by_cases h0:a.k=0
 · have h0':(a.k:Int)=0:=by omega
   simp -implicitDefEqProofs (disch:=omega) [go_sem,h0,h0']
   exact (Fr.refl _ _).push
 · have h0':¬ (a.k:Int)=0:=by omega
   by_cases h1:a.k=1
   · have h1':(a.k:Int)=1:=by omega
     simp -implicitDefEqProofs (disch:=omega) [go_sem,h0,h1,h0',h1']
     exact (Fr.refl _ _).push
   · have h1':¬ (a.k:Int)=1:=by omega
     simp -implicitDefEqProofs (disch:=omega) [go_sem,h0,h1,h0',h1']
     exact (Fr.refl _ _).push
theorem allowedF_ok {b1 b2:Nat} {x r:Int} (M:TabM h T tb zs) (F:Few zs) (hx:1≤x.natAbs∧x.natAbs≤wsum zs) (g1:hcell h ⟨b1,0,none⟩=some (.pointer (some ⟨tb,0,none⟩))) (g2:hcell h ⟨b2,0,none⟩=some (.int .i64 r)) :
  CallsH Tryz.prog 235 ([.int .i64 x]++[.pointer (some ⟨b1,0,none⟩),.pointer (some ⟨b2,0,none⟩)]) h fun v h'=>v=.bool (!litA zs x r)∧Fr (fun _=>False) h h':=by
 refine calls_of 20 [.tmp 4] Go.Proofs.Tryz.func235 rfl rfl rfl ?_
 simp -implicitDefEqProofs (disch:=omega) [go_sem,g1]
 refine useC (oatom_ok M F hx) ?_
 rintro _ h1 ⟨rfl,f1⟩
 unfold atV
 have nb:¬ b2=h1.size:=by have:=hcell_lt g2; have:=f1.size; omega
 have g2':hcell (h1.push (.cells #[.int .i64 0,.int .i64 0,.int .i64 0] 150)) ⟨b2,0,none⟩=some (.int .i64 r):=((f1.push).cell (hcell_lt g2) fun h=>h).trans g2
 simp -implicitDefEqProofs (disch:=omega) [go_sem,nb,g2']
 obtain ⟨h2,e2⟩:∃ h2,h2=hset (hset (hset (h1.push (.cells #[.int .i64 0,.int .i64 0,.int .i64 0] 150)) ⟨h1.size,0,none⟩ (.int .i64 (litAt zs x).k)) ⟨h1.size,1,none⟩ (.int .i64 (litAt zs x).p)) ⟨h1.size,2,none⟩ (.int .i64 (litAt zs x).i):=⟨_,rfl⟩
 have f2:Fr (fun _=>False) h1 h2:=by rw [e2]; exact ((((Fr.refl _ _).push).new (Nat.le_refl _)).new (Nat.le_refl _)).new (Nat.le_refl _)
 have V2:ListB h2 h1.size [.int .i64 (litAt zs x).k,.int .i64 (litAt zs x).p,.int .i64 (litAt zs x).i]:=by
  rw [e2]
  exact (((ListB.new (vs:=[.int .i64 0,.int .i64 0,.int .i64 0])).set (i:=0) (.int .i64 (litAt zs x).k) (by simp)).set (i:=1) (.int .i64 (litAt zs x).p) (by simp)).set (i:=2) (.int .i64 (litAt zs x).i) (by simp)
 rw [← e2]
 have q0:=V2.at' 0 _ rfl
 have q1:=V2.at' 1 _ rfl
 have q2:=V2.at' 2 _ rfl
 refine useC (true1_ok (a:=litAt zs x)) ?_
 rintro _ h3 ⟨rfl,f3⟩
 refine ⟨?_,(f1.trans f2).trans f3⟩
 unfold litA
 cases isA (litAt zs x) r <;> cases decide (0<x) <;> rfl
theorem containsFuncF_ok {A:Option Addr} {l:List Int} {n c fn:Nat} {cs:List Value} (R:RowAt h A (ints l)) (hn:n=l.length) (hs:n<2^40) (p:Int→Bool)
   (hf:∀ h',Fr (fun _=>False) h h'→∀ x∈l,CallsH Tryz.prog fn ([.int .i64 x]++cs) h' fun r h''=>r=.bool (p x)∧Fr (fun _=>False) h' h'') :
   CallsH Tryz.prog 111 [.slice A n c,.func (.func fn) #[] cs.toArray] h fun r h'=>r=.bool (l.any p)∧Fr (fun _=>False) h h':=by
 subst hn
 have ix:CallsH Tryz.prog 160 [.slice A l.length c,.func (.func fn) #[] cs.toArray] h fun r h'=>∃ i:Int,r=.int .i64 i∧(0≤i↔l.any p=true)∧-1≤i∧i<2^40∧Fr (fun _=>False) h h':=by
   refine calls_of 19 [.tmp 4] Go.Proofs.Tryz.func160 rfl rfl rfl ?_
   simp -implicitDefEqProofs (disch:=omega) [go_sem]
   refine loopK (fun ρ h'=>ρ 0=.slice A l.length c∧ρ 1=.func (.func fn) #[] cs.toArray∧ρ 7=.int .i64 l.length∧Fr (fun _=>False) h h'∧∃ i:Nat,ρ 8=.int .i64 i∧i≤l.length∧∀ (j:Nat) K,j<i→l[j]?=some K→p K=false)
     (fun ρ _=>l.length-(intOf (ρ 8)).toNat) (by kernel_rfl) ?_ ?_
   · exact ⟨rfl,rfl,rfl,Fr.refl _ _,0,rfl,by omega,fun j K hj=>by omega⟩
   · rintro ρ h1 ⟨r0,r1,r7,f1,i,r8,hi,hj⟩
     by_cases hin:i<l.length
     · obtain ⟨K,hK⟩:∃ K,l[i]?=some K:=⟨_,List.getElem?_eq_getElem hin⟩
       obtain ⟨bk,off,rfl,hc⟩:=(R.fr0 f1).get (by rw [ints_len]; omega)
       have c0:=hc _ _ (ints_at hK)
       simp -implicitDefEqProofs (disch:=omega) [go_sem,r0,r1,r7,r8,c0]
       refine useC (hf h1 f1 K (List.mem_of_getElem? hK)) ?_
       rintro _ h2 ⟨rfl,f2⟩
       cases hp:p K with
       | true =>
         simp -implicitDefEqProofs (disch:=omega) [go_sem,r0,r1,r7,r8]
         exact ⟨⟨K,List.mem_of_getElem? hK,hp⟩,by omega,f1.trans f2⟩
       | false =>
         simp -implicitDefEqProofs (disch:=omega) [go_sem,r0,r1,r7,r8]
         refine ⟨⟨f1.trans f2,i+1,by omega,by omega,fun j K' hj' hK'=>?_⟩,by omega⟩
         by_cases e:j=i
         · subst e; rw [hK] at hK'; cases hK'; exact hp
         · exact hj j K' (by omega) hK'
     · simp -implicitDefEqProofs (disch:=omega) [go_sem,r0,r1,r7,r8]
       refine ⟨fun K hK=>?_,f1⟩
       obtain ⟨j,hj2⟩:=List.getElem?_of_mem hK
       exact hj j K (by have:=(List.getElem?_eq_some_iff.1 hj2).1; omega) hj2
 refine calls_of 9 [.tmp 4] Go.Proofs.Tryz.func111 rfl rfl rfl ?_
 simp -implicitDefEqProofs (disch:=omega) [go_sem]
 refine useC ix ?_
 rintro _ h2 ⟨i,rfl,hi,h1,h3,f⟩
 cases hp:l.any p with
 | true =>
   have h4:=hi.2 hp
   simp -implicitDefEqProofs (disch:=omega) [go_sem,h4]
   exact f
 | false =>
   have h4:¬ 0≤i:=fun h=>by have:=hi.1 h; rw [hp] at this; cases this
   simp -implicitDefEqProofs (disch:=omega) [go_sem,h4]
   exact f
end
def alwP (zs:List Nat) (l:List Int) (j:Nat):List Int:=((List.range j).map fun j:Nat=>(j:Int)-1).filter fun r=>l.all fun x=>litA zs x r
theorem alwP_succ {zs:List Nat} {l:List Int} {j:Nat}:alwP zs l (j+1)=alwP zs l j++if (l.all fun x=>litA zs x ((j:Int)-1)) then [(j:Int)-1] else []:=by
 unfold alwP
 rw [List.range_succ,List.map_append,List.filter_append]
 congr 1
 simp only [List.map_cons,List.map_nil]
 rw [List.filter_cons]
 rfl
theorem alwP_len {zs:List Nat} {l:List Int} {j:Nat}:(alwP zs l j).length≤j:=by
 unfold alwP
 exact Nat.le_trans (List.length_filter_le _ _) (by simp)
theorem any_not {l:List Int} {f:Int→Bool}:(l.any fun x=>!f x)=!(l.all f):=by
 induction l with
 | nil=>rfl
 | cons a l ih=>simp only [List.any_cons,List.all_cons,ih,Bool.not_and]
def RowN (l:List Int) (r:Value) (h h':Heap):Prop:=Fr (fun _=>False) h h'∧∃ B bc,r=.slice B l.length bc∧SlAt h' B bc (ints l)∧∀ y,blk B y→h.size≤y
structure AlJ (h0:Heap) (b1 tb p:Nat) (A:Option Addr) (n c:Nat) (zs:List Nat) (l:List Int) (z:Nat) (m:Nat) (ρ:Env) (h:Heap):Prop where
 r1:ρ 1=.int .i64 p
 r2:ρ 2=.slice A n c
 r3:ρ 3=.pointer (some ⟨b1,0,none⟩)
 fr:Fr (fun _=>False) h0 h
 g1:hcell h ⟨b1,0,none⟩=some (.pointer (some ⟨tb,0,none⟩))
 lb:h0.size≤b1
 ex:∃ (j q:Nat) (B:Option Addr) (bc:Nat),ρ 8=.pointer (some ⟨q,0,none⟩)∧j+m=z+1∧h0.size≤q∧q≠b1∧hcell h ⟨q,0,none⟩=some (.int .i64 ((j:Int)-1))∧hfrz h ⟨q,0,none⟩=false∧ρ 7=.slice B (alwP zs l j).length bc∧SlAt h B bc (ints (alwP zs l j))∧∀ y,blk B y→h0.size≤y∧y≠b1∧y≠q
section
variable {h:Heap} {T:Nat→Prop} {tb:Nat} {zs:List Nat}
theorem oallowed_ok (M:TabM h T tb zs) (F:Few zs) {p z:Nat} (hz:zs[p]?=some z) {A:Option Addr} {n c:Nat} {l:List Int} (R:RowAt h A (ints l)) (hn:n=l.length) (hs:n<2^40) (hx:∀ x∈l,1≤x.natAbs∧x.natAbs≤wsum zs) :
   CallsH Tryz.prog 193 [.pointer (some ⟨tb,0,none⟩),.int .i64 p,.slice A n c] h fun r h'=>RowN (alw zs z l) r h h':=by
 have hz4:=F.le z (List.mem_of_getElem? hz)
 refine calls_of 26 [.tmp 6] Go.Proofs.Tryz.func193 rfl rfl rfl ?_
 simp -implicitDefEqProofs (disch:=omega) [go_sem]
 obtain ⟨h1,e1⟩:∃ h1,h1=h.push (.cells #[.pointer (some ⟨tb,0,none⟩)] 141):=⟨_,rfl⟩
 have f1:Fr (fun _=>False) h h1:=by rw [e1]; exact (Fr.refl _ _).push
 have g1:hcell h1 ⟨h.size,0,none⟩=some (.pointer (some ⟨tb,0,none⟩)):=by rw [e1]; exact hcell_push_new
 have s1:h1.size=h.size+1:=by rw [e1,push_size]
 rw [← e1]
 simp -implicitDefEqProofs (disch:=omega) [go_sem]
 obtain ⟨h2,e2⟩:∃ h2,h2=hset (h1.push (.cells #[.int .i64 0] 3)) ⟨h.size+1,0,none⟩ (.int .i64 (-1)):=⟨_,rfl⟩
 have f2:Fr (fun _=>False) h1 h2:=by rw [e2]; exact ((Fr.refl _ _).push).new (Nat.le_of_eq s1)
 have q2:ListB h2 h1.size [.int .i64 (-1)]:=by
   rw [e2,← s1]
   exact (ListB.new (vs:=[.int .i64 0])).set (i:=0) (.int .i64 (-1)) (by simp)
 rw [← e2]
 refine loopG (AlJ h h.size tb p A n c zs l z) (z+1) (by kernel_rfl) ?_ ?_
 · exact ⟨rfl,rfl,rfl,f1.trans f2,(f2.cell (hcell_lt g1) fun h=>h).trans g1,Nat.le_refl _,0,h1.size,none,0,rfl,Nat.zero_add _,by omega,by omega,q2.at' 0 _ rfl,q2.fz 0,rfl,SlAt.nil _,fun y ⟨_,h,_⟩=>(nomatch h)⟩
 · clear q2 e2 f2 g1 e1 f1 s1
   clear h2 h1
   rintro m ρ h1 ⟨r1,r2,r3,f1,g1,lb,j,q,B,bc,r8,hj,hq,hqb,gq,fq,r7,SB,hB⟩
   have M1:=M.fr0 f1
   simp -implicitDefEqProofs (disch:=omega) [go_sem,r1,r2,r3,r7,r8]
   refine drawC [(0,2),(1,1),(2,0),(3,3),(4,0)] (Eq h1) rfl ?_
   simp -implicitDefEqProofs (disch:=omega) [go_sem,r1,r2,r3,r7,r8,g1,gq]
   refine useC (asize_ok M1 F hz) ?_
   rintro _ h2 ⟨rfl,rfl⟩
   refine ⟨rfl,?_⟩
   by_cases hjz:j<z+1
   · simp -implicitDefEqProofs (disch:=omega) [go_sem,r1,r2,r3,r7,r8,g1,gq]
     refine useC (containsFuncF_ok (cs:=[.pointer (some ⟨h.size,0,none⟩),.pointer (some ⟨q,0,none⟩)]) (c:=c) (R.fr0 f1) hn hs (fun x=>!litA zs x ((j:Int)-1)) fun h' f' x hxl=>allowedF_ok (M1.fr0 f') F (hx x hxl) ((f'.cell (hcell_lt g1) fun h=>h).trans g1) ((f'.cell (hcell_lt gq) fun h=>h).trans gq)) ?_
     rintro _ h3 ⟨rfl,f3⟩
     rw [any_not]
     have gq3:=(f3.cell (hcell_lt gq) fun h=>h).trans gq
     have g13:=(f3.cell (hcell_lt g1) fun h=>h).trans g1
     have fq3:=(f3.frz (o:=0) (hcell_lt gq) fun h=>h).trans fq
     have SB3:=SB.fr f3 fun _ _ h=>h
     have f03:=f1.trans f3
     have hal:=alwP_len (zs:=zs) (l:=l) (j:=j)
     have fin:∀ {hh:Heap} {B':Option Addr} {bc':Nat},Fr (fun _=>False) h hh→hcell hh ⟨h.size,0,none⟩=some (.pointer (some ⟨tb,0,none⟩))→SlAt hh B' bc' (ints (alwP zs l (j+1)))→(∀ y,blk B' y→h.size≤y∧y≠h.size) →
        ∀ {ρ':Env},ρ' 1=.int .i64 p→ρ' 2=.slice A n c→ρ' 3=.pointer (some ⟨h.size,0,none⟩)→ρ' 8=.pointer (some ⟨hh.size,0,none⟩)→ρ' 7=.slice B' (alwP zs l (j+1)).length bc' →
        AlJ h h.size tb p A n c zs l z (m-1) ρ' (hset (hset (hh.push (.cells #[.int .i64 0] 3)) ⟨hh.size,0,none⟩ (.int .i64 ((j:Int)-1))) ⟨hh.size,0,none⟩ (.int .i64 j)):=by
       intro hh B' bc' f g S hB' ρ' e1 e2 e3 e8 e7
       have fn:Fr (fun _=>False) hh (hset (hset (hh.push (.cells #[.int .i64 0] 3)) ⟨hh.size,0,none⟩ (.int .i64 ((j:Int)-1))) ⟨hh.size,0,none⟩ (.int .i64 j)):=(((Fr.refl _ _).push).new (Nat.le_refl _)).new (Nat.le_refl _)
       have Q:ListB (hset (hset (hh.push (.cells #[.int .i64 0] 3)) ⟨hh.size,0,none⟩ (.int .i64 ((j:Int)-1))) ⟨hh.size,0,none⟩ (.int .i64 j)) hh.size [.int .i64 j] :=
        ((ListB.new (vs:=[.int .i64 0])).set (i:=0) (.int .i64 ((j:Int)-1)) (by simp)).set (i:=0) (.int .i64 j) (by simp)
       have hz:=f.size
       have hg:=hcell_lt g
       exact ⟨e1,e2,e3,f.trans fn,(fn.cell (hcell_lt g) fun h=>h).trans g,Nat.le_refl _,j+1,hh.size,B',bc',e8,by omega,hz,by omega,by rw [Q.at' 0 _ rfl]; congr 2; omega,Q.fz 0,e7,S.fr fn (fun _ _ h=>h),fun y hy=>⟨(hB' y hy).1,(hB' y hy).2,by have:=S.blk_lt hy; omega⟩⟩
     cases ha:l.all fun x=>litA zs x ((j:Int)-1) with
     | false =>
       have ea:alwP zs l (j+1)=alwP zs l j:=by rw [alwP_succ,ha]; simp
       simp -implicitDefEqProofs (disch:=omega) [go_sem,r1,r2,r3,r7,r8,gq3]
       exact ⟨m-1,by omega,fin f03 g13 (by rw [ea]; exact SB3) (fun y hy=>⟨(hB y hy).1,(hB y hy).2.1⟩) r1 r2 r3 rfl (by rw [ea]; exact r7)⟩
     | true =>
       have ea:alwP zs l (j+1)=alwP zs l j++[(j:Int)-1]:=by rw [alwP_succ,ha]; simp
       simp -implicitDefEqProofs (disch:=omega) [go_sem,r1,r2,r3,r7,r8,gq3]
       refine build1 rfl rfl ?_
       have f4:Fr (fun _=>False) h3 (h3.push (.cells #[.int .i64 ((j:Int)-1)] 3)):=(Fr.refl _ _).push
       simp -implicitDefEqProofs (disch:=omega) [go_sem,r1,r2,r3,r7,r8]
       refine appendB (vs:=ints (alwP zs l j)) (ws:=[.int .i64 ((j:Int)-1)]) (SB3.fr f4 fun _ _ h=>h) (by rw [ints_len]) (SlAt.new (vs:=[.int .i64 ((j:Int)-1)])).row rfl (by simp [Value.oneCell']) (by omega) (by omega) ?_
       intro B5 bc5 h5 S5 f5 hB5
       have nb:¬ blk B h.size:=fun h=>(hB _ h).2.1 rfl
       have nq:¬ blk B q:=fun h=>(hB _ h).2.2 rfl
       have gq5:=(f5.cell (by have:=hcell_lt gq3; have:=f4.size; omega) nq).trans ((f4.cell (hcell_lt gq3) fun h=>h).trans gq3)
       have g15:=(f5.cell (by have:=hcell_lt g13; have:=f4.size; omega) nb).trans ((f4.cell (hcell_lt g13) fun h=>h).trans g13)
       have f05:Fr (fun _=>False) h h5:=(f03.trans f4).trans' f5 fun y hy hb=>by have:=(hB y hb).1; omega
       simp -implicitDefEqProofs (disch:=omega) [go_sem,r1,r2,r3,r7,r8,gq5]
       have z03:=f03.size
       have z4:=f4.size
       have hg3:=hcell_lt g13
       refine ⟨m-1,by omega,fin f05 g15 (bc':=bc5) (by rw [ea]; unfold ints at S5 ⊢; rw [List.map_append]; exact S5) (fun y hy=>?_) r1 r2 r3 rfl (by rw [ea,List.length_append]; rfl)⟩
       rcases hB5 y hy with h | h
       · exact ⟨(hB y h).1,(hB y h).2.1⟩
       · omega
   · obtain rfl:j=z+1:=by omega
     simp -implicitDefEqProofs (disch:=omega) [go_sem,r1,r2,r3,r7,r8,g1,gq]
     exact ⟨f1,B,bc,rfl,SB,fun y hy=>(hB y hy).1⟩
end
def ofP (zs:List Nat) (p:Nat) (l:List Int):List Int:=l.filter fun x=>decide ((litAt zs x).p=p)
theorem ofP_succ {zs:List Nat} {p:Nat} {l:List Int} {i:Nat} {x:Int} (hx:l[i]?=some x):ofP zs p (l.take (i+1))=ofP zs p (l.take i)++if (litAt zs x).p=p then [x] else []:=by
 rw [List.take_add_one,hx]
 unfold ofP
 rw [List.filter_append]
 congr 1
 simp only [Option.toList_some,List.filter_cons,List.filter_nil,decide_eq_true_eq]
theorem ofP_len {zs:List Nat} {p:Nat} {l:List Int}:(ofP zs p l).length≤l.length:=List.length_filter_le _ _
structure RwJ (h0:Heap) (g:List Int→List Int) (l:List Int) (iA iN iI iO:Nat) (A:Option Addr) (c:Nat) (ρ:Env) (h:Heap):Prop where
 rA:ρ iA=.slice A l.length c
 rN:ρ iN=.int .i64 l.length
 fr:Fr (fun _=>False) h0 h
 ex:∃ (i:Nat) (B:Option Addr) (bc:Nat),ρ iI=.int .i64 i∧i≤l.length∧ρ iO=.slice B (g (l.take i)).length bc∧SlAt h B bc (ints (g (l.take i)))∧∀ y,blk B y→h0.size≤y
theorem RwJ.next {h0 h h':Heap} {g:List Int→List Int} {l:List Int} {i:Nat} {x:Int} {B B':Option Addr} {bc':Nat} (f0:Fr (fun _=>False) h0 h) (hB:∀ y,blk B y→h0.size≤y) (f:Fr (blk B) h h') (S:SlAt h' B' bc' (ints (g (l.take i))++[.int .i64 x])) (hB':∀ y,blk B' y→blk B y∨h.size≤y) (e:g (l.take (i+1))=g (l.take i)++[x]) :
  Fr (fun _=>False) h0 h'∧SlAt h' B' bc' (ints (g (l.take (i+1))))∧(g (l.take (i+1))).length=(g (l.take i)).length+1∧∀ y,blk B' y→h0.size≤y :=
 ⟨f0.trans' f fun y hy hb=>by have:=hB y hb; omega,by rw [e]; unfold ints at S ⊢; rw [List.map_append]; exact S,by rw [e,List.length_append]; rfl,fun y hy=>(hB' y hy).elim (hB y) fun h=>Nat.le_trans f0.size h⟩
section
variable {h:Heap} {T:Nat→Prop} {tb:Nat} {zs:List Nat} {A:Option Addr} {n c:Nat} {l:List Int}
theorem oof_ok (M:TabM h T tb zs) (F:Few zs) {p:Nat} (R:RowAt h A (ints l)) (hn:n=l.length) (hs:n<2^40) (hx:∀ x∈l,1≤x.natAbs∧x.natAbs≤wsum zs) :
   CallsH Tryz.prog 192 [.pointer (some ⟨tb,0,none⟩),.int .i64 p,.slice A n c] h fun r h'=>RowN (ofP zs p l) r h h':=by
 subst hn
 refine calls_of 36 [.tmp 6] Go.Proofs.Tryz.func192 rfl rfl rfl ?_
 simp -implicitDefEqProofs (disch:=omega) [go_sem]
 refine loopK (fun ρ h'=>RwJ h (ofP zs p) l 13 14 15 7 A c ρ h'∧ρ 0=.pointer (some ⟨tb,0,none⟩)∧ρ 1=.int .i64 p) (fun ρ _=>l.length-(intOf (ρ 15)).toNat) (by kernel_rfl) ?_ ?_
 · exact ⟨⟨rfl,rfl,Fr.refl _ _,0,none,0,rfl,Nat.zero_le _,rfl,SlAt.nil _,fun y ⟨_,h,_⟩=>(nomatch h)⟩,rfl,rfl⟩
 · rintro ρ h1 ⟨⟨r13,r14,f1,i,B,bc,r15,hi,r7,SB,hB⟩,r0,r1⟩
   by_cases hin:i<l.length
   · obtain ⟨x,hxi⟩:=some_at hin
     have hxm:=List.mem_of_getElem? hxi
     obtain ⟨bk,off,rfl,hc⟩:=(R.fr0 f1).get (by rw [ints_len]; omega)
     have c0:=hc _ _ (ints_at hxi)
     simp -implicitDefEqProofs (disch:=omega) [go_sem,r0,r1,r7,r13,r14,r15,c0]
     refine useC (oatom_ok (M.fr0 f1) F (hx x hxm)) ?_
     rintro _ h2 ⟨rfl,f2⟩
     unfold atV
     have hol:=ofP_len (zs:=zs) (p:=p) (l:=l.take i)
     have htl:(l.take i).length≤i:=by rw [List.length_take]; omega
     by_cases hp:(litAt zs x).p=p
     · have hp':((litAt zs x).p:Int)=(p:Int):=by rw [hp]
       have ea:ofP zs p (l.take (i+1))=ofP zs p (l.take i)++[x]:=by rw [ofP_succ hxi,if_pos hp]
       obtain ⟨h3,e3⟩:∃ h3,h3=hset (hset (hset (h2.push (.cells #[.int .i64 0,.int .i64 0,.int .i64 0] 150)) ⟨h2.size,0,none⟩ (.int .i64 (litAt zs x).k)) ⟨h2.size,1,none⟩ (.int .i64 p)) ⟨h2.size,2,none⟩ (.int .i64 (litAt zs x).i):=⟨_,rfl⟩
       have f3:Fr (fun _=>False) h2 h3:=by rw [e3]; exact ((((Fr.refl _ _).push).new (Nat.le_refl _)).new (Nat.le_refl _)).new (Nat.le_refl _)
       simp -implicitDefEqProofs (disch:=omega) [go_sem,r0,r1,r7,r13,r14,r15,hp']
       rw [← e3]
       refine build1 rfl rfl ?_
       simp -implicitDefEqProofs (disch:=omega) [go_sem,r0,r1,r7,r13,r14,r15]
       have f4:Fr (fun _=>False) h3 (h3.push (.cells #[.int .i64 x] 3)):=(Fr.refl _ _).push
       refine appendB (vs:=ints (ofP zs p (l.take i))) (ws:=[.int .i64 x]) (SB.fr ((f2.trans f3).trans f4) fun _ _ h=>h) (by rw [ints_len]) (SlAt.new (vs:=[.int .i64 x])).row rfl (by simp [Value.oneCell']) (by omega) (by omega) ?_
       intro B5 bc5 h5 S5 f5 hB5
       obtain ⟨g1,g2,g3,g4⟩:=RwJ.next (((f1.trans f2).trans f3).trans f4) hB f5 S5 hB5 ea
       simp -implicitDefEqProofs (disch:=omega) [go_sem,r0,r1,r7,r13,r14,r15]
       exact ⟨⟨r13,r14,g1,i+1,B5,bc5,rfl,by omega,by rw [g3]; rfl,g2,g4⟩,by omega⟩
     · have hp':¬ ((litAt zs x).p:Int)=(p:Int):=by omega
       have ea:ofP zs p (l.take (i+1))=ofP zs p (l.take i):=by rw [ofP_succ hxi,if_neg hp,List.append_nil]
       simp -implicitDefEqProofs (disch:=omega) [go_sem,r0,r1,r7,r13,r14,r15,hp']
       have f3:∀ {a b c:Value},Fr (fun _=>False) h2 (hset (hset (hset (h2.push (.cells #[.int .i64 0,.int .i64 0,.int .i64 0] 150)) ⟨h2.size,0,none⟩ a) ⟨h2.size,1,none⟩ b) ⟨h2.size,2,none⟩ c):=((((Fr.refl _ _).push).new (Nat.le_refl _)).new (Nat.le_refl _)).new (Nat.le_refl _)
       exact ⟨⟨r13,r14,(f1.trans f2).trans f3,i+1,B,bc,rfl,by omega,by rw [ea]; exact r7,by rw [ea]; exact SB.fr (f2.trans f3) fun _ _ h=>h,hB⟩,by omega⟩
   · obtain rfl:i=l.length:=by omega
     rw [List.take_length] at r7 SB
     simp -implicitDefEqProofs (disch:=omega) [go_sem,r0,r1,r7,r13,r14,r15]
     exact ⟨f1,B,bc,rfl,SB,hB⟩
end
structure ExJ (h0:Heap) (tb p z:Nat) (zs:List Nat) (l:List Int) (m:Nat) (ρ:Env) (h:Heap):Prop where
 r0:ρ 0=.pointer (some ⟨tb,0,none⟩)
 r1:ρ 1=.int .i64 p
 r3:ρ 3=.int .i64 0
 fr:Fr (fun _=>False) h0 h
 ex:∃ (l':List Int) (i:Nat) (B:Option Addr) (bc:Nat),ρ 9=.slice B l'.length bc∧SlAt h B bc (ints l')∧(∀ y,blk B y→h0.size≤y)∧ρ 10=.int .i64 i∧i+m=l'.length∧alw zs z l'=[]∧(∀ x∈l',x∈l)∧l'.length≤l.length
section
variable {h:Heap} {T:Nat→Prop} {tb:Nat} {zs:List Nat} {A:Option Addr} {n c:Nat} {l:List Int}
theorem oexpl_ok (M:TabM h T tb zs) (F:Few zs) {p z:Nat} (hz:zs[p]?=some z) (R:RowAt h A (ints l)) (hn:n=l.length) (hs:n<2^40) (hx:∀ x∈l,1≤x.natAbs∧x.natAbs≤wsum zs) (h0:alw zs z l=[]) :
   CallsH Tryz.prog 195 [.pointer (some ⟨tb,0,none⟩),.int .i64 p,.slice A n c,.int .i64 0] h fun r h'=>∃ l',RowN l' r h h'∧alw zs z l'=[]∧(∀ x∈l',x∈l)∧l'.length≤l.length:=by
 subst hn
 refine calls_of 39 [.tmp 8] Go.Proofs.Tryz.func195 rfl rfl rfl ?_
 simp -implicitDefEqProofs (disch:=omega) [go_sem]
 refine scopeMG 0 (ExJ h tb p z zs l) rfl rfl (by kernel_rfl) ?_ ?_
 · simp -implicitDefEqProofs (disch:=omega) [go_sem]
   refine useC (clone_ok R (by rw [ints_len]) ints_one (by omega)) ?_
   rintro _ h1 ⟨S,sc,rfl,SS,ownS,f1⟩
   simp -implicitDefEqProofs (disch:=omega) [go_sem]
   exact ⟨l.length,rfl,rfl,rfl,f1,l,0,S,sc,rfl,SS,ownS,rfl,Nat.zero_add _,h0,fun x h=>h,Nat.le_refl _⟩
 · rintro m ρ h1 ⟨r0,r1,r3,f1,l',i,B,bc,r9,SB,hB,r10,him,hal,hsub,hle⟩
   by_cases hin:i<l'.length
   · obtain ⟨bk,off,rfl,hc⟩:=SB.row.get (by rw [ints_len]; omega)
     have hcap:=SB.len
     rw [ints_len] at hcap
     simp -implicitDefEqProofs (disch:=omega) [go_sem,r0,r1,r3,r9,r10]
     refine drawK [(0,0),(1,0),(2,0),(3,0),(4,0),(5,0),(6,0),(7,3),(8,3),(9,0)] ?_
     simp -implicitDefEqProofs (disch:=omega) [go_sem,r0,r1,r3,r9,r10]
     refine build2s ?_
     simp -implicitDefEqProofs (disch:=omega) [go_sem,r0,r1,r3,r9,r10]
     obtain ⟨o2,ho2⟩:∃ o2,o2=if bc=i+1 then off else off+(i+1):=⟨_,rfl⟩
     rw [← ho2]
     obtain ⟨h2,e2⟩:∃ h2,h2=h1.push (.cells #[.slice (some ⟨bk,off,none⟩) i bc,.slice (some ⟨bk,o2,none⟩) (l'.length-(i+1)) (bc-(i+1))] 23):=⟨_,rfl⟩
     have f2:Fr (fun _=>False) h1 h2:=by rw [e2]; exact (Fr.refl _ _).push
     have V2:ListB h2 h1.size [.slice (some ⟨bk,off,none⟩) i bc,.slice (some ⟨bk,o2,none⟩) (l'.length-(i+1)) (bc-(i+1))]:=by rw [e2]; exact ListB.new
     rw [← e2]
     have et:(ints l').take i=ints (l'.take i):=by unfold ints; rw [List.map_take]
     have ed:(ints l').drop (i+1)=ints (l'.drop (i+1)):=by unfold ints; rw [List.map_drop]
     have R1:RowAt h2 (some ⟨bk,off,none⟩) (ints (l'.take i)):=by rw [← et]; exact (SB.row.take i).fr0 f2
     have R2:RowAt h2 (some ⟨bk,o2,none⟩) (ints (l'.drop (i+1))):=by
       rw [← ed,ho2]
       have:=(SB.row.drop (cap:=bc) (i:=i+1) (by rw [ints_len]; exact hcap)).fr0 f2
       rwa [Nat.mul_one] at this
     have l1:(l'.take i).length=i:=by rw [List.length_take]; omega
     have l2:(l'.drop (i+1)).length=l'.length-(i+1):=List.length_drop
     obtain ⟨w,hw⟩:∃ w,w=l'.take i++l'.drop (i+1):=⟨_,rfl⟩
     have hwl:w.length+1=l'.length:=by rw [hw,List.length_append,l1,l2]; omega
     have hws:∀ x∈w,x∈l':=fun x hx=>by
       rw [hw] at hx
       exact (List.mem_append.1 hx).elim (fun h=>List.mem_of_mem_take h) fun h=>List.mem_of_mem_drop h
     have co:=concat_ok (h:=h2) (A:=some ⟨h1.size,0,none⟩) (n:=2) (c:=2) (Ks:=[l'.take i,l'.drop (i+1)]) (w:=w) (by rw [hw]; simp) (fun j K hK=>by
       match j,hK with
       | 0,hK=>obtain rfl:=Option.some.inj hK; exact ⟨h1.size,0,some ⟨bk,off,none⟩,bc,rfl,by rw [l1]; exact V2.at' 0 _ rfl,R1⟩
       | 1,hK=>obtain rfl:=Option.some.inj hK; exact ⟨h1.size,0,some ⟨bk,o2,none⟩,bc-(i+1),rfl,by rw [l2]; exact V2.at' 1 _ rfl,R2⟩
       | j+2,hK=>simp at hK) rfl (by omega) (by omega)
     refine useC co ?_
     rintro _ h3 ⟨W,wc,rfl,SW,ownW,f3⟩
     have f13:=f2.trans f3
     have f03:=f1.trans f13
     simp -implicitDefEqProofs (disch:=omega) [go_sem,r0,r1,r3,r9,r10]
     refine useC (oallowed_ok (M.fr0 f03) F hz SW.row rfl (by omega) fun x hxw=>hx x (hsub x (hws x hxw))) ?_
     rintro _ h4 ⟨f4,Q,qc,rfl,SQ,ownQ⟩
     have z1:=f1.size
     have z2:=f2.size
     have z3:=f3.size
     cases hq:alw zs z w with
     | nil =>
       simp -implicitDefEqProofs (disch:=omega) [go_sem,r0,r1,r3,r9,r10]
       exact ⟨m-1,by omega,r0,r1,r3,f03.trans f4,w,i,W,wc,rfl,SW.fr f4 (fun _ _ h=>h),fun y hy=>by have:=ownW y hy; omega,r10,by omega,hq,fun x hx=>hsub x (hws x hx),by omega⟩
     | cons q0 qs =>
       have hne:¬ (((q0::qs).length:Nat):Int)=0:=by simp; omega
       simp -implicitDefEqProofs (disch:=omega) [go_sem,r0,r1,r3,r9,r10,hne]
       exact ⟨m-1,by omega,r0,r1,r3,f03.trans f4,l',i+1,_,bc,r9,SB.fr (f13.trans f4) (fun _ _ h=>h),hB,rfl,by omega,hal,hsub,hle⟩
   · obtain rfl:i=l'.length:=by omega
     simp -implicitDefEqProofs (disch:=omega) [go_sem,r0,r1,r3,r9,r10]
     exact ⟨l',⟨f1,B,bc,rfl,SB,hB⟩,hal,hsub,hle⟩
end
theorem negs_len {l:List Int}:(negs l).length=l.length:=by simp [negs]
def ClnO (l:List Int) (r:Value) (h h':Heap):Prop:=Fr (fun _=>False) h h'∧∃ o,CleanR l o∧match o with
 | none=>r=.slice none 0 0
 | some L=>∃ A' c',r=.slice A' L.length c'∧SlAt h' A' c' (ints L)∧∀ y,blk A' y→h.size≤y
section
variable {h:Heap} {T:Nat→Prop} {tb:Nat} {zs:List Nat} {A:Option Addr} {n c:Nat} {l:List Int}
theorem onegated_ok (R:RowAt h A (ints l)) (hn:n=l.length) (hs:n<2^38) (hx:∀ x∈l,-9223372036854775807≤x∧x≤9223372036854775807) :
   CallsH Tryz.prog 194 [.slice A n c] h fun r h'=>ClnO (negs l) r h h':=by
 subst hn
 refine calls_of 24 [.tmp 2] Go.Proofs.Tryz.func194 rfl rfl rfl ?_
 simp -implicitDefEqProofs (disch:=omega) [go_sem]
 refine loopK (fun ρ h'=>RwJ h negs l 6 7 8 3 A c ρ h') (fun ρ _=>l.length-(intOf (ρ 8)).toNat) (by kernel_rfl) ?_ ?_
 · exact ⟨rfl,rfl,Fr.refl _ _,0,none,0,rfl,Nat.zero_le _,rfl,SlAt.nil _,fun y ⟨_,h,_⟩=>(nomatch h)⟩
 · rintro ρ h1 ⟨r6,r7,f1,i,B,bc,r8,hi,r3,SB,hB⟩
   by_cases hin:i<l.length
   · obtain ⟨x,hxi⟩:=some_at hin
     have hxr:=hx x (List.mem_of_getElem? hxi)
     obtain ⟨bk,off,rfl,hc⟩:=(R.fr0 f1).get (by rw [ints_len]; omega)
     have c0:=hc _ _ (ints_at hxi)
     have htl:(negs (l.take i)).length=i:=by rw [negs_len,List.length_take]; omega
     have ea:negs (l.take (i+1))=negs (l.take i)++[-x]:=by rw [List.take_add_one,hxi]; simp [negs]
     simp -implicitDefEqProofs (disch:=omega) [go_sem,r3,r6,r7,r8,c0]
     refine build1 rfl rfl ?_
     simp -implicitDefEqProofs (disch:=omega) [go_sem,r3,r6,r7,r8]
     have f4:Fr (fun _=>False) h1 (h1.push (.cells #[.int .i64 (-x)] 3)):=(Fr.refl _ _).push
     refine appendB (vs:=ints (negs (l.take i))) (ws:=[.int .i64 (-x)]) (SB.fr f4 fun _ _ h=>h) (by rw [ints_len]) (SlAt.new (vs:=[.int .i64 (-x)])).row rfl (by simp [Value.oneCell']) (by omega) (by omega) ?_
     intro B5 bc5 h5 S5 f5 hB5
     obtain ⟨g1,g2,g3,g4⟩:=RwJ.next (f1.trans f4) hB f5 S5 hB5 ea
     simp -implicitDefEqProofs (disch:=omega) [go_sem,r3,r6,r7,r8]
     exact ⟨⟨r6,r7,g1,i+1,B5,bc5,rfl,by omega,by rw [g3]; rfl,g2,g4⟩,by omega⟩
   · obtain rfl:i=l.length:=by omega
     rw [List.take_length] at r3 SB
     simp -implicitDefEqProofs (disch:=omega) [go_sem,r3,r6,r7,r8]
     refine useC (cleanG_ok SB.row rfl (by rw [negs_len]; omega) fun y hy=>?_) ?_
     · unfold negs at hy
       obtain ⟨x,hxm,rfl⟩:=List.mem_map.1 hy
       have:=hx x hxm
       omega
     · rintro _ h2 ⟨⟨o,ho,hm⟩,f2⟩
       cases o with
       | none =>
         obtain rfl:=hm
         simp -implicitDefEqProofs (disch:=omega) [go_sem,r3,r6,r7,r8]
         exact ⟨f1.trans f2,none,ho,rfl⟩
       | some L =>
         obtain ⟨A',c',rfl,S,own⟩:=hm
         simp -implicitDefEqProofs (disch:=omega) [go_sem,r3,r6,r7,r8]
         exact ⟨f1.trans f2,some L,ho,A',c',rfl,S,fun y hy=>Nat.le_trans f1.size (own y hy)⟩
theorem lnegated_ok (R:RowAt h A (ints l)) (hn:n=l.length) (hs:n<2^38) (hx:∀ x∈l,-9223372036854775807≤x∧x≤9223372036854775807) :
   CallsH Tryz.prog 99 [.slice A n c] h fun r h'=>ClnO (negs l) r h h':=by
 subst hn
 refine calls_of 24 [.tmp 2] Go.Proofs.Tryz.func99 rfl rfl rfl ?_
 simp -implicitDefEqProofs (disch:=omega) [go_sem]
 refine loopK (fun ρ h'=>RwJ h negs l 6 7 8 3 A c ρ h') (fun ρ _=>l.length-(intOf (ρ 8)).toNat) (by kernel_rfl) ?_ ?_
 · exact ⟨rfl,rfl,Fr.refl _ _,0,none,0,rfl,Nat.zero_le _,rfl,SlAt.nil _,fun y ⟨_,h,_⟩=>(nomatch h)⟩
 · rintro ρ h1 ⟨r6,r7,f1,i,B,bc,r8,hi,r3,SB,hB⟩
   by_cases hin:i<l.length
   · obtain ⟨x,hxi⟩:=some_at hin
     have hxr:=hx x (List.mem_of_getElem? hxi)
     obtain ⟨bk,off,rfl,hc⟩:=(R.fr0 f1).get (by rw [ints_len]; omega)
     have c0:=hc _ _ (ints_at hxi)
     have htl:(negs (l.take i)).length=i:=by rw [negs_len,List.length_take]; omega
     have ea:negs (l.take (i+1))=negs (l.take i)++[-x]:=by rw [List.take_add_one,hxi]; simp [negs]
     simp -implicitDefEqProofs (disch:=omega) [go_sem,r3,r6,r7,r8,c0]
     refine build1 rfl rfl ?_
     simp -implicitDefEqProofs (disch:=omega) [go_sem,r3,r6,r7,r8]
     have f4:Fr (fun _=>False) h1 (h1.push (.cells #[.int .i64 (-x)] 3)):=(Fr.refl _ _).push
     refine appendB (vs:=ints (negs (l.take i))) (ws:=[.int .i64 (-x)]) (SB.fr f4 fun _ _ h=>h) (by rw [ints_len]) (SlAt.new (vs:=[.int .i64 (-x)])).row rfl (by simp [Value.oneCell']) (by omega) (by omega) ?_
     intro B5 bc5 h5 S5 f5 hB5
     obtain ⟨g1,g2,g3,g4⟩:=RwJ.next (f1.trans f4) hB f5 S5 hB5 ea
     simp -implicitDefEqProofs (disch:=omega) [go_sem,r3,r6,r7,r8]
     exact ⟨⟨r6,r7,g1,i+1,B5,bc5,rfl,by omega,by rw [g3]; rfl,g2,g4⟩,by omega⟩
   · obtain rfl:i=l.length:=by omega
     rw [List.take_length] at r3 SB
     simp -implicitDefEqProofs (disch:=omega) [go_sem,r3,r6,r7,r8]
     refine useC (cleanG_ok SB.row rfl (by rw [negs_len]; omega) fun y hy=>?_) ?_
     · unfold negs at hy
       obtain ⟨x,hxm,rfl⟩:=List.mem_map.1 hy
       have:=hx x hxm
       omega
     · rintro _ h2 ⟨⟨o,ho,hm⟩,f2⟩
       cases o with
       | none =>
         obtain rfl:=hm
         simp -implicitDefEqProofs (disch:=omega) [go_sem,r3,r6,r7,r8]
         exact ⟨f1.trans f2,none,ho,rfl⟩
       | some L =>
         obtain ⟨A',c',rfl,S,own⟩:=hm
         simp -implicitDefEqProofs (disch:=omega) [go_sem,r3,r6,r7,r8]
         exact ⟨f1.trans f2,some L,ho,A',c',rfl,S,fun y hy=>Nat.le_trans f1.size (own y hy)⟩
end
end Xe
