/- Package cdcl: a cause. -/
import Derived.Test.YtkghjecglmmloaaGreatC5
namespace Xe
open Go Tp Go.Proofs Hq
set_option maxRecDepth 16000
set_option maxHeartbeats 2000000
theorem cauCmp_ok {h:Heap} {x y:Int} (hx:okL x) (hy:okL y):CallsH Tryz.prog 186 ([.int .i64 x,.int .i64 y]++[]) h fun r h'=>r=.int .i64 (cleanCf x y)∧Fr (fun _=>False) h h':=by
 have ex:max x (-x)=(x.natAbs:Int):=by omega
 have ey:max y (-y)=(y.natAbs:Int):=by omega
 have vx:var12 x=x.natAbs:=if_pos hx.2
 have vy:var12 y=y.natAbs:=if_pos hy.2
 unfold okL at hx hy
 refine calls_of 19 [.tmp 4] Go.Proofs.Tryz.func186 rfl rfl rfl ?_
 simp -implicitDefEqProofs (disch:=omega) [go_sem,ex,ey]
 refine useC (compare_ok _ _) ?_
 rintro _ h1 ⟨rfl,rfl⟩
 simp -implicitDefEqProofs (disch:=omega) [go_sem]
 refine useC (compare_ok _ _) ?_
 rintro _ h1 ⟨rfl,rfl⟩
 simp -implicitDefEqProofs (disch:=omega) [go_sem]
 refine build2 ?_
 simp -implicitDefEqProofs (disch:=omega) [go_sem]
 have co:=or_ok (h:=h1.push (.cells #[.int .i64 (cmpI (x.natAbs:Int) (y.natAbs:Int)),.int .i64 (cmpI x y)] 3)) (A:=some ⟨h1.size,0,none⟩) (c:=2) (SlAt.new (h:=h1) (vs:=ints [cmpI (x.natAbs:Int) (y.natAbs:Int),cmpI x y]) (e:=3)).row
 refine useC co ?_
 rintro _ h2 ⟨rfl,rfl⟩
 simp -implicitDefEqProofs (disch:=omega) [go_sem]
 refine ⟨?_,(Fr.refl _ _).push⟩
 unfold cleanCf
 rw [vx,vy]
 by_cases e:cmpI (x.natAbs:Int) (y.natAbs:Int)=0 <;> simp [e]
section
variable {h h':Heap} {xb cb:Nat} {k k':Nat→Option CT} {c c':CSt} {sc:Scr} {a:ScrA} {AA:Option Addr} {ac:Nat} {am:List Int} {q:Cnt}
structure CaJ (h0:Heap) (xb:Nat) (s:WS) (tb:Nat) (lit:Int) (L:Option Addr) (ld:Nat) (ρ:Env) (h:Heap):Prop where
 r0:ρ 0=.pointer (some ⟨xb,0,none⟩)
 r5:ρ 5=.pointer (some ⟨tb,0,none⟩)
 r8:ρ 8=.slice L s.l.length ld
 sl:SlAt h L ld (ints (lits s.l))
 fr:Fr (fun _=>False) h0 h
 ex:∃ (i:Nat) (seen out:List Int) (Z Y:Option Addr) (zc yc:Nat),ρ 9=.int .i64 ((i:Int)-1)∧i≤s.l.length∧CauI s lit i seen out∧ρ 6=.slice Z seen.length zc∧ρ 7=.slice Y out.length yc∧SlAt h Z zc (ints seen)∧SlAt h Y yc (ints out) ∧
  (∀ y,blk Z y→h0.size≤y)∧(∀ y,blk Y y→h0.size≤y∧¬ blk Z y)∧(∀ y,blk L y→¬ blk Z y∧¬ blk Y y)∧seen.length+i*(s.vars+1)≤1+s.l.length*(s.vars+1)∧out.length+i≤1+s.l.length
def CauR (s:WS) (lit:Int) (r:Value) (h h':Heap):Prop:=∃ A d seen out cl,r=.slice A (cl:List Int).length d∧SlAt h' A d (ints cl)∧(∀ y,blk A y→h.size≤y)∧CauI s lit 0 seen out∧(∀ x,x∈cl↔x∈out)∧cl.Pairwise lexLt∧cl.length≤s.vars+1
theorem cause_ok (X:SrM h xb cb k c sc a AA ac am q) (I:WInv c.s) (Rn:Rm c.s.l) (hv:c.s.vars≤10000) {lit:Int} (hlit:okL lit) :
   CallsH Tryz.prog 139 [.pointer (some ⟨xb,0,none⟩),.int .i64 lit] h fun r h'=>Fr (fun _=>False) h h'∧CauR c.s lit r h h':=by
 have hll:=I.good.len
 have hlit':=hlit
 unfold okL at hlit'
 refine calls_of 90 [.tmp 4] Go.Proofs.Tryz.func139 rfl rfl rfl ?_
 obtain ⟨bb,hb,p,O,n,act,LA,lc,GA,gc,vs,C⟩:=X.C.ex
 have x0:=X.B.at' 0 _ rfl
 have b0:=C.B.at' 0 _ rfl
 simp -implicitDefEqProofs (disch:=omega) [go_sem,x0,b0]
 refine useC (btrail_m C.M) ?_
 rintro _ h1 ⟨rfl,rfl⟩
 simp -implicitDefEqProofs (disch:=omega) [go_sem]
 refine buildB rfl rfl ?_
 intro Z1 h2 SZ hZ f2
 simp -implicitDefEqProofs (disch:=omega) [go_sem]
 refine buildB rfl rfl ?_
 intro Y1 h3 SY hY f3
 simp -implicitDefEqProofs (disch:=omega) [go_sem]
 have M3:=(C.M.fr0 f2).fr0 f3
 refine useC (tlits_ok M3.T) ?_
 rintro _ h4 ⟨L,ld,rfl,SL,ownL,f4⟩
 simp -implicitDefEqProofs (disch:=omega) [go_sem]
 have z2:=f2.size
 have z3:=f3.size
 refine loopK (CaJ h1 xb c.s p.tb lit L ld) (fun ρ _=>(intOf (ρ 9)+1).toNat) (by kernel_rfl) ?_ ?_
 · refine ⟨rfl,rfl,rfl,SL,(f2.trans f3).trans f4,c.s.l.length,[lit],[lit],Z1,Y1,1,1,rfl,by omega,CauI.start lit,rfl,rfl,?_,?_,fun y hy=>(hZ y hy).1,fun y hy=>⟨?_,fun h=>?_⟩,fun y hy=>⟨fun h=>?_,fun h=>?_⟩,?_,?_⟩
   · exact (SZ.fr f3 fun _ _ h=>h).fr f4 fun _ _ h=>h
   · exact SY.fr f4 fun _ _ h=>h
   · have:=(hY y hy).1; omega
   · have:=(hY y hy).1; have:=(hZ y h).2; omega
   · have:=ownL y hy; have:=(hZ y h).2; omega
   · have:=ownL y hy; have:=(hY y h).2; omega
   · simp
   · simp
 · rintro ρ h5 ⟨r0,r5,r8,SL5,f5,i,seen,out,Z,Y,zc,yc,r9,hi,CI,r6,r7,SZ5,SY5,ownZ,ownY,hLZ,hzl,hyl⟩
   have hbd:seen.length≤200000000:=by
     have:c.s.l.length*(c.s.vars+1)≤10000*10001:=Nat.mul_le_mul (by omega) (by omega)
     have:=Nat.zero_le (i*(c.s.vars+1))
     omega
   cases i with
   | zero =>
     have hoR:∀ x∈out,okL x:=fun x hx=>by
       rcases CI.c2 x hx with rfl | ⟨t,ht,_,rfl⟩
       · exact hlit
       · have:=I.good.rng t ht; have:=I.hv; unfold okL; omega
     simp -implicitDefEqProofs (disch:=omega) [go_sem,r0,r5,r6,r7,r8,r9]
     refine useC (sortC_ok (cs:=[]) cleanCf_ok SY5 hoR rfl (by omega) (fun h _ x y hx hy=>cauCmp_ok hx hy)) ?_
     rintro r1 h6 ⟨F,hP,hO,S6,f6⟩
     have hFl:=hP.length_eq
     simp -implicitDefEqProofs (disch:=omega) [go_sem,r0,r5,r6,r7,r8,r9]
     refine useC (compact_ok (n:=out.length) S6 hFl.symm (by omega)) ?_
     rintro _ h7 ⟨rfl,S7,f7⟩
     have hspec:=cN_spec (l:=F) (fun p q h1 h2=>cleanCf_lex (hoR _ (hP.mem_iff.1 (List.mem_of_getElem? (gt_at (by omega))))) (hoR _ (hP.mem_iff.1 (List.mem_of_getElem? (gt_at h2)))) (hO p q h1 (by omega))) F.length (Nat.le_refl _)
     have hcl:=cN_le F F.length
     rw [← hFl] at S7 ⊢
     simp -implicitDefEqProofs (disch:=omega) [go_sem,r0,r5,r6,r7,r8,r9]
     have f17:Fr (fun _=>False) h1 h7:=(f5.trans' f6 fun y hy hb=>by have:=(ownY y hb).1; omega).trans' f7 fun y hy hb=>by have:=(ownY y hb).1; omega
     exact ⟨f17,Y,yc,seen,out,cN F F.length,rfl,S7,fun y hy=>(ownY y hy).1,CI,fun x=>by rw [hspec.1 x,← mem_gt,hP.mem_iff],hspec.2,by omega⟩
   | succ i =>
     obtain ⟨t,ht⟩:∃ t,c.s.l[i]?=some t:=⟨_,List.getElem?_eq_getElem (by omega)⟩
     have htm:=List.mem_of_getElem? ht
     have htr:=I.good.rng t htm
     have hrs:=(Rn t htm).1
     have SL5':=SL5
     obtain ⟨bk,off,rfl,hc⟩:=SL5.row.get (by rw [ints_len]; unfold lits; rw [List.length_map]; omega)
     have c0:=hc _ _ (ints_at (lits_at ht))
     have emx:max t.lit (-t.lit)=(t.lit.natAbs:Int):=by omega
     have e1:RSi c.s.l (t.lit.natAbs:Int)=t.rs:=by rw [rsi_nat]; exact I.good.rs ht
     have e2:LVi c.s.l (t.lit.natAbs:Int)=t.lv:=by rw [lvi_nat]; exact I.good.lv ht
     have em:(i+1)*(c.s.vars+1)=i*(c.s.vars+1)+(c.s.vars+1):=Nat.succ_mul _ _
     rw [em] at hzl
     obtain ⟨P,hP⟩:∃ P,P=i*(c.s.vars+1):=⟨_,rfl⟩
     obtain ⟨W,hW⟩:∃ W,W=c.s.l.length*(c.s.vars+1):=⟨_,rfl⟩
     rw [← hP,← hW] at hzl
     have X5:=X.fr0 f5
     have C5:=C.fr0 f5
     have ei:(((i+1:Nat):Int)-1)=(i:Int):=by omega
     rw [ei] at r9
     have hmark:(t.lit∈seen∨-t.lit∈seen)↔((t.lit.natAbs:Int)∈seen∨-(t.lit.natAbs:Int)∈seen):=by
       rcases Int.le_total 0 t.lit with h | h
       · rw [show (t.lit.natAbs:Int)=t.lit by omega]
       · rw [show (t.lit.natAbs:Int)=-t.lit by omega,Int.neg_neg]; exact Or.comm
     have skip:(t.lv=0∨(t.lit∉seen∧-t.lit∉seen))→CauI c.s lit i seen out:=fun h=>CI.skip ht h
     simp -implicitDefEqProofs (disch:=omega) [go_sem,r0,r5,r6,r7,r8,r9]
     refine drawK [(0,0),(1,0),(2,0),(3,1),(4,0),(5,0),(6,0),(7,1),(8,0),(9,0),(10,0)] ?_
     simp -implicitDefEqProofs (disch:=omega) [go_sem,r0,r5,r6,r7,r8,r9,c0,emx]
     refine useC (tlevelOf_ok C5.M.T (v:=(t.lit.natAbs:Int)) (by omega) (by omega)) ?_
     rintro _ h6 ⟨rfl,rfl⟩
     rw [e2]
     by_cases hl0:t.lv=0
     · have hl0':(t.lv:Int)=0:=by omega
       simp -implicitDefEqProofs (disch:=omega) [go_sem,r0,r5,r6,r7,r8,r9,hl0,hl0']
       exact ⟨r0,r5,r8,SL5',f5,i,seen,out,Z,Y,zc,yc,rfl,by omega,skip (.inl hl0),r6,r7,SZ5,SY5,ownZ,ownY,hLZ,by rw [← hP,← hW]; omega,by omega⟩
     have hl0':¬ (t.lv:Int)=0:=by omega
     simp -implicitDefEqProofs (disch:=omega) [go_sem,r0,r5,r6,r7,r8,r9,hl0,hl0']
     refine useC (contains_ok SZ5.row rfl (by omega) (t.lit.natAbs:Int)) ?_
     rintro _ h7 ⟨rfl,rfl⟩
     by_cases hm1:(t.lit.natAbs:Int)∈seen
     · simp -implicitDefEqProofs (disch:=omega) [go_sem,r0,r5,r6,r7,r8,r9,hl0,hl0',hm1]
       have x05:=X5.B.at' 0 _ rfl
       have b05:=C5.B.at' 0 _ rfl
       refine drawC [(0,0),(1,0),(2,0),(3,2),(4,0),(5,0),(6,2),(7,0),(8,0),(9,3),(10,3),(11,0),(12,0),(13,0),(14,0),(15,0)] (fun h'=>hcell h' ⟨xb,0,none⟩=some (.pointer (some ⟨cb,0,none⟩))∧hcell h' ⟨cb,0,none⟩=some (.pointer (some ⟨bb,0,none⟩))) ⟨x05,b05⟩ ?_
       simp -implicitDefEqProofs (disch:=omega) [go_sem,r0,r5,r6,r7,r8,r9,hl0,hl0',hm1]
       refine float2 (.pointer (some ⟨cb,0,none⟩)) (fun h' hC=>by simp -implicitDefEqProofs (disch:=omega) [go_sem,r0,hC.1]) ?_
       simp -implicitDefEqProofs (disch:=omega) [go_sem,r0,r5,r6,r7,r8,r9,hl0,hl0',hm1]
       refine float2 (.pointer (some ⟨bb,0,none⟩)) (fun h' hC=>by simp -implicitDefEqProofs (disch:=omega) [go_sem,r0,hC.2]) ?_
       simp -implicitDefEqProofs (disch:=omega) [go_sem,r0,r5,r6,r7,r8,r9,hl0,hl0',hm1]
       refine useC (treason_ok C5.M.T (v:=(t.lit.natAbs:Int)) (by omega) (by omega)) ?_
       rintro _ h9 ⟨rfl,rfl⟩
       rw [e1]
       refine ⟨⟨x05,b05⟩,?_⟩
       simp -implicitDefEqProofs (disch:=omega) [go_sem,r0,r5,r6,r7,r8,r9,hl0,hl0',hm1]
       by_cases hr:t.rs<0
       · refine useC (clause_none C5.M (id:=t.rs) (by omega) (by omega) (fun h=>by omega)) ?_
         rintro _ h10 ⟨rfl,rfl⟩
         refine ⟨⟨x05,b05⟩,?_⟩
         simp -implicitDefEqProofs (disch:=omega) [go_sem,r0,r5,r6,r7,r8,r9,hl0,hl0',hm1,c0]
         refine build1 rfl rfl ?_
         simp -implicitDefEqProofs (disch:=omega) [go_sem,r0,r5,r6,r7,r8,r9,hl0,hl0',hm1]
         have f11:Fr (fun _=>False) h10 (h10.push (.cells #[.int .i64 t.lit] 3)):=(Fr.refl _ _).push
         refine appendN (sz:=1) (vs:=ints out) (ws:=[.int .i64 t.lit]) (by rw [Nat.mul_one]; exact SY5.fr f11 fun _ _=>id) (by rw [ints_len,Nat.mul_one]) (SlAt.new (vs:=[.int .i64 t.lit])).row rfl (by omega) (by simp [Value.oneCell']) (by omega) (by omega) ?_
         intro Y12 yc12 h12 S12 f12 hY12
         rw [Nat.mul_one,show ints out++[Value.int .i64 t.lit]=ints (out++[t.lit]) by rw [ints_append]; rfl] at S12
         have z5:=f5.size
         have z11:=f11.size
         have f512:Fr (blk Y) h10 h12:=(f11.mono fun _ _ h=>h.elim).trans f12
         have hol:(out++[t.lit]).length=out.length+1:=by rw [List.length_append]; rfl
         simp -implicitDefEqProofs (disch:=omega) [go_sem,r0,r5,r6,r7,r8,r9,hl0,hl0',hm1]
         refine ⟨r0,r5,r8,SL5'.fr f512 fun y hy=>(hLZ y hy).2,f5.trans' f512 fun y hy h=>by have:=(ownY y h).1; omega,i,seen,out++[t.lit],Z,Y12,zc,yc12,rfl,by omega,CI.decision ht hr,r6,by rw [hol]; rfl,SZ5.fr f512 fun y hy h=>(ownY y h).2 hy,S12,ownZ,fun y hy=>?_,fun y hy=>⟨(hLZ y hy).1,fun h=>?_⟩,by rw [← hP,← hW]; omega,by omega⟩
         · rcases hY12 y hy with h | h
           · exact ownY y h
           · exact ⟨by omega,fun hz=>by have:=SZ5.blk_lt hz; omega⟩
         · rcases hY12 y h with h | h
           · exact (hLZ y hy).2 h
           · have:=SL5'.blk_lt hy; omega
       · obtain ⟨e,he,hg,hu⟩:=I.rs i t ht (by omega)
         have hcl:=I.cl e (List.mem_of_getElem? he)
         have hel:=rise_length (a:=0) (n:=c.s.vars) hcl.1 fun x hx=>⟨(hcl.2 x hx).1,(hcl.2 x hx).2⟩
         have ers:t.rs=((t.rs.toNat:Nat):Int):=by omega
         rw [ers]
         refine useC (clause_some C5.M he hg) ?_
         rintro _ h10 ⟨A',c',rfl,SA,ownA,f10⟩
         have X10:=X5.fr0 f10
         have C10:=C5.fr0 f10
         refine ⟨⟨X10.B.at' 0 _ rfl,C10.B.at' 0 _ rfl⟩,?_⟩
         simp -implicitDefEqProofs (disch:=omega) [go_sem,r0,r5,r6,r7,r8,r9,hl0,hl0',hm1]
         refine appendB (vs:=ints seen) (ws:=ints e.lits) (SZ5.fr f10 fun _ _ h=>h) (by rw [ints_len]) SA.row (by rw [ints_len]) ints_one (by omega) (by omega) ?_
         intro Z12 zc12 h12 S12 f12 hZ12
         rw [← ints_append] at S12
         have z5:=f5.size
         have z10:=f10.size
         have f512:Fr (blk Z) h9 h12:=(f10.mono fun _ _ h=>h.elim).trans f12
         have hol:(seen++e.lits).length=seen.length+e.lits.length:=List.length_append
         simp -implicitDefEqProofs (disch:=omega) [go_sem,r0,r5,r6,r7,r8,r9,hl0,hl0',hm1]
         refine ⟨r0,r5,r8,SL5'.fr f512 fun y hy=>(hLZ y hy).1,f5.trans' f512 fun y hy h=>by have:=ownZ y h; omega,i,seen++e.lits,out,Z12,Y,zc12,yc,rfl,by omega,CI.reason I ht (by omega) he,by rw [hol]; rfl,r7,S12,SY5.fr f512 fun y hy h=>(ownY y hy).2 h,fun y hy=>?_,fun y hy=>⟨(ownY y hy).1,fun h=>?_⟩,fun y hy=>⟨fun h=>?_,(hLZ y hy).2⟩,by rw [← hP,← hW]; omega,by omega⟩
         · rcases hZ12 y hy with h | h
           · exact ownZ y h
           · omega
         · rcases hZ12 y h with h | h
           · exact (ownY y hy).2 h
           · have:=SY5.blk_lt hy; omega
         · rcases hZ12 y h with h | h
           · exact (hLZ y hy).1 h
           · have:=SL5'.blk_lt hy; omega
     · simp -implicitDefEqProofs (disch:=omega) [go_sem,r0,r5,r6,r7,r8,r9,hl0,hl0',hm1]
       refine useC (contains_ok SZ5.row rfl (by omega) (-(t.lit.natAbs:Int))) ?_
       rintro _ h8 ⟨rfl,rfl⟩
       by_cases hm2:-(t.lit.natAbs:Int)∈seen
       · simp -implicitDefEqProofs (disch:=omega) [go_sem,r0,r5,r6,r7,r8,r9,hl0,hl0',hm1,hm2]
         have x05:=X5.B.at' 0 _ rfl
         have b05:=C5.B.at' 0 _ rfl
         refine drawC [(0,0),(1,0),(2,0),(3,2),(4,0),(5,0),(6,2),(7,0),(8,0),(9,3),(10,3),(11,0),(12,0),(13,0),(14,0),(15,0)] (fun h'=>hcell h' ⟨xb,0,none⟩=some (.pointer (some ⟨cb,0,none⟩))∧hcell h' ⟨cb,0,none⟩=some (.pointer (some ⟨bb,0,none⟩))) ⟨x05,b05⟩ ?_
         simp -implicitDefEqProofs (disch:=omega) [go_sem,r0,r5,r6,r7,r8,r9,hl0,hl0',hm1,hm2]
         refine float2 (.pointer (some ⟨cb,0,none⟩)) (fun h' hC=>by simp -implicitDefEqProofs (disch:=omega) [go_sem,r0,hC.1]) ?_
         simp -implicitDefEqProofs (disch:=omega) [go_sem,r0,r5,r6,r7,r8,r9,hl0,hl0',hm1,hm2]
         refine float2 (.pointer (some ⟨bb,0,none⟩)) (fun h' hC=>by simp -implicitDefEqProofs (disch:=omega) [go_sem,r0,hC.2]) ?_
         simp -implicitDefEqProofs (disch:=omega) [go_sem,r0,r5,r6,r7,r8,r9,hl0,hl0',hm1,hm2]
         refine useC (treason_ok C5.M.T (v:=(t.lit.natAbs:Int)) (by omega) (by omega)) ?_
         rintro _ h9 ⟨rfl,rfl⟩
         rw [e1]
         refine ⟨⟨x05,b05⟩,?_⟩
         simp -implicitDefEqProofs (disch:=omega) [go_sem,r0,r5,r6,r7,r8,r9,hl0,hl0',hm1,hm2]
         by_cases hr:t.rs<0
         · refine useC (clause_none C5.M (id:=t.rs) (by omega) (by omega) (fun h=>by omega)) ?_
           rintro _ h10 ⟨rfl,rfl⟩
           refine ⟨⟨x05,b05⟩,?_⟩
           simp -implicitDefEqProofs (disch:=omega) [go_sem,r0,r5,r6,r7,r8,r9,hl0,hl0',hm1,hm2,c0]
           refine build1 rfl rfl ?_
           simp -implicitDefEqProofs (disch:=omega) [go_sem,r0,r5,r6,r7,r8,r9,hl0,hl0',hm1,hm2]
           have f11:Fr (fun _=>False) h10 (h10.push (.cells #[.int .i64 t.lit] 3)):=(Fr.refl _ _).push
           refine appendN (sz:=1) (vs:=ints out) (ws:=[.int .i64 t.lit]) (by rw [Nat.mul_one]; exact SY5.fr f11 fun _ _=>id) (by rw [ints_len,Nat.mul_one]) (SlAt.new (vs:=[.int .i64 t.lit])).row rfl (by omega) (by simp [Value.oneCell']) (by omega) (by omega) ?_
           intro Y12 yc12 h12 S12 f12 hY12
           rw [Nat.mul_one,show ints out++[Value.int .i64 t.lit]=ints (out++[t.lit]) by rw [ints_append]; rfl] at S12
           have z5:=f5.size
           have z11:=f11.size
           have f512:Fr (blk Y) h10 h12:=(f11.mono fun _ _ h=>h.elim).trans f12
           have hol:(out++[t.lit]).length=out.length+1:=by rw [List.length_append]; rfl
           simp -implicitDefEqProofs (disch:=omega) [go_sem,r0,r5,r6,r7,r8,r9,hl0,hl0',hm1,hm2]
           refine ⟨r0,r5,r8,SL5'.fr f512 fun y hy=>(hLZ y hy).2,f5.trans' f512 fun y hy h=>by have:=(ownY y h).1; omega,i,seen,out++[t.lit],Z,Y12,zc,yc12,rfl,by omega,CI.decision ht hr,r6,by rw [hol]; rfl,SZ5.fr f512 fun y hy h=>(ownY y h).2 hy,S12,ownZ,fun y hy=>?_,fun y hy=>⟨(hLZ y hy).1,fun h=>?_⟩,by rw [← hP,← hW]; omega,by omega⟩
           · rcases hY12 y hy with h | h
             · exact ownY y h
             · exact ⟨by omega,fun hz=>by have:=SZ5.blk_lt hz; omega⟩
           · rcases hY12 y h with h | h
             · exact (hLZ y hy).2 h
             · have:=SL5'.blk_lt hy; omega
         · obtain ⟨e,he,hg,hu⟩:=I.rs i t ht (by omega)
           have hcl:=I.cl e (List.mem_of_getElem? he)
           have hel:=rise_length (a:=0) (n:=c.s.vars) hcl.1 fun x hx=>⟨(hcl.2 x hx).1,(hcl.2 x hx).2⟩
           have ers:t.rs=((t.rs.toNat:Nat):Int):=by omega
           rw [ers]
           refine useC (clause_some C5.M he hg) ?_
           rintro _ h10 ⟨A',c',rfl,SA,ownA,f10⟩
           have X10:=X5.fr0 f10
           have C10:=C5.fr0 f10
           refine ⟨⟨X10.B.at' 0 _ rfl,C10.B.at' 0 _ rfl⟩,?_⟩
           simp -implicitDefEqProofs (disch:=omega) [go_sem,r0,r5,r6,r7,r8,r9,hl0,hl0',hm1,hm2]
           refine appendB (vs:=ints seen) (ws:=ints e.lits) (SZ5.fr f10 fun _ _ h=>h) (by rw [ints_len]) SA.row (by rw [ints_len]) ints_one (by omega) (by omega) ?_
           intro Z12 zc12 h12 S12 f12 hZ12
           rw [← ints_append] at S12
           have z5:=f5.size
           have z10:=f10.size
           have f512:Fr (blk Z) h9 h12:=(f10.mono fun _ _ h=>h.elim).trans f12
           have hol:(seen++e.lits).length=seen.length+e.lits.length:=List.length_append
           simp -implicitDefEqProofs (disch:=omega) [go_sem,r0,r5,r6,r7,r8,r9,hl0,hl0',hm1,hm2]
           refine ⟨r0,r5,r8,SL5'.fr f512 fun y hy=>(hLZ y hy).1,f5.trans' f512 fun y hy h=>by have:=ownZ y h; omega,i,seen++e.lits,out,Z12,Y,zc12,yc,rfl,by omega,CI.reason I ht (by omega) he,by rw [hol]; rfl,r7,S12,SY5.fr f512 fun y hy h=>(ownY y hy).2 h,fun y hy=>?_,fun y hy=>⟨(ownY y hy).1,fun h=>?_⟩,fun y hy=>⟨fun h=>?_,(hLZ y hy).2⟩,by rw [← hP,← hW]; omega,by omega⟩
           · rcases hZ12 y hy with h | h
             · exact ownZ y h
             · omega
           · rcases hZ12 y h with h | h
             · exact (ownY y hy).2 h
             · have:=SY5.blk_lt hy; omega
           · rcases hZ12 y h with h | h
             · exact (hLZ y hy).1 h
             · have:=SL5'.blk_lt hy; omega
       · simp -implicitDefEqProofs (disch:=omega) [go_sem,r0,r5,r6,r7,r8,r9,hl0,hl0',hm1,hm2]
         have hnm:=mt hmark.1 (not_or.2 ⟨hm1,hm2⟩)
         exact ⟨r0,r5,r8,SL5',f5,i,seen,out,Z,Y,zc,yc,rfl,by omega,skip (.inr (not_or.1 hnm)),r6,r7,SZ5,SY5,ownZ,ownY,hLZ,by rw [← hP,← hW]; omega,by omega⟩
end
end Xe
