/- Package learn: the latest literal; a literal's reason; what was used is noted. -/
import Derived.Test.YtkghjecglmmloaaGreatL2
import Derived.Test.YtkghjecglmmloaaGreatSl2
namespace Xe
open Go Tp Go.Proofs
set_option maxRecDepth 16000
set_option maxHeartbeats 1000000
theorem rise_length:∀ {c:List Int} {a n:Nat},Rise c→(∀ x∈c,a<x.natAbs∧x.natAbs≤n)→c.length≤n-a:=by
 intro c
 induction c with
 | nil=>intro a n _ _; simp
 | cons x c ih =>
   intro a n hr hb
   unfold Rise at hr
   rw [List.pairwise_cons] at hr
   have hx:=hb x (List.mem_cons_self ..)
   have:=ih (a:=x.natAbs) (n:=n) hr.2 fun y hy=>⟨hr.1 y hy,(hb y (List.mem_cons_of_mem _ hy)).2⟩
   rw [List.length_cons]
   omega
theorem Cf.len {vars:Nat} {l:List St} {c:List Int} (F:Cf vars l c):c.length≤vars:=by
 have:=rise_length (a:=0) (n:=vars) F.rise fun x hx=>⟨(F.rng x hx).1,(F.rng x hx).2⟩
 omega
section
variable {N:Nat} {h:Heap} {bb:Nat} {p:BP} {s:WS} {xb:Nat} {K U:Option Addr} {c u:List Int}
theorem lvx_fail {vars:Nat} {l:List St} (G:Good vars l) {x:Int} (h:trI l x=-1):0≤lvx l x:=by
 obtain ⟨k,t,_,_,_,h4,_⟩:=false_at G h
 omega
theorem latest_ok (L:LrM N h bb p s xb K U c u) (I:WInv s) (F:Cf s.vars s.l c) :
   CallsH Tryz.prog 115 [.pointer (some ⟨xb,0,none⟩)] h fun r h'=>h'=h∧∃ (x lv:Int) (n:Nat),r=.tuple #[.int .i64 x,.int .i64 lv,.int .i64 n] ∧
     ((c=[]∧lv=-1)∨(Lat s.l c x∧lv=lvx s.l x∧n=cntL s.l c (lvx s.l x))):=by
 have L':=L
 obtain ⟨kc,uc,B,SK,SU,hK,hU⟩:=L.ex
 have b1:=B.at' 1 _ rfl
 have b2:=B.at' 2 _ rfl
 have T:=L.M.T
 have hv:=T.hv
 have hlen:=T.len
 have hcl:=F.len
 refine calls_of 62 [.tmp 2,.tmp 3,.tmp 4] Go.Proofs.Tryz.func115 rfl rfl rfl ?_
 simp -implicitDefEqProofs (disch:=omega) [go_sem,b2]
 refine loopK (fun ρ h'=>ρ 0=.pointer (some ⟨xb,0,none⟩)∧ρ 12=.slice K c.length kc∧ρ 13=.int .i64 c.length∧ρ 4=.int .i64 0∧h'=h∧∃ (i:Nat) (x lv:Int),ρ 14=.int .i64 i∧i≤c.length∧ρ 2=.int .i64 x∧ρ 3=.int .i64 lv ∧
     ((i=0∧lv=-1)∨(0<i∧Lat s.l (c.take i) x∧lv=lvx s.l x))) (fun ρ _=>c.length-(intOf (ρ 14)).toNat) (by kernel_rfl) ?_ ?_
 · exact ⟨rfl,rfl,rfl,rfl,rfl,0,_,_,rfl,by omega,rfl,rfl,.inl ⟨rfl,rfl⟩⟩
 · rintro ρ h1 ⟨r0,r12,r13,r4,rfl,i,x,lv,r14,hi,r2,r3,hor⟩
   by_cases hin:i<c.length
   · obtain ⟨bk,off,rfl,hc⟩:=SK.row.get (by rw [ints_len]; omega)
     obtain ⟨y,hy⟩:=some_at hin
     have c0:=hc _ _ (ints_at hy)
     have htk:c.take (i+1)=c.take i++[y]:=take_at hy
     have hym:=List.mem_of_getElem? hy
     have hyf:=F.fail y hym
     have hyr:=F.rng y hym
     have hyl:=lvx_fail I.good hyf
     have v1:=LVi_b T (y.natAbs:Int)
     have v2:=PLi_b T (y.natAbs:Int)
     rw [lvi_nat] at v1
     rw [pli_nat] at v2
     rcases hor with ⟨rfl,rfl⟩ | ⟨hi0,hlat,rfl⟩
     · rw [Nat.add_zero] at c0
       simp -implicitDefEqProofs (disch:=omega) [go_sem,r0,r2,r3,r4,r12,r13,r14,c0]
       refine useC (spot_ok L' (x:=y) (by omega) (by omega)) ?_
       rintro _ h2 ⟨rfl,rfl⟩
       simp -implicitDefEqProofs (disch:=omega) [go_sem,r0,r2,r3,r4,r12,r13,r14]
       refine ⟨⟨0+1,by omega,by omega,.inr ⟨by omega,?_⟩⟩,by omega⟩
       rw [htk]
       exact ⟨by simp,fun z hz=>by simp at hz; rw [hz]; exact Int.le_refl _⟩
     · have hxm:=List.mem_of_mem_take hlat.1
       have hxf:=F.fail x hxm
       have hxr:=F.rng x hxm
       have hxl:=lvx_fail I.good hxf
       have w1:=LVi_b T (x.natAbs:Int)
       have w2:=PLi_b T (x.natAbs:Int)
       rw [lvi_nat] at w1
       rw [pli_nat] at w2
       simp -implicitDefEqProofs (disch:=omega) [go_sem,r0,r2,r3,r4,r12,r13,r14,c0]
       refine useC (spot_ok L' (x:=y) (by omega) (by omega)) ?_
       rintro _ h2 ⟨rfl,rfl⟩
       simp -implicitDefEqProofs (disch:=omega) [go_sem,r0,r2,r3,r4,r12,r13,r14]
       refine useC (spot_ok L' (x:=x) (by omega) (by omega)) ?_
       rintro _ h2 ⟨rfl,rfl⟩
       by_cases hgt:plx s.l x<plx s.l y
       · simp -implicitDefEqProofs (disch:=omega) [go_sem,r0,r2,r3,r4,r12,r13,r14,hgt]
         refine useC (spot_ok L' (x:=y) (by omega) (by omega)) ?_
         rintro _ h2 ⟨rfl,rfl⟩
         simp -implicitDefEqProofs (disch:=omega) [go_sem,r0,r2,r3,r4,r12,r13,r14]
         refine ⟨⟨i+1,by omega,by omega,.inr ⟨by omega,?_⟩⟩,by omega⟩
         rw [htk]
         refine ⟨by simp,fun z hz=>?_⟩
         rcases List.mem_append.1 hz with hz | hz
         · have:=hlat.2 z hz; omega
         · rw [List.mem_singleton] at hz; rw [hz]; exact Int.le_refl _
       · simp -implicitDefEqProofs (disch:=omega) [go_sem,r0,r2,r3,r4,r12,r13,r14,hgt]
         refine ⟨⟨i+1,by omega,by omega,.inr ⟨by omega,?_⟩⟩,by omega⟩
         rw [htk]
         refine ⟨List.mem_append_left _ hlat.1,fun z hz=>?_⟩
         rcases List.mem_append.1 hz with hz | hz
         · exact hlat.2 z hz
         · rw [List.mem_singleton] at hz; rw [hz]; omega
   · have e:i=c.length:=by omega
     subst e
     rw [List.take_length] at hor
     simp -implicitDefEqProofs (disch:=omega) [go_sem,r0,r2,r3,r4,r12,r13,r14,b2]
     refine loopK (fun ρ h'=>ρ 0=.pointer (some ⟨xb,0,none⟩)∧ρ 41=.slice K c.length kc∧ρ 42=.int .i64 c.length∧ρ 2=.int .i64 x∧ρ 3=.int .i64 lv∧h'=h1∧∃ (i:Nat),ρ 43=.int .i64 i∧i≤c.length∧ρ 4=.int .i64 (cntL s.l (c.take i) lv))
       (fun ρ _=>c.length-(intOf (ρ 43)).toNat) (by kernel_rfl) ?_ ?_
     · exact ⟨r0,rfl,rfl,r2,r3,rfl,0,rfl,by omega,r4⟩
     · rintro ρ h1 ⟨r0,r41,r42,r2,r3,rfl,i,r43,hi,r4⟩
       have hle:cntL s.l (c.take i) lv≤i:=Nat.le_trans (List.length_filter_le _ _) (by rw [List.length_take]; omega)
       by_cases hin:i<c.length
       · obtain ⟨bk,off,rfl,hc⟩:=SK.row.get (by rw [ints_len]; omega)
         obtain ⟨y,hy⟩:=some_at hin
         have c0:=hc _ _ (ints_at hy)
         have htk:c.take (i+1)=c.take i++[y]:=take_at hy
         have hym:=List.mem_of_getElem? hy
         have hyr:=F.rng y hym
         simp -implicitDefEqProofs (disch:=omega) [go_sem,r0,r2,r3,r4,r41,r42,r43,c0]
         refine drawC [(0,0),(1,0),(2,0),(3,2),(4,0),(7,0),(5,3),(6,3),(8,0)] (Eq _) rfl ?_
         simp -implicitDefEqProofs (disch:=omega) [go_sem,r0,r2,r3,r4,r41,r42,r43,b1]
         refine useC (variable_ok (x:=y) (by omega) (by omega)) ?_
         rintro _ h2 ⟨rfl,rfl⟩
         simp -implicitDefEqProofs (disch:=omega) [go_sem,r0,r2,r3,r4,r41,r42,r43,b1]
         refine useC (tlevelOf_ok T (by omega) (by omega)) ?_
         rintro _ h2 ⟨rfl,rfl⟩
         rw [lvi_nat]
         by_cases he:lvx s.l y=lv
         · have e2:cntL s.l (c.take (i+1)) lv=cntL s.l (c.take i) lv+1:=by
            unfold cntL; rw [htk,List.filter_append,List.length_append,List.filter_cons,if_pos (decide_eq_true he)]; rfl
           simp -implicitDefEqProofs (disch:=omega) [go_sem,r0,r2,r3,r4,r41,r42,r43,he]
           exact ⟨⟨i+1,by omega,by omega,by rw [e2]; simp⟩,by omega⟩
         · have e2:cntL s.l (c.take (i+1)) lv=cntL s.l (c.take i) lv:=by
            unfold cntL; rw [htk,List.filter_append,List.length_append,List.filter_cons,if_neg (by simpa using he)]; rfl
           simp -implicitDefEqProofs (disch:=omega) [go_sem,r0,r2,r3,r4,r41,r42,r43,he]
           exact ⟨⟨i+1,by omega,by omega,by rw [e2]⟩,by omega⟩
       · have e:i=c.length:=by omega
         subst e
         rw [List.take_length] at r4
         simp -implicitDefEqProofs (disch:=omega) [go_sem,r0,r2,r3,r4,r41,r42,r43]
         rcases hor with ⟨h1,rfl⟩ | ⟨h1,h2,rfl⟩
         · exact ⟨_,_,_,⟨rfl,rfl,rfl⟩,.inl ⟨List.eq_nil_of_length_eq_zero h1,rfl⟩⟩
         · exact ⟨_,_,_,⟨rfl,rfl,rfl⟩,.inr ⟨h2,rfl,rfl⟩⟩
def Rm (l:List St):Prop:=∀ t∈l,-1≤t.rs∧(t.rs<0→0<t.lv)
theorem Rm.nil:Rm []:=fun t h=>by cases h
theorem Rm.push {l:List St} {t:St} (R:Rm l) (h:-1≤t.rs) (h2:t.rs<0→0<t.lv):Rm (l++[t]):=fun u hu=>by
 rcases List.mem_append.1 hu with hu | hu
 · exact R u hu
 · rw [List.mem_singleton] at hu; rw [hu]; exact ⟨h,h2⟩
theorem Rm.sub {l l':List St} (R:Rm l) (h:∀ t∈l',t∈l):Rm l':=fun t ht=>R t (h t ht)
theorem Rm.us {C:List (List Int × Bool)} {lev:Nat} {l l':List St} (h:US C lev l l') (R:Rm l):Rm l':=by
 induction h with
 | refl=>exact R
 | step _ _ _ ih=>exact ih.push (by simp only; omega) (fun h=>by simp only at h; omega)
theorem Rm.rs {l:List St} (R:Rm l) (v:Nat):-1≤RS l v:=by
 unfold RS
 split
 · split
   · rename_i h; exact (R _ (List.mem_of_getElem? h)).1
   · omega
 · omega
theorem rs_entry (I:WInv s) (v:Nat):RS s.l v<0∨∃ (k:Nat) (e:Ent),RS s.l v=k∧s.cs[k]?=some e∧e.gone=false:=by
 by_cases h0:RS s.l v<0
 · exact .inl h0
 · right
   unfold RS at h0 ⊢
   cases hf:find s.l v with
   | none=>rw [hf] at h0; simp only at h0; omega
   | some i =>
     rw [hf] at h0
     simp only at h0 ⊢
     cases hg:s.l[i]? with
     | none=>rw [hg] at h0; simp only at h0; omega
     | some t =>
       rw [hg] at h0
       simp only at h0 ⊢
       obtain ⟨e,h1,h2,_⟩:=I.rs i t hg (by omega)
       exact ⟨t.rs.toNat,e,by omega,h1,h2⟩
theorem reason_ok (L:LrM N h bb p s xb K U c u) (I:WInv s) (Rn:Rm s.l) {x:Int} (hx:1≤x.natAbs∧x.natAbs≤16777216) :
   CallsH Tryz.prog 116 [.pointer (some ⟨xb,0,none⟩),.int .i64 x] h fun r h'=>Fr (fun _=>False) h h' ∧
    ((RS s.l x.natAbs<0∧r=.tuple #[.slice none 0 0,.bool false])∨∃ (k:Nat) (e:Ent) (A:Option Addr) (d:Nat),RS s.l x.natAbs=k∧s.cs[k]?=some e∧e.gone=false∧r=.tuple #[.slice A e.lits.length d,.bool true]∧SlAt h' A d (ints e.lits)∧∀ y,blk A y→h.size≤y):=by
 obtain ⟨kc,uc,B,SK,SU,hK,hU⟩:=L.ex
 have b0:=B.at' 0 _ rfl
 have b1:=B.at' 1 _ rfl
 have M:=L.M
 have T:=M.T
 have hb:=Rn.rs x.natAbs
 refine calls_of 20 [.tmp 4,.tmp 5] Go.Proofs.Tryz.func116 rfl rfl rfl ?_
 simp -implicitDefEqProofs (disch:=omega) [go_sem]
 refine drawC [(0,0),(1,0),(2,0),(3,2),(4,0),(5,0),(6,0),(7,2),(8,0),(9,3),(10,3),(11,3),(12,0),(13,0),(14,0),(15,0)] (fun h'=>hcell h' ⟨xb,0,none⟩=some (.pointer (some ⟨bb,0,none⟩))∧hcell h' ⟨xb,1,none⟩=some (.pointer (some ⟨p.tb,0,none⟩))) ⟨b0,b1⟩ ?_
 simp -implicitDefEqProofs (disch:=omega) [go_sem]
 refine float2 (.pointer (some ⟨bb,0,none⟩)) (fun h' hC=>by obtain ⟨q0,q1⟩:=hC; simp -implicitDefEqProofs (disch:=omega) [go_sem,q0]) ?_
 simp -implicitDefEqProofs (disch:=omega) [go_sem]
 refine float2 (.pointer (some ⟨p.tb,0,none⟩)) (fun h' hC=>by obtain ⟨q0,q1⟩:=hC; simp -implicitDefEqProofs (disch:=omega) [go_sem,q1]) ?_
 simp -implicitDefEqProofs (disch:=omega) [go_sem]
 refine useC (variable_ok (x:=x) (by omega) (by omega)) ?_
 rintro _ h2 ⟨rfl,rfl⟩
 refine ⟨⟨b0,b1⟩,?_⟩
 simp -implicitDefEqProofs (disch:=omega) [go_sem]
 refine useC (treason_ok T (by omega) (by omega)) ?_
 rintro _ h2 ⟨rfl,rfl⟩
 refine ⟨⟨b0,b1⟩,?_⟩
 rw [rsi_nat]
 simp -implicitDefEqProofs (disch:=omega) [go_sem]
 rcases rs_entry I x.natAbs with h0 | ⟨k,e,h1,h2,h3⟩
 · refine useC (clause_none M (id:=RS s.l x.natAbs) (by omega) (by omega) (fun h=>by omega)) ?_
   rintro _ h3 ⟨rfl,rfl⟩
   refine ⟨⟨b0,b1⟩,?_⟩
   simp -implicitDefEqProofs (disch:=omega) [go_sem]
   exact ⟨Fr.refl _ _,h0⟩
 · rw [h1]
   refine useC (clause_some M h2 h3) ?_
   rintro _ h4 ⟨A,d,rfl,S,own,f⟩
   refine ⟨⟨(f.cell (hcell_lt b0) id).trans b0,(f.cell (hcell_lt b1) id).trans b1⟩,?_⟩
   simp -implicitDefEqProofs (disch:=omega) [go_sem]
   exact ⟨f,k,rfl,e,h2,h3,A,d,⟨rfl,rfl,rfl⟩,S,own⟩
theorem note_ok (L:LrM N h bb p s xb K U c u) {A:Option Addr} {n d:Nat} {r:List Int} (R:RowAt h A (ints r)) (hA:∀ y,blk A y→y<h.size∧y≠xb∧¬ blk U y) (hn:n=r.length) (hr:∀ x∈r,x.natAbs≤16777216) (hs:u.length+r.length<2^40) :
   CallsH Tryz.prog 114 [.pointer (some ⟨xb,0,none⟩),.slice A n d] h fun _ h'=>∃ U',LrM N h' bb p s xb K U' c (u++r.map fun x=>(x.natAbs:Int))∧Fr (fun y=>y=xb∨blk U y) h h'∧∀ y,blk U' y→blk U y∨h.size≤y:=by
 subst hn
 have hNx:=L.hx
 refine calls_of 24 [] Go.Proofs.Tryz.func114 rfl rfl rfl ?_
 simp -implicitDefEqProofs (disch:=omega) [go_sem]
 refine loopK (fun ρ h'=>ρ 0=.pointer (some ⟨xb,0,none⟩)∧ρ 6=.slice A r.length d∧ρ 7=.int .i64 r.length∧∃ (i:Nat) (U':Option Addr),ρ 8=.int .i64 i∧i≤r.length∧LrM N h' bb p s xb K U' c (u++(r.take i).map fun x=>(x.natAbs:Int))∧Fr (fun y=>y=xb∨blk U y) h h'∧∀ y,blk U' y→blk U y∨h.size≤y)
   (fun ρ _=>r.length-(intOf (ρ 8)).toNat) (by kernel_rfl) ?_ ?_
 · exact ⟨rfl,rfl,rfl,0,U,rfl,by omega,by simpa using L,Fr.refl _ _,fun y h=>.inl h⟩
 · rintro ρ h1 ⟨r0,r6,r7,i,U',r8,hi,L1,f1,hU1⟩
   by_cases hin:i<r.length
   · have R1:=R.fr f1 fun y hy hb=>(hb.elim (hA y hy).2.1 (hA y hy).2.2)
     obtain ⟨bk,off,rfl,hc⟩:=R1.get (by rw [ints_len]; omega)
     obtain ⟨y,hy⟩:=some_at hin
     have c0:=hc _ _ (ints_at hy)
     have htk:r.take (i+1)=r.take i++[y]:=take_at hy
     have hyr:=hr y (List.mem_of_getElem? hy)
     obtain ⟨w,hw⟩:∃ w,w=u++(r.take i).map fun x=>(x.natAbs:Int):=⟨_,rfl⟩
     have hul:w.length=u.length+i:=by rw [hw,List.length_append,List.length_map,List.length_take]; omega
     have hw':w++[(y.natAbs:Int)]=u++(r.take (i+1)).map fun x=>(x.natAbs:Int):=by rw [htk,List.map_append,← List.append_assoc,hw]; rfl
     rw [← hw] at L1
     obtain ⟨kc,uc,B,SK,SU,hK,hU⟩:=L1.ex
     have b3:=B.at' 3 _ rfl
     simp -implicitDefEqProofs (disch:=omega) [go_sem,r0,r6,r7,r8,c0]
     refine drawC [(0,0),(1,0),(2,0),(3,0),(4,2),(5,0),(6,3),(7,3),(8,3),(9,0),(10,0),(11,4)] (fun h'=>hcell h' ⟨xb,3,none⟩=some (.slice U' w.length uc)) b3 ?_
     simp -implicitDefEqProofs (disch:=omega) [go_sem,r0,r6,r7,r8]
     refine float2 (.slice U' w.length uc) (fun h' hC=>by simp -implicitDefEqProofs (disch:=omega) [go_sem,r0,hC]) ?_
     simp -implicitDefEqProofs (disch:=omega) [go_sem,r0,r6,r7,r8]
     refine useC (variable_ok (x:=y) (by omega) (by omega)) ?_
     rintro _ h2 ⟨rfl,rfl⟩
     refine ⟨b3,?_⟩
     simp -implicitDefEqProofs (disch:=omega) [go_sem,r0,r6,r7,r8]
     refine build1 rfl rfl ?_
     have f2:Fr (fun _=>False) h2 (h2.push (.cells #[.int .i64 (y.natAbs:Int)] 3)):=(Fr.refl _ _).push
     refine ⟨(f2.cell (hcell_lt b3) id).trans b3,?_⟩
     simp -implicitDefEqProofs (disch:=omega) [go_sem,r0,r6,r7,r8]
     refine appendN (sz:=1) (vs:=ints w) (ws:=[.int .i64 (y.natAbs:Int)]) (by rw [Nat.mul_one]; exact SU.fr f2 fun _ _=>id) (by rw [ints_len,Nat.mul_one]) (SlAt.new (vs:=[.int .i64 (y.natAbs:Int)])).row rfl (by omega) (by simp [Value.oneCell']) (by omega) (by omega) ?_
     intro A4 cap4 h4 S4 f4 hA4
     rw [Nat.mul_one,show ints w++[Value.int .i64 (y.natAbs:Int)]=ints (w++[(y.natAbs:Int)]) by rw [ints_append]; rfl] at S4
     have f24:Fr (blk U') h2 h4:=(f2.mono fun _ _ h=>h.elim).trans' f4 fun _ _ h=>h
     have nx:¬ blk U' xb:=fun h=>(hU _ h).2.1 rfl
     have B4:=B.fr f24 nx
     have b34:=B4.at' 3 _ rfl
     have fz4:=B4.fz
     refine ⟨b34,?_⟩
     simp -implicitDefEqProofs (disch:=omega) [go_sem,r0,r6,r7,r8,fz4,b34]
     have hA4':∀ z,blk A4 z→blk U' z∨h2.size≤z:=fun z hz=>(hA4 z hz).imp_right fun h=>by rw [push_size] at h; omega
     have f25:Fr (fun z=>z=xb∨blk U' z) h2 (hset h4 ⟨xb,3,none⟩ (.slice A4 (w.length+1) cap4)):=(f24.mono fun _ _ h=>.inr h).set (.inl rfl)
     have hxlt:=B.lt
     refine ⟨⟨i+1,by omega,by omega,A4,?_,(f1.trans' f25 fun z hz h=>h.imp_right fun h=>?_),fun z hz=>?_⟩,by omega⟩
     · rw [← List.map_take,← hw']
       refine ⟨L1.M.fr f25 fun z hz=>?_,⟨kc,cap4,?_,?_,?_,hK,fun z hz=>?_⟩,L1.hx,L1.hN⟩
       · cases hpc:p.c z with
         | none=>rfl
         | some t =>
           have h1:=L1.hN z t hpc
           rcases hz with rfl | hz
           · omega
           · have:=(hU z hz).1; omega
       · have:=B4.set (i:=3) (.slice A4 (w.length+1) cap4) (by simp)
         simpa using this
       · exact SK.fr f25 fun z hz hb=>hb.elim (hK z hz).2 fun h=>(hU z h).2.2 hz
       · refine S4.keep (fun z hz=>hset_other ?_) (by rw [hset_size]; exact Nat.le_refl _)
         rcases hA4' z hz with h | h
         · exact (hU z h).2.1
         · show z≠xb; omega
       · rcases hA4' z hz with h | h
         · exact hU z h
         · exact ⟨by omega,by omega,fun hk=>by have:=SK.blk_lt hk; omega⟩
     · rcases hU1 z h with h | h
       · exact h
       · omega
     · have hsz:=f1.size
       rcases hA4' z hz with h | h
       · exact hU1 z h
       · exact .inr (by omega)
   · have e:i=r.length:=by omega
     subst e
     rw [List.take_length] at L1
     simp -implicitDefEqProofs (disch:=omega) [go_sem,r0,r6,r7,r8]
     exact ⟨U',L1,f1,hU1⟩
end
section
variable {h:Heap} {A:Option Addr} {n c:Nat}
theorem contains_ok {l:List Int} (R:RowAt h A (ints l)) (hn:n=l.length) (hs:n<2^40) (x:Int) :
  CallsH Tryz.prog 162 [.slice A n c,.int .i64 x] h fun r h'=>r=.bool (decide (x∈l))∧h'=h:=by
 refine calls_of 9 [.tmp 4] Go.Proofs.Tryz.func162 rfl rfl rfl ?_
 simp -implicitDefEqProofs (disch:=omega) [go_sem]
 refine useC (index_ok R hn hs x) ?_
 rintro _ h2 ⟨rfl,rfl⟩
 have e:=idxF_any (fun y=>decide (x=y)) l
 have e2:decide (x∈l)=l.any fun y=>decide (x=y):=by
  rw [Bool.eq_iff_iff,decide_eq_true_eq,List.any_eq_true]
  constructor
  · exact fun h=>⟨x,h,by simp⟩
  · rintro ⟨y,hy,h⟩
    rw [of_decide_eq_true h]; exact hy
 rw [e2]
 simp -implicitDefEqProofs [go_sem,← e]
theorem grow_ok (hs:n≤2^40):CallsH Tryz.prog 208 [.slice none 0 0,.int .i64 n] h fun r h' =>
   ∃ A' c',r=.slice A' 0 c'∧SlAt h' A' c' (ints [])∧(∀ y,blk A' y→h.size≤y)∧Fr (fun _=>False) h h':=by
 refine calls_of 27 [.tmp 4] Go.Proofs.Tryz.func208 rfl rfl rfl ?_
 simp -implicitDefEqProofs (disch:=omega) [go_sem]
 by_cases h0:n=0
 · subst h0
   simp -implicitDefEqProofs (disch:=omega) [go_sem]
   exact ⟨none,0,⟨rfl,rfl⟩,SlAt.nil _,fun y ⟨_,h,_⟩=>(nomatch h),Fr.refl _ _⟩
 · simp -implicitDefEqProofs (disch:=omega) [go_sem]
   refine ⟨by omega,by omega,by omega,by omega,fun d rest hd hr=>?_⟩
   simp -implicitDefEqProofs (disch:=omega) [go_sem]
   have S:=(SlAt.new (h:=h) (vs:=rest) (e:=3)).take 0
   rw [show rest.length=d by omega,List.take_zero] at S
   refine ⟨_,_,⟨rfl,rfl⟩,S,fun y ⟨a,ha,hb⟩=>?_,(Fr.refl _ _).push⟩
   rw [← Option.some.inj ha] at hb
   exact Nat.le_of_eq hb
theorem concat_ok {Ks:List (List Int)} {w:List Int} (hw:Ks.flatten=w) (R:∀ (i:Nat) (K:List Int),Ks[i]?=some K→∃ bk off B d,A=some ⟨bk,off,none⟩∧hcell h ⟨bk,off+i,none⟩=some (.slice B K.length d)∧RowAt h B (ints K)) (hn:n=Ks.length) (hs:n<2^40) (ht:w.length<2^40) :
   CallsH Tryz.prog 163 [.slice A n c] h fun r h'=>∃ A' c',r=.slice A' w.length c'∧SlAt h' A' c' (ints w)∧(∀ y,blk A' y→h.size≤y)∧Fr (fun _=>False) h h':=by
 subst hn
 obtain ⟨F,hF⟩:∃ F:Nat→List Int,F=fun i=>(Ks.take i).flatten:=⟨_,rfl⟩
 have F0:F 0=[]:=by rw [hF]; rfl
 have Fl:F Ks.length=w:=by rw [hF,← hw]; simp only [List.take_length]
 have hle:∀ i,(F i).length≤w.length:=fun i=>by
   have:w=F i++(Ks.drop i).flatten:=by rw [hF,← hw]; simp only []; rw [← List.flatten_append,List.take_append_drop]
   rw [this,List.length_append]; omega
 have hstep:∀ {i:Nat} {K:List Int},Ks[i]?=some K→F (i+1)=F i++K:=fun hk=>by
   rw [hF]; simp only []
   rw [take_at hk,List.flatten_append]; simp
 clear hF hw
 refine calls_of 36 [.tmp 2] Go.Proofs.Tryz.func163 rfl rfl rfl ?_
 simp -implicitDefEqProofs (disch:=omega) [go_sem]
 refine loopK (fun ρ h'=>ρ 0=.slice A Ks.length c∧ρ 9=.slice A Ks.length c∧ρ 10=.int .i64 Ks.length∧h'=h∧∃ i:Nat,ρ 11=.int .i64 i∧i≤Ks.length∧ρ 3=.int .i64 (F i).length)
   (fun ρ _=>Ks.length-(intOf (ρ 11)).toNat) (by kernel_rfl) ?_ ?_
 · exact ⟨rfl,rfl,rfl,rfl,0,rfl,by omega,by rw [F0]; rfl⟩
 · rintro ρ h1 ⟨r0,r9,r10,rfl,i,r11,hi,r3⟩
   by_cases hin:i<Ks.length
   · obtain ⟨K,hK⟩:∃ K,Ks[i]?=some K:=⟨_,List.getElem?_eq_getElem hin⟩
     obtain ⟨bk,off,B,d,rfl,c0,_⟩:=R i K hK
     have e1:=hle (i+1)
     have e2:(F (i+1)).length=(F i).length+K.length:=by rw [hstep hK,List.length_append]
     simp -implicitDefEqProofs (disch:=omega) [go_sem,r0,r3,r9,r10,r11,c0]
     exact ⟨⟨i+1,by omega,by omega,by omega⟩,by omega⟩
   · have e:i=Ks.length:=by omega
     subst e
     rw [Fl] at r3
     simp -implicitDefEqProofs (disch:=omega) [go_sem,r0,r3,r9,r10,r11]
     refine useC (grow_ok (by omega)) ?_
     rintro _ h2 ⟨A',c',rfl,S,own,f⟩
     simp -implicitDefEqProofs (disch:=omega) [go_sem,r0,r3,r9,r10,r11]
     refine loopK (fun ρ h'=>ρ 25=.slice A Ks.length c∧ρ 26=.int .i64 Ks.length∧∃ (i:Nat) (A':Option Addr) (c':Nat),ρ 27=.int .i64 i∧i≤Ks.length∧ρ 6=.slice A' (F i).length c'∧SlAt h' A' c' (ints (F i))∧(∀ y,blk A' y→h1.size≤y)∧Fr (fun _=>False) h1 h')
       (fun ρ _=>Ks.length-(intOf (ρ 27)).toNat) (by kernel_rfl) ?_ ?_
     · exact ⟨rfl,rfl,0,A',c',rfl,by omega,by rw [F0]; rfl,by rw [F0]; exact S,own,f⟩
     · rintro ρ h3 ⟨r25,r26,i,B,d,r27,hi,r6,S,own,f⟩
       by_cases hin:i<Ks.length
       · obtain ⟨K,hK⟩:∃ K,Ks[i]?=some K:=⟨_,List.getElem?_eq_getElem hin⟩
         obtain ⟨bk,off,B',d',rfl,c0,RK⟩:=R i K hK
         have c1:=(f.cell (hcell_lt c0) id).trans c0
         have e1:=hle (i+1)
         have e2:(F (i+1)).length=(F i).length+K.length:=by rw [hstep hK,List.length_append]
         simp -implicitDefEqProofs (disch:=omega) [go_sem,r6,r25,r26,r27,c1]
         refine appendN (sz:=1) (by rw [Nat.mul_one]; exact S) (by rw [ints_len,Nat.mul_one]) (RK.fr0 f) (by rw [ints_len,Nat.mul_one]) (by omega) ints_one (by omega) (by omega) ?_
         intro A4 cap4 h4 S4 f4 hA4
         rw [Nat.mul_one,← ints_append,← hstep hK] at S4
         simp -implicitDefEqProofs (disch:=omega) [go_sem,r6,r25,r26,r27]
         refine ⟨⟨i+1,by omega,by omega,A4,cap4,⟨rfl,by omega,rfl⟩,S4,fun y hy=>?_,f.trans' f4 fun y hy hb=>?_⟩,by omega⟩
         · have:=f.size
           rcases hA4 y hy with h | h
           · exact own y h
           · omega
         · have:=own y hb; omega
       · have e:i=Ks.length:=by omega
         subst e
         rw [Fl] at r6 S
         simp -implicitDefEqProofs (disch:=omega) [go_sem,r6,r25,r26,r27]
         exact ⟨B,d,⟨rfl,rfl⟩,S,own,f⟩
theorem build2s {e:TypeId} {bt a c a' c':Nat} {A':Option Addr} {k:Value→Heap→Prop}
  (hk:k (.slice (some ⟨h.size,0,none⟩) 2 2) (h.push (.cells #[.slice A a c,.slice A' a' c'] e))):@buildSliceK (some (e,1,bt,.slice none 0 0)) 2 [(0,.slice A a c),(1,.slice A' a' c')] ⟨h⟩ ⟨k⟩:=by
 refine ⟨by omega,#[.slice A a c,.slice A' a' c'],?_,hk⟩
 have hz:(zerosOf (Value.slice none 0 0).cells (2*1)).size=2:=by simp [zerosOf]
 obtain ⟨L,hL⟩:∃ L,zerosOf (Value.slice none 0 0).cells (2*1)=⟨L⟩:=⟨_,rfl⟩
 rw [hL] at hz ⊢
 match L,hz with
 | [p,q],_=>simp [Instr.fill,Value.cells,List.zipIdx]
theorem resolve_ok {B:Option Addr} {m d:Nat} {a b:List Int} {v:Int} (Ra:RowAt h A (ints a)) (hn:n=a.length) (Rb:RowAt h B (ints b)) (hm:m=b.length) (hs:n+m<2^39) (hv:1≤v∧v≤16777216) (ha1:v∈a) (ha2:-v∉a) (hb1:-v∈b) (hb2:v∉b)
   (ha:∀ x∈a,okL x) (hb:∀ x∈b,okL x) (hcl:∀ x,(x∈a∨x∈b)→(-x∈a∨-x∈b)→x.natAbs=v.natAbs) :
   CallsH Tryz.prog 117 [.slice A n c,.slice B m d,.int .i64 v] h fun r h'=>∃ L A' c',r=.tuple #[.slice A' L.length c',.bool true]∧Rise L∧(∀ x,x∈L↔(x∈a∨x∈b)∧x.natAbs≠v.natAbs)∧SlAt h' A' c' (ints L)∧(∀ y,blk A' y→h.size≤y)∧Fr (fun _=>False) h h':=by
 subst hn hm
 refine calls_of 67 [.tmp 6,.tmp 7] Go.Proofs.Tryz.func117 rfl rfl rfl ?_
 simp -implicitDefEqProofs (disch:=omega) [go_sem]
 refine useC (contains_ok Ra rfl (by omega) v) ?_
 rintro _ h2 ⟨rfl,rfl⟩
 simp -implicitDefEqProofs (disch:=omega) [go_sem,ha1]
 refine useC (contains_ok Ra rfl (by omega) (-v)) ?_
 rintro _ h2 ⟨rfl,rfl⟩
 simp -implicitDefEqProofs (disch:=omega) [go_sem,ha2]
 refine useC (contains_ok Rb rfl (by omega) (-v)) ?_
 rintro _ h2 ⟨rfl,rfl⟩
 simp -implicitDefEqProofs (disch:=omega) [go_sem,hb1]
 refine useC (contains_ok Rb rfl (by omega) v) ?_
 rintro _ h2 ⟨rfl,rfl⟩
 simp -implicitDefEqProofs (disch:=omega) [go_sem,hb2]
 refine build2s ?_
 simp -implicitDefEqProofs (disch:=omega) [go_sem]
 have f1:Fr (fun _=>False) h2 (h2.push (.cells #[.slice A a.length c,.slice B b.length d] 23)):=(Fr.refl _ _).push
 have co:=concat_ok (h:=h2.push (.cells #[.slice A a.length c,.slice B b.length d] 23)) (A:=some ⟨h2.size,0,none⟩) (n:=2) (c:=2) (Ks:=[a,b]) (w:=a++b) (by simp) (fun i K hK=>by
   match i,hK with
   | 0,hK=>obtain rfl:=Option.some.inj hK; exact ⟨h2.size,0,A,c,rfl,by rw [hcell_push_new]; rfl,Ra.fr0 f1⟩
   | 1,hK=>obtain rfl:=Option.some.inj hK; exact ⟨h2.size,0,B,d,rfl,by rw [hcell_push_new]; rfl,Rb.fr0 f1⟩
   | i+2,hK=>simp at hK) rfl (by omega) (by rw [List.length_append]; omega)
 refine useC co ?_
 rintro _ h3 ⟨A',c',rfl,S,own,f⟩
 obtain ⟨w,hw⟩:∃ w,w=a++b:=⟨_,rfl⟩
 have hwm:∀ x,x∈w↔x∈a∨x∈b:=fun x=>by rw [hw]; simp
 have hwl:w.length=a.length+b.length:=by rw [hw]; simp
 rw [← hw] at S ⊢
 have f03:Fr (fun _=>False) h2 h3:=f1.trans f
 obtain ⟨G,hG⟩:∃ G:Nat→List Int,G=fun i=>(w.take i).filter fun x=>decide (x.natAbs≠v.natAbs):=⟨_,rfl⟩
 have G0:G 0=[]:=by rw [hG]; rfl
 have Gm:∀ x,x∈G w.length↔(x∈a∨x∈b)∧x.natAbs≠v.natAbs:=fun x=>by
   rw [hG]; simp only [List.take_length,List.mem_filter,decide_eq_true_eq,hwm]
 have Gl:∀ i,(G i).length≤i:=fun i=>by
   rw [hG]; exact Nat.le_trans (List.length_filter_le _ _) (by rw [List.length_take]; omega)
 have Gs:∀ {i:Nat} {x:Int},w[i]?=some x→G (i+1)=if x.natAbs=v.natAbs then G i else G i++[x]:=fun hx=>by
   rw [hG]; simp only []
   rw [take_at hx,List.filter_append,List.filter_cons]
   split
   · rename_i h; rw [if_neg (of_decide_eq_true h),List.filter_nil]
   · rename_i h; rw [if_pos (by simpa using h),List.filter_nil,List.append_nil]
 clear hG
 simp -implicitDefEqProofs (disch:=omega) [go_sem]
 refine loopK (fun ρ h'=>ρ 2=.int .i64 v∧ρ 44=.slice A' w.length c'∧ρ 45=.int .i64 w.length∧∃ (i:Nat) (X:Option Addr) (e:Nat),ρ 46=.int .i64 i∧i≤w.length∧ρ 6=.slice X (G i).length e ∧
     SlAt h' X e (ints (G i))∧(∀ y,blk X y→h3.size≤y)∧Fr (fun _=>False) h3 h') (fun ρ _=>w.length-(intOf (ρ 46)).toNat) (by kernel_rfl) ?_ ?_
 · exact ⟨rfl,rfl,rfl,0,none,0,rfl,by omega,by rw [G0]; rfl,by rw [G0]; exact SlAt.nil _,fun y ⟨_,h,_⟩=>(nomatch h),Fr.refl _ _⟩
 · rintro ρ h4 ⟨r2,r44,r45,i,X,e,r46,hi,r6,SX,ownX,fX⟩
   have hfl:=Gl i
   by_cases hin:i<w.length
   · obtain ⟨bk,off,rfl,hc⟩:=(S.row.fr0 fX).get (by rw [ints_len]; omega)
     obtain ⟨x,hx⟩:=some_at hin
     have c0:=hc _ _ (ints_at hx)
     have hxo:okL x:=((hwm x).1 (List.mem_of_getElem? hx)).elim (ha x) (hb x)
     unfold okL at hxo
     have ev:var12 x=x.natAbs:=if_pos hxo.2
     have gs:=Gs hx
     simp -implicitDefEqProofs (disch:=omega) [go_sem,r2,r6,r44,r45,r46,c0]
     refine useC (abs12_ok (x:=x) (by omega) (by omega)) ?_
     rintro _ h5 ⟨rfl,rfl⟩
     rw [ev]
     by_cases he:x.natAbs=v.natAbs
     · rw [if_pos he] at gs
       have he2:(x.natAbs:Int)=v:=by omega
       simp -implicitDefEqProofs (disch:=omega) [go_sem,r2,r6,r44,r45,r46,he2]
       exact ⟨⟨i+1,by omega,by omega,X,e,⟨rfl,by rw [gs],rfl⟩,by rw [gs]; exact SX,ownX,fX⟩,by omega⟩
     · rw [if_neg he] at gs
       have he2:¬ (x.natAbs:Int)=v:=by omega
       simp -implicitDefEqProofs (disch:=omega) [go_sem,r2,r6,r44,r45,r46,he2]
       refine build1 rfl rfl ?_
       simp -implicitDefEqProofs (disch:=omega) [go_sem,r2,r6,r44,r45,r46]
       refine appendO (cap:=e) (ws:=[.int .i64 x]) (by rw [Nat.mul_one]; exact SX) ownX fX (by rw [ints_len]; omega) rfl (by omega) (by simp [Value.oneCell']) (by omega) (by omega) ?_
       intro A5 c5 h6 S5 own5 f5 _
       have e3:ints (G i)++[.int .i64 x]=ints (G (i+1)):=by rw [gs,ints_append]; rfl
       rw [e3,Nat.mul_one] at S5
       simp -implicitDefEqProofs (disch:=omega) [go_sem,r2,r6,r44,r45,r46]
       exact ⟨⟨i+1,by omega,by omega,A5,c5,⟨rfl,by rw [gs]; simp,rfl⟩,S5,own5,f5⟩,by omega⟩
   · have e:i=w.length:=by omega
     subst e
     simp -implicitDefEqProofs (disch:=omega) [go_sem,r2,r6,r44,r45,r46]
     refine useC (cleanG_ok SX.row rfl (by omega) (fun x hx=>?_)) ?_
     · have:=((Gm x).1 hx).1.elim (ha x) (hb x)
       unfold okL at this
       omega
     rintro _ h5 ⟨⟨o,hC,hr⟩,f5⟩
     have hsz:=f03.size
     have hsz2:=fX.size
     cases o with
     | none =>
       obtain ⟨x,h1,_,h2⟩:=hC
       have g1:=(Gm x).1 h1
       exact absurd (hcl x g1.1 ((Gm (-x)).1 h2).1) g1.2
     | some L =>
       obtain ⟨A6,c6,rfl,S6,own6⟩:=hr
       simp -implicitDefEqProofs (disch:=omega) [go_sem]
       refine ⟨L,A6,c6,⟨rfl,rfl,rfl⟩,hC.1,fun x=>?_,S6,fun y hy=>?_,f03.trans (fX.trans f5)⟩
       · rw [hC.2 x,Gm x]
         exact ⟨fun h=>h.1,fun h=>⟨h,h.1.elim (ha x) (hb x)⟩⟩
       · have:=own6 y hy; omega
end
end Xe
namespace Xe
open Go
theorem least_ex {p:Nat→Prop} (h:∃ m,p m):∃ m,p m∧∀ k,p k→m≤k:=by
 obtain ⟨m,hm⟩:=h
 induction m using Nat.strongRecOn with
 | _ m ih =>
   by_cases hk:∃ k,k<m∧p k
   · obtain ⟨k,h1,h2⟩:=hk
     exact ih k h1 h2
   · exact ⟨m,hm,fun k h=>Nat.le_of_not_lt fun hl=>hk ⟨k,hl,h⟩⟩
noncomputable def leastN (p:Nat→Prop):Nat:=by
 classical
 exact if h:∃ m,p m then Classical.choose (least_ex h) else 0
theorem leastN_spec {p:Nat→Prop} (h:∃ m,p m):p (leastN p):=by
 unfold leastN
 rw [dif_pos h]
 exact (Classical.choose_spec (least_ex h)).1
theorem leastN_le {p:Nat→Prop} {m:Nat} (h:p m):leastN p≤m:=by
 unfold leastN
 rw [dif_pos ⟨m,h⟩]
 exact (Classical.choose_spec (least_ex ⟨m,h⟩)).2 m h
section
variable {P:Program} {n:Nat} {Q:Exit→Env→Heap→Prop} {ρ:Env} {h:Heap}
theorem jumpX_mono {l:Nat} {J J':Env→Heap→Prop} (hj:∀ ρ h,J ρ h→J' ρ h):∀ e ρ h,jumpX l J Q e ρ h→jumpX l J' Q e ρ h:=fun e ρ h he=>by
 cases e <;> first | exact ⟨he.1,hj _ _ he.2⟩ | exact he
theorem loopG {c:Code} (I:Nat→Env→Heap→Prop) (m0:Nat) (hok:okCode n c=true) (h0:I m0 ρ h)
  (round:∀ m ρ h,I m ρ h→wpX P n c (thenX (fun ρ' h'=>∃ m',m'<m∧I m' ρ' h') Q) ρ h):@SemK P n ⟨.loop c⟩ ⟨Q⟩ ⟨ρ⟩ ⟨h⟩:=by
 refine loopK (fun ρ h=>∃ m,I m ρ h) (fun ρ h=>leastN fun m=>I m ρ h) hok ⟨m0,h0⟩ fun ρ h hI=>?_
 refine wpX_mono c (fun e ρ' h' he=>?_) (round _ _ _ (leastN_spec hI))
 cases e <;> first
  | (obtain ⟨m',hm,hi⟩:=he
     exact ⟨⟨m',hi⟩,Nat.lt_of_le_of_lt (leastN_le hi) hm⟩)
  | exact he
theorem scopeLG {c:Code} (l:Nat) (J:Nat→Env→Heap→Prop) (m0:Nat) (hok:okCode n c=true) (h0:J m0 ρ h)
  (pass:∀ m ρ h,J m ρ h→wpX P n c (jumpX l (fun ρ' h'=>∃ m',m'<m∧J m' ρ' h') Q) ρ h):@SemK P n ⟨.scope (.seq (.label l) c)⟩ ⟨Q⟩ ⟨ρ⟩ ⟨h⟩:=by
 refine scopeL l (fun ρ h=>∃ m,J m ρ h) (fun ρ h=>leastN fun m=>J m ρ h) hok ⟨m0,h0⟩ fun ρ h hJ=>?_
 refine wpX_mono c (jumpX_mono fun ρ' h' he=>?_) (pass _ _ _ (leastN_spec hJ))
 obtain ⟨m',hm,hi⟩:=he
 exact ⟨⟨m',hi⟩,Nat.lt_of_le_of_lt (leastN_le hi) hm⟩
theorem scopeMG {c x y:Code} (l:Nat) (J:Nat→Env→Heap→Prop) (hs:splitL c l=some (x,y)) (hf:findLabel c l=some (.seq .skip y))
  (hok:(okCode n c&&okCode n y)=true) (first:wpX P n x (thenX (fun ρ h=>∃ m,J m ρ h) (jumpX l (fun ρ h=>∃ m,J m ρ h) Q)) ρ h)
  (pass:∀ m ρ h,J m ρ h→wpX P n y (jumpX l (fun ρ' h'=>∃ m',m'<m∧J m' ρ' h') Q) ρ h):@SemK P n ⟨.scope c⟩ ⟨Q⟩ ⟨ρ⟩ ⟨h⟩:=by
 refine scopeM l (fun ρ h=>∃ m,J m ρ h) (fun ρ h=>leastN fun m=>J m ρ h) hs hf hok first fun ρ h hJ=>?_
 refine wpX_mono y (jumpX_mono fun ρ' h' he=>?_) (pass _ _ _ (leastN_spec hJ))
 obtain ⟨m',hm,hi⟩:=he
 exact ⟨⟨m',hi⟩,Nat.lt_of_le_of_lt (leastN_le hi) hm⟩
end
end Xe
namespace Xe
open Go Tp Go.Proofs
set_option maxRecDepth 16000
set_option maxHeartbeats 1000000
section
variable {N:Nat} {h:Heap} {bb:Nat} {p:BP} {s:WS} {xb:Nat} {K U:Option Addr} {c u:List Int}
theorem startF_ok {vb tb:Nat} {O:Nat→Prop} {vars level:Nat} {l:List St} (hv:hcell h ⟨vb,0,none⟩=some (.pointer (some ⟨xb,0,none⟩))) (hb:hcell h ⟨xb,1,none⟩=some (.pointer (some ⟨tb,0,none⟩))) (T:TrailOk h tb O vars l level) {x:Int} (h0:-9223372036854775808≤x) (h1:x≤9223372036854775807) :
  CallsH Tryz.prog 112 ([.int .i64 x]++[.pointer (some ⟨vb,0,none⟩)]) h fun r h'=>r=.bool (decide (0≤trI l x))∧h'=h:=by
 refine calls_of 11 [.tmp 3] Go.Proofs.Tryz.func112 rfl rfl rfl ?_
 simp -implicitDefEqProofs (disch:=omega) [go_sem,hv,hb]
 refine useC (ttruth_ok T h0 h1) ?_
 rintro _ h2 ⟨rfl,rfl⟩
 simp -implicitDefEqProofs (disch:=omega) [go_sem]
def varsL (l:List Int):List Int:=l.map fun x=>(x.natAbs:Int)
theorem start_none (M:BaseM h bb p s) {id:Int} (h0:-9223372036854775808≤id) (h1:id≤9223372036854775807) (hg:0≤id→∀ e,s.cs[id.toNat]?=some e→e.gone=true) :
  CallsH Tryz.prog 62 [.pointer (some ⟨bb,0,none⟩),.int .i64 id] h fun r h'=>r=.tuple #[.pointer none,.int .i64 7]∧h'=h:=by
 refine calls_of 30 [.tmp 4,.tmp 5] Go.Proofs.Tryz.func62 rfl rfl rfl ?_
 simp -implicitDefEqProofs (disch:=omega) [go_sem]
 refine useC (clause_none M h0 h1 hg) ?_
 rintro _ h2 ⟨rfl,rfl⟩
 simp -implicitDefEqProofs (disch:=omega) [go_sem]
theorem start_some (M:BaseM h bb p s) (I:WInv s) {id:Nat} {e:Ent} (he:s.cs[id]?=some e) (hg:e.gone=false) :
   CallsH Tryz.prog 62 [.pointer (some ⟨bb,0,none⟩),.int .i64 id] h fun r h'=>Fr (fun _=>False) h h' ∧
    ((¬ FailAt s.l e.lits∧r=.tuple #[.pointer none,.int .i64 10])∨(FailAt s.l e.lits∧∃ xb K U,r=.tuple #[.pointer (some ⟨xb,0,none⟩),.int .i64 0]∧LrM h.size h' bb p s xb K U e.lits (varsL e.lits))):=by
 have hcl:=I.cl e (List.mem_of_getElem? he)
 have hv:=I.hv
 have hlen:=rise_length (a:=0) (n:=s.vars) hcl.1 fun x hx=>⟨(hcl.2 x hx).1,(hcl.2 x hx).2⟩
 refine calls_of 30 [.tmp 4,.tmp 5] Go.Proofs.Tryz.func62 rfl rfl rfl ?_
 simp -implicitDefEqProofs (disch:=omega) [go_sem]
 refine useC (clause_some M he hg) ?_
 rintro _ h2 ⟨A,d,rfl,S,own,f⟩
 have M2:=M.fr0 f
 simp -implicitDefEqProofs (disch:=omega) [go_sem]
 refine useC (btrail_m M2) ?_
 rintro _ h3 ⟨rfl,rfl⟩
 simp -implicitDefEqProofs (disch:=omega) [go_sem]
 obtain ⟨h4,e4⟩:∃ h4,h4=(h3.push (.cells #[.pointer (some ⟨bb,0,none⟩),.pointer (some ⟨p.tb,0,none⟩),.slice A e.lits.length d,.slice none 0 0] 100)).push (.cells #[.pointer none] 95):=⟨_,rfl⟩
 have f34:Fr (fun _=>False) h3 h4:=by rw [e4]; exact (Fr.refl _ _).push.push
 have B4:ListB h4 h3.size [.pointer (some ⟨bb,0,none⟩),.pointer (some ⟨p.tb,0,none⟩),.slice A e.lits.length d,.slice none 0 0]:=by rw [e4]; exact ListB.new.push
 have V4:ListB h4 (h3.size+1) [.pointer none]:=by
   rw [e4]
   have:=ListB.new (h:=h3.push (.cells #[.pointer (some ⟨bb,0,none⟩),.pointer (some ⟨p.tb,0,none⟩),.slice A e.lits.length d,.slice none 0 0] 100)) (vs:=[.pointer none]) (e:=95)
   rw [push_size] at this
   exact this
 rw [← e4]
 have v4:=V4.at' 0 _ rfl
 have vz4:=V4.fz
 simp -implicitDefEqProofs (disch:=omega) [go_sem,v4,vz4]
 obtain ⟨h5,e5⟩:∃ h5,h5=hset h4 ⟨h3.size+1,0,none⟩ (.pointer (some ⟨h3.size,0,none⟩)):=⟨_,rfl⟩
 rw [← e5]
 have f35:Fr (fun _=>False) h3 h5:=by rw [e5]; exact f34.new (by show h3.size≤h3.size+1; omega)
 have V5:ListB h5 (h3.size+1) [.pointer (some ⟨h3.size,0,none⟩)]:=by rw [e5]; exact V4.set (i:=0) _ (by simp)
 have B5:ListB h5 h3.size [.pointer (some ⟨bb,0,none⟩),.pointer (some ⟨p.tb,0,none⟩),.slice A e.lits.length d,.slice none 0 0]:=by rw [e5]; exact B4.oth (by omega)
 have v5:=V5.at' 0 _ rfl
 have b51:=B5.at' 1 _ rfl
 have M5:=M2.fr0 f35
 have S5:=S.fr f35 fun _ _ h=>h
 have hsz:=f.size
 have f05:=f.trans f35
 refine useC (containsFunc_ok (cs:=[.pointer (some ⟨h3.size+1,0,none⟩)]) S5.row rfl (by omega) (fun x=>decide (0≤trI s.l x)) fun x hx=>?_) ?_
 · have:=hcl.2 x hx
   exact startF_ok v5 b51 M5.T (by omega) (by omega)
 rintro _ h6 ⟨rfl,rfl⟩
 by_cases hfa:FailAt s.l e.lits
 · have ea:(e.lits.any fun x=>decide (0≤trI s.l x))=false:=by
    rw [List.any_eq_false]
    intro x hx
    have:=hfa x hx
    simp; omega
   rw [ea]
   simp -implicitDefEqProofs (disch:=omega) [go_sem,v5]
   have L6:LrM h.size h6 bb p s h3.size A none e.lits []:=⟨M5,⟨d,0,B5,S5,SlAt.nil _,fun y hy=>⟨own y hy,fun e=>by have:=S.blk_lt hy; omega⟩,fun y ⟨_,h,_⟩=>(nomatch h)⟩,hsz,fun x t hx=>M.low x t hx⟩
   refine useC (note_ok L6 (n:=e.lits.length) S5.row (fun y hy=>⟨S5.blk_lt hy,fun e=>by have:=S.blk_lt hy; omega,fun ⟨_,h,_⟩=>(nomatch h)⟩) rfl (fun x hx=>by have:=hcl.2 x hx; omega) (by simp; omega)) ?_
   rintro _ h7 ⟨U',L7,f7,hU7⟩
   have f07:Fr (fun _=>False) h h7:=f05.trans' f7 fun y hy hb=>by
    rcases hb with rfl | ⟨_,h,_⟩
    · omega
    · cases h
   obtain ⟨kc7,uc7,B7,_⟩:=L7.ex
   have hV:¬ (h3.size+1=h3.size∨blk none (h3.size+1)):=fun h=>h.elim (by omega) (fun ⟨_,h,_⟩=>(nomatch h))
   have v7:=(f7.cell (o:=0) (hcell_lt v5) hV).trans v5
   simp -implicitDefEqProofs (disch:=omega) [go_sem,v7]
   exact ⟨f07,hfa,_,_,L7⟩
 · have ea:(e.lits.any fun x=>decide (0≤trI s.l x))=true:=by
    rw [List.any_eq_true]
    by_cases hx:∃ x∈e.lits,trI s.l x≠-1
    · obtain ⟨x,h1,h2⟩:=hx
      exact ⟨x,h1,by have:=trI_cases s.l x; simp; omega⟩
    · exact absurd (fun x h1=>Decidable.byContradiction fun h2=>hx ⟨x,h1,h2⟩) hfa
   rw [ea]
   simp -implicitDefEqProofs (disch:=omega) [go_sem]
   exact ⟨f05,hfa⟩
theorem rise_abs {l:List Int} (h:Rise l) {x y:Int} (hx:x∈l) (hy:y∈l) (e:x.natAbs=y.natAbs):x=y:=by
 obtain ⟨i,hi⟩:=List.getElem?_of_mem hx
 obtain ⟨j,hj⟩:=List.getElem?_of_mem hy
 by_cases e2:i=j
 · subst e2; rw [hi] at hj; exact Option.some.inj hj
 · obtain ⟨h1,e1⟩:=List.getElem?_eq_some_iff.1 hi
   obtain ⟨h2,e2'⟩:=List.getElem?_eq_some_iff.1 hj
   have hp:=List.pairwise_iff_getElem.1 h
   rcases Nat.lt_or_gt_of_ne e2 with h3 | h3
   · have:=hp i j h1 h2 h3; rw [e1,e2'] at this; omega
   · have:=hp j i h2 h1 h3; rw [e1,e2'] at this; omega
theorem Ch.len {cs:List Ent} {l:List St} {c0 c:List Int} {rs:List (List Int)} {vars:Nat} (hcl:∀ e∈cs,Rise e.lits∧∀ x∈e.lits,1≤x.natAbs∧x.natAbs≤vars) (h:Ch cs l c0 rs c):∀ r∈rs,r.length≤vars:=by
 induction h with
 | nil=>intro r hr; cases hr
 | step _ h ih =>
   intro r hr
   rcases List.mem_append.1 hr with hr | hr
   · exact ih r hr
   · rw [List.mem_singleton] at hr
     subst hr
     obtain ⟨_,_,_,_,⟨k,e,_,h5,_,rfl⟩,_⟩:=h
     have:=hcl e (List.mem_of_getElem? h5)
     have:=rise_length (a:=0) (n:=vars) this.1 fun x hx=>⟨(this.2 x hx).1,(this.2 x hx).2⟩
     omega
theorem flat_len {n:Nat}:∀ {rs:List (List Int)},(∀ r∈rs,r.length≤n)→rs.flatten.length≤rs.length*n:=by
 intro rs
 induction rs with
 | nil=>intro _; simp
 | cons r rs ih =>
   intro h
   have h1:=ih fun q hq=>h q (List.mem_cons_of_mem _ hq)
   have h2:=h r (List.mem_cons_self ..)
   rw [List.flatten_cons,List.length_append,List.length_cons,Nat.succ_mul]
   omega
structure RvJ (N:Nat) (h0:Heap) (bb:Nat) (p:BP) (s:WS) (xb:Nat) (c0 u0:List Int) (m0:Nat) (m:Nat) (ρ:Env) (h:Heap):Prop where
 r0:ρ 0=.pointer (some ⟨xb,0,none⟩)
 ex:∃ c rs K U,LrM N h bb p s xb K U c (u0++varsL rs.flatten)∧Ch s.cs s.l c0 rs c∧(∀ y∈c,plx s.l y<m)∧rs.length+m≤m0∧(∀ y,blk K y→y<h.size)∧∀ y,blk U y→y<h.size
 fr:Fr (fun y=>N≤y) h0 h
theorem lresolve_ok (L:LrM N h bb p s xb K U c u) (I:WInv s) (D:Dcs s.l) (Rn:Rm s.l) (F:Cf s.vars s.l c) (hvs:s.vars≤10000) (hu:u.length≤10000) :
   CallsH Tryz.prog 63 [.pointer (some ⟨xb,0,none⟩)] h fun r h'=>∃ (x lv:Int) (c':List Int) (rs:List (List Int)) (K' U':Option Addr),r=.tuple #[.int .i64 x,.int .i64 lv] ∧
     LrM N h' bb p s xb K' U' c' (u++varsL rs.flatten)∧Ch s.cs s.l c rs c'∧rs.length≤s.vars∧Stop s.l c'∧((c'=[]∧lv=-1)∨(Lat s.l c' x∧lv=lvx s.l x))∧Fr (fun y=>N≤y) h h':=by
 have hlen:=L.M.T.len
 obtain ⟨kc,uc,B,SK,SU,hK,hU⟩:=L.ex
 refine calls_of 59 [.tmp 2,.tmp 3] Go.Proofs.Tryz.func63 rfl rfl rfl ?_
 simp -implicitDefEqProofs (disch:=omega) [go_sem]
 refine scopeLG 0 (RvJ N h bb p s xb c u s.l.length) s.l.length (by kernel_rfl) ⟨rfl,⟨c,[],K,U,by simpa [varsL] using L,.nil,fun y _=>(PL_lt _ _).2,by simp,fun y hy=>SK.blk_lt hy,fun y hy=>SU.blk_lt hy⟩,Fr.refl _ _⟩ ?_
 rintro m ρ h1 ⟨r0,⟨c1,rs,K1,U1,L1,hch,hm,hrm,hK1,hU1⟩,f1⟩
 have F1:=hch.cf I D F
 simp -implicitDefEqProofs (disch:=omega) [go_sem,r0]
 refine useC (latest_ok L1 I F1) ?_
 rintro _ h2 ⟨rfl,x,lv,n,rfl,hor⟩
 have fin:(lv≤0∨(n:Int)=1)→Stop s.l c1:=fun h=>by
   rcases hor with ⟨rfl,_⟩ | ⟨h1,rfl,rfl⟩
   · exact .inl rfl
   · exact .inr ⟨x,h1,by omega⟩
 by_cases h0:lv≤0
 · simp -implicitDefEqProofs (disch:=omega) [go_sem,r0,h0]
   exact ⟨x,lv,⟨rfl,rfl⟩,c1,rs,⟨K1,U1,L1⟩,hch,by omega,fin (.inl h0),hor.imp_right fun h=>⟨h.1,h.2.1⟩,f1⟩
 by_cases hn1:(n:Int)=1
 · simp -implicitDefEqProofs (disch:=omega) [go_sem,r0,h0,hn1]
   exact ⟨x,lv,⟨rfl,rfl⟩,c1,rs,⟨K1,U1,L1⟩,hch,by omega,fin (.inr hn1),hor.imp_right fun h=>⟨h.1,h.2.1⟩,f1⟩
 rcases hor with ⟨_,rfl⟩ | ⟨hlat,rfl,rfl⟩
 · omega
 obtain ⟨k,e,hk,he,hg,hxe,hrest,hre,hrr,z,hz1,hz2,hz3⟩:=step_ex I D F1 hlat (by omega) (by omega)
 have hxr:=F1.rng x hlat.1
 have hv:=I.hv
 simp -implicitDefEqProofs (disch:=omega) [go_sem,r0,h0,hn1]
 refine useC (reason_ok L1 I Rn (x:=x) (by omega)) ?_
 rintro _ h3 ⟨f3,hor⟩
 rcases hor with ⟨h,_⟩ | ⟨k',e',A,d,hk',he',_,rfl,SA,ownA⟩
 · omega
 have ek:k'=k:=by omega
 subst ek
 rw [he] at he'
 cases he'
 have L3:=L1.fr0 f3
 obtain ⟨kc1,uc1,B1,SK1,SU1,hK1',hU1'⟩:=L1.ex
 have hxb:=B1.lt
 have hel:=rise_length (a:=0) (n:=s.vars) hre fun x hx=>⟨(hrr x hx).1,(hrr x hx).2⟩
 have hrl:=Ch.len I.cl hch
 have hfl:=flat_len hrl
 have hmul:rs.length*s.vars≤10000*10000:=Nat.mul_le_mul (by omega) hvs
 have hul:(u++varsL rs.flatten).length≤10000+10000*10000:=by
   rw [List.length_append]; unfold varsL; rw [List.length_map]; omega
 simp -implicitDefEqProofs (disch:=omega) [go_sem,r0]
 refine useC (note_ok L3 (n:=e.lits.length) SA.row (fun y hy=>⟨SA.blk_lt hy,fun e=>by have:=ownA y hy; omega,fun hu=>by have:=ownA y hy; have:=hU1 y hu; omega⟩) rfl (fun x hx=>by have:=hrr x hx; omega) (by omega)) ?_
 rintro _ h4 ⟨U4,L4,f4,hU4⟩
 have f23:=f3.size
 have f34:=f4.size
 have SA4:SlAt h4 A d (ints e.lits):=SA.fr f4 fun y hy hb=>by
   have:=ownA y hy
   rcases hb with rfl | hb
   · omega
   · have:=hU1 y hb; omega
 obtain ⟨kc4,uc4,B4,SK4,SU4,hK4,hU4'⟩:=L4.ex
 have b42:=B4.at' 2 _ rfl
 have xne:-x≠x:=by omega
 have hnx:x∉e.lits:=fun h=>xne (rise_abs hre hxe h (by omega))
 have hnc:-x∉c1:=fun h=>xne (rise_abs F1.rise h hlat.1 (by omega))
 have hfalse:∀ y,(y∈c1∨y∈e.lits)→y.natAbs≠x.natAbs→trI s.l y=-1:=fun y hy hne=>by
   rcases hy with hy | hy
   · exact F1.fail y hy
   · exact (hrest y hy fun h=>hne (by rw [h]; omega)).1
 have hcl:∀ y,(y∈c1∨y∈e.lits)→(-y∈c1∨-y∈e.lits)→y.natAbs=x.natAbs:=fun y h1 h2=>by
   by_cases hne:y.natAbs=x.natAbs
   · exact hne
   · have g1:=tr_m1.1 (hfalse y h1 hne)
     have g2:=tr_m1.1 (hfalse (-y) h2 (by omega))
     rw [Int.neg_neg] at g2
     exact absurd g2.2 g1.1
 have hokc:∀ y∈c1,okL y:=fun y hy=>by have:=F1.rng y hy; unfold okL; omega
 have hoke:∀ y∈e.lits,okL y:=fun y hy=>by have:=hrr y hy; unfold okL; omega
 have hc1l:=F1.len
 have done:∀ {L:List Int} {A5:Option Addr} {d5:Nat} {h5:Heap},Rise L→(∀ y,y∈L↔(y∈c1∨y∈e.lits)∧y.natAbs≠x.natAbs)→SlAt h5 A5 d5 (ints L)→(∀ y,blk A5 y→h4.size≤y)→Fr (fun _=>False) h4 h5 →
     ∃ m',m'<m∧∀ ρ':Env,ρ' 0=.pointer (some ⟨xb,0,none⟩)→RvJ N h bb p s xb c u s.l.length m' ρ' (hset h5 ⟨xb,2,none⟩ (.slice A5 L.length d5)):=by
   intro L A5 d5 h5 hL hLm S5 own5 f5
   have hst:Stp1 s.cs s.l c1 e.lits L:=⟨x,hlat,by omega,by omega,⟨k',e,hk,he,hg,rfl⟩,hL,fun y=>by
     rw [hLm y]
     constructor
     · rintro ⟨h | h,hne⟩
       · exact .inl ⟨h,fun e=>hne (by rw [e])⟩
       · exact .inr ⟨h,fun e=>hne (by rw [e]; omega)⟩
     · rintro (⟨h,hne⟩ | ⟨h,hne⟩)
       · exact ⟨.inl h,fun e=>hne (rise_abs F1.rise h hlat.1 e)⟩
       · exact ⟨.inr h,fun e=>hne (rise_abs hre h hxe (by omega))⟩⟩
   obtain ⟨F',⟨x',hx',hp',_⟩,_⟩:=hst.next I D F1
   have exx:=hx'.uniq I.good F1.fail hlat
   subst exx
   have hpx:=hm _ hlat.1
   have hp0:=(PL_lt s.l x'.natAbs).1
   have hp1:0≤plx s.l x':=by
     obtain ⟨q,t,_,_,h3,_⟩:=false_at I.good (F1.fail _ hlat.1)
     omega
   refine ⟨(plx s.l x').toNat,by omega,fun ρ' hr0=>⟨hr0,⟨L,rs++[e.lits],A5,U4,?_,.step hch hst,fun y hy=>?_,?_,fun y hy=>?_,fun y hy=>?_⟩,?_⟩⟩
   · have B5:=B4.fr f5 fun h=>h
     have e7:u++varsL rs.flatten++(e.lits.map fun x=>(x.natAbs:Int))=u++varsL (rs++[e.lits]).flatten:=by
       rw [List.append_assoc,List.flatten_append]
       unfold varsL
       rw [List.map_append]
       simp
     rw [e7] at L4 B4 B5 SU4
     have hb4:=B4.lt
     have f6:Fr (fun y=>y=xb) h4 (hset h5 ⟨xb,2,none⟩ (.slice A5 L.length d5)):=(f5.mono fun _ _ h=>h.elim).set rfl
     refine ⟨L4.baseFr (f6.mono fun y _ h=>by rw [h]; exact L4.hx),⟨d5,uc4,?_,?_,SU4.fr f6 fun y hy=>(hU4' y hy).2.1,fun y hy=>?_,fun y hy=>?_⟩,L4.hx,L4.hN⟩
     · have:=B5.set (i:=2) (.slice A5 L.length d5) (by simp)
       simpa using this
     · refine S5.keep (fun y hy=>hset_other ?_) (by rw [hset_size]; exact Nat.le_refl _)
       have:=own5 y hy
       show y≠xb
       omega
     · have:=own5 y hy
       have:=L4.hx
       omega
     · refine ⟨(hU4' y hy).1,(hU4' y hy).2.1,fun h=>?_⟩
       have:=own5 y h
       have:=SU4.blk_lt hy
       omega
   · have:=hp' y hy; omega
   · rw [List.length_append]; simp; omega
   · rw [hset_size]; exact S5.blk_lt hy
   · rw [hset_size]; have:=SU4.blk_lt hy; have:=f5.size; omega
   · have g1:Fr (fun y=>N≤y) h h3:=f1.trans (f3.mono fun _ _ h=>h.elim)
     have g2:Fr (fun y=>N≤y) h h4:=g1.trans' f4 fun y _ hb=>hb.elim (fun h=>by rw [h]; exact L4.hx) fun h=>(hU1' y h).1
     exact (g2.trans (f5.mono fun _ _ h=>h.elim)).set (show N≤xb from L4.hx)
 by_cases hneg:x<0
 · simp -implicitDefEqProofs (disch:=omega) [go_sem,r0,hneg,b42]
   refine useC (resolve_ok (v:=-x) SA4.row rfl SK4.row rfl (by omega) (by omega) hxe (by rw [Int.neg_neg]; exact hnx) (by rw [Int.neg_neg]; exact hlat.1) hnc hoke hokc (fun y h1 h2=>by have:=hcl y h1.symm h2.symm; omega)) ?_
   rintro _ h5 ⟨L,A5,d5,rfl,hL,hLm,S5,own5,f5⟩
   obtain ⟨m',hm',hJ⟩:=done hL (fun y=>by rw [hLm y,Int.natAbs_neg]; exact and_congr_left' or_comm) S5 own5 f5
   have b52:=(B4.fr f5 fun h=>h).at' 2 _ rfl
   have fz5:=(B4.fr f5 fun h=>h).fz
   simp -implicitDefEqProofs (disch:=omega) [go_sem,r0,b52,fz5]
   exact ⟨m',hm',hJ _ (by simp -implicitDefEqProofs [go_sem,r0])⟩
 · simp -implicitDefEqProofs (disch:=omega) [go_sem,r0,hneg,b42]
   refine useC (resolve_ok (v:=x) SK4.row rfl SA4.row rfl (by omega) (by omega) hlat.1 hnc hxe hnx hokc hoke hcl) ?_
   rintro _ h5 ⟨L,A5,d5,rfl,hL,hLm,S5,own5,f5⟩
   obtain ⟨m',hm',hJ⟩:=done hL hLm S5 own5 f5
   have b52:=(B4.fr f5 fun h=>h).at' 2 _ rfl
   have fz5:=(B4.fr f5 fun h=>h).fz
   simp -implicitDefEqProofs (disch:=omega) [go_sem,r0,b52,fz5]
   exact ⟨m',hm',hJ _ (by simp -implicitDefEqProofs [go_sem,r0])⟩
end
end Xe
