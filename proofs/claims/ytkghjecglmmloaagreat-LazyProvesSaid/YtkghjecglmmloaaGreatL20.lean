/- slices.DeleteFunc of ints. -/
import Derived.Test.YtkghjecglmmloaaGreatL5
import Derived.Test.YtkghjecglmmloaaGreatSP9
namespace Xe
open Go Tp Go.Proofs
set_option maxRecDepth 16000
set_option maxHeartbeats 1000000
section
variable {h:Heap} {A:Option Addr} {n cap fn:Nat} {cs:List Value} {l:List Int}
theorem delete_ok (S:SlAt h A cap (ints l)) (hn:n=l.length) (hs:n<2^40) (p:Int→Bool)
   (hf:∀ h',Fr (blk A) h h'→∀ x∈l,CallsH Tryz.prog fn ([.int .i64 x]++cs) h' fun r h''=>r=.bool (p x)∧h''=h') :
   CallsH Tryz.prog 122 [.slice A n cap,.func (.func fn) #[] cs.toArray] h fun r h'=>r=.slice A (l.filter fun x=>!p x).length cap∧SlAt h' A cap (ints (l.filter fun x=>!p x))∧Fr (blk A) h h':=by
 subst hn
 refine calls_of 42 [.tmp 4] Go.Proofs.Tryz.func122 rfl rfl rfl ?_
 simp -implicitDefEqProofs (disch:=omega) [go_sem]
 refine useC (indexFunc_ok S.row rfl hs p fun x hx=>hf h (Fr.refl _ _) x hx) ?_
 rintro _ h1 ⟨rfl,rfl⟩
 unfold idxF
 cases hi0:l.findIdx? p with
 | none =>
   rw [List.findIdx?_eq_none_iff] at hi0
   have e:(l.filter fun x=>!p x)=l:=List.filter_eq_self.2 fun x hx=>by rw [hi0 x hx]; rfl
   rw [e]
   simp -implicitDefEqProofs (disch:=omega) [go_sem]
   exact ⟨S,Fr.refl _ _⟩
 | some i0 =>
   obtain ⟨hi0l,hp0,hbef⟩:=List.findIdx?_eq_some_iff_getElem.1 hi0
   obtain ⟨F,hF⟩:∃ F:Nat→List Int,F=fun j=>(l.take j).filter fun x=>!p x:=⟨_,rfl⟩
   have Fe:F l.length=l.filter fun x=>!p x:=by rw [hF]; simp only [List.take_length]
   have Fs:∀ {j:Nat} {x:Int},l[j]?=some x→F (j+1)=if p x then F j else F j++[x]:=fun hx=>by
     rw [hF]; simp only []
     rw [take_at hx,List.filter_append,List.filter_cons]
     split
     · rename_i h; rw [if_neg (by simpa using h),List.filter_nil]
     · rename_i h; rw [if_pos (by simpa using h),List.filter_nil,List.append_nil]
   have Fl:∀ j,(F j).length≤j:=fun j=>by
     rw [hF]; exact Nat.le_trans (List.length_filter_le _ _) (by rw [List.length_take]; omega)
   have F0:F i0=l.take i0:=by
     rw [hF]
     refine List.filter_eq_self.2 fun x hx=>?_
     obtain ⟨q,hq,rfl⟩:=List.getElem_of_mem hx
     rw [List.length_take] at hq
     rw [List.getElem_take]
     have:=hbef q (by omega)
     simpa using this
   have F1:F (i0+1)=l.take i0:=by rw [Fs (List.getElem?_eq_getElem hi0l),if_pos hp0,F0]
   rw [← Fe]
   clear hF
   obtain ⟨bk,rfl,hbk,hfz,hc⟩:=S.base (by rw [ints_len]; omega)
   have hcap:=S.len
   rw [ints_len] at hcap
   simp -implicitDefEqProofs (disch:=omega) [go_sem]
   refine loopK (fun ρ h'=>ρ 0=.slice (some ⟨bk,0,none⟩) l.length cap∧ρ 1=.func (.func fn) #[] cs.toArray∧∃ (j i:Nat) (M:List Int),ρ 6=.int .i64 j∧ρ 5=.int .i64 i∧i<j∧j≤l.length∧i=(F j).length∧M.length=l.length ∧
       (∀ q,q<i→gt M q=gt (F j) q)∧(∀ q,j≤q→gt M q=gt l q)∧SlAt h' (some ⟨bk,0,none⟩) cap (ints M)∧Fr (blk (some ⟨bk,0,none⟩)) h1 h')
     (fun ρ _=>l.length-(intOf (ρ 6)).toNat) (by kernel_rfl) ?_ ?_
   · refine ⟨rfl,rfl,i0+1,i0,l,rfl,rfl,by omega,by omega,by rw [F1,List.length_take]; omega,rfl,fun q hq=>?_,fun q _=>rfl,S,Fr.refl _ _⟩
     rw [F1]
     unfold gt
     rw [List.getD_eq_getElem?_getD,List.getD_eq_getElem?_getD,List.getElem?_take,if_pos hq]
   · rintro ρ h2 ⟨r0,r1,j,i,M,r6,r5,hij,hjl,hi,hM,hA,hB,S2,f2⟩
     obtain ⟨bk',hbk',_,hfz2,hc2⟩:=S2.base (by rw [ints_len]; omega)
     cases hbk'
     by_cases hend:j=l.length
     · subst hend
       simp -implicitDefEqProofs (disch:=omega) [go_sem,r0,r1,r5,r6]
       refine clear_ints (n:=l.length-i) (fun q hq=>?_) hfz2 fun h4 g1 g2 g3 g4=>?_
       · rw [hc2 (i+q) _ (ints_at (gt_at (by omega)))]; rfl
       · simp -implicitDefEqProofs (disch:=omega) [go_sem,r0,r1,r5,r6]
         refine ⟨hi,⟨by rw [ints_len]; omega,.inr ⟨bk,rfl,Nat.lt_of_lt_of_le (S2.blk_lt ⟨_,rfl,rfl⟩) g4.size,g3,fun q hq=>?_,fun q v hv=>?_⟩⟩,f2.trans (g4.mono fun x _ hx=>⟨_,rfl,hx.symm⟩)⟩
         · refine g2 q ?_
           rcases S2.at' with ⟨h,_⟩ | ⟨bk2,h,_,_,hs3,_⟩
           · cases h
           · cases h; exact hs3 q hq
         · have hql:=(List.getElem?_eq_some_iff.1 hv).1
           rw [ints_len,← hi] at hql
           rw [g1 q hql,hc2 q _ (ints_at (gt_at (by omega))),hA q hql,← hv,ints_at (gt_at (by omega))]
     · have hjx:=gt_at (show j<l.length by omega)
       have c0:=hc2 j _ (ints_at (gt_at (by omega)))
       rw [hB j (Nat.le_refl _)] at c0
       have gs:=Fs hjx
       simp -implicitDefEqProofs (disch:=omega) [go_sem,r0,r1,r5,r6,c0]
       refine useC (hf h2 f2 _ (List.mem_of_getElem? hjx)) ?_
       rintro _ h3 ⟨rfl,rfl⟩
       cases hpx:p (gt l j) with
       | true =>
         rw [hpx,if_pos rfl] at gs
         simp -implicitDefEqProofs (disch:=omega) [go_sem,r0,r1,r5,r6]
         exact ⟨⟨j+1,by omega,i,rfl,by omega,by omega,by rw [gs]; exact hi,M,hM,fun q hq=>by rw [gs]; exact hA q hq,fun q hq=>hB q (by omega),S2,f2⟩,by omega⟩
       | false =>
         rw [hpx,if_neg (by decide)] at gs
         have ci:=hc2 i _ (ints_at (gt_at (by omega)))
         simp -implicitDefEqProofs (disch:=omega) [go_sem,r0,r1,r5,r6,hfz2,ci]
         have S4:=S2.set (i:=i) (by rw [ints_len]; omega) (.int .i64 (gt l j))
         have e4:(ints M).set i (.int .i64 (gt l j))=ints (M.set i (gt l j)):=by unfold ints; rw [List.map_set]
         rw [e4] at S4
         refine ⟨⟨j+1,by omega,i+1,by omega,by omega,by omega,by rw [gs,List.length_append,← hi]; rfl,M.set i (gt l j),by rw [List.length_set]; exact hM,fun q hq=>?_,fun q hq=>?_,S4,f2.set ⟨_,rfl,rfl⟩⟩,by omega⟩
         · rw [gt_set (by omega),gs]
           by_cases ej:q=i
           · subst ej
             rw [if_pos rfl]
             unfold gt
             rw [List.getD_eq_getElem?_getD (l:=F j++[_]),List.getElem?_append_right (by omega),hi,Nat.sub_self]
             rfl
           · rw [if_neg ej,hA q (by omega)]
             unfold gt
             rw [List.getD_eq_getElem?_getD,List.getD_eq_getElem?_getD,List.getElem?_append_left (by omega)]
         · rw [gt_set (by omega),if_neg (by omega)]
           exact hB q (by omega)
end
def ndP (s:WS) (c:List Int) (x y:Int):Bool:=decide (y≠-x)&&decide (0<lvx s.l y)&&decide (y∉c)
def ndl (s:WS) (c:List Int) (x:Int):Bool:=decide (0≤RS s.l x.natAbs)&&match s.cs[(RS s.l x.natAbs).toNat]? with
 | some e=>!(e.lits.any (ndP s c x))
 | none=>false
section
variable {N:Nat} {h:Heap} {bb:Nat} {p:BP} {s:WS} {xb:Nat} {K U:Option Addr} {c u:List Int}
theorem needlessF_ok (L:LrM N h bb p s xb K U c u) {b2 b3:Nat} {x:Int} (h2:hcell h ⟨b2,0,none⟩=some (.pointer (some ⟨xb,0,none⟩))) (h3:hcell h ⟨b3,0,none⟩=some (.int .i64 x)) (hx:x.natAbs≤16777216) (hc:c.length<2^40) {y:Int} (hy:y.natAbs≤16777216) :
   CallsH Tryz.prog 165 ([.int .i64 y]++[.pointer (some ⟨b3,0,none⟩),.pointer (some ⟨b2,0,none⟩)]) h fun r h'=>r=.bool (ndP s c x y)∧h'=h:=by
 obtain ⟨kc,uc,B,SK,SU,hK,hU⟩:=L.ex
 have b1:=B.at' 1 _ rfl
 have b2':=B.at' 2 _ rfl
 have T:=L.M.T
 have v1:=LVi_b T (y.natAbs:Int)
 rw [lvi_nat] at v1
 have hv:=T.hv
 unfold ndP
 refine calls_of 28 [.tmp 4] Go.Proofs.Tryz.func165 rfl rfl rfl ?_
 simp -implicitDefEqProofs (disch:=omega) [go_sem]
 refine drawC [(0,0),(1,1),(2,0),(3,0),(4,0),(5,2),(6,0),(7,0),(8,2),(9,0),(10,3),(11,3),(12,0),(13,0),(14,0),(15,1),(16,0),(17,0),(18,1),(19,0),(20,3),(21,0),(22,0),(23,0)] (Eq _) rfl ?_
 by_cases e1:y=-x
 · simp -implicitDefEqProofs (disch:=omega) [go_sem,h2,h3,b1,b2',e1]
 · simp -implicitDefEqProofs (disch:=omega) [go_sem,h2,h3,b1,b2',e1]
   refine useC (variable_ok (x:=y) (by omega) (by omega)) ?_
   rintro _ h4 ⟨rfl,rfl⟩
   simp -implicitDefEqProofs (disch:=omega) [go_sem,h2,h3,b1,b2',e1]
   refine useC (tlevelOf_ok T (by omega) (by omega)) ?_
   rintro _ h4 ⟨rfl,rfl⟩
   rw [lvi_nat]
   by_cases e2:0<lvx s.l y
   · simp -implicitDefEqProofs (disch:=omega) [go_sem,h2,h3,b1,b2',e1,e2]
     refine useC (contains_ok SK.row rfl (by omega) y) ?_
     rintro _ h4 ⟨rfl,rfl⟩
     simp -implicitDefEqProofs (disch:=omega) [go_sem,h2,h3,b1,b2',e1,e2]
   · simp -implicitDefEqProofs (disch:=omega) [go_sem,h2,h3,b1,b2',e1,e2]
theorem needless_ok (L:LrM N h bb p s xb K U c u) (I:WInv s) (Rn:Rm s.l) {x:Int} (hx:1≤x.natAbs∧x.natAbs≤16777216) (hc:c.length<2^40) :
   CallsH Tryz.prog 121 [.pointer (some ⟨xb,0,none⟩),.int .i64 x] h fun r h'=>r=.bool (ndl s c x)∧Fr (fun _=>False) h h':=by
 have hv:=I.hv
 refine calls_of 20 [.tmp 4] Go.Proofs.Tryz.func121 rfl rfl rfl ?_
 simp -implicitDefEqProofs (disch:=omega) [go_sem]
 obtain ⟨h1,e1⟩:∃ h1,h1=(h.push (.cells #[.pointer (some ⟨xb,0,none⟩)] 95)).push (.cells #[.int .i64 x] 3):=⟨_,rfl⟩
 have f1:Fr (fun _=>False) h h1:=by rw [e1]; exact (Fr.refl _ _).push.push
 have V2:ListB h1 h.size [.pointer (some ⟨xb,0,none⟩)]:=by rw [e1]; exact ListB.new.push
 have V3:ListB h1 (h.size+1) [.int .i64 x]:=by
   rw [e1]
   have:=ListB.new (h:=h.push (.cells #[.pointer (some ⟨xb,0,none⟩)] 95)) (vs:=[.int .i64 x]) (e:=3)
   rw [push_size] at this
   exact this
 rw [← e1]
 have v2:=V2.at' 0 _ rfl
 have v3:=V3.at' 0 _ rfl
 have L1:=L.fr0 f1
 simp -implicitDefEqProofs (disch:=omega) [go_sem,v2,v3]
 refine useC (reason_ok L1 I Rn (x:=x) (by omega)) ?_
 rintro _ h3 ⟨f3,hor⟩
 unfold ndl
 rcases hor with ⟨hneg,rfl⟩ | ⟨k,e,A,d,hk,he,hg,rfl,SA,ownA⟩
 · simp -implicitDefEqProofs (disch:=omega) [go_sem,hneg]
   exact f1.trans f3
 · have hcl:=I.cl e (List.mem_of_getElem? he)
   have hel:=rise_length (a:=0) (n:=s.vars) hcl.1 fun x hx=>⟨(hcl.2 x hx).1,(hcl.2 x hx).2⟩
   simp -implicitDefEqProofs (disch:=omega) [go_sem,hk,he]
   have g2:=(f3.cell (hcell_lt v2) fun h=>h).trans v2
   have g3:=(f3.cell (hcell_lt v3) fun h=>h).trans v3
   refine useC (containsFunc_ok (cs:=[.pointer (some ⟨h.size+1,0,none⟩),.pointer (some ⟨h.size,0,none⟩)]) SA.row rfl (by omega) (ndP s c x) fun y hy=>needlessF_ok (L1.fr0 f3) g2 g3 (by omega) hc (by have:=hcl.2 y hy; omega)) ?_
   rintro _ h4 ⟨rfl,rfl⟩
   simp -implicitDefEqProofs (disch:=omega) [go_sem]
   refine ⟨?_,f1.trans f3⟩
   rw [hk,Int.toNat_natCast,he]
   simp
end
section
variable {N:Nat} {h:Heap} {bb:Nat} {p:BP} {s:WS} {xb:Nat} {K U:Option Addr} {c u:List Int}
theorem shrinkF1_ok (L:LrM N h bb p s xb K U c u) {b2:Nat} (h2:hcell h ⟨b2,0,none⟩=some (.pointer (some ⟨xb,0,none⟩))) {x y:Int} (hx:x.natAbs≤16777216) (hy:y.natAbs≤16777216) :
  CallsH Tryz.prog 119 ([.int .i64 x,.int .i64 y]++[.pointer (some ⟨b2,0,none⟩)]) h fun r h'=>r=.int .i64 (plx s.l y-plx s.l x)∧h'=h:=by
 obtain ⟨kc,uc,B,SK,SU,hK,hU⟩:=L.ex
 have b1:=B.at' 1 _ rfl
 have T:=L.M.T
 have hv:=T.hv
 have hl:=T.len
 have v1:=PLi_b T (x.natAbs:Int)
 have v2:=PLi_b T (y.natAbs:Int)
 rw [pli_nat] at v1 v2
 refine calls_of 21 [.tmp 5] Go.Proofs.Tryz.func119 rfl rfl rfl ?_
 simp -implicitDefEqProofs (disch:=omega) [go_sem]
 refine drawC [(0,2),(1,0),(2,0),(3,2),(4,0),(7,2),(8,0),(9,0),(10,2),(11,0),(5,3),(6,3),(12,3),(13,3),(14,0),(15,0)] (Eq _) rfl ?_
 simp -implicitDefEqProofs (disch:=omega) [go_sem,h2,b1]
 refine useC (variable_ok (x:=y) (by omega) (by omega)) ?_
 rintro _ h4 ⟨rfl,rfl⟩
 simp -implicitDefEqProofs (disch:=omega) [go_sem,h2,b1]
 refine useC (tplace_ok T (by omega) (by omega)) ?_
 rintro _ h4 ⟨rfl,rfl⟩
 rw [pli_nat]
 simp -implicitDefEqProofs (disch:=omega) [go_sem,h2,b1]
 refine useC (variable_ok (x:=x) (by omega) (by omega)) ?_
 rintro _ h4 ⟨rfl,rfl⟩
 simp -implicitDefEqProofs (disch:=omega) [go_sem,h2,b1]
 refine useC (tplace_ok T (by omega) (by omega)) ?_
 rintro _ h4 ⟨rfl,rfl⟩
 rw [pli_nat]
 simp -implicitDefEqProofs (disch:=omega) [go_sem,h2,b1]
theorem shrinkF2_ok {b6:Nat} {x y:Int} (h6:hcell h ⟨b6,0,none⟩=some (.int .i64 x)) :
  CallsH Tryz.prog 123 ([.int .i64 y]++[.pointer (some ⟨b6,0,none⟩)]) h fun r h'=>r=.bool (decide (y=x))∧h'=h:=by
 refine calls_of 7 [.tmp 3] Go.Proofs.Tryz.func123 rfl rfl rfl ?_
 simp -implicitDefEqProofs (disch:=omega) [go_sem,h6]
theorem shrinkF3_ok {vars level tb:Nat} {O:Nat→Prop} {l:List St} (T:TrailOk h tb O vars l level) {b2:Nat} (h2:hcell h ⟨b2,0,none⟩=some (.pointer (some ⟨xb,0,none⟩))) (b1:hcell h ⟨xb,1,none⟩=some (.pointer (some ⟨tb,0,none⟩))) {y:Int} (hy:y.natAbs≤16777216) :
  CallsH Tryz.prog 124 ([.int .i64 y]++[.pointer (some ⟨b2,0,none⟩)]) h fun r h'=>r=.bool (decide (lvx l y=0))∧h'=h:=by
 refine calls_of 12 [.tmp 3] Go.Proofs.Tryz.func124 rfl rfl rfl ?_
 simp -implicitDefEqProofs (disch:=omega) [go_sem]
 refine drawC [(0,2),(1,0),(2,0),(3,2),(4,0),(5,3),(6,3),(7,0),(8,0)] (Eq _) rfl ?_
 simp -implicitDefEqProofs (disch:=omega) [go_sem,h2,b1]
 refine useC (variable_ok (x:=y) (by omega) (by omega)) ?_
 rintro _ h4 ⟨rfl,rfl⟩
 simp -implicitDefEqProofs (disch:=omega) [go_sem,h2,b1]
 refine useC (tlevelOf_ok T (by omega) (by omega)) ?_
 rintro _ h4 ⟨rfl,rfl⟩
 rw [lvi_nat]
 simp -implicitDefEqProofs (disch:=omega) [go_sem,h2,b1]
end
def shr1 (s:WS) (keep:Int) (c:List Int) (x:Int):List Int:=if x≠keep∧ndl s c x=true then c.filter (fun y=>decide (y≠x)) else c
def shr (s:WS) (keep:Int) (c L:List Int):List Int:=L.foldl (shr1 s keep) c
theorem shr1_sub {s:WS} {keep:Int} {c:List Int} {x:Int}:(shr1 s keep c x).Sublist c:=by
 unfold shr1; split
 · exact List.filter_sublist
 · exact List.Sublist.refl _
theorem shr_sub {s:WS} {keep:Int}:∀ {L c:List Int},(shr s keep c L).Sublist c:=by
 intro L
 induction L with
 | nil=>intro c; exact List.Sublist.refl _
 | cons x L ih=>intro c; exact (ih (c:=shr1 s keep c x)).trans shr1_sub
theorem shr_snoc {s:WS} {keep:Int} {c L:List Int} {x:Int}:shr s keep c (L++[x])=shr1 s keep (shr s keep c L) x:=by unfold shr; rw [List.foldl_append]; rfl
def Fall (l:List St) (L:List Int):Prop:=L.Pairwise fun x y=>plx l y≤plx l x
def plC (l:List St) (x y:Int):Int:=plx l y-plx l x
theorem plC_ok (l:List St) (ok:Int→Prop):CmpOk (plC l) ok where
 le x y _ _ h:=by unfold plC at *; omega
 tr x y z _ _ _ h1 h2:=by unfold plC at *; omega
section
variable {N:Nat} {h:Heap} {bb:Nat} {p:BP} {s:WS} {xb:Nat} {K U:Option Addr} {c u:List Int}
theorem LrM.setC (L:LrM N h bb p s xb K U c u) {h':Heap} {kc:Nat} {c':List Int} (f:Fr (blk K) h h') (S:SlAt h' K kc (ints c')):LrM N (hset h' ⟨xb,2,none⟩ (.slice K c'.length kc)) bb p s xb K U c' u:=by
 obtain ⟨kc1,uc1,B,SK,SU,hK,hU⟩:=L.ex
 have f':Fr (fun y=>y=xb∨blk K y) h (hset h' ⟨xb,2,none⟩ (.slice K c'.length kc)):=(f.mono fun _ _ h=>.inr h).set (.inl rfl)
 refine ⟨L.baseFr (f'.mono fun y _ h=>h.elim (fun h=>by rw [h]; exact L.hx) fun h=>(hK y h).1),⟨kc,uc1,?_,?_,SU.fr f' fun y hy h=>h.elim (hU y hy).2.1 fun h=>(hU y hy).2.2 h,hK,hU⟩,L.hx,L.hN⟩
 · have:=(B.fr f fun h=>(hK _ h).2 rfl).set (i:=2) (.slice K c'.length kc) (by simp)
   simpa using this
 · exact S.keep (fun y hy=>hset_other (hK y hy).2) (by rw [hset_size]; exact Nat.le_refl _)
theorem shrink_ok (L:LrM N h bb p s xb K U c u) (I:WInv s) (Rn:Rm s.l) (F:Cf s.vars s.l c) {keep:Int} (hkp:keep.natAbs≤16777216) (hNh:N≤h.size) :
   CallsH Tryz.prog 64 [.pointer (some ⟨xb,0,none⟩),.int .i64 keep] h fun _ h'=>∃ S,S.Perm c∧Fall s.l S∧LrM N h' bb p s xb K U ((shr s keep c S).filter fun y=>!decide (lvx s.l y=0)) u∧Fr (fun y=>N≤y) h h':=by
 have hv:=I.hv
 have hcl:=F.len
 refine calls_of 48 [] Go.Proofs.Tryz.func64 rfl rfl rfl ?_
 simp -implicitDefEqProofs (disch:=omega) [go_sem]
 obtain ⟨b2,eb⟩:∃ b2,b2=h.size:=⟨_,rfl⟩
 obtain ⟨h1,e1⟩:∃ h1,h1=h.push (.cells #[.pointer (some ⟨xb,0,none⟩)] 95):=⟨_,rfl⟩
 have f1:Fr (fun _=>False) h h1:=by rw [e1]; exact (Fr.refl _ _).push
 have V1:ListB h1 b2 [.pointer (some ⟨xb,0,none⟩)]:=by rw [e1,eb]; exact ListB.new
 have s1:h1.size=h.size+1:=by rw [e1,push_size]
 rw [← e1,← eb]
 have v1:=V1.at' 0 _ rfl
 have L1:=L.fr0 f1
 obtain ⟨kc,uc,B1,SK1,SU1,hK,hU⟩:=L1.ex
 have b12:=B1.at' 2 _ rfl
 obtain ⟨_,_,B0,SK0,SU0,_,_⟩:=L.ex
 have hb2x:b2≠xb:=by have:=B0.lt; omega
 have hb2K:¬ blk K b2:=fun hk=>by have:=SK0.blk_lt hk; omega
 have hb2U:¬ blk U b2:=fun hk=>by have:=SU0.blk_lt hk; omega
 simp -implicitDefEqProofs (disch:=omega) [go_sem,v1,b12]
 refine useC (clone_ok SK1.row (by rw [ints_len]) ints_one (by omega)) ?_
 rintro _ h2 ⟨A,d,rfl,SA,ownA,f2⟩
 have g2:=f2.size
 have L2:=L1.fr0 f2
 have V2:=V1.fr f2 fun h=>h
 have v2:=V2.at' 0 _ rfl
 simp -implicitDefEqProofs (disch:=omega) [go_sem]
 have hAx:¬ blk A xb:=fun h=>by have:=ownA _ h; have:=B1.lt; omega
 have hAb:¬ blk A b2:=fun h=>by have:=ownA _ h; have:=V1.lt; omega
 have hAK:∀ y,blk A y→¬ blk K y:=fun y h hk=>by have:=ownA _ h; have:=SK1.blk_lt hk; omega
 have hAU:∀ y,blk A y→¬ blk U y:=fun y h hk=>by have:=ownA _ h; have:=SU1.blk_lt hk; omega
 have hAN:∀ y,blk A y→N≤y:=fun y h=>by have:=ownA _ h; omega
 have keepL:∀ {h':Heap},Fr (blk A) h2 h'→LrM N h' bb p s xb K U c u:=fun {h'} f=>by
   obtain ⟨kc2,uc2,B2,SK2,SU2,hK2,hU2⟩:=L2.ex
   exact ⟨L2.baseFr (f.mono fun y _ h=>hAN y h),⟨kc2,uc2,B2.fr f hAx,SK2.fr f fun y h hb=>hAK y hb h,SU2.fr f fun y h hb=>hAU y hb h,hK2,hU2⟩,L2.hx,L2.hN⟩
 refine useC (sortC_ok (cs:=[.pointer (some ⟨b2,0,none⟩)]) (plC_ok s.l fun x=>x.natAbs≤16777216) SA (fun x hx=>by have:=F.rng x hx; omega) rfl (by omega) (fun h' f x y hx hy=>?_)) ?_
 · refine (shrinkF1_ok (keepL f) ((V2.fr f hAb).at' 0 _ rfl) hx hy).mono ?_
   rintro r h'' ⟨rfl,rfl⟩
   exact ⟨rfl,Fr.refl _ _⟩
 rintro _ h3 ⟨S,hP,hO,SA3,f3⟩
 have L3:=keepL f3
 have V3:=V2.fr f3 hAb
 have hSl:=hP.length_eq
 have hfall:Fall s.l S:=by
   unfold Fall
   rw [List.pairwise_iff_getElem]
   intro i j hi hj hij
   have:=hO i j hij (by omega)
   have e1:=gt_at hi
   have e2:=gt_at hj
   rw [List.getElem?_eq_getElem hi,Option.some.injEq] at e1
   rw [List.getElem?_eq_getElem hj,Option.some.injEq] at e2
   unfold plC at this
   rw [e1,e2]; omega
 have f03:Fr (fun y=>N≤y) h h3:=((f1.trans f2).mono fun _ _ h=>h.elim).trans (f3.mono fun y _ h=>hAN y h)
 have g3:=f3.size
 rw [← hSl]
 simp -implicitDefEqProofs (disch:=omega) [go_sem]
 refine loopK (fun ρ h'=>ρ 1=.int .i64 keep∧ρ 2=.pointer (some ⟨b2,0,none⟩)∧ρ 15=.slice A S.length d∧ρ 16=.int .i64 S.length∧∃ i:Nat,ρ 17=.int .i64 i∧i≤S.length∧LrM N h' bb p s xb K U (shr s keep c (S.take i)) u ∧
     ListB h' b2 [.pointer (some ⟨xb,0,none⟩)]∧RowAt h' A (ints S)∧Fr (fun y=>N≤y) h h'∧h3.size≤h'.size) (fun ρ _=>S.length-(intOf (ρ 17)).toNat) (by kernel_rfl) ?_ ?_
 · exact ⟨rfl,rfl,rfl,rfl,0,rfl,by omega,L3,V3,SA3.row,f03,Nat.le_refl _⟩
 · rintro ρ h4 ⟨r1,r2,r15,r16,i,r17,hi,L4,V4,R4,f4,g4⟩
   obtain ⟨w,hw⟩:∃ w,w=shr s keep c (S.take i):=⟨_,rfl⟩
   rw [← hw] at L4
   have hws:w.Sublist c:=by rw [hw]; exact shr_sub
   have hwl:=hws.length_le
   have v4:=V4.at' 0 _ rfl
   by_cases hin:i<S.length
   · obtain ⟨bk,off,rfl,hc⟩:=R4.get (by rw [ints_len]; omega)
     obtain ⟨x,hx⟩:=some_at hin
     have c0:=hc _ _ (ints_at hx)
     have hsn:shr s keep c (S.take (i+1))=shr1 s keep w x:=by rw [take_at hx,shr_snoc,hw]
     have hxr:=F.rng x (hP.mem_iff.1 (List.mem_of_getElem? hx))
     simp -implicitDefEqProofs (disch:=omega) [go_sem,r1,r2,r15,r16,r17,c0]
     obtain ⟨b6,eb6⟩:∃ b6,b6=h4.size:=⟨_,rfl⟩
     obtain ⟨h5,e5⟩:∃ h5,h5=hset (h4.push (.cells #[.int .i64 0] 3)) ⟨h4.size,0,none⟩ (.int .i64 x):=⟨_,rfl⟩
     have f5:Fr (fun _=>False) h4 h5:=by rw [e5]; exact (Fr.refl _ _).push.new (Nat.le_refl _)
     have V6:ListB h5 b6 [.int .i64 x]:=by
       rw [e5,eb6]
       have:=(ListB.new (h:=h4) (vs:=[.int .i64 0]) (e:=3)).set (i:=0) (.int .i64 x) (by simp)
       simpa using this
     rw [← e5,← eb6]
     have L5:=L4.fr0 f5
     have V5:=V4.fr f5 fun h=>h
     have v5:=V5.at' 0 _ rfl
     have v6:=V6.at' 0 _ rfl
     have g5:=f5.size
     by_cases hk:x=keep
     · have es:shr1 s keep w x=w:=by unfold shr1; rw [if_neg (fun h=>h.1 hk)]
       rw [es] at hsn
       simp -implicitDefEqProofs (disch:=omega) [go_sem,r1,r2,r15,r16,r17,hk]
       exact ⟨⟨i+1,by omega,by omega,by rw [hsn]; exact L5,V5,R4.fr0 f5,f4.trans (f5.mono fun _ _ h=>h.elim),by omega⟩,by omega⟩
     simp -implicitDefEqProofs (disch:=omega) [go_sem,r1,r2,r15,r16,r17,hk,v5,v6]
     refine useC (needless_ok L5 I Rn (x:=x) (by omega) (by omega)) ?_
     rintro _ h6 ⟨rfl,f6⟩
     have L6:=L5.fr0 f6
     have V56:=V5.fr f6 fun h=>h
     have V66:=V6.fr f6 fun h=>h
     have v56:=V56.at' 0 _ rfl
     have g6:=f6.size
     have R6:=(R4.fr0 f5).fr0 f6
     have f06:Fr (fun y=>N≤y) h h6:=f4.trans ((f5.trans f6).mono fun _ _ h=>h.elim)
     cases hnd:ndl s w x with
     | false =>
       have es:shr1 s keep w x=w:=by unfold shr1; rw [if_neg (fun h=>by rw [hnd] at h; cases h.2)]
       rw [es] at hsn
       simp -implicitDefEqProofs (disch:=omega) [go_sem,r1,r2,r15,r16,r17]
       exact ⟨⟨i+1,by omega,by omega,by rw [hsn]; exact L6,V56,R6,f06,by omega⟩,by omega⟩
     | true =>
       have es:shr1 s keep w x=w.filter fun y=>decide (y≠x):=by unfold shr1; rw [if_pos ⟨hk,hnd⟩]
       rw [es] at hsn
       obtain ⟨kc6,uc6,B6,SK6,SU6,hK6,hU6⟩:=L6.ex
       have b62:=B6.at' 2 _ rfl
       simp -implicitDefEqProofs (disch:=omega) [go_sem,r1,r2,r15,r16,r17]
       refine drawC [(0,2),(1,1),(2,0),(3,0),(4,1),(5,0),(6,3),(7,0),(8,0),(9,4)] (fun h'=>hcell h' ⟨b2,0,none⟩=some (.pointer (some ⟨xb,0,none⟩))) v56 ?_
       simp -implicitDefEqProofs (disch:=omega) [go_sem,r1,r2,r15,r16,r17]
       refine float2 (.pointer (some ⟨xb,0,none⟩)) (fun h' hC=>by simp -implicitDefEqProofs (disch:=omega) [go_sem,r2,hC]) ?_
       simp -implicitDefEqProofs (disch:=omega) [go_sem,r1,r2,r15,r16,r17,v56,b62]
       have hKb6:¬ blk K b6:=fun hk=>by
        obtain ⟨_,_,_,SK4,_⟩:=L4.ex
        have:=SK4.blk_lt hk
        omega
       refine useC (delete_ok (cs:=[.pointer (some ⟨b6,0,none⟩)]) SK6 rfl (by omega) (fun y=>decide (y=x)) fun h' f y _=>shrinkF2_ok ((V66.fr f hKb6).at' 0 _ rfl)) ?_
       rintro _ h7 ⟨rfl,S7,f7⟩
       have V7:=V56.fr f7 hb2K
       have v7:=V7.at' 0 _ rfl
       have ef:(w.filter fun y=>!decide (y=x))=w.filter fun y=>decide (y≠x):=List.filter_congr fun y _=>by simp
       rw [ef] at S7
       have L8:=L6.setC f7 S7
       have B7:=B6.fr f7 fun h=>(hK6 _ h).2 rfl
       have b72:=B7.at' 2 _ rfl
       have bz7:=B7.fz
       have g7:=f7.size
       refine ⟨v7,?_⟩
       simp -implicitDefEqProofs (disch:=omega) [go_sem,r1,r2,r15,r16,r17,b72,bz7]
       have f8:Fr (fun y=>y=xb∨blk K y) h6 (hset h7 ⟨xb,2,none⟩ (.slice K (w.filter fun y=>decide (y≠x)).length kc6)):=(f7.mono fun _ _ h=>.inr h).set (.inl rfl)
       have hv8:¬ (b2=xb∨blk K b2):=fun h=>h.elim hb2x hb2K
       refine ⟨⟨i+1,by omega,by omega,?_,?_,?_,?_,?_⟩,by omega⟩
       · rw [hsn,ef]; exact L8
       · rw [ef]; exact V56.fr f8 hv8
       · rw [ef]; exact R6.fr f8 fun y hy h=>h.elim (fun h=>hAx (by rw [← h]; exact hy)) (hAK y hy)
       · rw [ef]; exact f06.trans' f8 fun y _ h=>h.elim (fun h=>by rw [h]; exact L.hx) fun h=>(hK6 y h).1
       · omega
   · have e:i=S.length:=by omega
     subst e
     rw [List.take_length] at hw
     obtain ⟨kc4,uc4,B4,SK4,SU4,hK4,hU4⟩:=L4.ex
     have b41:=B4.at' 1 _ rfl
     have b42:=B4.at' 2 _ rfl
     simp -implicitDefEqProofs (disch:=omega) [go_sem,r1,r2,r15,r16,r17]
     refine drawC [(0,2),(1,1),(2,0),(3,0),(4,1),(5,0),(6,3),(7,0),(8,0),(9,4)] (fun h'=>hcell h' ⟨b2,0,none⟩=some (.pointer (some ⟨xb,0,none⟩))) v4 ?_
     simp -implicitDefEqProofs (disch:=omega) [go_sem,r1,r2,r15,r16,r17]
     refine float2 (.pointer (some ⟨xb,0,none⟩)) (fun h' hC=>by simp -implicitDefEqProofs (disch:=omega) [go_sem,r2,hC]) ?_
     simp -implicitDefEqProofs (disch:=omega) [go_sem,r1,r2,r15,r16,r17,v4,b42]
     have hnx:¬ blk K xb:=fun h=>(hK4 _ h).2 rfl
     refine useC (delete_ok (cs:=[.pointer (some ⟨b2,0,none⟩)]) SK4 rfl (by omega) (fun y=>decide (lvx s.l y=0)) fun h' f y hy=>?_) ?_
     · have:=F.rng y (hws.subset hy)
       have M':=L4.baseFr (f.mono fun z _ h=>(hK4 z h).1)
       exact shrinkF3_ok M'.T ((V4.fr f hb2K).at' 0 _ rfl) ((B4.fr f hnx).at' 1 _ rfl) (by omega)
     rintro _ h7 ⟨rfl,S7,f7⟩
     have v7:=(V4.fr f7 hb2K).at' 0 _ rfl
     have L8:=L4.setC f7 S7
     have B7:=B4.fr f7 hnx
     have b72:=B7.at' 2 _ rfl
     have bz7:=B7.fz
     refine ⟨v7,?_⟩
     simp -implicitDefEqProofs (disch:=omega) [go_sem,r1,r2,r15,r16,r17,b72,bz7]
     have f8:Fr (fun y=>y=xb∨blk K y) h4 (hset h7 ⟨xb,2,none⟩ (.slice K (w.filter fun y=>!decide (lvx s.l y=0)).length kc4)):=(f7.mono fun _ _ h=>.inr h).set (.inl rfl)
     refine ⟨S,hP,hfall,by rw [← hw]; exact L8,f4.trans' f8 fun y _ h=>h.elim (fun h=>by rw [h]; exact L.hx) fun h=>(hK4 y h).1⟩
end
def NotThere (s:WS) (id:Int):Prop:=0≤id→∀ e,s.cs[id.toNat]?=some e→e.gone=true
theorem there_or (s:WS) (id:Int):NotThere s id∨∃ (k:Nat) (e:Ent),id=k∧s.cs[k]?=some e∧e.gone=false:=by
 by_cases h0:0≤id
 · cases hc:s.cs[id.toNat]? with
   | none=>exact .inl fun _ e he=>by rw [hc] at he; cases he
   | some e =>
     cases hg:e.gone with
     | true=>exact .inl fun _ e' he=>by rw [hc] at he; cases he; exact hg
     | false=>exact .inr ⟨id.toNat,e,by omega,hc,hg⟩
 · exact .inl fun h=>absurd h h0
def mxL (l:List St) (keep:Int) (c:List Int):Int:=c.foldl (fun m y=>if y≠keep then max m (lvx l y) else m) 0
theorem mxL_snoc {l:List St} {keep:Int} {c:List Int} {x:Int}:mxL l keep (c++[x])=if x≠keep then max (mxL l keep c) (lvx l x) else mxL l keep c:=by unfold mxL; rw [List.foldl_append]; rfl
inductive FromR (s:WS) (id:Int):List Int→Int→Int→Prop
 | none:NotThere s id→FromR s id [] 0 7
 | nofail {k:Nat} {e:Ent}:id=k→s.cs[k]?=some e→e.gone=false→¬ FailAt s.l e.lits→FromR s id [] 0 10
 | ground {k:Nat} {e:Ent} {rs:List (List Int)} {c:List Int}:id=k→s.cs[k]?=some e→e.gone=false→FailAt s.l e.lits→Ch s.cs s.l e.lits rs c→Stop s.l c→(c=[]∨∃ x,Lat s.l c x∧lvx s.l x≤0)→FromR s id [] 0 0
 | taught {k:Nat} {e:Ent} {rs:List (List Int)} {c S:List Int} {x:Int}:id=k→s.cs[k]?=some e→e.gone=false→FailAt s.l e.lits→Ch s.cs s.l e.lits rs c→Stop s.l c→Lat s.l c x→0<lvx s.l x→S.Perm c→Fall s.l S →
  FromR s id ((shr s x c S).filter fun y=>!decide (lvx s.l y=0)) (mxL s.l x ((shr s x c S).filter fun y=>!decide (lvx s.l y=0))) 0
inductive UsedR (s:WS) (id:Int):List Int→Prop
 | none:NotThere s id→UsedR s id []
 | nofail {k:Nat} {e:Ent}:id=k→s.cs[k]?=some e→e.gone=false→¬ FailAt s.l e.lits→UsedR s id []
 | used {k:Nat} {e:Ent} {rs:List (List Int)} {c ul:List Int}:id=k→s.cs[k]?=some e→e.gone=false→FailAt s.l e.lits→Ch s.cs s.l e.lits rs c→Stop s.l c→ul.Pairwise (·<·)→(∀ v,v∈ul↔v∈varsL e.lits∨v∈varsL rs.flatten)→UsedR s id ul
section
variable {h:Heap} {bb:Nat} {p:BP} {s:WS}
theorem from_ok (M:BaseM h bb p s) (I:WInv s) (D:Dcs s.l) (Rn:Rm s.l) (hvs:s.vars≤10000) {id:Int} (h0:-9223372036854775808≤id) (h1:id≤9223372036854775807) :
   CallsH Tryz.prog 14 [.pointer (some ⟨bb,0,none⟩),.int .i64 id] h fun r h'=>Fr (fun _=>False) h h'∧∃ A d cl lv e,r=.tuple #[.slice A (cl:List Int).length d,.int .i64 lv,.int .i64 e]∧SlAt h' A d (ints cl)∧(∀ y,blk A y→h.size≤y)∧FromR s id cl lv e:=by
 have nilB:∀ y,blk none y→h.size≤y:=fun y ⟨_,h,_⟩=>(nomatch h)
 refine calls_of 58 [.tmp 4,.tmp 5,.tmp 6] Go.Proofs.Tryz.func14 rfl rfl rfl ?_
 simp -implicitDefEqProofs (disch:=omega) [go_sem]
 rcases there_or s id with hn | ⟨k,e,rfl,he,hg⟩
 · refine useC (start_none M h0 h1 hn) ?_
   rintro _ h2 ⟨rfl,rfl⟩
   simp -implicitDefEqProofs (disch:=omega) [go_sem]
   exact ⟨Fr.refl _ _,none,0,[],0,7,by simp,SlAt.nil _,nilB,.none hn⟩
 · refine useC (start_some M I he hg) ?_
   rintro _ h2 ⟨f2,hor⟩
   rcases hor with ⟨hnf,rfl⟩ | ⟨hfa,xb,K,U,rfl,L2⟩
   · simp -implicitDefEqProofs (disch:=omega) [go_sem]
     exact ⟨f2,none,0,[],0,10,by simp,SlAt.nil _,nilB,.nofail rfl he hg hnf⟩
   · have hcl:=I.cl e (List.mem_of_getElem? he)
     have F0:Cf s.vars s.l e.lits:=⟨hcl.1,hcl.2,hfa⟩
     have hlen:=F0.len
     have hg2:=f2.size
     simp -implicitDefEqProofs (disch:=omega) [go_sem]
     refine useC (lresolve_ok L2 I D Rn F0 hvs (by unfold varsL; rw [List.length_map]; omega)) ?_
     rintro _ h3 ⟨x,lv,c,rs,K3,U3,rfl,L3,hch,hrl,hst,hor,f3⟩
     have F3:=hch.cf I D F0
     have f03:Fr (fun _=>False) h h3:=f2.trans' f3 fun y hy h=>by omega
     by_cases hlv:lv≤0
     · simp -implicitDefEqProofs (disch:=omega) [go_sem,hlv]
       exact ⟨f03,none,0,[],0,0,by simp,SlAt.nil _,nilB,.ground rfl he hg hfa hch hst (hor.imp (fun h=>h.1) fun h=>⟨x,h.1,by rw [← h.2]; exact hlv⟩)⟩
     rcases hor with ⟨_,rfl⟩ | ⟨hlat,rfl⟩
     · omega
     have hv:=I.hv
     have hxr:=F3.rng x hlat.1
     have hg3:=f3.size
     simp -implicitDefEqProofs (disch:=omega) [go_sem,hlv]
     refine useC (shrink_ok L3 I Rn F3 (keep:=x) (by omega) (by omega)) ?_
     rintro _ h4 ⟨S,hP,hS,L4,f4⟩
     have res:=FromR.taught rfl he hg hfa hch hst hlat (by omega) hP hS
     obtain ⟨w,hw⟩:∃ w,w=(shr s x c S).filter fun y=>!decide (lvx s.l y=0):=⟨_,rfl⟩
     have hws:w.Sublist c:=by rw [hw]; exact List.filter_sublist.trans shr_sub
     rw [← hw] at L4 res
     have hwl:=hws.length_le
     have hcl3:=F3.len
     have f04:Fr (fun _=>False) h h4:=f03.trans' f4 fun y hy h=>by omega
     obtain ⟨kc,uc,B4,SK4,SU4,hK4,hU4⟩:=L4.ex
     have b41:=B4.at' 1 _ rfl
     have b42:=B4.at' 2 _ rfl
     have T4:=L4.M.T
     simp -implicitDefEqProofs (disch:=omega) [go_sem,b42]
     have hmx:∀ i,0≤mxL s.l x (w.take i)∧mxL s.l x (w.take i)≤16777216:=fun i=>by
       induction i with
       | zero=>exact ⟨Int.le_refl _,by unfold mxL; simp⟩
       | succ i ih =>
         by_cases hin:i<w.length
         · obtain ⟨y,hy⟩:=some_at hin
           have v1:=LVi_b T4 (y.natAbs:Int)
           rw [lvi_nat] at v1
           rw [take_at hy,mxL_snoc]
           split <;> omega
         · rw [List.take_of_length_le (by omega)] at ih ⊢; exact ih
     refine loopK (fun ρ h'=>h'=h4∧ρ 7=.pointer (some ⟨xb,0,none⟩)∧ρ 8=.int .i64 x∧ρ 6=.int .i64 0∧ρ 34=.slice K3 w.length kc∧ρ 35=.int .i64 w.length∧∃ i:Nat,ρ 36=.int .i64 i∧i≤w.length∧ρ 5=.int .i64 (mxL s.l x (w.take i)))
       (fun ρ _=>w.length-(intOf (ρ 36)).toNat) (by kernel_rfl) ?_ ?_
     · exact ⟨rfl,rfl,rfl,rfl,rfl,rfl,0,rfl,by omega,rfl⟩
     · rintro ρ h5 ⟨rfl,r7,r8,r6,r34,r35,i,r36,hi,r5⟩
       have hmi:=hmx i
       by_cases hin:i<w.length
       · obtain ⟨bk,off,rfl,hc⟩:=SK4.row.get (by rw [ints_len]; omega)
         obtain ⟨y,hy⟩:=some_at hin
         have c0:=hc _ _ (ints_at hy)
         have hyr:=F3.rng y (hws.subset (List.mem_of_getElem? hy))
         have v1:=LVi_b T4 (y.natAbs:Int)
         rw [lvi_nat] at v1
         have hsn:=mxL_snoc (l:=s.l) (keep:=x) (c:=w.take i) (x:=y)
         rw [← take_at hy] at hsn
         by_cases hyx:y=x
         · rw [if_neg (by simpa using hyx)] at hsn
           simp -implicitDefEqProofs (disch:=omega) [go_sem,r5,r6,r7,r8,r34,r35,r36,c0,hyx]
           exact ⟨⟨i+1,by omega,by omega,by rw [hsn]⟩,by omega⟩
         · rw [if_pos hyx] at hsn
           simp -implicitDefEqProofs (disch:=omega) [go_sem,r5,r6,r7,r8,r34,r35,r36,c0,hyx]
           refine drawC [(0,0),(1,0),(2,0),(3,0),(4,2),(5,0),(6,3),(7,3),(8,0),(9,0)] (Eq _) rfl ?_
           simp -implicitDefEqProofs (disch:=omega) [go_sem,r5,r6,r7,r8,r34,r35,r36,b41]
           refine useC (variable_ok (x:=y) (by omega) (by omega)) ?_
           rintro _ h6 ⟨rfl,rfl⟩
           simp -implicitDefEqProofs (disch:=omega) [go_sem,r5,r6,r7,r8,r34,r35,r36,b41]
           refine useC (tlevelOf_ok T4 (by omega) (by omega)) ?_
           rintro _ h6 ⟨rfl,rfl⟩
           rw [lvi_nat]
           simp -implicitDefEqProofs (disch:=omega) [go_sem,r5,r6,r7,r8,r34,r35,r36,b41]
           exact ⟨⟨i+1,by omega,by omega,by rw [hsn]⟩,by omega⟩
       · have e:i=w.length:=by omega
         subst e
         rw [List.take_length] at r5
         simp -implicitDefEqProofs (disch:=omega) [go_sem,r5,r6,r7,r8,r34,r35,r36,b42]
         exact ⟨f04,K3,kc,w,_,0,by simp,SK4,fun y hy=>(hK4 y hy).1,res⟩
theorem used_ok (M:BaseM h bb p s) (I:WInv s) (D:Dcs s.l) (Rn:Rm s.l) (hvs:s.vars≤10000) {id:Int} (h0:-9223372036854775808≤id) (h1:id≤9223372036854775807) :
   CallsH Tryz.prog 28 [.pointer (some ⟨bb,0,none⟩),.int .i64 id] h fun r h'=>Fr (fun _=>False) h h'∧∃ A d ul,r=.slice A (ul:List Int).length d∧SlAt h' A d (ints ul)∧(∀ y,blk A y→h.size≤y)∧UsedR s id ul:=by
 have nilB:∀ y,blk none y→h.size≤y:=fun y ⟨_,h,_⟩=>(nomatch h)
 refine calls_of 27 [.tmp 4] Go.Proofs.Tryz.func28 rfl rfl rfl ?_
 simp -implicitDefEqProofs (disch:=omega) [go_sem]
 rcases there_or s id with hn | ⟨k,e,rfl,he,hg⟩
 · refine useC (start_none M h0 h1 hn) ?_
   rintro _ h2 ⟨rfl,rfl⟩
   simp -implicitDefEqProofs (disch:=omega) [go_sem]
   exact ⟨Fr.refl _ _,none,0,[],by simp,SlAt.nil _,nilB,.none hn⟩
 · refine useC (start_some M I he hg) ?_
   rintro _ h2 ⟨f2,hor⟩
   rcases hor with ⟨hnf,rfl⟩ | ⟨hfa,xb,K,U,rfl,L2⟩
   · simp -implicitDefEqProofs (disch:=omega) [go_sem]
     exact ⟨f2,none,0,[],by simp,SlAt.nil _,nilB,.nofail rfl he hg hnf⟩
   · have hcl:=I.cl e (List.mem_of_getElem? he)
     have F0:Cf s.vars s.l e.lits:=⟨hcl.1,hcl.2,hfa⟩
     have hlen:=F0.len
     have hg2:=f2.size
     simp -implicitDefEqProofs (disch:=omega) [go_sem]
     refine useC (lresolve_ok L2 I D Rn F0 hvs (by unfold varsL; rw [List.length_map]; omega)) ?_
     rintro _ h3 ⟨x,lv,c,rs,K3,U3,rfl,L3,hch,hrl,hst,hor,f3⟩
     have f03:Fr (fun _=>False) h h3:=f2.trans' f3 fun y hy h=>by omega
     have hfl:=flat_len (hch.len I.cl)
     have hmul:rs.length*s.vars≤10000*10000:=Nat.mul_le_mul (by omega) hvs
     obtain ⟨w,hw⟩:∃ w,w=varsL e.lits++varsL rs.flatten:=⟨_,rfl⟩
     have hwl:w.length≤10000+10000*10000:=by
       rw [hw,List.length_append]; unfold varsL; rw [List.length_map,List.length_map]; omega
     have hw0:∀ v∈w,0≤v:=fun v hv=>by
       rw [hw] at hv
       rcases List.mem_append.1 hv with hv | hv
       · obtain ⟨y,_,rfl⟩:=List.mem_map.1 hv; omega
       · obtain ⟨y,_,rfl⟩:=List.mem_map.1 hv; omega
     rw [← hw] at L3
     obtain ⟨kc,uc,B3,SK3,SU3,hK3,hU3⟩:=L3.ex
     have b33:=B3.at' 3 _ rfl
     simp -implicitDefEqProofs (disch:=omega) [go_sem,b33]
     refine useC (sortI_ok SU3 rfl (by omega)) ?_
     rintro _ h4 ⟨g,hP,hS,SU4,f4⟩
     have b43:=(f4.cell (o:=3) (hcell_lt b33) fun h=>(hU3 _ h).2.1 rfl).trans b33
     have hgl:=hP.length_eq
     simp -implicitDefEqProofs (disch:=omega) [go_sem,b43]
     refine useC (compact_ok SU4 hgl.symm (by omega)) ?_
     rintro _ h5 ⟨rfl,SU5,f5⟩
     have hsort:∀ p q,p<q→q<g.length→gt g p≤gt g q:=fun p q h1 h2=>by
       have:=List.pairwise_iff_getElem.1 hS p q (by omega) h2 h1
       have e1:=gt_at (show p<g.length by omega)
       have e2:=gt_at h2
       rw [List.getElem?_eq_getElem (by omega),Option.some.injEq] at e1
       rw [List.getElem?_eq_getElem h2,Option.some.injEq] at e2
       omega
     have hg0:∀ p,p<g.length→0≤gt g p:=fun p hp=>hw0 _ (hP.mem_iff.1 (List.mem_of_getElem? (gt_at hp)))
     have hspec:=cN_spec (l:=g) (fun p q h1 h2=>by
       have:=hsort p q h1 h2
       have:=hg0 p (by omega)
       unfold lexLt; omega) g.length (Nat.le_refl _)
     rw [← hgl] at SU5 ⊢
     simp -implicitDefEqProofs (disch:=omega) [go_sem]
     have hmem:∀ v,v∈cN g g.length↔v∈w:=fun v=>by rw [hspec.1 v,← mem_gt,hP.mem_iff]
     refine ⟨?_,U3,uc,cN g g.length,⟨rfl,rfl,rfl⟩,SU5,fun y hy=>(hU3 y hy).1,.used rfl he hg hfa hch hst ?_ fun v=>?_⟩
     · exact (f03.trans' f4 fun y hy h=>by have:=(hU3 y h).1; omega).trans' f5 fun y hy h=>by have:=(hU3 y h).1; omega
     · refine List.Pairwise.imp_of_mem (fun {a b} ha hb hl=>?_) hspec.2
       have:=hw0 a ((hmem a).1 ha)
       have:=hw0 b ((hmem b).1 hb)
       unfold lexLt at hl
       omega
     · rw [hmem v,hw,List.mem_append]
end
end Xe
namespace Xe
open Tp
def Mdl (M:Int→Prop):Prop:=∀ x,x≠0→(M (-x)↔¬ M x)
def SatM (M:Int→Prop) (c:List Int):Prop:=∃ x∈c,M x
section
variable {s:WS} {M:Int→Prop}
theorem shr_keep {keep:Int}:∀ {L c:List Int},keep∈c→keep∈shr s keep c L:=by
 intro L
 induction L with
 | nil=>intro c h; exact h
 | cons x L ih =>
   intro c h
   refine ih (c:=shr1 s keep c x) ?_
   unfold shr1
   split
   · rename_i hn; exact List.mem_filter.2 ⟨h,by simpa using fun e=>hn.1 e.symm⟩
   · exact h
theorem mxL_le {l:List St} {keep:Int}:∀ {c:List Int} {b:Int},0≤b→(∀ y∈c,y≠keep→lvx l y≤b)→mxL l keep c≤b∧0≤mxL l keep c∧∀ y∈c,y≠keep→lvx l y≤mxL l keep c:=by
 have key:∀ (c:List Int) (b:Int),0≤b→(∀ y∈c,y≠keep→lvx l y≤b)→mxL l keep c≤b∧0≤mxL l keep c∧∀ y∈c,y≠keep→lvx l y≤mxL l keep c:=by
  intro c
  generalize hn:c.length=n
  induction n generalizing c with
  | zero =>
    intro b hb _
    obtain rfl:=List.eq_nil_of_length_eq_zero hn
    exact ⟨hb,Int.le_refl _,fun y hy=>by cases hy⟩
  | succ n ih =>
    intro b hb h
    obtain ⟨d,x,rfl⟩:∃ d x,c=d++[x]:=⟨c.dropLast,c.getLast (fun e=>by rw [e] at hn; cases hn),(List.dropLast_concat_getLast _).symm⟩
    have hd:d.length=n:=by rw [List.length_append] at hn; simpa using hn
    obtain ⟨h1,h2,h3⟩:=ih d hd b hb fun y hy=>h y (List.mem_append_left _ hy)
    have hx:=h x (List.mem_append_right _ (List.mem_singleton.2 rfl))
    rw [mxL_snoc]
    by_cases e:x=keep
    · rw [if_neg (by simpa using e)]
      refine ⟨h1,h2,fun y hy hk=>?_⟩
      rcases List.mem_append.1 hy with hy | hy
      · exact h3 y hy hk
      · rw [List.mem_singleton] at hy; exact absurd (hy.trans e) hk
    · rw [if_pos e]
      have:=hx e
      refine ⟨by omega,by omega,fun y hy hk=>?_⟩
      rcases List.mem_append.1 hy with hy | hy
      · have:=h3 y hy hk; omega
      · rw [List.mem_singleton] at hy; rw [hy]; omega
 exact fun {c b}=>key c b
theorem FromR.shape {id:Int} {cl:List Int} {lv:Int} (I:WInv s) (D:Dcs s.l) (h:FromR s id cl lv 0):(∀ x∈cl,trI s.l x=-1∧1≤x.natAbs∧x.natAbs≤s.vars)∧Rise cl∧0≤lv∧(cl≠[]→∃ x∈cl,lv<lvx s.l x∧∀ y∈cl,y≠x→lvx s.l y≤lv):=by
 cases h with
 | ground=>exact ⟨fun x hx=>(nomatch hx),List.Pairwise.nil,Int.le_refl _,fun h=>absurd rfl h⟩
 | @taught k e rs c S x hk he hg hf hch hst hx hl hP hS =>
   have hcl:=I.cl e (List.mem_of_getElem? he)
   have F0:Cf s.vars s.l e.lits:=⟨hcl.1,hcl.2,hf⟩
   have F:=hch.cf I D F0
   obtain ⟨w,hw⟩:∃ w,w=(shr s x c S).filter fun y=>!decide (lvx s.l y=0):=⟨_,rfl⟩
   have hws:w.Sublist c:=by rw [hw]; exact List.filter_sublist.trans shr_sub
   rw [← hw]
   have hxw:x∈w:=by
    rw [hw]
    refine List.mem_filter.2 ⟨shr_keep hx.1,?_⟩
    have:lvx s.l x≠0:=by omega
    simpa using this
   have hlow:∀ y∈c,y≠x→lvx s.l y≤lvx s.l x-1:=fun y hy hyx=>by
    have h1:=lvx_mono I.good I.lvs (F.fail y hy) (F.fail x hx.1) (hx.2 y hy)
    by_cases e:lvx s.l y=lvx s.l x
    · exfalso
      rcases hst with rfl | ⟨x',hx',hor⟩
      · cases hy
      · have exx:=hx'.uniq I.good F.fail hx
        subst exx
        rcases hor with hor | hor
        · omega
        · unfold cntL at hor
          have m1:x'∈c.filter fun z=>decide (lvx s.l z=lvx s.l x'):=List.mem_filter.2 ⟨hx.1,by simp⟩
          have m2:y∈c.filter fun z=>decide (lvx s.l z=lvx s.l x'):=List.mem_filter.2 ⟨hy,by simp [e]⟩
          obtain ⟨z,hz⟩:=List.length_eq_one_iff.1 hor
          rw [hz,List.mem_singleton] at m1 m2
          exact hyx (m2.trans m1.symm)
    · omega
   obtain ⟨g1,g2,g3⟩:=mxL_le (l:=s.l) (keep:=x) (c:=w) (b:=lvx s.l x-1) (by omega) fun y hy hk=>hlow y (hws.subset hy) hk
   exact ⟨fun y hy=>⟨F.fail y (hws.subset hy),F.rng y (hws.subset hy)⟩,List.Pairwise.sublist hws F.rise,g2,fun _=>⟨x,hxw,by omega,g3⟩⟩
end
end Xe
namespace Xe
open Go Tp Go.Proofs
set_option maxRecDepth 16000
set_option maxHeartbeats 1000000
section
variable {h:Heap}
end
def bools (l:List Bool):List Value:=l.map Value.bool
theorem bools_len (l:List Bool):(bools l).length=l.length:=List.length_map ..
theorem bools_at {l:List Bool} {i:Nat} {b:Bool} (h:l[i]?=some b):(bools l)[i]?=some (.bool b):=by simp [bools,h]
def truB (bs:List Bool) (x:Int):Int:=if x.natAbs=0 then 0 else match bs[x.natAbs-1]? with
 | some b=>if b=decide (0<x) then 1 else -1
 | none=>0
def holdB (bs:List Bool) (k:List Int):Bool:=k.any fun x=>decide (0<truB bs x)
section
variable {h:Heap} {A:Option Addr} {n c:Nat} {bs:List Bool}
def RowsA (h:Heap) (A:Option Addr) (Ks:List (List Int)):Prop:=∀ (i:Nat) (K:List Int),Ks[i]?=some K→∃ bk off B d,A=some ⟨bk,off,none⟩∧hcell h ⟨bk,off+i,none⟩=some (.slice B K.length d)∧RowAt h B (ints K)
theorem RowsA.fr0 {Ks:List (List Int)} (R:RowsA h A Ks) {h':Heap} (f:Fr (fun _=>False) h h'):RowsA h' A Ks:=fun i K hK=>by
 obtain ⟨bk,off,B,d,h1,h2,h3⟩:=R i K hK
 exact ⟨bk,off,B,d,h1,(f.cell (hcell_lt h2) fun h=>h).trans h2,h3.fr0 f⟩
end
section
variable {h:Heap} {A:Option Addr} {n c:Nat}
end
section
variable {h:Heap}
end
section
variable {h:Heap} {A:Option Addr} {n c:Nat} {bs:List Bool}
theorem truB_cases (bs:List Bool) (x:Int):truB bs x=1∨truB bs x=-1∨truB bs x=0:=by
 unfold truB
 split
 · exact .inr (.inr rfl)
 · split
   · split
     · exact .inl rfl
     · exact .inr (.inl rfl)
   · exact .inr (.inr rfl)
end
def MB (bs:List Bool) (x:Int):Prop:=if 1≤x.natAbs∧x.natAbs≤bs.length then truB bs x=1 else 0<x
theorem MB_mdl (bs:List Bool):Mdl (MB bs):=fun x hx=>by
 unfold MB
 rw [Int.natAbs_neg]
 split
 · rename_i h
   unfold truB
   rw [Int.natAbs_neg,if_neg (by omega),if_neg (by omega),List.getElem?_eq_getElem (by omega)]
   simp only
   have e:decide (0 < -x)=!decide (0<x):=by
    by_cases h1:0<x
    · rw [decide_eq_true h1,decide_eq_false (by omega)]; rfl
    · rw [decide_eq_false h1,decide_eq_true (by omega)]; rfl
   rw [e]
   cases bs[x.natAbs-1] <;> cases decide (0<x) <;> simp
 · omega
theorem MB_of {bs:List Bool} {k:List Int} (hk:∀ x∈k,1≤x.natAbs∧x.natAbs≤bs.length):SatM (MB bs) k↔holdB bs k=true:=by
 unfold SatM holdB
 rw [List.any_eq_true]
 constructor
 · rintro ⟨x,hx,h⟩
   unfold MB at h
   rw [if_pos (hk x hx)] at h
   exact ⟨x,hx,by rw [h]; rfl⟩
 · rintro ⟨x,hx,h⟩
   have h1:=of_decide_eq_true h
   refine ⟨x,hx,?_⟩
   unfold MB
   rw [if_pos (hk x hx)]
   have:=truB_cases bs x
   omega
theorem cut_unit {vars:Nat} {l:List St} {cl:List Int} {k:Nat} {x:Int} (G:Good vars l) (hf:∀ y∈cl,trI l y=-1) (hx:x∈cl) (h1:(k:Int)<lvx l x) (h2:∀ y∈cl,y≠x→lvx l y≤k):UnitAt (cutTo l k) cl x:=by
 have sub:∀ y,y∈lits (cutTo l k)→y∈lits l:=fun y hy=>by
   obtain ⟨t,ht,rfl⟩:=List.mem_map.1 hy
   exact List.mem_map.2 ⟨t,(List.mem_filter.1 ht).1,rfl⟩
 refine ⟨hx,?_,fun y hy hyx=>?_⟩
 · have hxf:=tr_m1.1 (hf x hx)
   rw [tr_zero]
   refine ⟨fun h=>hxf.1 (sub _ h),fun h=>?_⟩
   obtain ⟨t,ht,et⟩:=List.mem_map.1 h
   obtain ⟨ht1,ht2⟩:=List.mem_filter.1 ht
   have hk:=of_decide_eq_true ht2
   obtain ⟨q,hq⟩:=List.getElem?_of_mem ht1
   have:=G.lv hq
   rw [et] at this
   unfold lvx at h1
   rw [show (-x).natAbs=x.natAbs by omega] at this
   omega
 · have hyf:=tr_m1.1 (hf y hy)
   obtain ⟨i,t,g1,g2,_,g4,_⟩:=false_at G (hf y hy)
   have hk:=h2 y hy hyx
   rw [tr_m1]
   refine ⟨fun h=>hyf.1 (sub _ h),List.mem_map.2 ⟨t,List.mem_filter.2 ⟨List.mem_of_getElem? g1,by simp; omega⟩,g2⟩⟩
section
variable {h:Heap}
end
section
variable {h:Heap}
end
end Xe
namespace Xe
open Go Go.ChangeShapes Go.WideShapes Go.ChangeAt Go.RowKit Go.Proofs
section
variable {H:Type} {enc:TypeId × Value→H} {P:Program} {w:World} {sp:Nat→Bool} {held:Bool} {r:Reach} {b0:Nat} {t e q:TypeId}
theorem open_row1 {v:Value} {d:DataW H} {ps:List MemPlace} (ht:P.underlying t=some (.slice e)) (he:P.underlying e=some (.int .i64)) (hc:P.cellsOf e=1) (hval:Value.okWide P w r b0 t v) (h:DataW.Trod enc P w 0 sp held t v d ps) :
  ∃ A cap,∃ l:List Int,v=.slice A l.length cap∧l.length<2^63∧RowAt w.heap A (ints l)∧∀ x∈l,-9223372036854775808≤x∧x≤9223372036854775807:=by
 obtain ⟨a,len,cap,rfl⟩:=okWide_slice ht hval
 obtain ⟨fuel,hf⟩:=h
 obtain ⟨A,c,l,h1,h2,h3,h4⟩:=open_intsC ht he hc hf
 simp [Value.cells] at h1
 obtain ⟨rfl,rfl,rfl⟩:=h1
 exact ⟨_,_,l,rfl,h2,h3,h4⟩
end
end Xe
namespace Xe
open Tp
section
variable {s:WS} {id:Int}
end
end Xe
