/- Package rup, walked: find, Has, Drop. -/
import Derived.Test.YtkghjecglmmloaaGreatB1
import Derived.Test.YtkghjecglmmloaaGreatT16a
import Derived.Test.YtkghjecglmmloaaGreatL5
import Derived.Test.YtkghjecglmmloaaGreatA8
import Derived.Test.YtkghjecglmmloaaGreatSP9
namespace Xe
open Go Tp Go.Proofs
set_option maxRecDepth 16000
set_option maxHeartbeats 2000000
theorem appendIn {h:Heap} {e:TypeId} {bt n m xc cap:Nat} {z:Value} {bk:Nat} {xb:Option Addr} {vs ws:List Value} {k:Value→Heap→Prop} (S:SlAt h (some ⟨bk,0,none⟩) cap vs) (hw:RowAt h xb ws) (hm:m=ws.length) (hone:∀ w∈ws,w.oneCell'=true)
   (hfit:n+m≤vs.length) (hk:∀ h',SlAt h' (some ⟨bk,0,none⟩) cap (vs.take n++ws++vs.drop (n+m))→Fr (fun y=>y=bk) h h'→k (.slice (some ⟨bk,0,none⟩) (n+m) cap) h') :
   @appendK (some (e,1,bt,z)) (.slice (some ⟨bk,0,none⟩) n cap) (.slice xb m xc) ⟨h⟩ ⟨k⟩:=by
 have hlen:=S.len
 change appendX (some (e,1,bt,z)) (.slice (some ⟨bk,0,none⟩) n cap) (.slice xb m xc) h k
 refine ⟨ws,hw.load (by omega),fun hc=>?_,fun hc=>by omega⟩
 rcases S.at' with ⟨h1,_⟩ | ⟨bk',h1,h2,h3,h4,h5⟩
 · cases h1
 cases h1
 show storeN h (Addr.add ⟨bk,0,none⟩ (n*1)) 0 ws _
 rw [add_n,Nat.mul_one]
 refine storeN_some hone (fun j hj=>?_) h3 fun h' g1 g2 g3 g4=>?_
 · rw [Nat.add_zero,Nat.zero_add]; exact h4 _ (by omega)
 · rw [Nat.add_zero,Nat.zero_add] at g1 g2
   have hln:(vs.take n).length=n:=by rw [List.length_take]; omega
   refine hk _ ⟨by rw [List.length_append,List.length_append,List.length_drop,hln]; omega,.inr ⟨bk,rfl,Nat.lt_of_lt_of_le h2 g4.size,g3,fun j hj=>?_,fun j x hx=>?_⟩⟩ g4
   · by_cases hin:j<n∨n+ws.length≤j
     · rw [g2 _ hin]; exact h4 j hj
     · have:=g1 (j-n) ws[j-n] (List.getElem?_eq_getElem (by omega))
       rw [show n+(j-n)=j by omega] at this
       rw [this]; rfl
   · by_cases e1:j<n
     · rw [List.append_assoc,List.getElem?_append_left (by omega),List.getElem?_take,if_pos e1] at hx
       rw [g2 _ (.inl e1)]
       exact h5 j x hx
     · by_cases e2:j<n+ws.length
       · rw [List.getElem?_append_left (by rw [List.length_append]; omega),List.getElem?_append_right (by omega),hln] at hx
         have:=g1 _ _ hx
         rwa [show n+(j-n)=j by omega] at this
       · rw [List.getElem?_append_right (by rw [List.length_append]; omega),List.length_append,hln,List.getElem?_drop] at hx
         rw [g2 _ (.inr (by omega))]
         exact h5 j x (by rw [← hx]; congr 1; omega)
theorem clear_rows {h:Heap} {n bk off cap:Nat} {k:Heap→Prop} (hc:∀ j,j<n→(hcell h ⟨bk,off+j,none⟩).isSome=true) (hf:∀ j,hfrz h ⟨bk,j,none⟩=false)
   (hk:∀ h',(∀ x,x<off→hcell h' ⟨bk,x,none⟩=hcell h ⟨bk,x,none⟩)→(∀ x,(hcell h ⟨bk,x,none⟩).isSome=true→(hcell h' ⟨bk,x,none⟩).isSome=true)→(∀ x,hfrz h' ⟨bk,x,none⟩=false)→Fr (fun x=>x=bk) h h'→k h') :
   @clearK Tryz.prog 22 (.slice (some ⟨bk,off,none⟩) n cap) ⟨h⟩ ⟨k⟩:=by
 refine .inr ⟨23,1,24,.slice none 0 0,_,n,cap,by kernel_rfl,rfl,?_⟩
 have hlen:(zerosOf (Value.slice none 0 0).cells (n*1)).toList.length=n:=by simp [zerosOf]
 refine storeN_some (b:=bk) (fun w hw=>by rw [zerosOf_all hw]; rfl) (fun j hj=>by rw [hlen] at hj; rw [Nat.add_zero]; exact hc j hj) hf fun h' g1 g2 g3 g4=>?_
 rw [Nat.add_zero,hlen] at g2
 rw [Nat.add_zero] at g1
 refine hk h' (fun x hx=>g2 x (.inl hx)) (fun x hx=>?_) g3 g4
 by_cases hin:x<off∨off+n≤x
 · rw [g2 x hin]; exact hx
 · have hj:x-off<(zerosOf (Value.slice none 0 0).cells (n*1)).toList.length:=by omega
   have:=g1 (x-off) _ (List.getElem?_eq_getElem hj)
   rw [show off+(x-off)=x by omega] at this
   rw [this]; rfl
theorem deleteR_ok {h:Heap} {A:Option Addr} {n cap i:Nat} {vs:List Value} (S:SlAt h A cap vs) (hone:∀ w∈vs,w.oneCell'=true) (hn:n=vs.length) (hs:n<2^40) (hi:i<n) :
  CallsH Tryz.prog 202 [.slice A n cap,.int .i64 i,.int .i64 ((i:Int)+1)] h fun r h'=>r=.slice A (n-1) cap∧SlAt h' A cap (vs.eraseIdx i)∧Fr (blk A) h h':=by
 subst hn
 obtain ⟨bk,rfl,hbk,hfz,hc⟩:=S.base (by omega)
 have hcap:=S.len
 have hnl:((vs.length-1:Nat):Int)=(vs.length:Int)-1:=by omega
 refine calls_of 33 [.tmp 6] Go.Proofs.Tryz.func202 rfl rfl rfl ?_
 have sl3:slice3V (some (1,none)) (.slice (some ⟨bk,0,none⟩) vs.length cap) (some (.int .i64 i)) (.int .i64 ((i:Int)+1)) (.int .i64 vs.length)=some (.slice (if vs.length=i then some ⟨bk,0,none⟩ else some ⟨bk,i,none⟩) 1 (vs.length-i)):=by
  unfold slice3V boundV
  have g1:(0:Int)≤vs.length∧(vs.length:Int)≤cap:=by omega
  have g2:(0:Int)≤(i:Int)+1∧(i:Int)+1≤(vs.length:Int):=by omega
  have g3:(0:Int)≤(i:Int)∧(i:Int)≤(i:Int)+1:=by omega
  simp [g1,g2,add_n]
 have ne1:¬ (i:Int)=(i:Int)+1:=by omega
 simp -implicitDefEqProofs (disch:=omega) [go_sem,sl3,ne1]
 refine drawK [(0,0),(1,0),(2,0),(3,0),(4,0),(5,0),(6,3),(7,0)] ?_
 obtain ⟨B',d',hsl,RB,hB'⟩:=slice_fromR (kd:=.i64) (j:=i+1) S (by omega)
 have hsl':sliceV (some (1,none)) (.slice (some ⟨bk,0,none⟩) vs.length cap) (some (.int .i64 ((i:Int)+1))) none=some (.slice B' (vs.length-(i+1)) d'):=hsl
 simp -implicitDefEqProofs (disch:=omega) [go_sem,hsl']
 refine appendIn (n:=i) (m:=vs.length-(i+1)) (ws:=vs.drop (i+1)) S RB (by rw [List.length_drop]) (fun w hw=>hone w (List.mem_of_mem_drop hw)) (by omega) ?_
 intro h2 S2 f2
 have hle:i+(vs.length-(i+1))=vs.length-1:=by omega
 rw [hle] at S2 ⊢
 have herase:vs.take i++vs.drop (i+1)=vs.eraseIdx i:=(List.eraseIdx_eq_take_drop_succ ..).symm
 have hlE:(vs.eraseIdx i).length=vs.length-1:=by rw [List.length_eraseIdx,if_pos (by omega)]
 rw [herase] at S2
 have hsl2:sliceV (some (1,none)) (.slice (some ⟨bk,0,none⟩) (vs.length-1) cap) (some (.int .i64 ((vs.length-1:Nat):Int))) (some (.int .i64 vs.length))=some (.slice (if cap=vs.length-1 then some ⟨bk,0,none⟩ else some ⟨bk,vs.length-1,none⟩) 1 (cap-(vs.length-1))):=by
  unfold sliceV boundV
  have g1:(0:Int)≤vs.length∧(vs.length:Int)≤cap:=by omega
  have g2:(0:Int)≤((vs.length-1:Nat):Int)∧((vs.length-1:Nat):Int)≤(vs.length:Int):=by omega
  simp [g1,g2,add_n]
  omega
 simp -implicitDefEqProofs (disch:=omega) [go_sem,hsl2]
 rw [if_neg (show ¬ cap=vs.length-1 by omega)]
 rcases S2.at' with ⟨h1,_⟩ | ⟨bk',h1,h2',h3',h4',h5'⟩
 · cases h1
 cases h1
 refine clear_rows (fun j hj=>h4' _ (by omega)) h3' fun h3 g1 g2 g3 g4=>?_
 simp -implicitDefEqProofs (disch:=omega) [go_sem]
 refine ⟨⟨by rw [hlE]; omega,.inr ⟨bk,rfl,Nat.lt_of_lt_of_le h2' g4.size,g3,fun j hj=>g2 j (h4' j hj),fun j x hx=>?_⟩⟩,(f2.trans g4).mono fun y _ hy=>⟨_,rfl,hy.symm⟩⟩
 have hj:=(List.getElem?_eq_some_iff.1 hx).1
 rw [hlE] at hj
 rw [g1 j hj]
 exact h5' j x (by rw [List.getElem?_append_left (by omega)]; exact hx)
section
variable {h:Heap} {N sb:Nat} {S:List (List Int)} {A:Option Addr} {n c:Nat} {l:List Int}
theorem rfind_ok (M:StM h N sb S) (R:RowAt h A (ints l)) (hn:n=l.length) (hs:n<2^40) (hg:∀ x∈l,1≤x.natAbs∧x.natAbs≤16777216) (hr:Rise l) (hS:S.length<2^40) (hS2:∀ k∈S,k.length<2^40) :
   CallsH Tryz.prog 151 [.pointer (some ⟨sb,0,none⟩),.slice A n c] h fun r h'=>r=.int .i64 (idxR (fun k=>decide (l=k)) S)∧Fr (fun _=>False) h h':=by
 subst hn
 obtain ⟨P,pc,B,RP⟩:=M.rows
 have hsb:=B.lt
 refine calls_of 19 [.tmp 4] Go.Proofs.Tryz.func151 rfl rfl rfl ?_
 simp -implicitDefEqProofs (disch:=omega) [go_sem]
 obtain ⟨h1,e1⟩:∃ h1,h1=h.push (.cells #[.slice A l.length c] 23):=⟨_,rfl⟩
 have f1:Fr (fun _=>False) h h1:=by rw [e1]; exact (Fr.refl _ _).push
 have V1:ListB h1 h.size [.slice A l.length c]:=by rw [e1]; exact ListB.new
 rw [← e1]
 refine useC (rclean_ok (R.fr0 f1) rfl hs hg) ?_
 rintro _ h2 ⟨⟨o,ho,hm⟩,f2⟩
 have hlen:=rise_length (a:=0) (n:=16777216) hr fun x hx=>by have:=hg x hx; omega
 obtain rfl:=clean_self (by omega) hr hg ho
 obtain ⟨A',c',rfl,SL,own⟩:=hm
 have V2:=V1.fr f2 fun h=>h
 have v2:=V2.at' 0 _ rfl
 have fz:=V2.fz
 have b2:=((B.fr f1 fun h=>h).fr f2 fun h=>h).at' 0 _ rfl
 have nsb:¬ sb=h.size:=by omega
 simp -implicitDefEqProofs (disch:=omega) [go_sem,v2,fz,b2,nsb]
 obtain ⟨h3,e3⟩:∃ h3,h3=hset h2 ⟨h.size,0,none⟩ (.slice A' l.length c'):=⟨_,rfl⟩
 have V3:ListB h3 h.size [.slice A' l.length c']:=by rw [e3]; exact V2.set (i:=0) (.slice A' l.length c') (by simp)
 have f3:Fr (fun _=>False) h h3:=by rw [e3]; exact (f1.trans f2).new (Nat.le_refl _)
 have g3:Fr (fun y=>y=h.size) h2 h3:=by rw [e3]; exact (Fr.refl _ _).set rfl
 have z1:h.size<h1.size:=V1.lt
 have SL3:=SL.row.fr g3 fun y hy e=>by have:=own y hy; omega
 rw [← e3]
 have v3:=V3.at' 0 _ rfl
 refine useC (indexFuncR_ok (cs:=[.pointer (some ⟨h.size,0,none⟩)]) (RP.fr0 f3) rfl hS (fun k=>decide (l=k)) fun k hk D d RD=>?_) ?_
 · have hk40:=hS2 k hk
   refine calls_of 7 [.tmp 3] Go.Proofs.Tryz.func203 rfl rfl rfl ?_
   simp -implicitDefEqProofs (disch:=omega) [go_sem,v3]
   refine useC (equal_ok SL3 RD rfl rfl hs hk40) ?_
   rintro _ h4 ⟨rfl,rfl⟩
   simp -implicitDefEqProofs (disch:=omega) [go_sem]
 rintro _ h4 ⟨rfl,rfl⟩
 simp -implicitDefEqProofs (disch:=omega) [go_sem]
 exact f3
theorem idxR_eq {S:List (List Int)} {l:List Int}:(l∈S→∃ i:Nat,idxR (fun k=>decide (l=k)) S=i∧i<S.length∧S.eraseIdx i=S.erase l)∧(l∉S→idxR (fun k=>decide (l=k)) S=-1):=by
 refine ⟨fun hl=>?_,fun hl=>idxR_no fun j y hj=>decide_eq_false fun e=>hl (e ▸ List.mem_of_getElem? hj)⟩
 have hi:=List.idxOf_lt_length_of_mem hl
 refine ⟨S.idxOf l,idxR_at (x:=l) ?_ (decide_eq_true rfl) fun j y hj hy=>decide_eq_false fun e=>?_,hi,(List.erase_eq_eraseIdx_of_idxOf rfl).symm⟩
 · rw [List.getElem?_eq_getElem hi,List.getElem_idxOf hi]
 · subst e
   have hj':j<S.findIdx (·==l):=hj
   have:=List.not_of_lt_findIdx hj'
   rw [List.getElem?_eq_getElem (by omega)] at hy
   simp at this hy
   exact this hy
theorem rhas_ok (M:StM h N sb S) (R:RowAt h A (ints l)) (hn:n=l.length) (hs:n<2^40) (hg:∀ x∈l,1≤x.natAbs∧x.natAbs≤16777216) (hr:Rise l) (hS:S.length<2^40) (hS2:∀ k∈S,k.length<2^40) :
   CallsH Tryz.prog 105 [.pointer (some ⟨sb,0,none⟩),.slice A n c] h fun r h'=>r=.bool (decide (l∈S))∧Fr (fun _=>False) h h':=by
 refine calls_of 9 [.tmp 4] Go.Proofs.Tryz.func105 rfl rfl rfl ?_
 simp -implicitDefEqProofs (disch:=omega) [go_sem]
 refine useC (rfind_ok M R hn hs hg hr hS hS2) ?_
 rintro _ h1 ⟨rfl,f1⟩
 by_cases hl:l∈S
 · obtain ⟨i,e,hi,_⟩:=idxR_eq.1 hl
   rw [e]
   simp -implicitDefEqProofs (disch:=omega) [go_sem,hl]
   exact f1
 · rw [idxR_eq.2 hl]
   simp -implicitDefEqProofs (disch:=omega) [go_sem,hl]
   exact f1
theorem rdrop_ok (M:StM h N sb S) (R:RowAt h A (ints l)) (hn:n=l.length) (hs:n<2^40) (hg:∀ x∈l,1≤x.natAbs∧x.natAbs≤16777216) (hr:Rise l) (hS:S.length<2^40) (hS2:∀ k∈S,k.length<2^40) (hl:l∈S) :
   CallsH Tryz.prog 150 [.pointer (some ⟨sb,0,none⟩),.slice A n c] h fun r h'=>r=.bool true∧StM h' N sb (S.erase l)∧Fr (fun y=>N≤y) h h':=by
 refine calls_of 24 [.tmp 4] Go.Proofs.Tryz.func150 rfl rfl rfl ?_
 simp -implicitDefEqProofs (disch:=omega) [go_sem]
 refine useC (rfind_ok M R hn hs hg hr hS hS2) ?_
 rintro _ h1 ⟨rfl,f1⟩
 obtain ⟨i,e,hi,he⟩:=idxR_eq.1 hl
 rw [e]
 obtain ⟨P,pc,vs,B,SP,e1,e2,e3,e4,e5⟩:=(M.fr0 f1).ex
 have b0:=B.at' 0 _ rfl
 simp -implicitDefEqProofs (disch:=omega) [go_sem,b0]
 refine useC (deleteR_ok SP e2 e1.symm hS hi) ?_
 rintro _ h2 ⟨rfl,S2,f2⟩
 have B2:=B.fr f2 fun hb=>(e4 _ hb).2 rfl
 have b2:=B2.at' 0 _ rfl
 have fz:=B2.fz
 simp -implicitDefEqProofs (disch:=omega) [go_sem,b2,fz]
 obtain ⟨h3,e3'⟩:∃ h3,h3=hset h2 ⟨sb,0,none⟩ (.slice P (S.length-1) pc):=⟨_,rfl⟩
 have f3:Fr (fun y=>y=sb) h2 h3:=by rw [e3']; exact (Fr.refl _ _).set rfl
 have hlen:(S.erase l).length=S.length-1:=by rw [← he,List.length_eraseIdx,if_pos hi]
 have B3:ListB h3 sb [.slice P (S.erase l).length pc]:=by
   rw [e3',hlen]
   exact B2.set (i:=0) (.slice P (S.length-1) pc) (by simp)
 rw [← e3']
 have z2:=f2.size
 have z3:=f3.size
 refine ⟨⟨P,pc,vs.eraseIdx i,B3,S2.fr f3 fun y hy e=>(e4 y hy).2 e,?_,fun w hw=>e2 w (List.mem_of_mem_eraseIdx hw),e3,e4,fun j k hk=>?_⟩,(f1.mono fun _ _ h=>h.elim).trans ((f2.mono fun y _ hy=>(e4 y hy).1).trans (f3.mono fun y _ hy=>by omega))⟩
 · rw [← he,List.length_eraseIdx,List.length_eraseIdx,e1]
 · rw [← he,List.getElem?_eraseIdx] at hk
   have key:∀ q,S[q]?=some k→∃ D d,vs[q]?=some (Value.slice D k.length d)∧RowAt h3 D (ints k)∧∀ y,blk D y→y<h3.size∧y≠sb∧¬ blk P y:=fun q hq=>by
    obtain ⟨D,d,q1,q2,q3⟩:=e5 q k hq
    exact ⟨D,d,q1,(q2.fr f2 fun y hy=>(q3 y hy).2.2).fr f3 fun y hy=>(q3 y hy).2.1,fun y hy=>⟨by have:=(q3 y hy).1; omega,(q3 y hy).2⟩⟩
   rw [List.getElem?_eraseIdx]
   split at hk
   · rename_i h; rw [if_pos h]; exact key j hk
   · rename_i h; rw [if_neg h]; exact key (j+1) hk
end
def tvF (T:List Int) (x:Int):Int:=if x∈T then 1 else if -x∈T then -1 else 0
structure Con (T:List Int):Prop where
 rng:∀ x∈T,1≤x.natAbs∧x.natAbs≤16777216
 one:∀ x,x∈T→-x∈T→False
 nd:(T.map Int.natAbs).Nodup
def mF (T:List Int) (v:Int):Option Value:=if 1≤v∧tvF T v≠0 then some (.int .i64 (tvF T v)) else none
section
variable {T:List Int} {x:Int}
theorem Con.nil:Con []:=⟨fun _ h=>(nomatch h),fun _ h=>(nomatch h),List.nodup_nil⟩
theorem Con.len (C:Con T):T.length≤16777216:=by
 have:=Tp.nodup_le (a:=T.map Int.natAbs) (b:=(List.range 16777216).map (·+1)) C.nd fun v hv=>by
  obtain ⟨y,hy,rfl⟩:=List.mem_map.1 hv
  have:=C.rng y hy
  exact List.mem_map.2 ⟨y.natAbs-1,List.mem_range.2 (by omega),by omega⟩
 simpa using this
theorem tvF_cases (T:List Int) (x:Int):tvF T x=1∨tvF T x=-1∨tvF T x=0:=by
 unfold tvF
 split
 · exact .inl rfl
 · split
   · exact .inr (.inl rfl)
   · exact .inr (.inr rfl)
theorem tvF_0:tvF T x=0↔x∉T∧-x∉T:=by
 unfold tvF
 by_cases h1:x∈T <;> by_cases h2:-x∈T <;> simp [h1,h2]
theorem tvF_1:tvF T x=1↔x∈T:=by
 unfold tvF
 by_cases h1:x∈T <;> by_cases h2:-x∈T <;> simp [h1,h2]
theorem tvF_neg (C:Con T):tvF T (-x)=-tvF T x:=by
 unfold tvF
 rw [Int.neg_neg]
 by_cases h1:x∈T <;> by_cases h2:-x∈T
 · exact (C.one x h1 h2).elim
 · simp [h1,h2]
 · simp [h1,h2]
 · simp [h1,h2]
theorem tvF_m1 (C:Con T):tvF T x=-1↔-x∈T:=by
 rw [← tvF_1 (T:=T) (x:=-x),tvF_neg C]; omega
theorem Con.snoc (C:Con T) (h0:tvF T x=0) (hx:1≤x.natAbs∧x.natAbs≤16777216):Con (T++[x]):=by
 obtain ⟨h1,h2⟩:=tvF_0.1 h0
 refine ⟨fun y hy=>?_,fun y hy hn=>?_,?_⟩
 · rcases List.mem_append.1 hy with hy | hy
   · exact C.rng y hy
   · rw [List.mem_singleton] at hy; rw [hy]; exact hx
 · rw [List.mem_append,List.mem_singleton] at hy hn
   rcases hy with hy | rfl
   · rcases hn with hn | hn
     · exact C.one y hy hn
     · exact h2 (by rw [← hn,Int.neg_neg]; exact hy)
   · rcases hn with hn | hn
     · exact h2 hn
     · omega
 · rw [List.map_append,List.nodup_append]
   refine ⟨C.nd,by simp,fun a ha b hb e=>?_⟩
   simp only [List.map_cons,List.map_nil,List.mem_singleton] at hb
   obtain ⟨y,hy,rfl⟩:=List.mem_map.1 ha
   have:y=x∨y=-x:=by omega
   rcases this with rfl | rfl
   · exact h1 hy
   · exact h2 hy
theorem mF_snoc (C:Con T) (h0:tvF T x=0) (hx:1≤x.natAbs∧x.natAbs≤16777216) (v:Int):(if v=(x.natAbs:Int) then some (Value.int .i64 (if x<0 then -1 else 1)) else mF T v)=mF (T++[x]) v:=by
 obtain ⟨h1,h2⟩:=tvF_0.1 h0
 unfold mF tvF
 simp only [List.mem_append,List.mem_singleton]
 by_cases e:v=(x.natAbs:Int)
 · subst e
   rw [if_pos rfl]
   by_cases hn:x<0
   · have e2:(x.natAbs:Int)=-x:=by omega
     have ne:¬ -x=x:=by omega
     simp [e2,h2,ne,hn]
     omega
   · have e2:(x.natAbs:Int)=x:=by omega
     simp [e2,hn]
     omega
 · rw [if_neg e]
   by_cases hv:1≤v
   · have n1:¬ v=x:=by omega
     have n2:¬ -v=x:=by omega
     simp [hv,n1,n2]
   · simp [hv]
end
section
variable {h:Heap} {r:Nat} {T:List Int} {x:Int}
theorem mF_look (M:MapAt h r (mF T)) {v:Int} (hv:1≤v):lookV Tryz.prog 234 (.map (some r)) (.int .i64 v) false h=some (.int .i64 (tvF T v)):=by
 have:=M.look (P:=Tryz.prog) (t:=234) (kt:=3) (e:=3) (z:=.int .i64 0) (by kernel_rfl) (by kernel_rfl) v
 rw [this]
 unfold mF
 by_cases h0:tvF T v=0
 · simp [h0]
 · simp [h0,hv]
theorem rtruth_ok (M:MapAt h r (mF T)) (C:Con T) (h1:1≤x.natAbs) (h2:x.natAbs≤16777216):CallsH Tryz.prog 251 [.map (some r),.int .i64 x] h fun v h'=>v=.int .i64 (tvF T x)∧h'=h:=by
 have ht:=tvF_cases T x
 refine calls_of 15 [.tmp 4] Go.Proofs.Tryz.func251 rfl rfl rfl ?_
 by_cases hx:x<0
 · have lk:=mF_look M (v:=-x) (by omega)
   rw [tvF_neg C] at lk
   simp -implicitDefEqProofs (disch:=omega) [go_sem,lk]
 · have lk:=mF_look M (v:=x) (by omega)
   simp -implicitDefEqProofs (disch:=omega) [go_sem,lk]
theorem rtake_ok (M:MapAt h r (mF T)) (C:Con T) (hx:1≤x.natAbs∧x.natAbs≤16777216) (h0:tvF T x=0):CallsH Tryz.prog 237 [.map (some r),.int .i64 x] h fun v h'=>MapAt h' r (mF (T++[x]))∧Fr (fun y=>y=r) h h':=by
 have hm:max x (-x)=(x.natAbs:Int):=by omega
 have lk:=mF_look M (v:=(x.natAbs:Int)) (by omega)
 have l0:tvF T (x.natAbs:Int)=0:=by
   rcases (show (x.natAbs:Int)=x∨(x.natAbs:Int)=-x by omega) with e | e
   · rw [e]; exact h0
   · rw [e,tvF_neg C,h0]; rfl
 rw [l0] at lk
 refine calls_of 22 [.tmp 4] Go.Proofs.Tryz.func237 rfl rfl rfl ?_
 by_cases hn:x<0
 · simp -implicitDefEqProofs (disch:=omega) [go_sem,hm,lk,hn]
   refine M.up (kt:=3) (e:=3) (by kernel_rfl) fun h' M' f'=>?_
   simp -implicitDefEqProofs (disch:=omega) [go_sem]
   exact ⟨M'.cong fun v=>by rw [← mF_snoc C h0 hx v,if_pos hn],f'⟩
 · simp -implicitDefEqProofs (disch:=omega) [go_sem,hm,lk,hn]
   refine M.up (kt:=3) (e:=3) (by kernel_rfl) fun h' M' f'=>?_
   simp -implicitDefEqProofs (disch:=omega) [go_sem]
   exact ⟨M'.cong fun v=>by rw [← mF_snoc C h0 hx v,if_neg hn],f'⟩
end
def UniR (T c:List Int) (lit n:Int):Prop:=(n=0∧∀ y∈c,tvF T y=-1)∨(n=1∧lit∈c∧tvF T lit=0)∨(n=2∧((∃ y∈c,tvF T y=1)∨∃ y z,y∈c∧z∈c∧y≠z∧tvF T y=0∧tvF T z=0))
def RunR' (T c:List Int) (v:Value) (h h':Heap):Prop:=h'=h∧∃ lit m:Int,v=.tuple #[.int .i64 lit,.int .i64 m]∧UniR T c lit m
structure UniJ (h1:Heap) (r:Nat) (A:Option Addr) (d:Nat) (T c:List Int) (ρ:Env) (h:Heap):Prop where
 r0:ρ 0=.map (some r)
 r8:ρ 8=.slice A c.length d
 r9:ρ 9=.int .i64 c.length
 he:h=h1
 ex:∃ (i:Nat) (lit n:Int),ρ 10=.int .i64 i∧i≤c.length∧ρ 4=.int .i64 lit∧ρ 5=.int .i64 n∧((n=0∧∀ y∈c.take i,tvF T y=-1)∨(n=1∧lit∈c.take i∧tvF T lit=0))
section
variable {h:Heap} {r:Nat} {T c:List Int} {A:Option Addr} {n d:Nat}
theorem runit_ok (M:MapAt h r (mF T)) (C:Con T) (R:RowAt h A (ints c)) (hn:n=c.length) (hs:n<2^40) (hg:∀ x∈c,1≤x.natAbs∧x.natAbs≤16777216) (hr:Rise c) :
   CallsH Tryz.prog 248 [.map (some r),.slice A n d] h fun v h'=>RunR' T c v h h':=by
 subst hn
 refine calls_of 29 [.tmp 4,.tmp 5] Go.Proofs.Tryz.func248 rfl rfl rfl ?_
 simp -implicitDefEqProofs (disch:=omega) [go_sem]
 refine loopK (UniJ h r A d T c) (fun ρ _=>c.length-(intOf (ρ 10)).toNat) (by kernel_rfl) ?_ ?_
 · exact ⟨rfl,rfl,rfl,rfl,0,0,0,rfl,Nat.zero_le _,rfl,rfl,.inl ⟨rfl,fun y hy=>(nomatch hy)⟩⟩
 · rintro ρ h' ⟨r0,r8,r9,rfl,i,lit,m,r10,hi,r4,r5,hor⟩
   by_cases hin:i<c.length
   · obtain ⟨x,hx⟩:=some_at hin
     have hxm:=List.mem_of_getElem? hx
     have hxr:=hg x hxm
     obtain ⟨bk,off,rfl,hc⟩:=R.get (by rw [ints_len]; omega)
     have c0:=hc _ _ (ints_at hx)
     simp -implicitDefEqProofs (disch:=omega) [go_sem,r0,r8,r9,r10,r4,r5,c0]
     refine useC (rtruth_ok M C hxr.1 hxr.2) ?_
     rintro _ h2 ⟨rfl,rfl⟩
     rcases tvF_cases T x with ht | ht | ht
     · rw [ht]
       simp -implicitDefEqProofs (disch:=omega) [go_sem,r0,r8,r9,r10,r4,r5]
       exact ⟨rfl,_,_,rfl,.inr (.inr ⟨rfl,.inl ⟨x,hxm,ht⟩⟩)⟩
     · rw [ht]
       simp -implicitDefEqProofs (disch:=omega) [go_sem,r0,r8,r9,r10,r4,r5]
       refine ⟨⟨r0,r8,r9,rfl,i+1,lit,m,rfl,by omega,r4,r5,?_⟩,by omega⟩
       rw [take_at hx]
       rcases hor with ⟨h1,h2⟩ | ⟨h1,h2,h3⟩
       · refine .inl ⟨h1,fun y hy=>?_⟩
         rcases List.mem_append.1 hy with hy | hy
         · exact h2 y hy
         · rw [List.mem_singleton] at hy; rw [hy]; exact ht
       · exact .inr ⟨h1,List.mem_append_left _ h2,h3⟩
     · rw [ht]
       rcases hor with ⟨h1,h2⟩ | ⟨h1,h2,h3⟩
       · subst h1
         simp -implicitDefEqProofs (disch:=omega) [go_sem,r0,r8,r9,r10,r4,r5]
         refine ⟨⟨r0,r8,r9,rfl,i+1,x,1,rfl,by omega,rfl,rfl,.inr ⟨rfl,?_,ht⟩⟩,by omega⟩
         rw [take_at hx]
         exact List.mem_append_right _ (List.mem_singleton.2 rfl)
       · subst h1
         simp -implicitDefEqProofs (disch:=omega) [go_sem,r0,r8,r9,r10,r4,r5]
         refine ⟨rfl,_,_,rfl,.inr (.inr ⟨rfl,.inr ⟨lit,x,List.mem_of_mem_take h2,hxm,fun e=>?_,h3,ht⟩⟩)⟩
         obtain ⟨j,hj⟩:=List.getElem?_of_mem h2
         rw [List.getElem?_take] at hj
         split at hj
         · exact rise_ne hr hj hx (by omega) e
         · cases hj
   · obtain rfl:i=c.length:=by omega
     rw [List.take_length] at hor
     simp -implicitDefEqProofs (disch:=omega) [go_sem,r0,r8,r9,r10,r4,r5]
     rcases hor with h | ⟨h1,h2,h3⟩
     · exact ⟨rfl,_,_,rfl,.inl h⟩
     · exact ⟨rfl,_,_,rfl,.inr (.inl ⟨h1,h2,h3⟩)⟩
end
def Dull (T c:List Int):Prop:=(∃ y∈c,tvF T y=1)∨∃ y z,y∈c∧z∈c∧y≠z∧tvF T y=0∧tvF T z=0
theorem Dull.pm {T:List Int} (C:Con T) {S:List (List Int)} (H:∀ c∈S,Dull T c):PM (·∈S) (·∈T) where
 con:=C.one
 unit c hc x hx h:=by
  rcases H c hc with ⟨y,hy,ht⟩ | ⟨y,z,hy,hz,hne,h1,h2⟩
  · by_cases e:y=x
    · rw [← e]; exact tvF_1.1 ht
    · exact (C.one y (tvF_1.1 ht) (h y hy e)).elim
  · by_cases e:y=x
    · exact ((tvF_0.1 h2).2 (h z hz fun e2=>hne (e.trans e2.symm))).elim
    · exact ((tvF_0.1 h1).2 (h y hy e)).elim
 ne h:=by
  rcases H [] h with ⟨y,hy,_⟩ | ⟨y,_,hy,_⟩
  · cases hy
  · cases hy
def SGd (S:List (List Int)):Prop:=∀ c∈S,Rise c∧∀ x∈c,1≤x.natAbs∧x.natAbs≤16777216
theorem rise_16 {c:List Int} (h:Rise c∧∀ x∈c,1≤x.natAbs∧x.natAbs≤16777216):c.length≤16777216:=by
 have:=rise_length (a:=0) (n:=16777216) h.1 fun x hx=>by have:=h.2 x hx; omega
 omega
structure CloJ (h00 h0:Heap) (sb r:Nat) (T0:List Int) (m:Nat) (ρ:Env) (h:Heap):Prop where
 r0:ρ 0=.pointer (some ⟨sb,0,none⟩)
 r1:ρ 1=.map (some r)
 fr:Fr (fun y=>y=r) h0 h
 ex:∃ T,Con T∧MapAt h r (mF T)∧(∀ x∈T0,x∈T)∧m+T.length=16777217
structure ClpJ (h1:Heap) (sb r:Nat) (P:Option Addr) (pc:Nat) (S:List (List Int)) (T:List Int) (ρ:Env) (h:Heap):Prop where
 r0:ρ 0=.pointer (some ⟨sb,0,none⟩)
 r1:ρ 1=.map (some r)
 r12:ρ 12=.slice P S.length pc
 r13:ρ 13=.int .i64 S.length
 he:h=h1
 ex:∃ i:Nat,ρ 14=.int .i64 i∧i≤S.length∧∀ (j:Nat) c,j<i→S[j]?=some c→Dull T c
def CloR (S:List (List Int)) (r:Nat) (T0:List Int) (v:Value) (h h':Heap):Prop:=Fr (fun y=>y=r) h h'∧(v=.bool false∨(v=.bool true∧∃ T,Con T∧MapAt h' r (mF T)∧(∀ x∈T0,x∈T)∧∀ c∈S,Dull T c))
section
variable {h00 h:Heap} {N sb r:Nat} {S:List (List Int)} {T:List Int}
theorem rclose_ok (M:StM h00 N sb S) (f0:Fr (fun _=>False) h00 h) (hr:h00.size≤r) (MA:MapAt h r (mF T)) (C:Con T) (hS:SGd S) (hl:S.length<2^40) :
   CallsH Tryz.prog 238 [.pointer (some ⟨sb,0,none⟩),.map (some r)] h fun v h'=>CloR S r T v h h':=by
 have hCl:=C.len
 refine calls_of 33 [.tmp 4] Go.Proofs.Tryz.func238 rfl rfl rfl ?_
 simp -implicitDefEqProofs (disch:=omega) [go_sem]
 refine scopeLG 0 (CloJ h00 h sb r T) (16777217-T.length) (by kernel_rfl) ?_ ?_
 · exact ⟨rfl,rfl,Fr.refl _ _,T,C,MA,fun _ h=>h,by omega⟩
 · clear MA C hCl
   rintro m ρ h1 ⟨r0,r1,f1,T1,C1,M1,hT1,hm⟩
   have hC1:=C1.len
   have f01:Fr (fun _=>False) h00 h1:=f0.trans' f1 fun y hy e=>by omega
   obtain ⟨P,pc,B,RP⟩:=(M.fr0 f01).rows
   have b0:=B.at' 0 _ rfl
   simp -implicitDefEqProofs (disch:=omega) [go_sem,r0,r1,b0]
   refine loopK (ClpJ h1 sb r P pc S T1) (fun ρ _=>S.length-(intOf (ρ 14)).toNat) (by kernel_rfl) ?_ ?_
   · exact ⟨r0,r1,rfl,rfl,rfl,0,rfl,Nat.zero_le _,fun j c hj=>absurd hj (Nat.not_lt_zero _)⟩
   · clear r0 r1
     rintro ρ h2 ⟨r0,r1,r12,r13,rfl,i,r14,hi,hj⟩
     by_cases hin:i<S.length
     · obtain ⟨c,hc⟩:∃ c,S[i]?=some c:=⟨_,List.getElem?_eq_getElem hin⟩
       have hg:=hS c (List.mem_of_getElem? hc)
       have hl16:=rise_16 hg
       obtain ⟨bk,off,B',c',rfl,c0,RB⟩:=RP i c hc
       simp -implicitDefEqProofs (disch:=omega) [go_sem,r0,r1,r12,r13,r14,c0]
       refine useC (runit_ok M1 C1 RB rfl (by omega) hg.2 hg.1) ?_
       rintro _ h3 ⟨rfl,lit,n,rfl,hu⟩
       rcases hu with ⟨rfl,h1⟩ | ⟨rfl,h1,h2⟩ | ⟨rfl,h1⟩
       · simp -implicitDefEqProofs (disch:=omega) [go_sem,r0,r1,r12,r13,r14]
         exact ⟨f1,.inl rfl⟩
       · have hlr:=hg.2 lit h1
         simp -implicitDefEqProofs (disch:=omega) [go_sem,r0,r1,r12,r13,r14]
         refine useC (rtake_ok M1 C1 hlr h2) ?_
         rintro _ h4 ⟨M4,f4⟩
         have C4:=C1.snoc h2 hlr
         have hC4:=C4.len
         have hl4:(T1++[lit]).length=T1.length+1:=by rw [List.length_append]; rfl
         simp -implicitDefEqProofs (disch:=omega) [go_sem,r0,r1,r12,r13,r14]
         exact ⟨m-1,by omega,r0,r1,f1.trans f4,T1++[lit],C4,M4,fun x hx=>List.mem_append_left _ (hT1 x hx),by omega⟩
       · simp -implicitDefEqProofs (disch:=omega) [go_sem,r0,r1,r12,r13,r14]
         refine ⟨⟨r0,r1,r12,r13,rfl,i+1,rfl,by omega,fun j c' hj2 hc'=>?_⟩,by omega⟩
         by_cases ej:j=i
         · subst ej; rw [hc] at hc'; cases hc'; exact h1
         · exact hj j c' (by omega) hc'
     · simp -implicitDefEqProofs (disch:=omega) [go_sem,r0,r1,r12,r13,r14]
       refine ⟨f1,.inr ⟨rfl,T1,C1,M1,hT1,fun c hc=>?_⟩⟩
       obtain ⟨j,hj'⟩:=List.getElem?_of_mem hc
       exact hj j c (by have:=(List.getElem?_eq_some_iff.1 hj').1; omega) hj'
end
theorem ItAt.bound {h:Heap} {it r n B:Nat} {f:Int→Option Value} (M:MapAt h r f) (I:ItAt h it r n) (hB:∀ x v,f x=some v→1≤x∧x≤B):n≤B:=by
 obtain ⟨es,clk,m,e1,e2,e3,e4,_⟩:=M.ex
 obtain ⟨es',clk',seen,g1,_,g3⟩:=I.ex
 rw [e1] at g1
 cases g1
 have h1:(m.map Prod.fst).length≤((List.range B).map fun i:Nat=>(i:Int)+1).length:=nodup_le' e3 fun x hx=>by
  cases hc:f x with
  | none =>
    rw [e4] at hc
    exact absurd hx (lk_none.1 hc)
  | some v =>
    have:=hB x v hc
    exact List.mem_map.2 ⟨x.toNat-1,List.mem_range.2 (by omega),by omega⟩
 have h2:es.size=m.length:=by have:=congrArg List.length e2; simpa using this
 have h3:(es.filter fun e=>!seen.contains e.born).size≤es.size:=Array.size_filter_le
 rw [List.length_map,List.length_map,List.length_range] at h1
 omega
structure TkJ (h0:Heap) (sb r:Nat) (A:Option Addr) (d:Nat) (l:List Int) (ρ:Env) (h:Heap):Prop where
 r0:ρ 0=.pointer (some ⟨sb,0,none⟩)
 r6:ρ 6=.map (some r)
 r4:ρ 4=.slice none 0 0
 r19:ρ 19=.slice A l.length d
 r20:ρ 20=.int .i64 l.length
 fr:Fr (fun y=>y=r) h0 h
 ex:∃ i:Nat,ρ 21=.int .i64 i∧i≤l.length∧Con (l.take i)∧MapAt h r (mF (l.take i))
structure RgJ (h0:Heap) (r:Nat) (T:List Int) (m:Nat) (ρ:Env) (h:Heap):Prop where
 r34:ρ 34=.pointer (some ⟨h0.size,0,none⟩)
 fr:Fr (fun _=>False) h0 h
 M:MapAt h r (mF T)
 I:ItAt h h0.size r m
 z:h0.size<h.size
 ex:∃ (Q:Option Addr) (qc:Nat) (out:List Int),ρ 4=.slice Q out.length qc∧SlAt h Q qc (ints out)∧out.length+m≤16777216∧(∀ x∈out,x.natAbs≤16777216)∧∀ y,blk Q y→h0.size<y
def UntR (S:List (List Int)) (l:List Int) (v:Value) (h h':Heap):Prop:=Fr (fun _=>False) h h'∧∃ (w:Value) (b:Bool),v=.tuple #[w,.bool b]∧(b=true→∃ T,Con T∧(∀ x∈l,x∈T)∧∀ c∈S,Dull T c)
section
variable {h:Heap} {N sb n d:Nat} {S:List (List Int)} {l:List Int} {A:Option Addr}
theorem runits_ok (M:StM h N sb S) (R:RowAt h A (ints l)) (hn:n=l.length) (hg:Rise l∧∀ x∈l,1≤x.natAbs∧x.natAbs≤16777216) (hS:SGd S) (hl:S.length<2^40) :
   CallsH Tryz.prog 201 [.pointer (some ⟨sb,0,none⟩),.slice A n d] h fun v h'=>UntR S l v h h':=by
 have hl16:=rise_16 hg
 refine calls_of 52 [.tmp 4,.tmp 5] Go.Proofs.Tryz.func201 rfl rfl rfl ?_
 simp -implicitDefEqProofs (disch:=omega) [go_sem]
 refine useC (rclean_ok R hn (by omega) hg.2) ?_
 rintro _ h1 ⟨⟨o,ho,hm⟩,f1⟩
 obtain rfl:=clean_self (by omega) hg.1 hg.2 ho
 obtain ⟨A',c',rfl,SL,own⟩:=hm
 simp -implicitDefEqProofs (disch:=omega) [go_sem]
 obtain ⟨h2,e2⟩:∃ h2,h2=h1.push (.map #[] 0):=⟨_,rfl⟩
 have f2:Fr (fun _=>False) h1 h2:=by rw [e2]; exact (Fr.refl _ _).push
 have MA2:MapAt h2 h1.size (mF []):=by
   rw [e2]
   refine MapAt.new.cong fun v=>?_
   unfold mF tvF
   simp
 rw [← e2]
 refine loopK (TkJ h2 sb h1.size A' c' l) (fun ρ _=>l.length-(intOf (ρ 21)).toNat) (by kernel_rfl) ?_ ?_
 · exact ⟨rfl,rfl,rfl,rfl,rfl,Fr.refl _ _,0,rfl,Nat.zero_le _,Con.nil,MA2⟩
 · rintro ρ h3 ⟨r0,r6,r4,r19,r20,f3,i,r21,hi,C3,M3⟩
   have f03:Fr (fun _=>False) h h3:=(f1.trans f2).trans' f3 fun y hy e=>by have:=f1.size; omega
   have f13:Fr (fun _=>False) h1 h3:=f2.trans' f3 fun y hy e=>by omega
   by_cases hin:i<l.length
   · obtain ⟨x,hx⟩:=some_at hin
     have hxr:=hg.2 x (List.mem_of_getElem? hx)
     obtain ⟨bk,off,rfl,hc⟩:=(SL.row.fr0 f13).get (by rw [ints_len]; omega)
     have c0:=hc _ _ (ints_at hx)
     have h0:tvF (l.take i) x=0:=by
       have key:∀ y,y.natAbs=x.natAbs→y∉l.take i:=fun y hy hm=>by
         obtain ⟨j,hj⟩:=List.getElem?_of_mem hm
         rw [List.getElem?_take] at hj
         split at hj
         · have e:=rise_abs hg.1 (List.mem_of_getElem? hj) (List.mem_of_getElem? hx) hy
           exact rise_ne hg.1 hj hx (by omega) e
         · cases hj
       exact tvF_0.2 ⟨key x rfl,key (-x) (Int.natAbs_neg _)⟩
     simp -implicitDefEqProofs (disch:=omega) [go_sem,r0,r6,r19,r20,r21,c0]
     refine useC (rtake_ok M3 C3 hxr h0) ?_
     rintro _ h4 ⟨M4,f4⟩
     simp -implicitDefEqProofs (disch:=omega) [go_sem,r0,r6,r19,r20,r21]
     exact ⟨⟨r0,r6,r4,r19,r20,f3.trans f4,i+1,rfl,by omega,by rw [take_at hx]; exact C3.snoc h0 hxr,by rw [take_at hx]; exact M4⟩,by omega⟩
   · obtain rfl:i=l.length:=by omega
     rw [List.take_length] at C3 M3
     simp -implicitDefEqProofs (disch:=omega) [go_sem,r0,r6,r19,r20,r21]
     refine useC (rclose_ok M f03 f1.size M3 C3 hS hl) ?_
     rintro _ h4 ⟨f4,rfl | ⟨rfl,T,C4,M4,hT,hD⟩⟩
     · simp -implicitDefEqProofs (disch:=omega) [go_sem]
       exact ⟨f03.trans' f4 fun y hy e=>by have:=f1.size; omega,_,_,rfl,fun h=>(nomatch h)⟩
     have f04:Fr (fun _=>False) h h4:=f03.trans' f4 fun y hy e=>by have:=f1.size; omega
     simp -implicitDefEqProofs (disch:=omega) [go_sem,r6]
     refine M4.range (kt:=3) (e:=3) (by kernel_rfl) fun m h5 I5 M5 f5=>?_
     have hmv:∀ x v,mF T x=some v→∃ k:Int,v=.int .i64 k∧(k=1∨k=-1)∧1≤x∧x≤(16777216:Nat):=fun x v hv=>by
       unfold mF at hv
       split at hv
       · rename_i hc
         refine ⟨tvF T x,(Option.some.inj hv).symm,?_,hc.1,?_⟩
         · have:=tvF_cases T x; omega
         · rcases tvF_cases T x with h | h | h
           · have:=C4.rng x (tvF_1.1 h); omega
           · have:=C4.rng _ ((tvF_m1 C4).1 h); omega
           · exact absurd h hc.2
       · cases hv
     have hmb:=ItAt.bound M5 I5 fun x v hv=>by obtain ⟨_,_,_,h⟩:=hmv x v hv; exact h
     have z1:=f1.size
     have z2:=f2.size
     have z3:=f3.size
     have z4:=f4.size
     simp -implicitDefEqProofs (disch:=omega) [go_sem]
     have f05:=f04.trans f5
     have hr5:h1.size<h4.size:=M4.lt
     have hz5:h4.size<h5.size:=by obtain ⟨_,_,_,_,h,_⟩:=I5.ex; exact (Array.getElem?_eq_some_iff.1 h).1
     refine loopG (RgJ h4 h1.size T) m (by kernel_rfl) ?_ ?_
     · exact ⟨rfl,f5,M5,I5,hz5,none,0,[],r4,SlAt.nil _,by simp; omega,fun x hx=>(nomatch hx),fun y ⟨_,h,_⟩=>(nomatch h)⟩
     · clear I5 M5 f5 hmb f05 hz5
       rintro m ρ h6 ⟨r34,f6,M6,I6,z6,Q,qc,out,r4,SQ,hqm,hqr,hQ⟩
       simp -implicitDefEqProofs (disch:=omega) [go_sem,r34]
       refine MapAt.next M6 I6 ?_ fun x v w1 w2 m' h7 hlt hf I7 M7 f7 hent=>?_
       · simp -implicitDefEqProofs (disch:=omega) [go_sem,r34,r4]
         refine useC (cleanG_ok SQ.row rfl (by omega) fun y hy=>by have:=hqr y hy; omega) ?_
         rintro _ h8 ⟨⟨o,ho,hm⟩,f8⟩
         have f08:Fr (fun _=>False) h h8:=(f04.trans f6).trans f8
         cases o with
         | none =>
           obtain rfl:=hm
           simp -implicitDefEqProofs (disch:=omega) [go_sem,r34,r4]
           exact ⟨f08,_,_,rfl,fun _=>⟨T,C4,hT,hD⟩⟩
         | some L =>
           obtain ⟨_,_,rfl,_,_⟩:=hm
           simp -implicitDefEqProofs (disch:=omega) [go_sem,r34,r4]
           exact ⟨f08,_,_,rfl,fun _=>⟨T,C4,hT,hD⟩⟩
       · obtain ⟨k,rfl,hk,hx1,hx2⟩:=hmv x v hf
         have hkx:-16777216≤k*x∧k*x≤16777216:=by rcases hk with rfl | rfl <;> omega
         have z7:=f7.size
         have SQ7:=SQ.fr f7 fun y hy e=>by have:=hQ y hy; omega
         have g7:Fr (fun _=>False) h4 h7:=f6.trans' f7 fun y hy e=>by omega
         simp -implicitDefEqProofs (disch:=omega) [go_sem,r34,r4,hent]
         refine buildB rfl rfl ?_
         intro X h8 SX hX f8
         simp -implicitDefEqProofs (disch:=omega) [go_sem,r34,r4]
         refine appendB (vs:=ints out) (ws:=[.int .i64 (k*x)]) (SQ7.fr f8 fun _ _ h=>h) (by rw [ints_len]) SX.row rfl (by simp [Value.oneCell']) (by omega) (by omega) ?_
         intro Q9 qc9 h9 S9 f9 hQ9
         have z8:=f8.size
         have z9:=f9.size
         simp -implicitDefEqProofs (disch:=omega) [go_sem,r34,r4]
         have hl9:(out++[k*x]).length=out.length+1:=by rw [List.length_append]; rfl
         refine ⟨m',hlt,r34,(g7.trans f8).trans' f9 fun y hy hb=>by have:=hQ y hb; omega,(M7.fr f8 fun h=>h).fr f9 fun hb=>by have:=hQ _ hb; omega,(I7.fr f8 (fun h=>h) fun h=>h).fr f9 (fun hb=>by have:=hQ _ hb; omega) fun hb=>by have:=hQ _ hb; omega,by omega,Q9,qc9,out++[k*x],by rw [hl9]; rfl,by rw [ints_append]; exact S9,by omega,fun y hy=>?_,fun y hy=>(hQ9 y hy).elim (hQ y) fun hh=>by omega⟩
         rcases List.mem_append.1 hy with hy | hy
         · exact hqr y hy
         · rw [List.mem_singleton] at hy; rw [hy]; omega
theorem negs_good (hg:Rise l∧∀ x∈l,1≤x.natAbs∧x.natAbs≤16777216):Rise (negs l)∧∀ x∈negs l,1≤x.natAbs∧x.natAbs≤16777216:=by
 refine ⟨?_,fun x hx=>by have:=hg.2 _ (mem_negs.1 hx); rwa [Int.natAbs_neg] at this⟩
 unfold negs
 exact List.pairwise_map.2 (hg.1.imp fun {a b} h=>by rw [Int.natAbs_neg,Int.natAbs_neg]; exact h)
def FolR (S:List (List Int)) (l:List Int) (v:Value) (h h':Heap):Prop:=Fr (fun _=>False) h h'∧∃ b:Bool,v=.bool b∧(Rup (·∈S) l→b=true)
theorem rfollows_ok (M:StM h N sb S) (R:RowAt h A (ints l)) (hn:n=l.length) (hg:Rise l∧∀ x∈l,1≤x.natAbs∧x.natAbs≤16777216) (hS:SGd S) (hl:S.length<2^40) :
   CallsH Tryz.prog 149 [.pointer (some ⟨sb,0,none⟩),.slice A n d] h fun v h'=>FolR S l v h h':=by
 subst hn
 have hl16:=rise_16 hg
 refine calls_of 33 [.tmp 4] Go.Proofs.Tryz.func149 rfl rfl rfl ?_
 simp -implicitDefEqProofs (disch:=omega) [go_sem]
 refine useC (cgood_ok (vars:=16777216) R rfl (by omega) (by omega) fun x hx=>by have:=hg.2 x hx; omega) ?_
 rintro _ h0 ⟨rfl,f0⟩
 rw [good_of (vars:=16777216) hg.2]
 simp -implicitDefEqProofs (disch:=omega) [go_sem]
 refine loopK (fun ρ h'=>ρ 0=.pointer (some ⟨sb,0,none⟩)∧RwJ h0 negs l 13 14 15 5 A d ρ h') (fun ρ _=>l.length-(intOf (ρ 15)).toNat) (by kernel_rfl) ?_ ?_
 · exact ⟨rfl,rfl,rfl,Fr.refl _ _,0,none,0,rfl,Nat.zero_le _,rfl,SlAt.nil _,fun y ⟨_,h,_⟩=>(nomatch h)⟩
 · rintro ρ h1 ⟨r0,r6,r7,f1,i,B,bc,r8,hi,r3,SB,hB⟩
   have f01:=f0.trans f1
   by_cases hin:i<l.length
   · obtain ⟨x,hxi⟩:=some_at hin
     have hxr:=hg.2 x (List.mem_of_getElem? hxi)
     obtain ⟨bk,off,rfl,hc⟩:=(R.fr0 f01).get (by rw [ints_len]; omega)
     have c0:=hc _ _ (ints_at hxi)
     have htl:(negs (l.take i)).length=i:=by rw [negs_len,List.length_take]; omega
     have ea:negs (l.take (i+1))=negs (l.take i)++[-x]:=by rw [List.take_add_one,hxi]; simp [negs]
     simp -implicitDefEqProofs (disch:=omega) [go_sem,r0,r3,r6,r7,r8,c0]
     refine build1 rfl rfl ?_
     simp -implicitDefEqProofs (disch:=omega) [go_sem,r0,r3,r6,r7,r8]
     have f4:Fr (fun _=>False) h1 (h1.push (.cells #[.int .i64 (-x)] 3)):=(Fr.refl _ _).push
     refine appendB (vs:=ints (negs (l.take i))) (ws:=[.int .i64 (-x)]) (SB.fr f4 fun _ _ h=>h) (by rw [ints_len]) (SlAt.new (vs:=[.int .i64 (-x)])).row rfl (by simp [Value.oneCell']) (by omega) (by omega) ?_
     intro B5 bc5 h5 S5 f5 hB5
     obtain ⟨g1,g2,g3,g4⟩:=RwJ.next (f1.trans f4) hB f5 S5 hB5 ea
     simp -implicitDefEqProofs (disch:=omega) [go_sem,r0,r3,r6,r7,r8]
     exact ⟨⟨r6,r7,g1,i+1,B5,bc5,rfl,by omega,by rw [g3]; rfl,g2,g4⟩,by omega⟩
   · obtain rfl:i=l.length:=by omega
     rw [List.take_length] at r3 SB
     simp -implicitDefEqProofs (disch:=omega) [go_sem,r0,r3,r6,r7,r8]
     refine useC (runits_ok (M.fr0 f01) SB.row rfl (negs_good hg) hS hl) ?_
     rintro _ h2 ⟨f2,w,b,rfl,hb⟩
     simp -implicitDefEqProofs (disch:=omega) [go_sem,r0,r3,r6,r7,r8]
     refine ⟨f01.trans f2,_,rfl,fun hR=>?_⟩
     cases b with
     | false=>rfl
     | true =>
       obtain ⟨T,C,hT,hD⟩:=hb rfl
       exact (hR _ (Dull.pm C hD) fun x hx=>hT _ (mem_negs.2 (by rw [Int.neg_neg]; exact hx))).elim
end
end Xe
