/- Maps whose keys are integers, as functions; slices that begin anywhere in their block. -/
import Derived.Test.YtkghjecglmmloaaGreatSl2
namespace Xe
open Go
def lk (m:List (Int × Value)) (x:Int):Option Value:=match m with
 | []=>none
 | (y,v)::m=>if x=y then some v else lk m x
def KeysOk (es:List MapEntry) (m:List (Int × Value)):Prop:=es.map (fun e=>(e.key,e.val))=m.map fun p=>((Value.int .i64 p.1:Value),p.2)
theorem lk_none {m:List (Int × Value)} {x:Int}:lk m x=none↔x∉m.map Prod.fst:=by
 induction m with
 | nil=>simp [lk]
 | cons p m ih =>
   obtain ⟨y,v⟩:=p
   unfold lk
   by_cases e:x=y
   · simp [e]
   · simp [e,ih]
theorem findNow_spec {x:Int}:∀ {m:List (Int × Value)} {es:List MapEntry} {i:Nat},KeysOk es m→∃ o,Instr.findNow (.int .i64) (.int .i64 x) es i=some o ∧
   match o with
   | none=>lk m x=none
   | some (j,v)=>∃ t,j=i+t∧m[t]?=some (x,v)∧lk m x=some v
 | [],es,i,hk=>by
   have:es=[]:=by
     unfold KeysOk at hk
     simpa using hk
   subst this
   exact ⟨none,rfl,rfl⟩
 | (y,v)::m,[],i,hk=>by unfold KeysOk at hk; simp at hk
 | (y,v)::m,e::es,i,hk=>by
   unfold KeysOk at hk
   simp only [List.map_cons,List.cons.injEq,Prod.mk.injEq] at hk
   obtain ⟨⟨h1,h2⟩,h3⟩:=hk
   unfold Instr.findNow
   rw [h1]
   by_cases exy:x=y
   · subst exy
     refine ⟨some (i,e.val),by simp [Instr.sameNow],0,rfl,by rw [h2]; rfl,?_⟩
     unfold lk; rw [if_pos rfl,h2]
   · obtain ⟨o,ho,hs⟩:=findNow_spec (x:=x) (m:=m) (es:=es) (i:=i+1) h3
     have hb:(x==y)=false:=by simpa using exy
     refine ⟨o,by simp [Instr.sameNow,hb,ho],?_⟩
     cases o with
     | none=>simp only at hs ⊢; unfold lk; rw [if_neg exy]; exact hs
     | some p =>
       obtain ⟨j,u⟩:=p
       obtain ⟨t,ht,hm,hl⟩:=hs
       exact ⟨t+1,by omega,by simpa using hm,by unfold lk; rw [if_neg exy]; exact hl⟩
theorem lk_set {x:Int} {v w:Value}:∀ {m:List (Int × Value)} {t:Nat},(m.map Prod.fst).Nodup→m[t]?=some (x,w)→∀ y,lk (m.set t (x,v)) y=if y=x then some v else lk m y
 | [],t,_,h,_=>by simp at h
 | (z,u)::m,0,hn,h,y=>by
   simp only [List.getElem?_cons_zero,Option.some.injEq,Prod.mk.injEq] at h
   obtain ⟨rfl,rfl⟩:=h
   rw [List.set_cons_zero]
   unfold lk
   by_cases e:y=z <;> simp [e]
 | (z,u)::m,t+1,hn,h,y=>by
   rw [List.map_cons,List.nodup_cons] at hn
   rw [List.getElem?_cons_succ] at h
   rw [List.set_cons_succ]
   unfold lk
   rw [lk_set hn.2 h y]
   by_cases e:y=z
   · subst e
     have:y≠x:=fun e=>hn.1 (List.mem_map.2 ⟨_,List.mem_of_getElem? h,e.symm⟩)
     rw [if_pos rfl,if_neg this,if_pos rfl]
   · rw [if_neg e,if_neg e]
theorem lk_push {x:Int} {v:Value} {m:List (Int × Value)} (h:lk m x=none) (y:Int):lk (m++[(x,v)]) y=if y=x then some v else lk m y:=by
 induction m with
 | nil=>simp [lk]
 | cons p m ih =>
   obtain ⟨z,u⟩:=p
   unfold lk at h
   by_cases e:x=z
   · rw [if_pos e] at h; cases h
   · rw [if_neg e] at h
     rw [List.cons_append]
     unfold lk
     rw [ih h]
     by_cases e2:y=z
     · subst e2; rw [if_pos rfl,if_neg (Ne.symm e),if_pos rfl]
     · rw [if_neg e2,if_neg e2]
theorem lk_erase {x:Int} {w:Value}:∀ {m:List (Int × Value)} {t:Nat},(m.map Prod.fst).Nodup→m[t]?=some (x,w)→∀ y,lk (m.eraseIdx t) y=if y=x then none else lk m y
 | [],t,_,h,_=>by simp at h
 | (z,u)::m,0,hn,h,y=>by
   simp only [List.getElem?_cons_zero,Option.some.injEq,Prod.mk.injEq] at h
   obtain ⟨rfl,rfl⟩:=h
   rw [List.map_cons,List.nodup_cons] at hn
   rw [List.eraseIdx_cons_zero]
   by_cases e:y=z
   · subst e; rw [if_pos rfl]; exact lk_none.2 hn.1
   · rw [if_neg e]; unfold lk; rw [if_neg e]; cases m <;> rfl
 | (z,u)::m,t+1,hn,h,y=>by
   rw [List.map_cons,List.nodup_cons] at hn
   rw [List.getElem?_cons_succ] at h
   rw [List.eraseIdx_cons_succ]
   unfold lk
   rw [lk_erase hn.2 h y]
   by_cases e:y=z
   · subst e
     have:y≠x:=fun e=>hn.1 (List.mem_map.2 ⟨_,List.mem_of_getElem? h,e.symm⟩)
     rw [if_pos rfl,if_neg this,if_pos rfl]
   · rw [if_neg e,if_neg e]
theorem map_erase {α β:Type} (f:α→β):∀ (l:List α) (i:Nat),(l.eraseIdx i).map f=(l.map f).eraseIdx i
 | [],_=>rfl
 | _::_,0=>rfl
 | a::l,i+1=>by simp [map_erase f l i]
structure MapAt (h:Heap) (r:Nat) (f:Int→Option Value):Prop where
 ex:∃ es clk m,h[r]?=some (.map es clk)∧KeysOk es.toList m∧(m.map Prod.fst).Nodup∧(∀ x,f x=lk m x)∧∀ e∈es,e.born<clk
section
variable {h:Heap} {r:Nat} {f:Int→Option Value} {P:Program} {t kt e:TypeId}
theorem MapAt.lt (M:MapAt h r f):r<h.size:=by
 obtain ⟨es,clk,m,h1,_⟩:=M.ex
 exact (Array.getElem?_eq_some_iff.1 h1).1
theorem MapAt.same (M:MapAt h r f) {h':Heap} (e:h'[r]?=h[r]?):MapAt h' r f:=by
 obtain ⟨es,clk,m,h1,h2⟩:=M.ex
 exact ⟨es,clk,m,by rw [e]; exact h1,h2⟩
theorem MapAt.fr (M:MapAt h r f) {S:Nat→Prop} {h':Heap} (fr:Fr S h h') (hs:¬ S r):MapAt h' r f:=M.same (fr.same r M.lt hs)
theorem MapAt.cong (M:MapAt h r f) {g:Int→Option Value} (e:∀ x,f x=g x):MapAt h r g:=by
 obtain ⟨es,clk,m,h1,h2,h3,h4,h5⟩:=M.ex
 exact ⟨es,clk,m,h1,h2,h3,fun x=>by rw [← e x]; exact h4 x,h5⟩
theorem mapOf_at {es:Array MapEntry} {clk:Nat} (h1:h[r]?=some (.map es clk)):mapOf h (.map (some r))=some (r,es,clk):=by unfold mapOf; simp [h1]
theorem MapAt.look (M:MapAt h r f) {z:Value} (ht:mapT P t=some (kt,e)) (hz:zeroOf P e=some z) (x:Int):lookV P t (.map (some r)) (.int .i64 x) false h=some ((f x).getD z):=by
 obtain ⟨es,clk,m,h1,h2,h3,h4,h5⟩:=M.ex
 obtain ⟨o,ho,hs⟩:=findNow_spec (x:=x) (i:=0) h2
 have ho':findI es x=some o:=ho
 unfold lookV
 rw [ht]
 simp only [Option.bind_some,hz,mapOf_at h1,keyI,ho',Option.map_some,Bool.false_eq_true,if_false]
 rw [h4]
 cases o with
 | none=>simp only at hs; rw [hs]; rfl
 | some p=>obtain ⟨j,v⟩:=p; obtain ⟨_,_,_,hl⟩:=hs; rw [hl]; rfl
theorem set_fr {X:Obj}:Fr (fun y=>y=r) h (h.setIfInBounds r X):=⟨by simp,fun x hx hn=>by rw [Array.getElem?_setIfInBounds_ne (Ne.symm hn)]⟩
theorem set_at {X:Obj} (hr:r<h.size):(h.setIfInBounds r X)[r]?=some X:=by simp [hr]
theorem keys_set {es:Array MapEntry} {m:List (Int × Value)} {j t:Nat} {x:Int} {v:Value} (h2:KeysOk es.toList m) (hj:j=0+t):KeysOk (es.modify j fun e=>{ e with key:=.int .i64 x,val:=v }).toList (m.set t (x,v)):=by
 unfold KeysOk at *
 have hl:es.toList.length=m.length:=by have:=congrArg List.length h2; simpa using this
 apply List.ext_getElem?
 intro k
 have hk:=congrArg (·[k]?) h2
 simp only [List.getElem?_map] at hk
 simp only [List.getElem?_map,List.getElem?_set,Array.getElem?_toList] at hk ⊢
 rw [Array.getElem?_modify]
 by_cases e:j=k
 · have e2:t=k:=by omega
   subst e2
   rw [if_pos e,if_pos rfl]
   by_cases hlt:t<m.length
   · have : t < es.size := by have hl2:es.size=m.length:=by simpa using hl
                              omega
     simp [hlt,this]
   · have : ¬ t < es.size := by have hl2:es.size=m.length:=by simpa using hl
                                omega
     simp [hlt,this]
 · rw [if_neg e,if_neg (by omega)]
   exact hk
theorem MapAt.up (M:MapAt h r f) {x:Int} {v:Value} {j:Heap→Prop} (ht:mapT P t=some (kt,e)) (hk:∀ h',MapAt h' r (fun y=>if y=x then some v else f y)→Fr (fun y=>y=r) h h'→j h') :
   @mapUpK P t (.map (some r)) (.int .i64 x) v ⟨h⟩ ⟨j⟩:=by
 obtain ⟨es,clk,m,h1,h2,h3,h4,h5⟩:=M.ex
 obtain ⟨o,ho,hs⟩:=findNow_spec (x:=x) (i:=0) h2
 have ho':findI es x=some o:=ho
 refine ⟨kt,e,r,es,clk,x,o,ht,mapOf_at h1,rfl,ho',fun i u hiu=>?_,?_⟩
 · subst hiu
   obtain ⟨t,ht',hm,_⟩:=hs
   have hk:=congrArg (·[i]?) h2
   simp only [List.getElem?_map,Array.getElem?_toList] at hk
   rw [show i=t by omega] at hk ⊢
   rw [hm] at hk
   cases he:es[t]? with
   | none=>rw [he] at hk; cases hk
   | some a=>rw [he] at hk; simp only [Option.map_some,Option.some.injEq,Prod.mk.injEq] at hk ⊢; exact hk.1
 · refine hk _ ?_ set_fr
   cases o with
   | none =>
     refine ⟨_,_,m++[(x,v)],set_at M.lt,?_,?_,fun y=>?_,fun e he=>?_⟩
     · unfold KeysOk at *; simp [h2]
     · rw [List.map_append,List.nodup_append]
       refine ⟨h3,by simp,fun a ha b hb=>?_⟩
       simp only [List.map_cons,List.map_nil,List.mem_singleton] at hb
       subst hb
       exact fun e=>(lk_none.1 hs) (e ▸ ha)
     · rw [lk_push hs y]; rw [h4]
     · rcases Array.mem_push.1 he with he | rfl
       · have:=h5 e he; omega
       · exact Nat.lt_succ_self _
   | some p =>
     obtain ⟨i,u⟩:=p
     obtain ⟨t,ht',hm,_⟩:=hs
     refine ⟨_,_,m.set t (x,v),set_at M.lt,keys_set h2 ht',?_,fun y=>?_,fun e he=>?_⟩
     · have:(m.set t (x,v)).map Prod.fst=m.map Prod.fst:=by
        apply List.ext_getElem?
        intro k
        simp only [List.getElem?_map,List.getElem?_set]
        by_cases e:t=k
        · subst e; rw [if_pos rfl,if_pos (List.getElem?_eq_some_iff.1 hm).1,hm]; rfl
        · rw [if_neg e]
       rw [this]; exact h3
     · rw [lk_set h3 hm y]; rw [h4]
     · obtain ⟨k,hk,rfl⟩:=Array.mem_iff_getElem.1 he
       rw [Array.getElem_modify]
       have hk':k<es.size:=by simpa using hk
       split
       · exact (h5 es[k] (Array.getElem_mem hk'):es[k].born<clk)
       · exact h5 _ (Array.getElem_mem hk')
theorem MapAt.del (M:MapAt h r f) {x:Int} {j:Heap→Prop} (ht:mapT P t=some (kt,e)) (hk:∀ h',MapAt h' r (fun y=>if y=x then none else f y)→Fr (fun y=>y=r) h h'→j h') :
   @deleteK P t (.map (some r)) (.int .i64 x) ⟨h⟩ ⟨j⟩:=by
 obtain ⟨es,clk,m,h1,h2,h3,h4,h5⟩:=M.ex
 obtain ⟨o,ho,hs⟩:=findNow_spec (x:=x) (i:=0) h2
 have ho':findI es x=some o:=ho
 refine ⟨kt,e,r,es,clk,x,o,ht,mapOf_at h1,rfl,ho',?_⟩
 refine hk _ ?_ set_fr
 cases o with
 | none =>
   refine ⟨_,_,m,set_at M.lt,h2,h3,fun y=>?_,h5⟩
   rw [h4]
   by_cases e:y=x
   · rw [if_pos e,e]; exact hs.symm
   · rw [if_neg e]
 | some p =>
   obtain ⟨i,u⟩:=p
   obtain ⟨t,ht',hm,_⟩:=hs
   have ei:i=t:=by omega
   subst ei
   refine ⟨_,_,m.eraseIdx i,set_at M.lt,?_,?_,fun y=>?_,fun e he=>?_⟩
   · unfold KeysOk at *
     have hlt:i<es.size:=by
      have hl:es.toList.length=m.length:=by have:=congrArg List.length h2; simpa using this
      have:=(List.getElem?_eq_some_iff.1 hm).1
      simp at hl; omega
     rw [Array.eraseIdxIfInBounds,dif_pos hlt,Array.toList_eraseIdx,map_erase,h2,← map_erase]
   · exact h3.sublist ((List.eraseIdx_sublist m i).map _)
   · rw [lk_erase h3 hm y]; rw [h4]
   · refine h5 e ?_
     unfold Array.eraseIdxIfInBounds at he
     split at he
     · exact Array.mem_of_mem_eraseIdx he
     · exact he
theorem MapAt.clear (M:MapAt h r f) {d:TypeDesc} {j:Heap→Prop} (ht:P.underlying t=some d) (hk:∀ h',MapAt h' r (fun _=>none)→Fr (fun y=>y=r) h h'→j h'):@clearK P t (.map (some r)) ⟨h⟩ ⟨j⟩:=by
 obtain ⟨es,clk,m,h1,h2,h3,h4,h5⟩:=M.ex
 exact .inl ⟨d,r,es,clk,ht,mapOf_at h1,hk _ ⟨_,_,[],set_at M.lt,rfl,List.nodup_nil,fun _=>rfl,fun e he=>by simp at he⟩ set_fr⟩
theorem MapAt.new:MapAt (h.push (.map #[] 0)) h.size (fun _=>none):=⟨_,_,[],push_new,rfl,List.nodup_nil,fun _=>rfl,fun e he=>by simp at he⟩
@[go_sem] theorem makeMap_eq {k:Value→Heap→Prop}:@makeMapK ⟨h⟩ ⟨k⟩=k (.map (some h.size)) (h.push (.map #[] 0)):=rfl
end
structure ItAt (h:Heap) (it r n:Nat):Prop where
 ex:∃ es clk seen,h[r]?=some (.map es clk)∧h[it]?=some (.mapIter (some r) clk seen clk)∧n=(es.filter fun e=>!seen.contains e.born).size
section
variable {h:Heap} {r it n:Nat} {f:Int→Option Value} {P:Program} {t kt e:TypeId} {k:Value→Heap→Prop}
theorem ItAt.fr (I:ItAt h it r n) {S:Nat→Prop} {h':Heap} (fr:Fr S h h') (h1:¬ S it) (h2:¬ S r):ItAt h' it r n:=by
 obtain ⟨es,clk,seen,e1,e2,e3⟩:=I.ex
 exact ⟨es,clk,seen,by rw [fr.same r (Array.getElem?_eq_some_iff.1 e1).1 h2]; exact e1,by rw [fr.same it (Array.getElem?_eq_some_iff.1 e2).1 h1]; exact e2,e3⟩
theorem MapAt.range (M:MapAt h r f) (ht:P.underlying t=some (.map kt e)) (hk:∀ n h',ItAt h' h.size r n→MapAt h' r f→Fr (fun _=>False) h h'→k (.pointer (some ⟨h.size,0,none⟩)) h'):@rangeK P t (.map (some r)) ⟨h⟩ ⟨k⟩:=by
 have M':=M
 obtain ⟨es,clk,m,h1,h2,h3,h4,h5⟩:=M.ex
 show rangeX P t _ h k
 unfold rangeX
 rw [ht]
 simp only [h1]
 have f1:Fr (fun _=>False) h (h.push (.mapIter (some r) clk #[] clk)):=(Fr.refl _ _).push
 exact hk _ _ ⟨es,clk,#[],by rw [f1.same r M'.lt fun h=>h]; exact h1,push_new,rfl⟩ (M'.fr f1 fun h=>h) f1
theorem filter_lt {α:Type} {p q:α→Bool} (hq:∀ x,q x=true→p x=true):∀ {l:List α} {x:α},x∈l→p x=true→q x=false→(l.filter q).length<(l.filter p).length:=by
 have le:∀ l:List α,(l.filter q).length≤(l.filter p).length:=fun l=>by
   induction l with
   | nil=>simp
   | cons a l ih =>
     rw [List.filter_cons,List.filter_cons]
     by_cases h1:q a=true
     · rw [if_pos h1,if_pos (hq a h1)]; simp; exact ih
     · rw [if_neg h1]
       split
       · simp; omega
       · exact ih
 intro l
 induction l with
 | nil=>intro x hx; cases hx
 | cons a l ih =>
   intro x hx hp hn
   rw [List.filter_cons,List.filter_cons]
   rcases List.mem_cons.1 hx with rfl | hx
   · rw [if_pos hp,if_neg (by rw [hn]; simp)]
     have:=le l
     simp; omega
   · have:=ih hx hp hn
     by_cases h1:q a=true
     · rw [if_pos h1,if_pos (hq a h1)]; simp; exact this
     · rw [if_neg h1]
       split
       · simp; omega
       · exact this
theorem filter_lt' {es:Array MapEntry} {seen:Array Nat} {e:MapEntry} (he:e∈es) (hs:seen.contains e.born=false):(es.filter fun x=>!(seen.push e.born).contains x.born).size<(es.filter fun x=>!seen.contains x.born).size:=by
 have key:∀ p:MapEntry→Bool,(es.filter p).size=(es.toList.filter p).length:=fun p=>by rw [← Array.toList_filter,Array.length_toList]
 rw [key,key]
 refine filter_lt (x:=e) (fun x hx=>?_) (Array.mem_toList_iff.2 he) (by rw [hs]; rfl) (by simp)
 simp at hx ⊢
 exact hx.1
theorem MapAt.next (M:MapAt h r f) (I:ItAt h it r n) (h0:k (.tuple #[.bool false]) h)
   (h1:∀ x v w1 w2 n' h',n'<n→f x=some v→ItAt h' it r n'→MapAt h' r f→Fr (fun y=>y=it) h h'→entryV (.pointer (some ⟨it,0,none⟩)) h'=some (.tuple #[.int .i64 x,v])→k (.tuple #[.bool true,w1,w2]) h'):@nextK (.pointer (some ⟨it,0,none⟩)) ⟨h⟩ ⟨k⟩:=by
 have M':=M
 obtain ⟨es,clk,m,e1,e2,e3,e4,e5⟩:=M.ex
 obtain ⟨es',clk',seen,g1,g2,g3⟩:=I.ex
 rw [e1] at g1
 cases g1
 have hlt:=(Array.getElem?_eq_some_iff.1 g2).1
 have hne:it≠r:=fun h=>by rw [h,e1] at g2; cases g2
 show nextX _ h k
 unfold nextX
 simp only [g2,e1]
 refine ⟨e5,Nat.le_refl _,fun _=>h0,fun e he hs=>?_⟩
 have f1:Fr (fun y=>y=it) h (h.setIfInBounds it (.mapIter (some r) clk (seen.push e.born) clk)):=set_fr
 have q1:=set_at (h:=h) (r:=it) (X:=.mapIter (some r) clk (seen.push e.born) clk) hlt
 have q2:(h.setIfInBounds it (.mapIter (some r) clk (seen.push e.born) clk))[r]?=some (.map es clk):=by rw [f1.same r M'.lt (Ne.symm hne)]; exact e1
 obtain ⟨e',he',hb⟩:∃ e',es.find? (fun x=>x.born==e.born)=some e'∧e'∈es:=by
   cases hc:es.find? (fun x=>x.born==e.born) with
   | none=>exact absurd (Array.find?_eq_none.1 hc e he) (by simp)
   | some e'=>exact ⟨e',rfl,Array.mem_of_find?_eq_some hc⟩
 obtain ⟨i,hi,hei⟩:=Array.mem_iff_getElem.1 hb
 have hkv:=congrArg (fun l=>l[i]?) e2
 simp only [List.getElem?_map,Array.getElem?_toList,Array.getElem?_eq_getElem hi,hei,Option.map_some] at hkv
 cases hm:m[i]? with
 | none=>rw [hm] at hkv; cases hkv
 | some p =>
   rw [hm] at hkv
   simp only [Option.map_some,Option.some.injEq,Prod.mk.injEq] at hkv
   obtain ⟨k1,k2⟩:=hkv
   have hf:f p.1=some p.2:=by
    rw [e4]
    have:∀ {m:List (Int × Value)} {i:Nat} {p:Int × Value},(m.map Prod.fst).Nodup→m[i]?=some p→lk m p.1=some p.2:=fun {m}=>by
     induction m with
     | nil=>intro i p _ h; simp at h
     | cons a m ih =>
       intro i p hn h
       rw [List.map_cons,List.nodup_cons] at hn
       cases i with
       | zero=>simp at h; subst h; unfold lk; rw [if_pos rfl]
       | succ i =>
         rw [List.getElem?_cons_succ] at h
         have hne:p.1≠a.1:=fun e=>hn.1 (e ▸ List.mem_map.2 ⟨p,List.mem_of_getElem? h,rfl⟩)
         unfold lk
         rw [if_neg hne]
         exact ih hn.2 h
    exact this e3 hm
   refine h1 p.1 p.2 _ _ _ _ (by rw [g3]; exact filter_lt' he hs) hf ⟨es,clk,seen.push e.born,q2,q1,rfl⟩ ⟨es,clk,m,q2,e2,e3,e4,e5⟩ f1 ?_
   unfold entryV
   simp only [q1,q2,Array.back?_push]
   rw [if_pos trivial,he']
   simp [k1,k2]
end
structure SlO (h:Heap) (A:Option Addr) (cap:Nat) (vs:List Value):Prop where
 len:vs.length≤cap
 at':(A=none∧cap=0)∨∃ bk off,A=some ⟨bk,off,none⟩∧bk<h.size∧(∀ i,hfrz h ⟨bk,i,none⟩=false)∧(∀ i,i<cap→(hcell h ⟨bk,off+i,none⟩).isSome=true)∧∀ i v,vs[i]?=some v→hcell h ⟨bk,off+i,none⟩=some v
section
variable {h:Heap} {A:Option Addr} {cap:Nat} {vs:List Value}
theorem SlO.nil:SlO h none 0 []:=⟨Nat.le_refl _,.inl ⟨rfl,rfl⟩⟩
theorem SlO.blk_lt (S:SlO h A cap vs) {x:Nat} (hx:blk A x):x<h.size:=by
 obtain ⟨a,rfl,rfl⟩:=hx
 rcases S.at' with ⟨h1,_⟩ | ⟨bk,off,h1,h2,_⟩
 · cases h1
 · cases h1; exact h2
theorem SlO.base (S:SlO h A cap vs) (hv:0<cap):∃ bk off,A=some ⟨bk,off,none⟩∧bk<h.size∧(∀ i,hfrz h ⟨bk,i,none⟩=false)∧∀ i v,vs[i]?=some v→hcell h ⟨bk,off+i,none⟩=some v:=by
 rcases S.at' with ⟨_,h2⟩ | ⟨bk,off,h1,h2,h3,_,h4⟩
 · omega
 · exact ⟨bk,off,h1,h2,h3,h4⟩
theorem SlO.keep (S:SlO h A cap vs) {h':Heap} (hk:∀ x,blk A x→h'[x]?=h[x]?) (hz:h.size≤h'.size):SlO h' A cap vs:=by
 refine ⟨S.len,?_⟩
 rcases S.at' with h1 | ⟨bk,off,h1,h2,h3,h4,h5⟩
 · exact .inl h1
 · have e:=hk bk ⟨_,h1,rfl⟩
   refine .inr ⟨bk,off,h1,Nat.lt_of_lt_of_le h2 hz,fun i=>?_,fun i hi=>?_,fun i v hv=>?_⟩
   · rw [← h3 i]; unfold hfrz; rw [e]
   · rw [← h4 i hi]; unfold hcell; rw [e]
   · rw [← h5 i v hv]; unfold hcell; rw [e]
theorem SlO.fr {S:Nat→Prop} {h':Heap} (L:SlO h A cap vs) (f:Fr S h h') (hn:∀ x,blk A x→¬ S x):SlO h' A cap vs :=
 L.keep (fun x hx=>f.same x (L.blk_lt hx) (hn x hx)) f.size
theorem SlO.row (S:SlO h A cap vs):RowAt h A vs:=by
 rcases S.at' with ⟨h1,h2⟩ | ⟨bk,off,h1,_,_,_,h5⟩
 · have:=S.len
   exact .inl (List.eq_nil_of_length_eq_zero (by omega))
 · exact .inr ⟨bk,off,h1,h5⟩
theorem SlO.tail {bk off:Nat} {v:Value} (S:SlO h (some ⟨bk,off,none⟩) cap (v::vs)):SlO h (some ⟨bk,if cap=1 then off else off+1,none⟩) (cap-1) vs:=by
 have hl:=S.len
 rw [List.length_cons] at hl
 refine ⟨by omega,.inr ?_⟩
 rcases S.at' with ⟨h1,_⟩ | ⟨bk',off',h1,h2,h3,h4,h5⟩
 · cases h1
 · cases h1
   refine ⟨bk,_,rfl,h2,h3,fun i hi=>?_,fun i u hu=>?_⟩
   · rw [if_neg (by omega),show off+1+i=off+(i+1) by omega]; exact h4 (i+1) (by omega)
   · have hi:=(List.getElem?_eq_some_iff.1 hu).1
     rw [if_neg (by omega),show off+1+i=off+(i+1) by omega]; exact h5 (i+1) u (by simpa using hu)
theorem appendQ {e:TypeId} {bt n m xc:Nat} {z:Value} {xb:Option Addr} {ws:List Value} {k:Value→Heap→Prop} (S:SlO h A cap vs) (hn:n=vs.length) (hw:RowAt h xb ws) (hm:m=ws.length) (hone:∀ w∈ws,w.oneCell'=true)
   (hlen:(n+m)*bt≤2^47) (hlm:n+m<2^50)
   (hk:∀ A' cap' h',SlO h' A' cap' (vs++ws)→Fr (blk A) h h'→(∀ x,blk A' x→blk A x∨h.size≤x)→k (.slice A' (n+m) cap') h') :
   @appendK (some (e,1,bt,z)) (.slice A n cap) (.slice xb m xc) ⟨h⟩ ⟨k⟩:=by
 subst hn
 change appendX (some (e,1,bt,z)) (.slice A vs.length cap) (.slice xb m xc) h k
 refine ⟨ws,hw.load (by omega),fun hc=>?_,fun hc=>⟨hlen,by unfold maxLen; omega,vs,S.row.load (by omega),fun c rest hc2 hr=>?_⟩⟩
 · rcases S.at' with ⟨rfl,h2⟩ | ⟨bk,off,rfl,h2,h3,h4,h5⟩
   · have hm0:m=0:=by omega
     subst hm0
     have hws:ws=[]:=List.eq_nil_of_length_eq_zero (by omega)
     subst hws
     exact hk none cap h (by rw [List.append_nil]; exact S) (Fr.refl _ _) (fun x hx=>.inl hx)
   · show storeN h (Addr.add ⟨bk,off,none⟩ (vs.length*1)) 0 ws _
     rw [add_n,Nat.mul_one]
     refine storeN_some hone (fun j hj=>?_) h3 fun h' g1 g2 g3 g4=>?_
     · rw [Nat.add_zero,Nat.add_assoc]; exact h4 _ (by omega)
     · rw [Nat.add_zero] at g1 g2
       refine hk _ _ _ ⟨by rw [List.length_append]; omega,.inr ⟨bk,off,rfl,Nat.lt_of_lt_of_le h2 g4.size,g3,fun j hj=>?_,fun j x hx=>?_⟩⟩ (g4.mono fun x _ hx=>⟨_,rfl,hx.symm⟩) (fun x hx=>.inl hx)
       · by_cases hin:off+j<off+vs.length∨off+vs.length+ws.length≤off+j
         · rw [g2 _ hin]; exact h4 j hj
         · have:=g1 (j-vs.length) ws[j-vs.length] (List.getElem?_eq_getElem (by omega))
           rw [show off+vs.length+(j-vs.length)=off+j by omega] at this
           rw [this]; rfl
       · by_cases e:j<vs.length
         · rw [List.getElem?_append_left e] at hx
           rw [g2 _ (.inl (by omega))]
           exact h5 j x hx
         · rw [List.getElem?_append_right (by omega)] at hx
           have:=g1 _ _ hx
           rwa [show off+vs.length+(j-vs.length)=off+j by omega] at this
 · refine hk _ _ _ ⟨by rw [List.length_append]; omega,.inr ⟨h.size,0,rfl,by rw [push_size]; omega,fun j=>hfrz_push_new,fun j hj=>?_,fun j x hx=>?_⟩⟩ ((Fr.refl _ _).push) (fun x hx=>.inr ?_)
   · rw [Nat.zero_add,hcell_push_new]
     simp only [List.getElem?_toArray]
     have hl:(vs++ws++rest).length=c:=by rw [List.length_append,List.length_append,hr]; omega
     rw [List.getElem?_eq_getElem (by omega)]; rfl
   · rw [Nat.zero_add,hcell_push_new]
     simp only [List.getElem?_toArray]
     rw [List.getElem?_append_left (by simpa using (List.getElem?_eq_some_iff.1 hx).1)]
     exact hx
   · obtain ⟨a,ha,hx⟩:=hx
     cases ha; simp at hx; omega
end
end Xe
namespace Tp
theorem nodup_le:∀ {a b:List Nat},a.Nodup→(∀ x,x∈a→x∈b)→a.length≤b.length
 | [],_,_,_=>Nat.zero_le _
 | y::a,b,hn,hs=>by
   have hy:=hs y (List.mem_cons_self ..)
   rw [List.nodup_cons] at hn
   have:=nodup_le (a:=a) (b:=b.erase y) hn.2 (fun x hx=>(List.mem_erase_of_ne (fun e=>hn.1 (by rw [← e]; exact hx))).2 (hs x (List.mem_cons_of_mem _ hx)))
   rw [List.length_erase_of_mem hy] at this
   have:=List.length_pos_of_mem hy
   simp only [List.length_cons]; omega
structure St where
 lit:Int
 rs:Int
 lv:Nat
def find (l:List St) (v:Nat):Option Nat:=l.findIdx? (fun s=>s.lit.natAbs==v)
def LV (l:List St) (v:Nat):Int:=match find l v with
 | some k=>(match l[k]? with | some s=>s.lv | none=>-1)
 | none=>-1
def PL (l:List St) (v:Nat):Int:=match find l v with
 | some k=>k
 | none=>-1
def RS (l:List St) (v:Nat):Int:=match find l v with
 | some k=>(match l[k]? with | some s=>s.rs | none=>-1)
 | none=>-1
theorem find_append (l:List St) (s:St) (v:Nat):find (l++[s]) v=match find l v with
   | some k=>some k
   | none=>if s.lit.natAbs=v then some l.length else none:=by
 unfold find
 rw [List.findIdx?_append]
 cases h:List.findIdx? (fun s=>s.lit.natAbs==v) l with
 | some k=>rfl
 | none =>
   by_cases e:s.lit.natAbs=v
   · simp [List.findIdx?_cons,e]
   · simp [List.findIdx?_cons,e]
theorem find_some {l:List St} {v k:Nat} (h:find l v=some k):∃ s,l[k]?=some s∧s.lit.natAbs=v∧k<l.length:=by
 unfold find at h
 obtain ⟨hk,hp,_⟩:=List.findIdx?_eq_some_iff_getElem.1 h
 exact ⟨l[k],List.getElem?_eq_getElem hk,by simpa using hp,hk⟩
theorem find_none {l:List St} {v:Nat} (h:find l v=none) {k:Nat} {s:St} (hs:l[k]?=some s):s.lit.natAbs≠v:=by
 unfold find at h
 rw [List.findIdx?_eq_none_iff] at h
 have:=h s (List.mem_of_getElem? hs)
 simpa using this
theorem find_none' {l:List St} {v:Nat} (h:∀ s∈l,s.lit.natAbs≠v):find l v=none:=by
 unfold find
 rw [List.findIdx?_eq_none_iff]
 intro s hs
 simpa using h s hs
structure Good (vars:Nat) (l:List St):Prop where
 nd:l.Pairwise fun a b=>a.lit.natAbs≠b.lit.natAbs
 rng:∀ s∈l,1≤s.lit.natAbs∧s.lit.natAbs≤vars
theorem Good.nil (vars:Nat):Good vars []:=⟨List.Pairwise.nil,fun _ h=>(nomatch h)⟩
theorem Good.push {vars:Nat} {l:List St} (G:Good vars l) {s:St} (h:find l s.lit.natAbs=none) (h1:1≤s.lit.natAbs) (h2:s.lit.natAbs≤vars):Good vars (l++[s]):=by
 refine ⟨?_,fun x hx=>?_⟩
 · rw [List.pairwise_append]
   refine ⟨G.nd,List.pairwise_singleton _ _,fun a ha b hb=>?_⟩
   rw [List.mem_singleton] at hb
   subst hb
   obtain ⟨k,hk,rfl⟩:=List.getElem_of_mem ha
   exact find_none h (List.getElem?_eq_getElem hk)
 · rw [List.mem_append,List.mem_singleton] at hx
   rcases hx with hx | rfl
   · exact G.rng x hx
   · exact ⟨h1,h2⟩
theorem Good.sub {vars:Nat} {l m:List St} (G:Good vars l) (h:m.Sublist l):Good vars m:=⟨G.nd.sublist h,fun s hs=>G.rng s (h.mem hs)⟩
theorem Good.find {vars:Nat} {l:List St} (G:Good vars l) {k:Nat} {s:St} (hs:l[k]?=some s):find l s.lit.natAbs=some k:=by
 unfold Tp.find
 obtain ⟨hk,rfl⟩:=List.getElem?_eq_some_iff.1 hs
 rw [List.findIdx?_eq_some_iff_getElem]
 refine ⟨hk,by simp,fun j hj=>?_⟩
 have:=List.pairwise_iff_getElem.1 G.nd j k (by omega) hk hj
 simpa using this
theorem Good.lv {vars:Nat} {l:List St} (G:Good vars l) {k:Nat} {s:St} (hs:l[k]?=some s):LV l s.lit.natAbs=s.lv:=by
 unfold LV; rw [G.find hs]; simp only [hs]
theorem Good.pl {vars:Nat} {l:List St} (G:Good vars l) {k:Nat} {s:St} (hs:l[k]?=some s):PL l s.lit.natAbs=k:=by
 unfold PL; rw [G.find hs]
theorem Good.rs {vars:Nat} {l:List St} (G:Good vars l) {k:Nat} {s:St} (hs:l[k]?=some s):RS l s.lit.natAbs=s.rs:=by
 unfold RS; rw [G.find hs]; simp only [hs]
theorem LV_push {l:List St} {s:St} (h:find l s.lit.natAbs=none) (v:Nat):LV (l++[s]) v=if v=s.lit.natAbs then (s.lv:Int) else LV l v:=by
 unfold LV
 rw [find_append]
 by_cases e:v=s.lit.natAbs
 · subst e; rw [h]; simp
 · rw [if_neg e]
   cases hf:find l v with
   | none=>simp [Ne.symm e]
   | some k =>
     obtain ⟨x,hx,_,hk⟩:=find_some hf
     simp only [List.getElem?_append_left hk]
theorem PL_push {l:List St} {s:St} (h:find l s.lit.natAbs=none) (v:Nat):PL (l++[s]) v=if v=s.lit.natAbs then (l.length:Int) else PL l v:=by
 unfold PL
 rw [find_append]
 by_cases e:v=s.lit.natAbs
 · subst e; rw [h]; simp
 · rw [if_neg e]
   cases hf:find l v with
   | none=>simp [Ne.symm e]
   | some k=>simp
theorem RS_push {l:List St} {s:St} (h:find l s.lit.natAbs=none) (v:Nat):RS (l++[s]) v=if v=s.lit.natAbs then s.rs else RS l v:=by
 unfold RS
 rw [find_append]
 by_cases e:v=s.lit.natAbs
 · subst e; rw [h]; simp
 · rw [if_neg e]
   cases hf:find l v with
   | none=>simp [Ne.symm e]
   | some k =>
     obtain ⟨x,hx,_,hk⟩:=find_some hf
     simp only [List.getElem?_append_left hk]
theorem PL_lt (l:List St) (v:Nat):-1≤PL l v∧PL l v<l.length:=by
 unfold PL
 cases hf:find l v with
 | none=>simp only; omega
 | some k=>obtain ⟨_,_,_,hk⟩:=find_some hf; simp only; omega
theorem PL_neg {l:List St} {v:Nat}:PL l v<0↔find l v=none:=by
 unfold PL
 cases hf:find l v with
 | none=>simp
 | some k=>simp
theorem none_of {l:List St} {v:Nat} (h:find l v=none):LV l v=-1∧PL l v=-1∧RS l v=-1:=by
 unfold LV PL RS; rw [h]; exact ⟨rfl,rfl,rfl⟩
theorem Good.len {vars:Nat} {l:List St} (G:Good vars l):l.length≤vars:=by
 have h1:(l.map fun s=>s.lit.natAbs).Nodup:=by rw [List.Nodup,List.pairwise_map]; exact G.nd
 have h2:∀ x∈l.map (fun s=>s.lit.natAbs),x∈List.range' 1 vars:=by
  intro x hx
  obtain ⟨s,hs,rfl⟩:=List.mem_map.1 hx
  have:=G.rng s hs
  rw [List.mem_range'_1]; omega
 have:=nodup_le h1 h2
 simpa using this
inductive Lvs:List St→Nat→Prop
 | nil:Lvs [] 0
 | push {l:List St} {n:Nat} (x r:Int):Lvs l n→Lvs (l++[⟨x,r,n⟩]) n
 | dec {l:List St} {n:Nat} (x:Int):Lvs l n→Lvs (l++[⟨x,-1,n+1⟩]) (n+1)
theorem Lvs.le {l:List St} {n:Nat} (h:Lvs l n):∀ s∈l,s.lv≤n:=by
 induction h with
 | nil=>exact fun _ h=>(nomatch h)
 | push x r _ ih =>
   intro s hs
   rw [List.mem_append,List.mem_singleton] at hs
   rcases hs with hs | rfl
   · exact ih s hs
   · exact Nat.le_refl _
 | dec x _ ih =>
   intro s hs
   rw [List.mem_append,List.mem_singleton] at hs
   rcases hs with hs | rfl
   · have:=ih s hs; omega
   · exact Nat.le_refl _
theorem Lvs.len {l:List St} {n:Nat} (h:Lvs l n):n≤l.length:=by
 induction h with
 | nil=>exact Nat.le_refl _
 | push x r _ ih=>rw [List.length_append]; simp; omega
 | dec x _ ih=>rw [List.length_append]; simp; omega
def cutTo (l:List St) (k:Nat):List St:=l.filter fun s=>decide (s.lv≤k)
theorem Lvs.cut {l:List St} {n:Nat} (h:Lvs l n):∀ k,k≤n→Lvs (cutTo l k) k:=by
 induction h with
 | nil => intro k hk; obtain rfl:k=0:=by omega
          exact .nil
 | @push l n x r h ih =>
   intro k hk
   unfold cutTo
   rw [List.filter_append]
   by_cases e:n≤k
   · obtain rfl:k=n:=by omega
     have:=ih k (Nat.le_refl _)
     simp only [List.filter_cons,Nat.le_refl,decide_true,if_true,List.filter_nil]
     exact .push x r this
   · simp only [List.filter_cons,decide_eq_true_eq,if_neg e,List.filter_nil,List.append_nil]
     exact ih k (by omega)
 | @dec l n x h ih =>
   intro k hk
   unfold cutTo
   rw [List.filter_append]
   by_cases e:n+1≤k
   · obtain rfl:k=n+1:=by omega
     have hall:l.filter (fun s=>decide (s.lv≤n+1))=l.filter (fun s=>decide (s.lv≤n)):=by
      refine List.filter_congr fun s hs=>?_
      have:=h.le s hs
      rw [decide_eq_true (by omega),decide_eq_true (by omega)]
     have:=ih n (Nat.le_refl _)
     rw [hall]
     simp only [List.filter_cons,Nat.le_refl,decide_true,if_true,List.filter_nil]
     exact .dec x this
   · simp only [List.filter_cons,decide_eq_true_eq,if_neg e,List.filter_nil,List.append_nil]
     exact ih k (by omega)
theorem Lvs.mono {l:List St} {n:Nat} (h:Lvs l n):l.Pairwise fun a b=>a.lv≤b.lv:=by
 induction h with
 | nil=>exact .nil
 | push x r h ih =>
   rw [List.pairwise_append]
   exact ⟨ih,List.pairwise_singleton _ _,fun a ha b hb=>by rw [List.mem_singleton] at hb; subst hb; exact h.le a ha⟩
 | dec x h ih =>
   rw [List.pairwise_append]
   exact ⟨ih,List.pairwise_singleton _ _,fun a ha b hb=>by rw [List.mem_singleton] at hb; subst hb; have:=h.le a ha; simp only; omega⟩
theorem cut_take {l:List St} (hp:l.Pairwise fun a b=>a.lv≤b.lv) (k:Nat):cutTo l k=l.take (cutTo l k).length:=by
 induction l with
 | nil=>rfl
 | cons s l ih =>
   unfold cutTo
   rw [List.pairwise_cons] at hp
   by_cases e:s.lv≤k
   · simp only [List.filter_cons,decide_eq_true e,if_true,List.length_cons,List.take_succ_cons]
     exact congrArg (s::·) (ih hp.2)
   · have:l.filter (fun s=>decide (s.lv≤k))=[]:=by
      rw [List.filter_eq_nil_iff]
      intro x hx
      have:=hp.1 x hx
      rw [decide_eq_true_eq]; omega
     simp [e,this]
theorem cut_all {l:List St} {n k:Nat} (h:Lvs l n) (hk:n≤k):cutTo l k=l:=by
 unfold cutTo
 rw [List.filter_eq_self]
 intro s hs
 have:=h.le s hs
 exact decide_eq_true (by omega)
def lastLv (l:List St):Nat:=match l.getLast? with | some s=>s.lv | none=>0
theorem Lvs.last {l:List St} {n:Nat} (h:Lvs l n):lastLv l=n:=by
 cases h <;> simp [lastLv]
theorem Lvs.at {l:List St} {n:Nat} (h:Lvs l n):∀ i s,l[i]?=some s→lastLv (l.take i)≤s.lv∧s.lv≤lastLv (l.take i)+1∧(lastLv (l.take i)<s.lv→s.rs=-1):=by
 induction h with
 | nil=>exact fun _ _ h=>(nomatch h)
 | @push l n x r h ih =>
   intro i s hs
   by_cases hi:i<l.length
   · rw [List.getElem?_append_left hi] at hs
     rw [List.take_append_of_le_length (by omega)]
     exact ih i s hs
   · rw [List.getElem?_append_right (by omega)] at hs
     have:i-l.length=0:=by
      cases hj:i-l.length with
      | zero=>rfl
      | succ j=>rw [hj] at hs; cases hs
     rw [this] at hs
     simp only [List.getElem?_cons_zero,Option.some.injEq] at hs
     subst hs
     have e:i=l.length:=by omega
     subst e
     rw [List.take_left' rfl,h.last]
     simp only
     omega
 | @dec l n x h ih =>
   intro i s hs
   by_cases hi:i<l.length
   · rw [List.getElem?_append_left hi] at hs
     rw [List.take_append_of_le_length (by omega)]
     exact ih i s hs
   · rw [List.getElem?_append_right (by omega)] at hs
     have:i-l.length=0:=by
      cases hj:i-l.length with
      | zero=>rfl
      | succ j=>rw [hj] at hs; cases hs
     rw [this] at hs
     simp only [List.getElem?_cons_zero,Option.some.injEq] at hs
     subst hs
     have e:i=l.length:=by omega
     subst e
     rw [List.take_left' rfl,h.last]
     refine ⟨?_,?_,fun _=>rfl⟩ <;> simp only <;> omega
end Tp
/- Steps as rows of cells. -/
namespace Xe
open Go Tp
def ints (l:List Int):List Value:=l.map (Value.int .i64)
theorem ints_len (l:List Int):(ints l).length=l.length:=List.length_map ..
theorem ints_at {l:List Int} {i:Nat} {x:Int} (h:l[i]?=some x):(ints l)[i]?=some (.int .i64 x):=by simp [ints,h]
theorem ints_append (l m:List Int):ints (l++m)=ints l++ints m:=by simp [ints]
theorem ints_one {l:List Int}:∀ w∈ints l,w.oneCell'=true:=by
 intro w hw
 obtain ⟨x,_,rfl⟩:=List.mem_map.1 hw
 rfl
def lits (l:List St):List Int:=l.map (·.lit)
end Xe
namespace Xe
open Go Go.Proofs
set_option maxRecDepth 16000
section
variable {P:Program} {t:Nat} {a:Int}
theorem and_mask (h0:0≤a) (h1:a<4294967296):cmpV P .and t (.int .u64 a) (.int .u64 4294967295)=some (.int .u64 a):=by
 obtain ⟨n,rfl⟩:∃ n:Nat,a=n:=⟨a.toNat,by omega⟩
 have e:((BitVec.ofInt 64 (n:Int)) &&& (BitVec.ofInt 64 4294967295)).toNat=n:=by
  rw [BitVec.toNat_and]
  have e1:(BitVec.ofInt 64 (n:Int)).toNat=n:=by simp; omega
  have e2:(BitVec.ofInt 64 4294967295).toNat=2^32-1:=by decide
  rw [e1,e2,Nat.and_two_pow_sub_one_eq_mod]; omega
 have e3:(IntKind.u64.wrap ((BitVec.ofInt IntKind.u64.bits (n:Int)) &&& (BitVec.ofInt IntKind.u64.bits 4294967295)).toNat)=(n:Int):=by
  show IntKind.u64.wrap (((BitVec.ofInt 64 (n:Int)) &&& (BitVec.ofInt 64 4294967295)).toNat)=_
  rw [e]; exact IntWalk.u64_in _ (by omega)
 simp only [cmpV,binV,if_true,e3]
theorem shr_32 (h0:0≤a) (h1:a<4294967296):cmpV P .shr t (.int .u64 a) (.int .u64 32)=some (.int .u64 0):=by
 have e:a.fdiv (2^(min (32:Int).toNat IntKind.u64.bits))=0:=by
  show a.fdiv 4294967296=0
  rw [Int.fdiv_eq_ediv_of_nonneg _ (by omega)]; omega
 simp only [cmpV,binV,if_true,e]
 simp
end
theorem mul64_ok {h:Heap} {n:Nat} (hn:n<4294967296):CallsH Tryz.prog 240 [.int .u64 1,.int .u64 n] h fun r h'=>r=.tuple #[.int .u64 0,.int .u64 n]∧h'=h:=by
 refine calls_of 51 [.tmp 4,.tmp 5] Go.Proofs.Tryz.func240 rfl rfl rfl ?_
 simp -implicitDefEqProofs (disch:=omega) [go_sem,and_mask,shr_32]
theorem mul_ok {h:Heap} {n:Nat} (hn:n<4294967296):CallsH Tryz.prog 205 [.int .u64 1,.int .u64 n] h fun r h'=>r=.tuple #[.int .u64 0,.int .u64 n]∧h'=h:=by
 refine calls_of 30 [.tmp 4,.tmp 5] Go.Proofs.Tryz.func205 rfl rfl rfl ?_
 simp -implicitDefEqProofs (disch:=omega) [go_sem]
 refine useC (mul64_ok hn) ?_
 rintro _ h' ⟨rfl,rfl⟩
 simp -implicitDefEqProofs (disch:=omega) [go_sem]
theorem repeatI_ok {h:Heap} {A:Option Addr} {cap n:Nat} {x:Int} (R:RowAt h A [.int .i64 x]) (hn:1≤n) (hn2:n≤16777217) :
   CallsH Tryz.prog 152 [.slice A 1 cap,.int .i64 n] h fun r h'=>r=.slice (some ⟨h.size,0,none⟩) n n∧FnB h' h.size n (fun _=>.int .i64 x)∧Fr (fun _=>False) h h':=by
 refine calls_of 48 [.tmp 4] Go.Proofs.Tryz.func152 rfl rfl rfl ?_
 simp -implicitDefEqProofs (disch:=omega) [go_sem]
 refine useC (mul_ok (n:=n) (by omega)) ?_
 rintro _ h1 ⟨rfl,rfl⟩
 simp -implicitDefEqProofs (disch:=omega) [go_sem]
 have Z:FnB (h1.push (.cells (zerosOf (Value.int .i64 0).cells n) 3)) h1.size n (fun _=>.int .i64 0):=FnB.zeros
 have f0:Fr (fun _=>False) h1 (h1.push (.cells (zerosOf (Value.int .i64 0).cells n) 3)):=(Fr.refl _ _).push
 have e2:(n:Int).toNat*1=n:=by omega
 rw [e2]
 refine copyN (ws:=[.int .i64 x]) (R.fr0 f0) (by simp; omega) (by simp [Value.oneCell']) (fun j hj=>by rw [Z.at' _ (by simp at hj; omega)]; rfl) Z.fz ?_
 intro h3 g1 g2 g3 g4
 simp -implicitDefEqProofs (disch:=omega) [go_sem]
 refine loopK (fun ρ h'=>ρ 7=.slice (some ⟨h1.size,0,none⟩) n n∧∃ j:Nat,ρ 8=.int .i64 j∧1≤j∧j≤n∧FnB h' h1.size n (fun i=>if i<j then .int .i64 x else .int .i64 0)∧Fr (fun _=>False) h1 h')
   (fun ρ _=>n-(intOf (ρ 8)).toNat) (by kernel_rfl) ?_ ?_
 · refine ⟨rfl,1,by congr 1,by omega,hn,⟨fun i hi=>?_,g3,Nat.lt_of_lt_of_le Z.lt g4.size⟩,f0.trans' g4 (fun x hx e=>by omega)⟩
   by_cases e:i<1
   · have e0:i=0:=by omega
     subst e0
     rw [if_pos e]
     have:=g1 0 (.int .i64 x) rfl
     simpa using this
   · rw [if_neg e,g2 i (by simp; omega)]; exact Z.at' i hi
 · clear Z g1 g2 g3 g4 f0 e2
   rintro ρ h4 ⟨r7,j,r8,hj1,hj2,Z,fr⟩
   by_cases hj:j<n
   · simp -implicitDefEqProofs (disch:=omega) [go_sem,r7,r8]
     refine drawK [(0,0),(1,0),(2,0),(3,0),(4,0),(5,0),(6,0),(7,3),(8,0),(9,0)] ?_
     simp -implicitDefEqProofs (disch:=omega) [go_sem,r7,r8]
     refine copyN (ws:=List.replicate (min j (n-j)) (.int .i64 x)) (.inr ⟨_,_,rfl,fun i v hv=>?_⟩) ?_ (fun w hw=>by rw [List.eq_of_mem_replicate hw]; rfl) (fun i hi=>?_) Z.fz ?_
     · rw [List.getElem?_replicate] at hv
       split at hv
       · rename_i hi
         cases hv
         rw [Nat.zero_add,Z.at' i (by omega),if_pos (by omega)]
       · cases hv
     · simp
     · rw [List.length_replicate] at hi
       rw [Z.at' _ (by omega)]; rfl
     · intro h5 g1 g2 g3 g4
       rw [List.length_replicate] at g2
       simp -implicitDefEqProofs (disch:=omega) [go_sem,r7,r8]
       refine ⟨⟨j+min j (n-j),by omega,by omega,by omega,⟨fun i hi=>?_,g3,Nat.lt_of_lt_of_le Z.lt g4.size⟩,fr.trans' g4 (fun x hx e=>by omega)⟩,by omega⟩
       by_cases e1:i<j
       · rw [g2 i (.inl (by omega)),Z.at' i hi,if_pos e1,if_pos (by omega)]
       · by_cases e2:i<j+min j (n-j)
         · rw [if_pos e2]
           have:=g1 (i-j) (.int .i64 x) (by rw [List.getElem?_replicate,if_pos (by omega)])
           rwa [show j+(i-j)=i by omega] at this
         · rw [if_neg e2,g2 i (.inr (by omega)),Z.at' i hi,if_neg e1]
   · have hjn:j=n:=by omega
     subst hjn
     simp -implicitDefEqProofs (disch:=omega) [go_sem,r7,r8]
     exact ⟨Z.cong fun i hi=>by rw [if_pos hi],fr⟩
theorem repeatC_ok {h:Heap} {A:Option Addr} {cap n:Nat} {re im:Nat} (R:RowAt h A [.complex .f64 re im]) (hn:1≤n) (hn2:n≤16777217) :
   CallsH Tryz.prog 153 [.slice A 1 cap,.int .i64 n] h fun r h'=>r=.slice (some ⟨h.size,0,none⟩) n n∧FnB h' h.size n (fun _=>.complex .f64 re im)∧Fr (fun _=>False) h h':=by
 refine calls_of 48 [.tmp 4] Go.Proofs.Tryz.func153 rfl rfl rfl ?_
 simp -implicitDefEqProofs (disch:=omega) [go_sem]
 refine useC (mul_ok (n:=n) (by omega)) ?_
 rintro _ h1 ⟨rfl,rfl⟩
 simp -implicitDefEqProofs (disch:=omega) [go_sem]
 have Z:FnB (h1.push (.cells (zerosOf (Value.complex .f64 (Fx.enc 0) (Fx.enc 0)).cells n) 108)) h1.size n (fun _=>.complex .f64 (Fx.enc 0) (Fx.enc 0)):=FnB.zeros
 have f0:Fr (fun _=>False) h1 (h1.push (.cells (zerosOf (Value.complex .f64 (Fx.enc 0) (Fx.enc 0)).cells n) 108)):=(Fr.refl _ _).push
 have e2:(n:Int).toNat*1=n:=by omega
 rw [e2]
 refine copyN (ws:=[.complex .f64 re im]) (R.fr0 f0) (by simp; omega) (by simp [Value.oneCell']) (fun j hj=>by rw [Z.at' _ (by simp at hj; omega)]; rfl) Z.fz ?_
 intro h3 g1 g2 g3 g4
 simp -implicitDefEqProofs (disch:=omega) [go_sem]
 refine loopK (fun ρ h'=>ρ 7=.slice (some ⟨h1.size,0,none⟩) n n∧∃ j:Nat,ρ 8=.int .i64 j∧1≤j∧j≤n∧FnB h' h1.size n (fun i=>if i<j then .complex .f64 re im else .complex .f64 (Fx.enc 0) (Fx.enc 0))∧Fr (fun _=>False) h1 h')
   (fun ρ _=>n-(intOf (ρ 8)).toNat) (by kernel_rfl) ?_ ?_
 · refine ⟨rfl,1,by congr 1,by omega,hn,⟨fun i hi=>?_,g3,Nat.lt_of_lt_of_le Z.lt g4.size⟩,f0.trans' g4 (fun x hx e=>by omega)⟩
   by_cases e:i<1
   · have e0:i=0:=by omega
     subst e0
     rw [if_pos e]
     have:=g1 0 (.complex .f64 re im) rfl
     simpa using this
   · rw [if_neg e,g2 i (by simp; omega)]; exact Z.at' i hi
 · clear Z g1 g2 g3 g4 f0 e2
   rintro ρ h4 ⟨r7,j,r8,hj1,hj2,Z,fr⟩
   by_cases hj:j<n
   · simp -implicitDefEqProofs (disch:=omega) [go_sem,r7,r8]
     refine drawK [(0,0),(1,0),(2,0),(3,0),(4,0),(5,0),(6,0),(7,3),(8,0),(9,0)] ?_
     simp -implicitDefEqProofs (disch:=omega) [go_sem,r7,r8]
     refine copyN (ws:=List.replicate (min j (n-j)) (.complex .f64 re im)) (.inr ⟨_,_,rfl,fun i v hv=>?_⟩) ?_ (fun w hw=>by rw [List.eq_of_mem_replicate hw]; rfl) (fun i hi=>?_) Z.fz ?_
     · rw [List.getElem?_replicate] at hv
       split at hv
       · rename_i hi
         cases hv
         rw [Nat.zero_add,Z.at' i (by omega),if_pos (by omega)]
       · cases hv
     · simp
     · rw [List.length_replicate] at hi
       rw [Z.at' _ (by omega)]; rfl
     · intro h5 g1 g2 g3 g4
       rw [List.length_replicate] at g2
       simp -implicitDefEqProofs (disch:=omega) [go_sem,r7,r8]
       refine ⟨⟨j+min j (n-j),by omega,by omega,by omega,⟨fun i hi=>?_,g3,Nat.lt_of_lt_of_le Z.lt g4.size⟩,fr.trans' g4 (fun x hx e=>by omega)⟩,by omega⟩
       by_cases e1:i<j
       · rw [g2 i (.inl (by omega)),Z.at' i hi,if_pos e1,if_pos (by omega)]
       · by_cases e2:i<j+min j (n-j)
         · rw [if_pos e2]
           have:=g1 (i-j) (.complex .f64 re im) (by rw [List.getElem?_replicate,if_pos (by omega)])
           rwa [show j+(i-j)=i by omega] at this
         · rw [if_neg e2,g2 i (.inr (by omega)),Z.at' i hi,if_neg e1]
   · have hjn:j=n:=by omega
     subst hjn
     simp -implicitDefEqProofs (disch:=omega) [go_sem,r7,r8]
     exact ⟨Z.cong fun i hi=>by rw [if_pos hi],fr⟩
theorem clone_ok {h:Heap} {A:Option Addr} {cap n:Nat} {vs:List Value} (R:RowAt h A vs) (hn:n=vs.length) (hone:∀ w∈vs,w.oneCell'=true) (hl:n<2^40) :
   CallsH Tryz.prog 67 [.slice A n cap] h fun r h'=>∃ A' c',r=.slice A' n c'∧SlAt h' A' c' vs∧(∀ x,blk A' x→h.size≤x)∧Fr (fun _=>False) h h':=by
 refine calls_of 8 [.tmp 2] Go.Proofs.Tryz.func67 rfl rfl rfl ?_
 subst hn
 cases A with
 | none =>
   have hv:vs=[]:=by
     rcases R with h | ⟨_,_,h,_⟩
     · exact h
     · cases h
   subst hv
   simp -implicitDefEqProofs (disch:=omega) [go_sem]
   exact ⟨none,0,⟨rfl,rfl⟩,SlAt.nil _,fun x ⟨_,h,_⟩=>(nomatch h),Fr.refl _ _⟩
 | some a =>
   simp -implicitDefEqProofs (disch:=omega) [go_sem]
   refine build0 ?_
   simp -implicitDefEqProofs (disch:=omega) [go_sem]
   have f0:Fr (fun _=>False) h (h.push (.cells #[] 3)):=(Fr.refl _ _).push
   refine appendN (vs:=[]) (cap:=0) (SlAt.new (vs:=[]) (e:=3)) rfl (R.fr0 f0) (by omega) (by omega) hone (by omega) (by omega) ?_
   intro A' c' h2 S f hA
   simp -implicitDefEqProofs (disch:=omega) [go_sem]
   refine ⟨A',c',⟨rfl,rfl⟩,?_,fun x hx=>?_,f0.trans' f fun x hx ⟨a,ha,e⟩=>?_⟩
   · rw [Nat.mul_one] at S; exact S
   · rcases hA x hx with ⟨a,ha,rfl⟩ | h
     · cases ha; exact Nat.le_refl _
     · rw [push_size] at h; omega
   · cases ha; simp at e; omega
end Xe
