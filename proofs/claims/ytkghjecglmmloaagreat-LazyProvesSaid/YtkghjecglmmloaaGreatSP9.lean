/- An argument that is a slice of slices of integers, opened. -/
import Derived.Test.YtkghjecglmmloaaGreatSl2
import Derived.Test.YtkghjecglmmloaaGreatWA
import Derived.Test.YtkghjecglmmloaaGreatT17f
namespace Xe
open Go Go.ChangeShapes Go.WideShapes Go.ChangeAt Go.RowKit Go.Proofs
section
variable {H:Type} {enc:TypeId × Value→H} {P:Program} {w:World} {sp:Nat→Bool} {held:Bool} {r:Reach} {b0:Nat} {t e q:TypeId}
theorem open_sliceC {n fuel:Nat} {cs0:List Value} {x0:DataW H × List MemPlace} (ht:P.underlying t=some (.slice e)) (hc:P.cellsOf e=n) (hn:0<n) (hf:DataW.trod enc P w 0 sp held fuel t cs0=some x0) :
   ∃ A len cap,cs0=[.slice A len cap]∧len<2^63∧∀ i,i<len→∃ bk off cs fuel x,A=some ⟨bk,off,none⟩∧cs.length=n∧(∀ j u,cs[j]?=some u→hcell w.heap ⟨bk,off+i*n+j,none⟩=some u) ∧
     DataW.trod enc P w 0 sp held fuel e cs=some x:=by
 rcases DataW.trod_slice ht hf with ⟨hcs,_⟩ | ⟨a',len',cap',elems,rest,m,_,hcs,_,_,hl,hm,hlen,hel,_,_⟩
 · exact ⟨none,0,0,hcs,by decide,fun i hi=>by omega⟩
 · have hm2:cap'≤2^63-1:=hm
   refine ⟨some a',len',cap',hcs,by omega,fun i hi=>?_⟩
   have h1:=hel i hi
   rw [List.getElem?_eq_getElem (by omega),Option.bind_eq_some_iff] at h1
   obtain ⟨cs,h2,h3⟩:=h1
   rw [hc] at h2
   obtain ⟨_,hl2,hcell⟩:=World.cells?_some h2
   have hspot:a'.spot=none:=by
     have g1:=hel 0 (by omega)
     rw [List.getElem?_eq_getElem (by omega),Option.bind_eq_some_iff] at g1
     obtain ⟨cs0,g2,_⟩:=g1
     rw [hc] at g2
     obtain ⟨_,gl,gcell⟩:=World.cells?_some g2
     have h0:=gcell 0 hn
     rw [List.getElem?_eq_getElem (by omega),Nat.zero_mul,add_0,add_0] at h0
     unfold World.cell? at h0
     split at h0
     · split at h0
       · cases h0
       · rename_i hns
         simpa using hns
     · cases h0
   obtain ⟨bk,off,spot⟩:=a'
   simp only at hspot
   subst hspot
   refine ⟨bk,off,cs,m,_,rfl,hl2,fun j u hj=>?_,h3⟩
   have hj':=(List.getElem?_eq_some_iff.1 hj).1
   have h4:=hcell j (by omega)
   rw [add_n,add_n] at h4
   exact h4.trans hj
theorem open_intsC {fuel:Nat} {cs0:List Value} {x0:DataW H × List MemPlace} (ht:P.underlying t=some (.slice e)) (he:P.underlying e=some (.int .i64)) (hc:P.cellsOf e=1) (hf:DataW.trod enc P w 0 sp held fuel t cs0=some x0) :
   ∃ A c,∃ l:List Int,cs0=[.slice A l.length c]∧l.length<2^63∧RowAt w.heap A (ints l)∧∀ x∈l,-9223372036854775808≤x∧x≤9223372036854775807:=by
 obtain ⟨A,len,cap,rfl,hl,hel⟩:=open_sliceC ht hc (by omega) hf
 have key:∀ i,∃ y:Int,i<len→-9223372036854775808≤y∧y≤9223372036854775807∧∃ bk off,A=some ⟨bk,off,none⟩∧hcell w.heap ⟨bk,off+i,none⟩=some (.int .i64 y):=fun i=>by
   by_cases hi:i<len
   · obtain ⟨bk,off,cs,fuel,x,rfl,hl,hcell,hx⟩:=hel i hi
     obtain ⟨y,rfl,_,hw⟩:=DataW.trod_int he hx
     have:=hcell 0 _ rfl
     simp only [Nat.mul_one,Nat.add_zero] at this
     simp only [Lit.wf,Bool.and_eq_true,decide_eq_true_eq] at hw
     exact ⟨y,fun _=>⟨hw.1,hw.2,bk,off,rfl,this⟩⟩
   · exact ⟨0,fun h=>absurd h hi⟩
 obtain ⟨f,hfk⟩:=Classical.axiomOfChoice key
 have hll:((List.range len).map f).length=len:=by rw [List.length_map,List.length_range]
 refine ⟨A,cap,(List.range len).map f,by rw [hll],by rw [hll]; exact hl,?_,fun x hx=>?_⟩
 · by_cases h0:len=0
   · subst h0; exact .inl rfl
   · obtain ⟨_,_,bk,off,hA,_⟩:=hfk 0 (by omega)
     refine .inr ⟨bk,off,hA,fun i v hv=>?_⟩
     have hi:=(List.getElem?_eq_some_iff.1 hv).1
     rw [ints_len,hll] at hi
     rw [ints_at (show ((List.range len).map f)[i]?=some (f i) by rw [List.getElem?_map,List.getElem?_range hi]; rfl)] at hv
     cases hv
     obtain ⟨_,_,bk',off',hA',hc'⟩:=hfk i hi
     rw [hA] at hA'
     cases hA'
     exact hc'
 · obtain ⟨i,hi,rfl⟩:=List.mem_map.1 hx
   obtain ⟨h1,h2,_⟩:=hfk i (List.mem_range.1 hi)
   exact ⟨h1,h2⟩
theorem open_rows2 {v:Value} {d:DataW H} {ps:List MemPlace} (ht:P.underlying t=some (.slice e)) (he:P.underlying e=some (.slice q)) (hq:P.underlying q=some (.int .i64)) (hc:P.cellsOf e=1) (hc2:P.cellsOf q=1)
  (hval:Value.okWide P w r b0 t v) (h:DataW.Trod enc P w 0 sp held t v d ps):∃ A len cap gs,v=.slice A len cap∧Args2 w.heap A len gs:=by
 obtain ⟨A,len,cap,rfl,hl,hel⟩:=open_slice ht hc (by omega) hval h
 have key:∀ i,∃ l:List Int,i<len→∃ bk off B c,A=some ⟨bk,off,none⟩∧hcell w.heap ⟨bk,off+i,none⟩=some (.slice B l.length c)∧RowAt w.heap B (ints l)∧l.length<2^63∧∀ x∈l,-9223372036854775808≤x∧x≤9223372036854775807:=fun i=>by
  by_cases hi:i<len
  · obtain ⟨bk,off,cs,fuel,x,rfl,hl,hcell,hx⟩:=hel i hi
    obtain ⟨B,c,l,rfl,h1,h2,h3⟩:=open_intsC he hq hc2 hx
    have:=hcell 0 _ rfl
    simp only [Nat.mul_one,Nat.add_zero] at this
    exact ⟨l,fun _=>⟨bk,off,B,c,rfl,this,h2,h1,h3⟩⟩
  · exact ⟨[],fun h=>absurd h hi⟩
 obtain ⟨gs,hgs⟩:=Classical.axiomOfChoice key
 exact ⟨A,len,cap,gs,rfl,hl,fun i hi=>hgs i hi⟩
end
end Xe
namespace Xe
open Tp
def backS (s:WS) (k:Nat):WS:={ s with l:=cutTo s.l k,level:=k,head:=min s.head (cutTo s.l k).length,todo:=List.range s.cs.length,W:=fun _=>[] }
section
variable {s:WS}
theorem WInv.back (I:WInv s) {k:Nat} (hk:k≤s.level):WInv (backS s k) where
 good:=I.good.sub List.filter_sublist
 lvs:=I.lvs.cut k hk
 hv:=I.hv
 cl:=I.cl
 head:=Nat.min_le_right _ _
 todoN:=List.nodup_range
 todoL id h:=List.mem_range.1 h
 wN _:=List.nodup_nil
 wL _ id h:=absurd h List.not_mem_nil
 w1 _ id h:=absurd h List.not_mem_nil
 main id e he hg hn:=absurd (List.mem_range.2 (List.getElem?_eq_some_iff.1 he).1) hn
 rs i t ht hp:=by
  have ht':(cutTo s.l k)[i]?=some t:=ht
  have hl:=(List.getElem?_eq_some_iff.1 ht').1
  have e:=cut_take I.lvs.mono k
  rw [e,List.getElem?_take] at ht'
  rw [if_pos hl] at ht'
  obtain ⟨e0,h1,h2,h3⟩:=I.rs i t ht' hp
  refine ⟨e0,h1,h2,?_⟩
  show UnitAt ((cutTo s.l k).take i) e0.lits t.lit
  rw [e,List.take_take,Nat.min_eq_left (by omega)]
  exact h3
theorem setG_len (cs:List Ent) (id:Nat):(setG cs id).length=cs.length:=by unfold setG; split <;> simp
theorem setG_at {cs:List Ent} {id k:Nat} {e:Ent} (he:cs[id]?=some e):(setG cs id)[k]?=if k=id then some { e with gone:=true } else cs[k]?:=by
 unfold setG
 rw [he]
 simp only
 rw [List.getElem?_set]
 by_cases h:k=id
 · subst h; rw [if_pos rfl,if_pos (List.getElem?_eq_some_iff.1 he).1,if_pos rfl]
 · rw [if_neg (Ne.symm h),if_neg h]
theorem WInv.drop (I:WInv s) {id:Nat} {e:Ent} (he:s.cs[id]?=some e) (hr:∀ t∈s.l,t.rs≠id):WInv { s with cs:=setG s.cs id }:=by
 have old:∀ {k:Nat} {e':Ent},(setG s.cs id)[k]?=some e'→e'.gone=false→s.cs[k]?=some e':=fun {k e'} h hg=>by
  rw [setG_at he] at h
  split at h
  · cases h; cases hg
  · exact h
 exact {
  good:=I.good
  lvs:=I.lvs
  hv:=I.hv
  cl:=fun e' he'=>by
   obtain ⟨k,hk⟩:=List.getElem?_of_mem he'
   have hk':(setG s.cs id)[k]?=some e':=hk
   rw [setG_at he] at hk'
   split at hk'
   · cases hk'; exact I.cl e (List.mem_of_getElem? he)
   · exact I.cl e' (List.mem_of_getElem? hk')
  head:=I.head
  todoN:=I.todoN
  todoL:=fun k hk=>by show k<(setG s.cs id).length; rw [setG_len]; exact I.todoL k hk
  wN:=I.wN
  wL:=fun x k hk=>by show k<(setG s.cs id).length∧_; rw [setG_len]; exact I.wL x k hk
  w1:=fun x k hk e' he' hg=>I.w1 x k hk e' (old he' hg) hg
  main:=fun k e' he' hg hn=>I.main k e' (old he' hg) hg hn
  rs:=fun i t ht hp=>by
   obtain ⟨e0,h1,h2,h3⟩:=I.rs i t ht hp
   refine ⟨e0,?_,h2,h3⟩
   show (setG s.cs id)[t.rs.toNat]?=some e0
   rw [setG_at he,if_neg]
   · exact h1
   · intro h; exact hr t (List.mem_of_getElem? ht) (by omega) }
end
section
variable {vars:Nat} {K:List (List Int)} {l o q:List St}
theorem nodup_le':∀ {a b:List Int},a.Nodup→(∀ x,x∈a→x∈b)→a.length≤b.length
 | [],_,_,_=>Nat.zero_le _
 | y::a,b,hn,hs=>by
   have hy:=hs y (List.mem_cons_self ..)
   rw [List.nodup_cons] at hn
   have:=nodup_le' (a:=a) (b:=b.erase y) hn.2 (fun x hx=>(List.mem_erase_of_ne (fun e=>hn.1 (by rw [← e]; exact hx))).2 (hs x (List.mem_cons_of_mem _ hx)))
   rw [List.length_erase_of_mem hy] at this
   have:=List.length_pos_of_mem hy
   simp only [List.length_cons]; omega
end
def Dcs (l:List St):Prop:=∀ (i:Nat) (t:St),l[i]?=some t→t.rs<0→∀ (j:Nat) (u:St),j<i→l[j]?=some u→u.lv<t.lv
theorem Dcs.nil:Dcs []:=fun i t h=>by simp at h
theorem Dcs.push {l:List St} {t:St} (D:Dcs l) (h:t.rs<0→∀ u∈l,u.lv<t.lv):Dcs (l++[t]):=fun i u hu hr j w hj hw=>by
 by_cases hi:i<l.length
 · rw [List.getElem?_append_left hi] at hu
   rw [List.getElem?_append_left (by omega)] at hw
   exact D i u hu hr j w hj hw
 · have hi2:=(List.getElem?_eq_some_iff.1 hu).1
   rw [List.length_append] at hi2
   simp only [List.length_singleton] at hi2
   have e:i=l.length:=by omega
   subst e
   rw [List.getElem?_append_right (Nat.le_refl _),Nat.sub_self] at hu
   simp only [List.getElem?_cons_zero,Option.some.injEq] at hu
   subst hu
   rw [List.getElem?_append_left hj] at hw
   exact h hr w (List.mem_of_getElem? hw)
theorem Dcs.take {l:List St} (D:Dcs l) (n:Nat):Dcs (l.take n):=fun i t ht hr j u hj hu=>by
 rw [List.getElem?_take] at ht hu
 split at ht
 · split at hu
   · exact D i t ht hr j u hj hu
   · cases hu
 · cases ht
theorem Dcs.us {C:List (List Int × Bool)} {lev:Nat} {l l':List St} (h:US C lev l l') (D:Dcs l):Dcs l':=by
 induction h with
 | refl=>exact D
 | step _ _ _ ih =>
   refine ih.push fun hr=>?_
   simp only at hr
   omega
section
variable {l:List St} {vars:Nat}
def plx (l:List St) (x:Int):Int:=PL l x.natAbs
def lvx (l:List St) (x:Int):Int:=LV l x.natAbs
theorem false_at (G:Good vars l) {x:Int} (h:trI l x=-1):∃ (k:Nat) (t:St),l[k]?=some t∧t.lit=-x∧plx l x=k∧lvx l x=t.lv∧RS l x.natAbs=t.rs:=by
 have h1:=(tr_m1.1 h).2
 obtain ⟨t,ht,e⟩:=List.mem_map.1 h1
 obtain ⟨k,hk⟩:=List.getElem?_of_mem ht
 have en:t.lit.natAbs=x.natAbs:=by rw [e]; omega
 exact ⟨k,t,hk,e,by unfold plx; rw [← en]; exact G.pl hk,by unfold lvx; rw [← en]; exact G.lv hk,by rw [← en]; exact G.rs hk⟩
theorem plx_inj (G:Good vars l) {x y:Int} (hx:trI l x=-1) (hy:trI l y=-1) (h:plx l x=plx l y):x=y:=by
 obtain ⟨k,t,h1,h2,h3,_⟩:=false_at G hx
 obtain ⟨j,u,g1,g2,g3,_⟩:=false_at G hy
 have e:k=j:=by omega
 subst e
 rw [h1] at g1
 cases g1
 omega
theorem lvx_mono {n:Nat} (G:Good vars l) (L:Lvs l n) {x y:Int} (hx:trI l x=-1) (hy:trI l y=-1) (h:plx l x≤plx l y):lvx l x≤lvx l y:=by
 obtain ⟨k,t,h1,_,h3,h4,_⟩:=false_at G hx
 obtain ⟨j,u,g1,_,g3,g4,_⟩:=false_at G hy
 by_cases e:k=j
 · subst e; rw [h1] at g1; cases g1; omega
 · have:=List.pairwise_iff_getElem.1 L.mono k j (List.getElem?_eq_some_iff.1 h1).1 (List.getElem?_eq_some_iff.1 g1).1 (by omega)
   rw [(List.getElem?_eq_some_iff.1 h1).2,(List.getElem?_eq_some_iff.1 g1).2] at this
   omega
def Lat (l:List St) (c:List Int) (x:Int):Prop:=x∈c∧∀ y∈c,plx l y≤plx l x
def cntL (l:List St) (c:List Int) (n:Int):Nat:=(c.filter fun x=>decide (lvx l x=n)).length
theorem Lat.uniq (G:Good vars l) {c:List Int} (hf:FailAt l c) {x y:Int} (h1:Lat l c x) (h2:Lat l c y):x=y :=
 plx_inj G (hf x h1.1) (hf y h2.1) (Int.le_antisymm (h2.2 x h1.1) (h1.2 y h2.1))
structure Cf (vars:Nat) (l:List St) (c:List Int):Prop where
 rise:Rise c
 rng:∀ x∈c,1≤x.natAbs∧x.natAbs≤vars
 fail:FailAt l c
def Stop (l:List St) (c:List Int):Prop:=c=[]∨∃ x,Lat l c x∧(lvx l x≤0∨cntL l c (lvx l x)=1)
def Stp1 (cs:List Ent) (l:List St) (c r c':List Int):Prop:=∃ x,Lat l c x∧0<lvx l x∧cntL l c (lvx l x)≠1∧(∃ (k:Nat) (e:Ent),RS l x.natAbs=k∧cs[k]?=some e∧e.gone=false∧e.lits=r)∧Rise c'∧∀ y,y∈c'↔(y∈c∧y≠x)∨(y∈r∧y≠-x)
end
section
variable {s:WS}
theorem step_ex (I:WInv s) (D:Dcs s.l) {c:List Int} (F:Cf s.vars s.l c) {x:Int} (hx:Lat s.l c x) (h0:0<lvx s.l x) (hc:cntL s.l c (lvx s.l x)≠1) :
   ∃ (k:Nat) (e:Ent),RS s.l x.natAbs=k∧s.cs[k]?=some e∧e.gone=false∧-x∈e.lits∧(∀ y∈e.lits,y≠-x→trI s.l y=-1∧plx s.l y<plx s.l x)∧Rise e.lits∧(∀ y∈e.lits,1≤y.natAbs∧y.natAbs≤s.vars)∧∃ z∈c,z≠x∧lvx s.l z=lvx s.l x:=by
 have G:=I.good
 obtain ⟨i,t,hi,ht,hp,hl,hr⟩:=false_at G (F.fail x hx.1)
 have hnd:c.Nodup:=rise_nodup F.rise
 have hz:∃ z∈c,z≠x∧lvx s.l z=lvx s.l x:=by
   by_cases h:∃ z∈c,z≠x∧lvx s.l z=lvx s.l x
   · exact h
   · exfalso
     apply hc
     unfold cntL
     have e:(c.filter fun y=>decide (lvx s.l y=lvx s.l x))=c.filter fun y=>decide (y=x):=by
      refine List.filter_congr fun y hy=>?_
      rw [decide_eq_decide]
      constructor
      · intro he
        by_cases exy:y=x
        · exact exy
        · exact absurd ⟨y,hy,exy,he⟩ h
      · intro he; rw [he]
     rw [e]
     have:=List.Nodup.count (a:=x) hnd
     rw [if_pos hx.1,List.count_eq_length_filter] at this
     have e2:(c.filter fun y=>decide (y=x))=c.filter fun y=>y==x:=List.filter_congr fun y _=>by simp [BEq.beq]
     rw [e2]; exact this
 obtain ⟨z,hzc,hzx,hzl⟩:=hz
 obtain ⟨j,u,hj,hu,hpz,hlz,_⟩:=false_at G (F.fail z hzc)
 have hji:j<i:=by
   have h1:=hx.2 z hzc
   have h2:j≠i:=fun e=>hzx (plx_inj G (F.fail z hzc) (F.fail x hx.1) (by omega))
   omega
 have hrs:0≤t.rs:=by
   by_cases h:0≤t.rs
   · exact h
   · have:=D i t hi (by omega) j u hji hj
     omega
 obtain ⟨e,he,hg,hu1,hu2,hu3⟩:=I.rs i t hi hrs
 rw [ht] at hu1 hu3
 have hcl:=I.cl e (List.mem_of_getElem? he)
 refine ⟨t.rs.toNat,e,by omega,he,hg,hu1,fun y hy hyx=>?_,hcl.1,hcl.2,z,hzc,hzx,hzl⟩
 have h1:=hu3 y hy hyx
 have h2:=(tr_m1.1 h1).2
 obtain ⟨w,hw,ew⟩:=List.mem_map.1 h2
 obtain ⟨q,hq⟩:=List.getElem?_of_mem hw
 rw [List.getElem?_take] at hq
 split at hq
 · rename_i hqi
   have hyf:trI s.l y=-1:=by
     rw [tr_at G hq (x:=y) (by rw [ew]; omega),if_neg]
     have:=(hcl.2 y hy).1
     rw [ew]; omega
   refine ⟨hyf,?_⟩
   have:plx s.l y=q:=by
     unfold plx
     have:=G.pl hq
     rw [ew] at this
     rwa [show (-y).natAbs=y.natAbs by omega] at this
   omega
 · cases hq
theorem Stp1.next (I:WInv s) (D:Dcs s.l) {c r c':List Int} (F:Cf s.vars s.l c) (h:Stp1 s.cs s.l c r c'):Cf s.vars s.l c'∧(∃ x,Lat s.l c x∧(∀ y∈c',plx s.l y<plx s.l x)∧(∀ y∈c',lvx s.l y≤lvx s.l x)∧∃ z∈c',lvx s.l z=lvx s.l x)∧∀ y∈r,1≤y.natAbs∧y.natAbs≤s.vars:=by
 obtain ⟨x,h1,h2,h3,⟨k,e,h4,h5,h6,h7⟩,h8,h9⟩:=h
 obtain ⟨k',e',g1,g2,g3,g4,g5,g6,g7,z,g8,g9,g10⟩:=step_ex I D F h1 h2 h3
 have ek:k=k':=by omega
 subst ek
 rw [h5] at g2
 cases g2
 subst h7
 have hp:∀ y∈c',trI s.l y=-1∧plx s.l y<plx s.l x:=fun y hy=>by
   rcases (h9 y).1 hy with ⟨hy1,hy2⟩ | ⟨hy1,hy2⟩
   · refine ⟨F.fail y hy1,?_⟩
     have a:=h1.2 y hy1
     have b:plx s.l y≠plx s.l x:=fun e=>hy2 (plx_inj I.good (F.fail y hy1) (F.fail x h1.1) e)
     omega
   · exact g5 y hy1 hy2
 refine ⟨⟨h8,fun y hy=>?_,fun y hy=>(hp y hy).1⟩,⟨x,h1,fun y hy=>(hp y hy).2,fun y hy=>?_,z,(h9 z).2 (.inl ⟨g8,g9⟩),g10⟩,g7⟩
 · rcases (h9 y).1 hy with ⟨hy1,_⟩ | ⟨hy1,_⟩
   · exact F.rng y hy1
   · exact g7 y hy1
 · exact lvx_mono I.good I.lvs (hp y hy).1 (F.fail x h1.1) (Int.le_of_lt (hp y hy).2)
inductive Ch (cs:List Ent) (l:List St) (c0:List Int):List (List Int)→List Int→Prop
 | nil:Ch cs l c0 [] c0
 | step {rs:List (List Int)} {c r c':List Int}:Ch cs l c0 rs c→Stp1 cs l c r c'→Ch cs l c0 (rs++[r]) c'
theorem Ch.cf (I:WInv s) (D:Dcs s.l) {c0 c:List Int} {rs:List (List Int)} (F:Cf s.vars s.l c0) (h:Ch s.cs s.l c0 rs c):Cf s.vars s.l c:=by
 induction h with
 | nil=>exact F
 | step _ h ih=>exact (h.next I D ih).1
theorem Ch.rng (I:WInv s) (D:Dcs s.l) {c0 c:List Int} {rs:List (List Int)} (F:Cf s.vars s.l c0) (h:Ch s.cs s.l c0 rs c):∀ r∈rs,∀ y∈r,1≤y.natAbs∧y.natAbs≤s.vars:=by
 induction h with
 | nil=>intro r hr; cases hr
 | step hch h ih =>
   intro r hr
   rcases List.mem_append.1 hr with hr | hr
   · exact ih r hr
   · rw [List.mem_singleton] at hr
     rw [hr]; exact (h.next I D (hch.cf I D F)).2.2
end
end Xe
namespace Xe
open Go
def gv (L:List Value) (p:Nat):Value:=L.getD p (.bool false)
theorem gv_at {L:List Value} {p:Nat} (h:p<L.length):L[p]?=some (gv L p):=by unfold gv; rw [List.getD_eq_getElem?_getD,List.getElem?_eq_getElem h]; rfl
theorem gv_set {L:List Value} {i p:Nat} {v:Value} (hi:i<L.length):gv (L.set i v) p=if p=i then v else gv L p:=by
 unfold gv
 rw [List.getD_eq_getElem?_getD,List.getD_eq_getElem?_getD,List.getElem?_set]
 by_cases e:p=i
 · subst e; rw [if_pos rfl,if_pos hi,if_pos rfl]; rfl
 · rw [if_neg (Ne.symm e),if_neg e]
def swp (L:List Value) (i j:Nat):List Value:=(L.set i (gv L j)).set j (gv L i)
theorem swp_len (L:List Value) (i j:Nat):(swp L i j).length=L.length:=by unfold swp; rw [List.length_set,List.length_set]
theorem gv_swp {L:List Value} {i j:Nat} (hi:i<L.length) (hj:j<L.length) (p:Nat):gv (swp L i j) p=if p=j then gv L i else if p=i then gv L j else gv L p:=by
 unfold swp
 rw [gv_set (by rw [List.length_set]; exact hj),gv_set hi]
theorem swp_perm {L:List Value} {i j:Nat} (hi:i<L.length) (hj:j<L.length):(swp L i j).Perm L:=by
 have:=@List.set_set_perm _ L i j hi hj
 unfold swp gv
 rw [List.getD_eq_getElem?_getD,List.getD_eq_getElem?_getD,List.getElem?_eq_getElem hi,List.getElem?_eq_getElem hj]
 exact this
inductive Rng (a b:Nat):List Value→List Value→Prop
 | refl (L:List Value):Rng a b L L
 | swap {L L':List Value} {i j:Nat}:Rng a b L L'→a≤i→i<b→a≤j→j<b→b≤L'.length→Rng a b L (swp L' i j)
section
variable {a b:Nat} {L L' L'':List Value}
theorem Rng.len (R:Rng a b L L'):L'.length=L.length:=by
 induction R with
 | refl=>rfl
 | swap _ _ _ _ _ _ ih=>rw [swp_len,ih]
theorem Rng.trans (R:Rng a b L L') (R':Rng a b L' L''):Rng a b L L'':=by
 induction R' with
 | refl=>exact R
 | swap _ h1 h2 h3 h4 h5 ih=>exact .swap ih h1 h2 h3 h4 h5
theorem Rng.mono {a' b':Nat} (R:Rng a b L L') (ha:a'≤a) (hb:b≤b') (hl:b'≤L.length):Rng a' b' L L':=by
 induction R with
 | refl=>exact .refl _
 | swap R' h1 h2 h3 h4 h5 ih=>exact .swap ih (by omega) (by omega) (by omega) (by omega) (by rw [R'.len]; exact hl)
theorem Rng.perm (R:Rng a b L L'):L'.Perm L:=by
 induction R with
 | refl=>exact .refl _
 | swap _ h1 h2 h3 h4 h5 ih=>exact (swp_perm (by omega) (by omega)).trans ih
theorem Rng.out (R:Rng a b L L') {p:Nat} (hp:p<a∨b≤p):gv L' p=gv L p:=by
 induction R with
 | refl=>rfl
 | swap _ h1 h2 h3 h4 h5 ih=>rw [gv_swp (by omega) (by omega),if_neg (by omega),if_neg (by omega),ih]
theorem Rng.all (R:Rng a b L L') {P:Value→Prop} (h:∀ p,a≤p→p<b→P (gv L p)):∀ p,a≤p→p<b→P (gv L' p):=by
 induction R with
 | refl=>exact h
 | @swap L' i j _ h1 h2 h3 h4 h5 ih =>
   intro p hp1 hp2
   rw [gv_swp (by omega) (by omega)]
   split
   · exact ih i h1 h2
   · split
     · exact ih j h3 h4
     · exact ih p hp1 hp2
theorem Rng.one {i j:Nat} (h1:a≤i) (h2:i<b) (h3:a≤j) (h4:j<b) (h5:b≤L.length):Rng a b L (swp L i j):=.swap (.refl _) h1 h2 h3 h4 h5
end
structure COk (cf:Value→Value→Int) (ok:Value→Prop):Prop where
 asy:∀ x y,ok x→ok y→cf x y<0→0≤cf y x
 tr:∀ x y z,ok x→ok y→ok z→0≤cf y x→0≤cf z y→0≤cf z x
def Le (cf:Value→Value→Int) (x y:Value):Prop:=0≤cf y x
section
variable {cf:Value→Value→Int} {ok:Value→Prop} (C:COk cf ok)
include C
end
def Srt (cf:Value→Value→Int) (a b:Nat) (L:List Value):Prop:=∀ p q,a≤p→p<q→q<b→Le cf (gv L p) (gv L q)
def OkR (ok:Value→Prop) (L:List Value):Prop:=∀ p,p<L.length→ok (gv L p)
theorem OkR.rng {ok:Value→Prop} {a b:Nat} {L L':List Value} (h:OkR ok L) (R:Rng a b L L') (hb:b≤L.length):OkR ok L':=fun p hp=>by
 rw [R.len] at hp
 by_cases hpa:a≤p∧p<b
 · exact R.all (P:=ok) (fun q h1 h2=>h q (by omega)) p hpa.1 hpa.2
 · rw [R.out (by omega)]; exact h p hp
end Xe
namespace Xe
open Go Go.Proofs
set_option maxRecDepth 16000
section
variable {h:Heap} {A:Option Addr} {cap n:Nat} {fn:FuncId} {cs:List Value}
theorem cells_of_one {v:Value} (h:v.oneCell'=true):v.cells=#[v]:=by
 cases v <;> first | rfl | (simp [Value.oneCell'] at h)
theorem store_one {v:Value} (hv:v.oneCell'=true) (h:Heap) (b o:Nat) (j:Heap→Prop):@storeK (some 1) (.pointer (some ⟨b,o,none⟩)) v ⟨h⟩ ⟨j⟩ =
  @guardK ((hcell h ⟨b,o,none⟩).isSome&&!hfrz h ⟨b,o,none⟩) ⟨j (hset h ⟨b,o,none⟩ v)⟩:=by
 rw [store_1 (cells_of_one hv),hv,Bool.true_and]
theorem swp_slat {bk i j:Nat} {L:List Value} (S:SlAt h (some ⟨bk,0,none⟩) cap L) (hi:i<L.length) (hj:j<L.length):SlAt (hset (hset h ⟨bk,i,none⟩ (gv L j)) ⟨bk,j,none⟩ (gv L i)) (some ⟨bk,0,none⟩) cap (swp L i j) :=
 (S.set hi (gv L j)).set (by rw [List.length_set]; exact hj) (gv L i)
theorem swp_fr {bk i j:Nat} {v w:Value} {h0:Heap} (f:Fr (blk (some ⟨bk,0,none⟩)) h0 h):Fr (blk (some ⟨bk,0,none⟩)) h0 (hset (hset h ⟨bk,i,none⟩ v) ⟨bk,j,none⟩ w) :=
 (f.set (ad:=⟨bk,i,none⟩) ⟨⟨bk,0,none⟩,rfl,rfl⟩).set (ad:=⟨bk,j,none⟩) ⟨⟨bk,0,none⟩,rfl,rfl⟩
theorem reverse_ok {L:List Value} {a b:Nat} (S:SlAt h A cap L) (hn:n=L.length) (hs:n<2^40) (hone:∀ w∈L,w.oneCell'=true) (hab:a≤b) (hb:b≤n) (f:Value) :
   CallsH Tryz.prog 213 [.slice A n cap,.int .i64 a,.int .i64 b,f] h fun _ h'=>∃ L',Rng a b L L'∧SlAt h' A cap L'∧Fr (blk A) h h':=by
 subst hn
 refine calls_of 34 [] Go.Proofs.Tryz.func213 rfl rfl rfl ?_
 simp -implicitDefEqProofs (disch:=omega) [go_sem]
 refine loopK (fun ρ h'=>ρ 0=.slice A L.length cap∧∃ (i:Nat) (j:Int) (L':List Value),ρ 8=.int .i64 i∧ρ 9=.int .i64 j∧a≤i∧j<b∧(a:Int)-1≤j∧(i:Int)≤j+2∧Rng a b L L'∧SlAt h' A cap L'∧Fr (blk A) h h')
   (fun ρ _=>(intOf (ρ 9)+1-intOf (ρ 8)).toNat) (by kernel_rfl) ?_ ?_
 · exact ⟨rfl,a,(b:Int)-1,L,rfl,rfl,by omega,by omega,by omega,by omega,.refl _,S,Fr.refl _ _⟩
 · rintro ρ h1 ⟨r0,i,j,L',r8,r9,hi,hj,hj2,hij,RG,S1,fr⟩
   by_cases hlt:(i:Int)<j
   · obtain ⟨q,rfl⟩:∃ q:Nat,j=q:=⟨j.toNat,by omega⟩
     have hlen:=RG.len
     obtain ⟨bk,rfl,hbk,hfz,hc⟩:=S1.base (by omega)
     have c0:=hc i _ (gv_at (by omega))
     have c1:=hc q _ (gv_at (by omega))
     have ne1:¬ q=i:=by omega
     have ne2:¬ i=q:=by omega
     have o0:(gv L' i).oneCell'=true:=hone _ (RG.perm.mem_iff.1 (List.mem_of_getElem? (gv_at (by omega))))
     have o1:(gv L' q).oneCell'=true:=hone _ (RG.perm.mem_iff.1 (List.mem_of_getElem? (gv_at (by omega))))
     simp -implicitDefEqProofs (disch:=omega) [go_sem,r0,r8,r9,hlt]
     refine drawK [(0,0),(1,0),(2,0),(3,0),(4,0),(5,0),(6,0),(7,1),(8,0),(9,0),(10,0),(11,1),(12,0),(13,3),(14,0),(15,3)] ?_
     have w0:=store_one o0
     have w1:=store_one o1
     simp -implicitDefEqProofs (disch:=omega) [go_sem,r0,r8,r9,c0,c1,hfz,ne1,ne2,w0,w1]
     exact ⟨⟨i+1,by omega,by omega,by omega,by omega,by omega,_,RG.trans (Rng.one (i:=i) (j:=q) (by omega) (by omega) (by omega) (by omega) (by omega)),swp_slat S1 (by omega) (by omega),swp_fr fr⟩,by omega⟩
   · simp -implicitDefEqProofs (disch:=omega) [go_sem,r0,r8,r9,hlt]
     exact ⟨L',RG,S1,fr⟩
end
end Xe
namespace Xe
open Go Go.Proofs
set_option maxRecDepth 16000
set_option maxHeartbeats 1000000
section
variable {P:Program} {kd kd':IntKind} {a b:Int} {t:Nat}
theorem cmpV_shl (hb:0≤b):cmpV P .shl t (.int kd a) (.int kd' b)=some (.int kd (kd.wrap (a*2^(min b.toNat kd.bits)))):=by
 have:¬ b<0:=by omega
 simp [cmpV,binV,this]
theorem cmpV_shr (hb:0≤b):cmpV P .shr t (.int kd a) (.int kd' b)=some (.int kd (a.fdiv (2^(min b.toNat kd.bits)))):=by
 have:¬ b<0:=by omega
 simp [cmpV,binV,this]
theorem cmpV_xor:cmpV P .xor t (.int kd a) (.int kd b)=some (.int kd (kd.wrap ((BitVec.ofInt kd.bits a ^^^ BitVec.ofInt kd.bits b).toNat))):=by simp [cmpV,binV]
theorem cmpV_and:cmpV P .and t (.int kd a) (.int kd b)=some (.int kd (kd.wrap ((BitVec.ofInt kd.bits a &&& BitVec.ofInt kd.bits b).toNat))):=by simp [cmpV,binV]
end
section
variable {h:Heap} {n:Nat}
theorem next_ok {sb:Nat} {x:Int} (hc:hcell h ⟨sb,0,none⟩=some (.int .u64 x)) (hf:∀ o,hfrz h ⟨sb,o,none⟩=false) :
  CallsH Tryz.prog 219 [.pointer (some ⟨sb,0,none⟩)] h fun r h'=>∃ y:Int,r=.int .u64 y∧0≤y∧hcell h' ⟨sb,0,none⟩=some (.int .u64 y)∧(∀ o,hfrz h' ⟨sb,o,none⟩=false)∧Fr (fun x=>x=sb) h h':=by
 refine calls_of 33 [.tmp 2] Go.Proofs.Tryz.func219 rfl rfl rfl ?_
 simp -implicitDefEqProofs (disch:=omega) [go_sem]
 refine drawK [(0,0),(1,0),(2,1),(3,0),(4,0),(5,1),(6,0),(7,0),(8,0),(9,3)] ?_
 simp -implicitDefEqProofs (disch:=omega) [go_sem,hc,hf,cmpV_shl,cmpV_xor]
 refine drawK [(0,0),(1,0),(2,1),(3,0),(4,0),(5,1),(6,0),(7,0),(8,0),(9,3)] ?_
 simp -implicitDefEqProofs (disch:=omega) [go_sem,hc,hf,cmpV_shr,cmpV_xor]
 refine drawK [(0,0),(1,0),(2,1),(3,0),(4,0),(5,1),(6,0),(7,0),(8,0),(9,3)] ?_
 simp -implicitDefEqProofs (disch:=omega) [go_sem,hc,hf,cmpV_shl,cmpV_xor]
 exact (((Fr.refl (fun x=>x=sb) h).set (ad:=⟨sb,0,none⟩) rfl).set (ad:=⟨sb,0,none⟩) rfl).set (ad:=⟨sb,0,none⟩) rfl
theorem runStrT {kd:IntKind} {s:ByteArray} {c:Value→Prop} {x:Nat} (h1:x<256) (ht:(s.data.toList.length==256&&(List.range 256).all (fun i=>i==0||decide (2^(s.data.toList.getD i 0).toNat≤2*i)))=true)
  (hk:∀ b:Nat,b<256→(0<x→2^b≤2*x)→c (.int .u8 (b:Int))):@runK (strIx (.string s) (.int kd (x:Int))) ⟨c⟩:=by
 rw [Bool.and_eq_true,beq_iff_eq,List.all_eq_true] at ht
 have hsz:x<s.size:=by
  have:s.size=s.data.toList.length:=by rw [Array.length_toList]; rfl
  omega
 have e:s[x]?=some s[x]:=by simp [hsz]
 show runO (if 0≤(x:Int) then (s[(x:Int).toNat]?).map fun b=>.int .u8 b.toNat else none) c
 rw [if_pos (by omega),Int.toNat_natCast,e]
 refine hk s[x].toNat s[x].toNat_lt fun h0=>?_
 have:=ht.2 x (List.mem_range.2 h1)
 rw [Bool.or_eq_true,beq_iff_eq,decide_eq_true_eq] at this
 have h2:=this.resolve_left (by omega)
 have e2:s.data.toList.getD x 0=s[x]:=by
  rw [List.getD_eq_getElem?_getD,List.getElem?_eq_getElem (by omega)]
  rfl
 rwa [e2] at h2
theorem lb {s b n:Nat} (h:0<n / 2^s→2^b≤2*(n / 2^s)) (hn:2^s≤n):2^(s+b)≤2*n:=by
 have h0:0<n / 2^s:=Nat.div_pos hn (Nat.two_pow_pos s)
 have h1:=h h0
 have h2:=Nat.div_mul_le_self n (2^s)
 rw [Nat.pow_add]
 calc 2^s*2^b≤2^s*(2*(n / 2^s)):=Nat.mul_le_mul_left _ h1
  _=2*(n / 2^s*2^s):=by rw [← Nat.mul_assoc,Nat.mul_comm (2^s) 2,Nat.mul_assoc,Nat.mul_comm (2^s)]
  _≤2*n:=Nat.mul_le_mul_left _ h2
theorem len64g_ok (hn:n<2^40):CallsH Tryz.prog 176 [.int .u64 n] h fun r h'=>(∃ k:Nat,r=.int .i64 k∧k<400∧(0<n→2^k≤2*n))∧h'=h:=by
 have hix:ixOf Tryz.prog 9=none:=by kernel_rfl
 have hst:strT Tryz.prog 9=true:=by kernel_rfl
 refine calls_of 25 [.tmp 2] Go.Proofs.Tryz.func176 rfl rfl rfl ?_
 by_cases h32:(4294967296:Int)≤n
 · have ed:(n:Int).fdiv 4294967296=((n / 4294967296:Nat):Int):=by rw [Int.fdiv_eq_ediv_of_nonneg _ (by decide)]; omega
   obtain ⟨x,hx⟩:∃ x,x=n / 4294967296:=⟨_,rfl⟩
   have hx2:x<256:=by omega
   rw [← hx] at ed
   simp -implicitDefEqProofs (disch:=omega) [go_sem,h32,hix,hst,cmpV_shr,ed]
   refine runStrT hx2 (by kernel_rfl) fun b hb1 hb2=>?_
   simp -implicitDefEqProofs (disch:=omega) [go_sem]
   exact ⟨32+b,by omega,by omega,fun _=>lb (s:=32) (by subst hx; exact hb2) (by omega)⟩
 · by_cases h16:(65536:Int)≤n
   · have ed:(n:Int).fdiv 65536=((n / 65536:Nat):Int):=by rw [Int.fdiv_eq_ediv_of_nonneg _ (by decide)]; omega
     obtain ⟨x,hx⟩:∃ x,x=n / 65536:=⟨_,rfl⟩
     rw [← hx] at ed
     by_cases h8:(256:Int)≤x
     · have ed2:(x:Int).fdiv 256=((x / 256:Nat):Int):=by rw [Int.fdiv_eq_ediv_of_nonneg _ (by decide)]; omega
       obtain ⟨y,hy⟩:∃ y,y=x / 256:=⟨_,rfl⟩
       have hy2:y<256:=by omega
       rw [← hy] at ed2
       have hyn:y=n / 2^24:=by omega
       simp -implicitDefEqProofs (disch:=omega) [go_sem,h16,h8,h32,hix,hst,cmpV_shr,ed,ed2]
       refine runStrT hy2 (by kernel_rfl) fun b hb1 hb2=>?_
       simp -implicitDefEqProofs (disch:=omega) [go_sem]
       exact ⟨24+b,by omega,by omega,fun _=>lb (s:=24) (by rw [← hyn]; exact hb2) (by omega)⟩
     · have hx2:x<256:=by omega
       simp -implicitDefEqProofs (disch:=omega) [go_sem,h16,h8,h32,hix,hst,cmpV_shr,ed]
       refine runStrT hx2 (by kernel_rfl) fun b hb1 hb2=>?_
       simp -implicitDefEqProofs (disch:=omega) [go_sem]
       exact ⟨16+b,by omega,by omega,fun _=>lb (s:=16) (by subst hx; exact hb2) (by omega)⟩
   · by_cases h8:(256:Int)≤n
     · have ed:(n:Int).fdiv 256=((n / 256:Nat):Int):=by rw [Int.fdiv_eq_ediv_of_nonneg _ (by decide)]; omega
       obtain ⟨x,hx⟩:∃ x,x=n / 256:=⟨_,rfl⟩
       have hx2:x<256:=by omega
       rw [← hx] at ed
       simp -implicitDefEqProofs (disch:=omega) [go_sem,h16,h8,h32,hix,hst,cmpV_shr,ed]
       refine runStrT hx2 (by kernel_rfl) fun b hb1 hb2=>?_
       simp -implicitDefEqProofs (disch:=omega) [go_sem]
       exact ⟨8+b,by omega,by omega,fun _=>lb (s:=8) (by subst hx; exact hb2) (by omega)⟩
     · simp -implicitDefEqProofs (disch:=omega) [go_sem,h16,h8,h32,hix,hst]
       refine runStrT (by omega) (by kernel_rfl) fun b hb1 hb2=>?_
       simp -implicitDefEqProofs (disch:=omega) [go_sem]
       exact ⟨b,rfl,by omega,hb2⟩
theorem leng_ok (hn:n<2^40):CallsH Tryz.prog 131 [.int .u64 n] h fun r h'=>(∃ k:Nat,r=.int .i64 k∧k<400∧(0<n→2^k≤2*n))∧h'=h:=by
 refine calls_of 8 [.tmp 2] Go.Proofs.Tryz.func131 rfl rfl rfl ?_
 simp -implicitDefEqProofs (disch:=omega) [go_sem]
 refine useC (len64g_ok hn) ?_
 rintro _ h' ⟨⟨k,rfl,hk4,hk⟩,rfl⟩
 simp -implicitDefEqProofs (disch:=omega) [go_sem]
 exact ⟨k,rfl,hk4,hk⟩
theorem nextPow_ok (hn:n<2^40) (h0:0<n):CallsH Tryz.prog 218 [.int .i64 n] h fun r h'=>(∃ m:Nat,r=.int .u64 m∧1≤m∧m≤2*n)∧h'=h:=by
 refine calls_of 7 [.tmp 2] Go.Proofs.Tryz.func218 rfl rfl rfl ?_
 simp -implicitDefEqProofs (disch:=omega) [go_sem]
 refine useC (leng_ok hn) ?_
 rintro _ h' ⟨⟨k,rfl,hk4,hk⟩,rfl⟩
 have hk2:=hk h0
 have hk3:k<64:=by
  rcases Nat.lt_or_ge k 64 with h | h
  · exact h
  · have:=Nat.pow_le_pow_right (show 0<2 by omega) h
    omega
 have hmin:min ((k:Int)).toNat 64=k:=by omega
 have hb:IntKind.bits .u64=64:=rfl
 have hw:IntKind.u64.wrap (2^k)=((2^k:Nat):Int):=by
  unfold IntKind.wrap
  simp only [IntKind.signed,IntKind.bits,Bool.false_and,if_false,Bool.false_eq_true]
  have e:(2:Int)^k=((2^k:Nat):Int):=by rw [Int.natCast_pow]; rfl
  rw [e]
  have hlt:2^k<2^64:=Nat.pow_lt_pow_right (by omega) hk3
  exact Int.emod_eq_of_lt (Int.natCast_nonneg _) (by exact_mod_cast hlt)
 simp -implicitDefEqProofs (disch:=omega) [go_sem,cmpV_shl,hb,hmin,hw]
 exact ⟨2^k,by rw [Int.natCast_pow]; rfl,Nat.one_le_two_pow,hk2⟩
end
end Xe
