/- What follows by units: no consistent set of literals that is closed under units makes a clause fail. What a conflict teaches follows so. Replaying a log. -/
import Derived.Test.YtkghjecglmmloaaGreatL20
import Derived.Test.YtkghjecglmmloaaGreatL2
import Derived.Test.YtkghjecglmmloaaGreatWA
namespace Xe
open Tp
structure PM (F:List Int→Prop) (T:Int→Prop):Prop where
 con:∀ x,T x→T (-x)→False
 unit:∀ C,F C→∀ x∈C,(∀ y∈C,y≠x→T (-y))→T x
 ne:¬ F []
def Rup (F:List Int→Prop) (L:List Int):Prop:=∀ T,PM F T→(∀ x∈L,T (-x))→False
def LvC (cs:List Ent) (C:List Int):Prop:=∃ e∈cs,e.gone=false∧e.lits=C
def negs (l:List Int):List Int:=l.map fun x=>-x
section
variable {F F':List Int→Prop} {T M:Int→Prop} {L:List Int}
theorem PM.mono (h:∀ C,F C→F' C) (P:PM F' T):PM F T:=⟨P.con,fun C hC=>P.unit C (h C hC),fun hn=>P.ne (h _ hn)⟩
theorem Rup.mono (h:∀ C,F C→F' C) (R:Rup F L):Rup F' L:=fun T P=>R T (P.mono h)
theorem PM.fail (P:PM F T) {C:List Int} (hC:F C) (h:∀ x∈C,T (-x)):False:=by
 cases C with
 | nil=>exact P.ne hC
 | cons x l=>exact P.con x (P.unit _ hC x List.mem_cons_self fun y hy _=>h y hy) (h x List.mem_cons_self)
theorem PM.mdl (hM:Mdl M) (hz:∀ C,F C→∀ x∈C,x≠0) (hF:∀ C,F C→SatM M C):PM F fun x=>x≠0∧M x where
 con x h1 h2:=(hM x h1.1).1 h2.2 h1.2
 unit C hC x hx h:=by
  obtain ⟨y,hy,hMy⟩:=hF C hC
  by_cases e:y=x
  · subst e; exact ⟨hz C hC y hy,hMy⟩
  · exact absurd hMy ((hM y (hz C hC y hy)).1 (h y hy e).2)
 ne h:=by
  obtain ⟨y,hy,_⟩:=hF [] h
  cases hy
theorem Rup.sat (R:Rup F L) (hM:Mdl M) (hz:∀ C,F C→∀ x∈C,x≠0) (hF:∀ C,F C→SatM M C) (hL:∀ x∈L,x≠0):SatM M L :=
 Classical.byContradiction fun hn=>R _ (PM.mdl hM hz hF) fun x hx=>⟨by have:=hL x hx; omega,(hM x (hL x hx)).2 fun h=>hn ⟨x,hx,h⟩⟩
end
section
variable {s:WS} {T:Int→Prop}
theorem rs_t (I:WInv s) (P:PM (LvC s.cs) T) {i:Nat} {t:St} (ht:s.l[i]?=some t) (hr:0≤t.rs) (h:∀ (q:Nat) (w:St),q<i→s.l[q]?=some w→(∃ e,s.cs[t.rs.toNat]?=some e∧-w.lit∈e.lits)→T w.lit):T t.lit:=by
 obtain ⟨e,he,hg,hu1,hu2,hu3⟩:=I.rs i t ht hr
 refine P.unit e.lits ⟨e,List.mem_of_getElem? he,hg,rfl⟩ t.lit hu1 fun y hy hyt=>?_
 have h1:=(tr_m1.1 (hu3 y hy hyt)).2
 obtain ⟨w,hw,ew⟩:=List.mem_map.1 h1
 obtain ⟨q,hq⟩:=List.getElem?_of_mem hw
 rw [List.getElem?_take] at hq
 split at hq
 · rename_i hqi
   rw [← ew]
   exact h q w hqi hq ⟨e,he,by rw [ew,Int.neg_neg]; exact hy⟩
 · cases hq
theorem lv0_t (I:WInv s) (Rn:Rm s.l) (P:PM (LvC s.cs) T):∀ (i:Nat) (t:St),s.l[i]?=some t→t.lv=0→T t.lit:=by
 intro i
 induction i using Nat.strongRecOn with
 | ind i ih =>
   intro t ht h0
   have hr:0≤t.rs:=by
    by_cases h:0≤t.rs
    · exact h
    · have:=(Rn t (List.mem_of_getElem? ht)).2 (by omega); omega
   refine rs_t I P ht hr fun q w hqi hq _=>ih q hqi w hq ?_
   have hlv:w.lv≤t.lv:=by
    have:=List.pairwise_iff_getElem.1 I.lvs.mono q i (List.getElem?_eq_some_iff.1 hq).1 (List.getElem?_eq_some_iff.1 ht).1 hqi
    rw [(List.getElem?_eq_some_iff.1 hq).2,(List.getElem?_eq_some_iff.1 ht).2] at this
    exact this
   omega
theorem lv0_f (I:WInv s) (Rn:Rm s.l) (P:PM (LvC s.cs) T) {x:Int} (hx:trI s.l x=-1) (h0:lvx s.l x≤0):T (-x):=by
 obtain ⟨k,t,h1,h2,_,h4,_⟩:=false_at I.good hx
 rw [← h2]
 exact lv0_t I Rn P k t h1 (by omega)
theorem stp_t (I:WInv s) (P:PM (LvC s.cs) T) {c r c':List Int} (hf:FailAt s.l c) (h:Stp1 s.cs s.l c r c') (hc:∀ z∈c',T (-z)):∀ y∈c,T (-y):=by
 obtain ⟨x,h1,_,_,⟨k,e,h4,h5,h6,h7⟩,_,h9⟩:=h
 intro y hy
 by_cases e1:y=x
 · subst e1
   obtain ⟨i,t,hi,ht,_,_,hr⟩:=false_at I.good (hf y hy)
   rw [← ht]
   refine rs_t I P hi (by omega) fun q w hqi hq ⟨e',he',hw⟩=>?_
   have:t.rs.toNat=k:=by omega
   rw [this,h5] at he'
   cases he'
   rw [h7] at hw
   have hne:-w.lit≠-y:=fun e=>by
    have h8:w.lit.natAbs=t.lit.natAbs:=by omega
    have a1:=I.good.find hq
    have a2:=I.good.find hi
    rw [h8,a2] at a1
    have:=Option.some.inj a1
    omega
   have:=hc _ ((h9 _).2 (.inr ⟨hw,hne⟩))
   rwa [Int.neg_neg] at this
 · exact hc _ ((h9 y).2 (.inl ⟨hy,e1⟩))
theorem ch_t {c0 c:List Int} {rs:List (List Int)} (I:WInv s) (D:Dcs s.l) (P:PM (LvC s.cs) T) (F:Cf s.vars s.l c0) (h:Ch s.cs s.l c0 rs c) (hc:∀ z∈c,T (-z)):∀ y∈c0,T (-y):=by
 induction h with
 | nil=>exact hc
 | step hch hst ih=>exact ih (stp_t I P (hch.cf I D F).fail hst hc)
theorem shr1_t {c:List Int} {keep x:Int} (I:WInv s) (Rn:Rm s.l) (P:PM (LvC s.cs) T) (hx:trI s.l x=-1) (hc:∀ z∈shr1 s keep c x,T (-z)):∀ y∈c,T (-y):=by
 unfold shr1 at hc
 split at hc
 · rename_i hnd
   intro y hy
   by_cases e1:y=x
   · subst e1
     have h2:=hnd.2
     unfold ndl at h2
     rw [Bool.and_eq_true,decide_eq_true_eq] at h2
     obtain ⟨h3,h4⟩:=h2
     obtain ⟨i,t,hi,ht,_,_,hr⟩:=false_at I.good hx
     rw [hr] at h3 h4
     rw [← ht]
     refine rs_t I P hi h3 fun q w hqi hq ⟨e,he,hw⟩=>?_
     rw [he] at h4
     simp only [Bool.not_eq_true',List.any_eq_false] at h4
     have h5:=h4 _ hw
     unfold ndP at h5
     have hpos:w.lit.natAbs≠t.lit.natAbs:=fun e=>by
       have a1:=I.good.find hq
       have a2:=I.good.find hi
       rw [e,a2] at a1
       have:=Option.some.inj a1
       omega
     have hw2:-w.lit≠-y:=fun e=>hpos (by rw [ht]; omega)
     have hw3:-w.lit≠y:=fun e=>hpos (by rw [ht]; omega)
     by_cases hzc:-w.lit∈c
     · have:=hc _ (List.mem_filter.2 ⟨hzc,by simpa using hw3⟩)
       rwa [Int.neg_neg] at this
     · by_cases hl:0<lvx s.l (-w.lit)
       · exact absurd (by simp [hw2,hl,hzc]) h5
       · have htr:trI s.l (-w.lit)=-1:=by
          have:=I.good.rng w (List.mem_of_getElem? hq)
          rw [tr_at I.good hq (x:=-w.lit) (by omega),if_neg (by omega)]
         have:=lv0_f I Rn P htr (by omega)
         rwa [Int.neg_neg] at this
   · exact hc _ (List.mem_filter.2 ⟨hy,by simpa using e1⟩)
 · exact hc
theorem shr_t {keep:Int} (I:WInv s) (Rn:Rm s.l) (P:PM (LvC s.cs) T):∀ {L c:List Int},(∀ x∈L,trI s.l x=-1)→(∀ z∈shr s keep c L,T (-z))→∀ y∈c,T (-y):=by
 intro L
 induction L with
 | nil=>intro c _ h; exact h
 | cons x L ih=>intro c hx h; exact shr1_t I Rn P (hx x List.mem_cons_self) (ih (c:=shr1 s keep c x) (fun y hy=>hx y (List.mem_cons_of_mem _ hy)) h)
theorem FromR.rup {id:Int} {cl:List Int} {lv:Int} (I:WInv s) (D:Dcs s.l) (Rn:Rm s.l) (h:FromR s id cl lv 0):Rup (LvC s.cs) cl:=by
 intro T P hcl
 cases h with
 | @ground k e rs c hk he hg hf hch hst hor =>
   have hcl:=I.cl e (List.mem_of_getElem? he)
   have F0:Cf s.vars s.l e.lits:=⟨hcl.1,hcl.2,hf⟩
   have F:=hch.cf I D F0
   refine P.fail (C:=e.lits) ⟨e,List.mem_of_getElem? he,hg,rfl⟩ (ch_t I D P F0 hch fun y hy=>?_)
   rcases hor with rfl | ⟨x,hx,hl⟩
   · cases hy
   · have h1:=lvx_mono I.good I.lvs (F.fail y hy) (F.fail x hx.1) (hx.2 y hy)
     exact lv0_f I Rn P (F.fail y hy) (by omega)
 | @taught k e rs c S x hk he hg hf hch hst hx hl hP hS =>
   have hel:=I.cl e (List.mem_of_getElem? he)
   have F0:Cf s.vars s.l e.lits:=⟨hel.1,hel.2,hf⟩
   have F:=hch.cf I D F0
   refine P.fail (C:=e.lits) ⟨e,List.mem_of_getElem? he,hg,rfl⟩ (ch_t I D P F0 hch (shr_t (keep:=x) I Rn P (L:=S) (fun z hz=>F.fail z (hP.mem_iff.1 hz)) fun z hz=>?_))
   by_cases h0:lvx s.l z=0
   · exact lv0_f I Rn P (F.fail z (shr_sub.subset hz)) (by omega)
   · exact hcl z (List.mem_filter.2 ⟨hz,by simpa using h0⟩)
theorem rup_none {e:Ent} (I:WInv s) (Rn:Rm s.l) (he:e∈s.cs) (hg:e.gone=false) (hf:FailAt s.l e.lits) (h0:s.level=0):Rup (LvC s.cs) []:=fun T P _ =>
 P.fail (C:=e.lits) ⟨e,he,hg,rfl⟩ fun y hy=>by
  obtain ⟨k,t,h1,_,_,h4,_⟩:=false_at I.good (hf y hy)
  have:=I.lvs.le t (List.mem_of_getElem? h1)
  exact lv0_f I Rn P (hf y hy) (by omega)
end
def RepOk:List (List Int)→List (List Int × Bool)→Prop
 | _,[]=>True
 | S,(c,false)::t=>Rup (·∈S) c∧RepOk (S++[c]) t
 | S,(c,true)::t=>c∈S∧RepOk (S.erase c) t
def repS:List (List Int)→List (List Int × Bool)→List (List Int)
 | S,[]=>S
 | S,(c,false)::t=>repS (S++[c]) t
 | S,(c,true)::t=>repS (S.erase c) t
theorem repS_app {a:List (List Int × Bool)}:∀ {S b},repS S (a++b)=repS (repS S a) b:=by
 induction a with
 | nil=>intro S b; rfl
 | cons x a ih =>
   intro S b
   obtain ⟨c,g⟩:=x
   cases g
   · exact ih
   · exact ih
theorem RepOk_app {a:List (List Int × Bool)}:∀ {S b},RepOk S (a++b)↔RepOk S a∧RepOk (repS S a) b:=by
 induction a with
 | nil=>intro S b; exact ⟨fun h=>⟨trivial,h⟩,fun h=>h.2⟩
 | cons x a ih =>
   intro S b
   obtain ⟨c,g⟩:=x
   cases g
   · exact (and_congr Iff.rfl ih).trans and_assoc.symm
   · exact (and_congr Iff.rfl ih).trans and_assoc.symm
theorem rep_perm {a:List (List Int × Bool)}:∀ {S S' E:List (List Int)},S'.Perm (S++E)→RepOk S a→RepOk S' a∧(repS S' a).Perm (repS S a++E):=by
 induction a with
 | nil=>intro S S' E h _; exact ⟨trivial,h⟩
 | cons x a ih =>
   intro S S' E h hok
   obtain ⟨c,g⟩:=x
   cases g
   · obtain ⟨h1,h2⟩:=hok
     have hp:(S'++[c]).Perm (S++[c]++E):=by
      refine (h.append_right [c]).trans ?_
      rw [List.append_assoc,List.append_assoc]
      exact List.Perm.append_left S List.perm_append_comm
     obtain ⟨g1,g2⟩:=ih hp h2
     exact ⟨⟨h1.mono fun C hC=>h.mem_iff.2 (List.mem_append_left _ hC),g1⟩,g2⟩
   · obtain ⟨h1,h2⟩:=hok
     have hp:(S'.erase c).Perm (S.erase c++E):=by
      have:=h.erase c
      rwa [List.erase_append_left _ h1] at this
     obtain ⟨g1,g2⟩:=ih hp h2
     exact ⟨⟨h.mem_iff.2 (List.mem_append_left _ h1),g1⟩,g2⟩
def litsN (cs:List Ent) (id:Nat):List Int:=match cs[id]? with | some e=>e.lits | none=>[]
structure Prf (K:List (List Int)) (cs:List Ent) (ln:List Nat) (lg:List (List Int × Bool)):Prop where
 ok:RepOk K lg
 perm:(repS K lg).Perm (K++ln.map (litsN cs))
 nd:ln.Nodup
 lt:∀ id∈ln,id<cs.length
 cov:∀ (id:Nat) e,cs[id]?=some e→e.gone=false→e.lits∈K∨id∈ln
section
variable {K:List (List Int)} {L:List Int} {cs cs':List Ent} {ln:List Nat} {lg:List (List Int × Bool)}
theorem Prf.live (P:Prf K cs ln lg) {C:List Int} (h:LvC cs C):C∈repS K lg:=by
 obtain ⟨e,he,hg,rfl⟩:=h
 obtain ⟨id,hid⟩:=List.getElem?_of_mem he
 refine P.perm.mem_iff.2 (List.mem_append.2 ((P.cov id e hid hg).imp_right fun h=>List.mem_map.2 ⟨id,h,?_⟩))
 unfold litsN; rw [hid]
theorem Prf.congr (P:Prf K cs ln lg) (hl:cs'.length=cs.length) (h:∀ (id:Nat) (e':Ent),cs'[id]?=some e'→∃ e:Ent,cs[id]?=some e∧e.lits=e'.lits∧(e'.gone=false→e.gone=false)):Prf K cs' ln lg where
 ok:=P.ok
 perm:=by
  have:ln.map (litsN cs')=ln.map (litsN cs):=List.map_congr_left fun id hid=>by
   have hlt:=P.lt id hid
   obtain ⟨e',he'⟩:∃ e',cs'[id]?=some e':=⟨_,List.getElem?_eq_getElem (by omega)⟩
   obtain ⟨e,he,e1,_⟩:=h id e' he'
   unfold litsN
   rw [he',he]
   exact e1.symm
  rw [this]; exact P.perm
 nd:=P.nd
 lt id hid:=by rw [hl]; exact P.lt id hid
 cov id e' he' hg:=by
  obtain ⟨e,he,e1,e2⟩:=h id e' he'
  rw [← e1]
  exact P.cov id e he (e2 hg)
theorem litsN_app {x:Ent} {id:Nat} (h:id<cs.length):litsN (cs++[x]) id=litsN cs id:=by unfold litsN; rw [List.getElem?_append_left h]
theorem Prf.learn (P:Prf K cs ln lg) (hR:Rup (LvC cs) L):Prf K (cs++[⟨L,0,0,false⟩]) (ln++[cs.length]) (lg++[(L,false)]) where
 ok:=RepOk_app.2 ⟨P.ok,hR.mono fun _ h=>P.live h,trivial⟩
 perm:=by
  rw [repS_app,List.map_append]
  have h1:ln.map (litsN (cs++[⟨L,0,0,false⟩]))=ln.map (litsN cs):=List.map_congr_left fun id hid=>litsN_app (P.lt id hid)
  have h2:litsN (cs++[⟨L,0,0,false⟩]) cs.length=L:=by unfold litsN; rw [List.getElem?_append_right (Nat.le_refl _),Nat.sub_self]; rfl
  rw [h1,List.map_singleton,h2,← List.append_assoc]
  exact P.perm.append_right [L]
 nd:=List.nodup_append.2 ⟨P.nd,List.pairwise_singleton _ _,fun a ha b hb=>by rw [List.mem_singleton] at hb; have:=P.lt a ha; omega⟩
 lt id hid:=by
  rw [List.length_append,List.length_singleton]
  rcases List.mem_append.1 hid with h | h
  · have:=P.lt id h; omega
  · rw [List.mem_singleton] at h; omega
 cov id e he hg:=by
  by_cases hlt:id<cs.length
  · rw [List.getElem?_append_left hlt] at he
    exact (P.cov id e he hg).imp_right fun h=>List.mem_append_left _ h
  · have:=(List.getElem?_eq_some_iff.1 he).1
    rw [List.length_append,List.length_singleton] at this
    exact .inr (List.mem_append_right _ (List.mem_singleton.2 (by omega)))
theorem Prf.add (P:Prf K cs ln lg):Prf (K++[L]) (cs++[⟨L,0,0,false⟩]) ln lg where
 ok:=(rep_perm (E:=[L]) (List.Perm.refl _) P.ok).1
 perm:=by
  refine (rep_perm (E:=[L]) (List.Perm.refl _) P.ok).2.trans ?_
  have h1:ln.map (litsN (cs++[⟨L,0,0,false⟩]))=ln.map (litsN cs):=List.map_congr_left fun id hid=>litsN_app (P.lt id hid)
  rw [h1]
  refine (P.perm.append_right [L]).trans ?_
  rw [List.append_assoc,List.append_assoc]
  exact List.Perm.append_left K List.perm_append_comm
 nd:=P.nd
 lt id hid:=by rw [List.length_append]; have:=P.lt id hid; omega
 cov id e he hg:=by
  by_cases hlt:id<cs.length
  · rw [List.getElem?_append_left hlt] at he
    exact (P.cov id e he hg).imp_left fun h=>List.mem_append_left _ h
  · rw [List.getElem?_append_right (by omega)] at he
    have:=(List.getElem?_eq_some_iff.1 he).1
    rw [List.length_singleton] at this
    rw [show id-cs.length=0 by omega] at he
    cases he
    exact .inl (List.mem_append_right _ (List.mem_singleton.2 rfl))
theorem Prf.drop (P:Prf K cs ln lg) {id:Nat} {e:Ent} (he:cs[id]?=some e) (hid:id∈ln) (hl:cs'.length=cs.length) (h:∀ (k:Nat) (e':Ent),cs'[k]?=some e'→∃ e0:Ent,cs[k]?=some e0∧e0.lits=e'.lits∧(e'.gone=false→e0.gone=false∧k≠id)):Prf K cs' (ln.filter fun k=>!decide (k=id)) (lg++[(e.lits,true)]):=by
 have Q:=P.congr (cs':=cs') hl fun k e' hk=>by
   obtain ⟨e0,h1,h2,h3⟩:=h k e' hk
   exact ⟨e0,h1,h2,fun hg=>(h3 hg).1⟩
 have hli:litsN cs' id=e.lits:=by
   have hlt:=P.lt id hid
   obtain ⟨e',he'⟩:∃ e',cs'[id]?=some e':=⟨_,List.getElem?_eq_getElem (by omega)⟩
   obtain ⟨e0,h1,h2,_⟩:=h id e' he'
   rw [he] at h1
   cases h1
   unfold litsN
   rw [he',h2]
 have hpl:ln.Perm (id::ln.filter fun k=>!decide (k=id)):=by
   have h1:=List.perm_cons_erase hid
   rw [P.nd.erase_eq_filter] at h1
   refine h1.trans (List.Perm.of_eq ?_)
   congr 1
 have hmem:e.lits∈repS K lg:=Q.perm.mem_iff.2 (List.mem_append_right _ (List.mem_map.2 ⟨id,hid,hli⟩))
 refine ⟨RepOk_app.2 ⟨Q.ok,hmem,trivial⟩,?_,Q.nd.filter _,fun k hk=>Q.lt k (List.mem_filter.1 hk).1,fun k e' hk hg=>?_⟩
 · rw [repS_app]
   show ((repS K lg).erase e.lits).Perm _
   have h1:(repS K lg).Perm (e.lits::(K++(ln.filter fun k=>!decide (k=id)).map (litsN cs'))):=by
    refine Q.perm.trans ?_
    refine (List.Perm.append_left K (hpl.map (litsN cs'))).trans ?_
    rw [List.map_cons,hli]
    exact List.perm_middle
   have:=h1.erase e.lits
   rwa [List.erase_cons_head] at this
 · obtain ⟨e0,h1,h2,h3⟩:=h k e' hk
   obtain ⟨h4,h5⟩:=h3 hg
   rw [← h2]
   exact (P.cov k e0 h1 h4).imp_right fun h=>List.mem_filter.2 ⟨h,by simpa using h5⟩
theorem Prf.new:Prf [] [] [] []:=⟨trivial,List.Perm.refl _,List.nodup_nil,fun _ h=>(nomatch h),fun _ _ h=>by simp at h⟩
end
def cntV (l:List St) (i:Nat):Nat:=(l.filter fun t=>decide (t.lv≤i)).length
def frN (vars:Nat) (l:List St) (i:Nat):Nat:=vars-cntV l i
def potP (vars:Nat) (l:List St):Nat→Nat
 | 0=>0
 | i+1=>potP vars l i+2^(frN vars l i-1)
theorem cntV_push (l:List St) (t:St) (i:Nat):cntV (l++[t]) i=if t.lv≤i then cntV l i+1 else cntV l i:=by
 unfold cntV
 rw [List.filter_append,List.length_append]
 by_cases h:t.lv≤i <;> simp [h]
theorem cntV_all {l:List St} {n:Nat} (h:∀ t∈l,t.lv≤n):cntV l n=l.length:=by
 unfold cntV
 rw [List.filter_eq_self.2 fun t ht=>decide_eq_true (h t ht)]
theorem cntV_cut {l:List St} {k i:Nat} (h:i≤k):cntV (cutTo l k) i=cntV l i:=by
 unfold cntV cutTo
 rw [List.filter_filter]
 congr 1
 refine List.filter_congr fun t _=>?_
 by_cases h1:t.lv≤i
 · have:t.lv≤k:=by omega
   simp [h1,this]
 · simp [h1]
theorem potP_congr {vars:Nat} {l l':List St}:∀ {n:Nat},(∀ i,i<n→cntV l' i=cntV l i)→potP vars l' n=potP vars l n:=by
 intro n
 induction n with
 | zero=>intro _; rfl
 | succ n ih =>
   intro h
   unfold potP frN
   rw [ih fun i hi=>h i (by omega),h n (by omega)]
theorem potP_mono {vars:Nat} {l:List St}:∀ {m n:Nat},m≤n→potP vars l m≤potP vars l n:=by
 intro m n
 induction n with
 | zero=>intro h; rw [Nat.le_zero.1 h]; exact Nat.le_refl _
 | succ n ih =>
   intro h
   by_cases e:m=n+1
   · rw [e]; exact Nat.le_refl _
   · have:=ih (by omega)
     exact Nat.le_trans this (Nat.le_add_right _ _)
theorem us_cnt {C:List (List Int × Bool)} {lev:Nat} {l l':List St} (h:US C lev l l'):(∀ i,i<lev→cntV l' i=cntV l i)∧cntV l lev≤cntV l' lev∧(l'≠l→cntV l lev+1≤cntV l' lev):=by
 induction h with
 | refl=>exact ⟨fun _ _=>rfl,Nat.le_refl _,fun h=>absurd rfl h⟩
 | @step m x id c h1 _ _ ih =>
   obtain ⟨a1,a2,_⟩:=ih
   have e:=cntV_push m ⟨x,id,lev⟩
   refine ⟨fun i hi=>?_,?_,fun _=>?_⟩
   · rw [e,if_neg (by simp only; omega)]; exact a1 i hi
   · rw [e,if_pos (Nat.le_refl _)]; omega
   · rw [e,if_pos (Nat.le_refl _)]; omega
def Pend (s:WS):Prop:=∃ e∈s.cs,e.gone=false∧((∃ x,UnitAt s.l e.lits x)∨FailAt s.l e.lits)
def frS (s:WS):Nat:=frN s.vars s.l s.level
def potS (s:WS):Nat:=potP s.vars s.l s.level
def Bud (s:WS) (b:Nat):Prop:=potS s+2^frS s≤b∨(Pend s∧potS s+2^(frS s-1)≤b)
section
variable {s s':WS} {b:Nat}
theorem Bud.pos (h:Bud s b):potS s+1≤b:=by
 have h1:=Nat.one_le_two_pow (n:=frS s)
 have h2:=Nat.one_le_two_pow (n:=frS s-1)
 rcases h with h | ⟨_,h⟩ <;> omega
theorem Adv.pot (ad:Adv s s'):potS s'=potS s:=by
 unfold potS
 rw [ad.vars,ad.level]
 exact potP_congr (us_cnt ad.us).1
theorem Pend.absurd {s:WS} (h:Pend s) (q:Quiet (absC s.cs) s.l):False:=by
 obtain ⟨e,he,hg,hor⟩:=h
 obtain ⟨k,hk⟩:=List.getElem?_of_mem he
 have h1:=absC_at hk
 rw [hg] at h1
 rcases hor with ⟨x,hx⟩ | hf
 · exact (q k _ h1).1 x hx
 · exact (q k _ h1).2 hf
theorem Pend.same {s s':WS} (h:Pend s) (hl:s'.l=s.l) (hc:absC s'.cs=absC s.cs):Pend s':=by
 obtain ⟨e,he,hg,hor⟩:=h
 obtain ⟨k,hk⟩:=List.getElem?_of_mem he
 have h1:=absC_at hk
 rw [← hc] at h1
 obtain ⟨e',he',h2,h3⟩:=absC_back h1
 exact ⟨e',List.mem_of_getElem? he',by rw [h3,hg],by rw [hl,h2]; exact hor⟩
theorem Bud.quiet (ad:Adv s s') (hb:Bud s b) (q:Quiet (absC s'.cs) s'.l):potS s'+2^frS s'≤b:=by
 have hp:=ad.pot
 obtain ⟨_,h2,h3⟩:=us_cnt ad.us
 have hle:frS s'≤frS s:=by unfold frS frN; rw [ad.vars,ad.level]; omega
 have hpw:=Nat.pow_le_pow_right (n:=2) (by omega) hle
 rcases hb with hb | ⟨hpd,hb⟩
 · omega
 · have hne:s'.l≠s.l:=fun e=>(hpd.same e ad.cs).absurd q
   have:=h3 hne
   have hle2:frS s'≤frS s-1:=by unfold frS frN; rw [ad.vars,ad.level]; omega
   have:=Nat.pow_le_pow_right (n:=2) (by omega) hle2
   omega
theorem Bud.fail (ad:Adv s s') (hb:Bud s b):potS s'+1≤b:=by
 rw [ad.pot]; exact hb.pos
theorem bud_dec (I:WInv s) {x:Int} (hb:potS s+2^frS s≤b) (he:pushE s.vars s.l x (-1)=0):potS (decS s x)+2^frS (decS s x)≤b:=by
 obtain ⟨h1,h2⟩:=pushE_ok he
 have hle:=I.lvs.le
 have hall:=cntV_all hle
 have e:=cntV_push s.l ⟨x,-1,s.level+1⟩
 have el:(decS s x).l=s.l++[⟨x,-1,s.level+1⟩]:=by unfold decS pushL; rw [if_pos he]
 have ev:(decS s x).level=s.level+1:=by unfold decS; simp only; rw [if_pos he]
 have hlen:s.l.length+1≤s.vars:=by
  have:=(I.good.push (s:=⟨x,-1,s.level+1⟩) h2 h1.1 h1.2).len
  rw [List.length_append] at this
  exact this
 have hp:potS (decS s x)=potS s+2^(frS s-1):=by
  unfold potS
  rw [el,ev]
  show potP s.vars _ s.level+2^(frN s.vars _ s.level-1)=_
  rw [potP_congr (l:=s.l) fun i hi=>by rw [e,if_neg (by simp only; omega)]]
  unfold frS frN
  rw [e,if_neg (by simp only; omega)]
 have hf:frS (decS s x)=frS s-1:=by
  unfold frS frN
  rw [el,ev,e,if_pos (Nat.le_refl _)]
  have:cntV s.l (s.level+1)=cntV s.l s.level:=by rw [hall,cntV_all fun t ht=>by have:=hle t ht; omega]
  rw [this]
  show s.vars-_=_
  omega
 have hfp:1≤frS s:=by unfold frS frN; rw [hall]; omega
 rw [hp,hf]
 have:2^frS s=2^(frS s-1)+2^(frS s-1):=by
  obtain ⟨k,hk⟩:∃ k,frS s=k+1:=⟨frS s-1,by omega⟩
  rw [hk,Nat.pow_succ,Nat.add_sub_cancel]; omega
 omega
theorem Bud.back (hl:s'.l=cutTo s.l s'.level) (hv:s'.vars=s.vars) (hj:s'.level<s.level) (hb:potS s+1≤b+1) (hp:Pend s'):Bud s' b:=by
 refine .inr ⟨hp,?_⟩
 have h1:potS s'+2^(frS s'-1)=potP s.vars s.l (s'.level+1):=by
  unfold potS frS frN
  rw [hv,hl,cntV_cut (Nat.le_refl _),potP_congr (l:=s.l) fun i hi=>cntV_cut (by omega)]
  rfl
 have h2:=potP_mono (vars:=s.vars) (l:=s.l) (m:=s'.level+1) (n:=s.level) hj
 rw [h1]
 unfold potS at hb
 omega
theorem Bud.ground (h:s.level=0):Bud s (2^s.vars):=by
 refine .inl ?_
 unfold potS frS frN
 rw [h]
 show 0+_≤_
 rw [Nat.zero_add]
 exact Nat.pow_le_pow_right (by omega) (Nat.sub_le _ _)
theorem Bud.level (I:WInv s):s.level≤s.vars:=Nat.le_trans I.lvs.len I.good.len
end
structure SInv (K:List (List Int)) (s:WS) (ln:List Nat) (lg:List (List Int × Bool)):Prop where
 I:WInv s
 D:Dcs s.l
 R:Rm s.l
 there:∀ c∈K,∃ (id:Nat) (e:Ent),id∉ln∧s.cs[id]?=some e∧e.gone=false∧e.lits=c
 sound:∀ M,Mdl M→(∀ c∈K,SatM M c)→∀ e∈s.cs,SatM M e.lits
 lns:∀ id∈ln,∃ e,s.cs[id]?=some e∧(e.lits,false)∈lg
 lgs:∀ M,Mdl M→(∀ c∈K,SatM M c)→∀ x∈lg,SatM M x.1
 gone:∀ (i:Nat) c,lg[i]?=some (c,true)→∃ j,j<i∧lg[j]?=some (c,false)
 lgc:∀ x∈lg,∃ e∈s.cs,e.lits=x.1
 P:Prf K s.cs ln lg
section
variable {K:List (List Int)} {L:List Int} {s s':WS} {ln:List Nat} {lg:List (List Int × Bool)}
theorem absC_eq {cs cs':List Ent} (h:absC cs'=absC cs) {id:Nat} {e:Ent} (he:cs[id]?=some e):∃ e',cs'[id]?=some e'∧e'.lits=e.lits∧e'.gone=e.gone:=by
 have h1:=absC_at he
 rw [← h] at h1
 exact absC_back h1
theorem SInv.adv (S:SInv K s ln lg) (I':WInv s') (ad:Adv s s'):SInv K s' ln lg where
 I:=I'
 D:=Dcs.us ad.us S.D
 R:=Rm.us ad.us S.R
 there c hc:=by
   obtain ⟨id,e,h1,h2,h3,h4⟩:=S.there c hc
   obtain ⟨e',g1,g2,g3⟩:=absC_eq ad.cs h2
   exact ⟨id,e',h1,g1,by rw [g3,h3],by rw [g2,h4]⟩
 sound M hM hK e he:=by
   obtain ⟨k,hk⟩:=List.getElem?_of_mem he
   obtain ⟨e',g1,g2,_⟩:=absC_eq ad.cs.symm hk
   rw [← g2]
   exact S.sound M hM hK e' (List.mem_of_getElem? g1)
 lns id hid:=by
   obtain ⟨e,h1,h2⟩:=S.lns id hid
   obtain ⟨e',g1,g2,_⟩:=absC_eq ad.cs h1
   exact ⟨e',g1,by rw [g2]; exact h2⟩
 lgs:=S.lgs
 gone:=S.gone
 lgc x hx:=by
   obtain ⟨e,he,h⟩:=S.lgc x hx
   obtain ⟨k,hk⟩:=List.getElem?_of_mem he
   obtain ⟨e',g1,g2,_⟩:=absC_eq ad.cs hk
   exact ⟨e',List.mem_of_getElem? g1,g2.trans h⟩
 P := S.P.congr (by have:=congrArg List.length ad.cs; unfold absC at this; rwa [List.length_map,List.length_map] at this) fun id e' he'=>by
   obtain ⟨e,g1,g2,g3⟩:=absC_eq ad.cs.symm he'
   exact ⟨e,g1,g2,fun h=>by rw [g3]; exact h⟩
theorem SInv.dec (S:SInv K s ln lg) (x:Int):SInv K (decS s x) ln lg where
 I:=S.I.dec x
 D := by
   unfold decS pushL
   simp only
   split
   · refine S.D.push fun _ u hu=>?_
     have:=S.I.lvs.le u hu
     simp only; omega
   · exact S.D
 R := by
   unfold decS pushL
   simp only
   split
   · exact S.R.push (by simp only; omega) fun _=>by simp only; omega
   · exact S.R
 there:=S.there
 sound:=S.sound
 lns:=S.lns
 lgs:=S.lgs
 gone:=S.gone
 lgc:=S.lgc
 P:=S.P
theorem SInv.back (S:SInv K s ln lg) {k:Nat} (hk:k≤s.level):SInv K (backS s k) ln lg where
 I:=S.I.back hk
 D := by
   show Dcs (cutTo s.l k)
   rw [cut_take S.I.lvs.mono k]
   exact S.D.take _
 R:=S.R.sub fun t ht=>(List.mem_filter.1 ht).1
 there:=S.there
 sound:=S.sound
 lns:=S.lns
 lgs:=S.lgs
 gone:=S.gone
 lgc:=S.lgc
 P:=S.P
theorem gone_snoc {lg:List (List Int × Bool)} (h:∀ (i:Nat) c,lg[i]?=some (c,true)→∃ j,j<i∧lg[j]?=some (c,false)) {c:List Int} {g:Bool} (hg:g=true→(c,false)∈lg) :
   ∀ (i:Nat) d,(lg++[(c,g)])[i]?=some (d,true)→∃ j,j<i∧(lg++[(c,g)])[j]?=some (d,false):=by
 intro i d hd
 by_cases hi:i<lg.length
 · rw [List.getElem?_append_left hi] at hd
   obtain ⟨j,h1,h2⟩:=h i d hd
   exact ⟨j,h1,by rw [List.getElem?_append_left (by omega)]; exact h2⟩
 · have hil:=(List.getElem?_eq_some_iff.1 hd).1
   rw [List.length_append] at hil
   simp only [List.length_singleton] at hil
   obtain rfl:i=lg.length:=by omega
   rw [List.getElem?_append_right (Nat.le_refl _),Nat.sub_self] at hd
   simp only [List.getElem?_cons_zero,Option.some.injEq,Prod.mk.injEq] at hd
   obtain ⟨rfl,rfl⟩:=hd
   obtain ⟨j,hj⟩:=List.getElem?_of_mem (hg rfl)
   have:=(List.getElem?_eq_some_iff.1 hj).1
   exact ⟨j,this,by rw [List.getElem?_append_left this]; exact hj⟩
theorem SInv.sat (S:SInv K s ln lg) {C:List Int} (R:Rup (LvC s.cs) C) (h0:∀ x∈C,x≠0) {M:Int→Prop} (hM:Mdl M) (hK:∀ c∈K,SatM M c):SatM M C :=
 R.sat hM (fun D ⟨e,he,_,hl⟩ x hx=>by have:=(S.I.cl e he).2 x (by rw [hl]; exact hx); omega) (fun D ⟨e,he,_,hl⟩=>hl ▸ S.sound M hM hK e he) h0
theorem SInv.learn (S:SInv K s ln lg) (I':WInv (addS s L)) (hR:Rup (LvC s.cs) L):SInv K (addS s L) (ln++[s.cs.length]) (lg++[(L,false)]) :=
 have hL:∀ M,Mdl M→(∀ c∈K,SatM M c)→SatM M L:=fun M hM hK=>S.sat hR (fun x hx=>by have:=(I'.cl ⟨L,0,0,false⟩ (List.mem_append_right _ (List.mem_singleton.2 rfl))).2 x hx; omega) hM hK
 {
 I:=I'
 D:=S.D
 R:=S.R
 there c hc:=by
  obtain ⟨id,e,h1,h2,h3,h4⟩:=S.there c hc
  have hid:=(List.getElem?_eq_some_iff.1 h2).1
  refine ⟨id,e,fun h=>?_,by show (s.cs++[_])[id]?=_; rw [List.getElem?_append_left hid]; exact h2,h3,h4⟩
  rcases List.mem_append.1 h with h | h
  · exact h1 h
  · rw [List.mem_singleton] at h; omega
 sound M hM hK e he:=by
  have he':e∈s.cs++[⟨L,0,0,false⟩]:=he
  rcases List.mem_append.1 he' with h | h
  · exact S.sound M hM hK e h
  · rw [List.mem_singleton] at h; rw [h]; exact hL M hM hK
 lns id hid:=by
  rcases List.mem_append.1 hid with h | h
  · obtain ⟨e,h1,h2⟩:=S.lns id h
    have hid:=(List.getElem?_eq_some_iff.1 h1).1
    exact ⟨e,by show (s.cs++[_])[id]?=_; rw [List.getElem?_append_left hid]; exact h1,List.mem_append_left _ h2⟩
  · rw [List.mem_singleton] at h
    subst h
    exact ⟨⟨L,0,0,false⟩,by show (s.cs++[_])[s.cs.length]?=_; rw [List.getElem?_append_right (Nat.le_refl _),Nat.sub_self]; rfl,List.mem_append_right _ (List.mem_singleton.2 rfl)⟩
 lgs M hM hK x hx:=by
  rcases List.mem_append.1 hx with h | h
  · exact S.lgs M hM hK x h
  · rw [List.mem_singleton] at h; rw [h]; exact hL M hM hK
 gone:=gone_snoc S.gone fun h=>by cases h
 lgc x hx:=by
  rcases List.mem_append.1 hx with h | h
  · obtain ⟨e,he,h⟩:=S.lgc x h
    exact ⟨e,List.mem_append_left _ he,h⟩
  · rw [List.mem_singleton] at h
    exact ⟨⟨L,0,0,false⟩,List.mem_append_right _ (List.mem_singleton.2 rfl),by rw [h]⟩
 P:=S.P.learn hR }
theorem SInv.drop (S:SInv K s ln lg) {id:Nat} {e:Ent} (he:s.cs[id]?=some e) (hid:id∈ln) (hr:∀ t∈s.l,t.rs≠id):SInv K { s with cs:=setG s.cs id } (ln.filter fun k=>!decide (k=id)) (lg++[(e.lits,true)]) where
 I:=S.I.drop he hr
 D:=S.D
 R:=S.R
 there c hc:=by
   obtain ⟨k,e',h1,h2,h3,h4⟩:=S.there c hc
   have hne:k≠id:=fun h=>h1 (by rw [h]; exact hid)
   exact ⟨k,e',fun h=>h1 ((List.mem_filter.1 h).1),by rw [setG_at he,if_neg hne]; exact h2,h3,h4⟩
 sound M hM hK e' he':=by
   obtain ⟨k,hk⟩:=List.getElem?_of_mem he'
   have hk':(setG s.cs id)[k]?=some e':=hk
   rw [setG_at he] at hk'
   split at hk'
   · cases hk'; exact S.sound M hM hK e (List.mem_of_getElem? he)
   · exact S.sound M hM hK e' (List.mem_of_getElem? hk')
 lns k hk:=by
   rw [List.mem_filter] at hk
   obtain ⟨e',h1,h2⟩:=S.lns k hk.1
   have hne:k≠id:=by simpa using hk.2
   exact ⟨e',by rw [setG_at he,if_neg hne]; exact h1,List.mem_append_left _ h2⟩
 lgs M hM hK x hx:=by
   rcases List.mem_append.1 hx with h | h
   · exact S.lgs M hM hK x h
   · rw [List.mem_singleton] at h; rw [h]; exact S.sound M hM hK e (List.mem_of_getElem? he)
 gone:=gone_snoc S.gone fun _=>by
   obtain ⟨e',h1,h2⟩:=S.lns id hid
   rw [he] at h1
   cases h1
   exact h2
 lgc x hx:=by
   have key:∀ e0∈s.cs,∃ e'∈setG s.cs id,e'.lits=e0.lits:=fun e0 h0=>by
     obtain ⟨k,hk⟩:=List.getElem?_of_mem h0
     have hs:=setG_at (k:=k) he
     by_cases hki:k=id
     · rw [if_pos hki] at hs
       refine ⟨_,List.mem_of_getElem? hs,?_⟩
       rw [hki,he] at hk; cases hk; rfl
     · rw [if_neg hki] at hs
       exact ⟨e0,List.mem_of_getElem? (hs.trans hk),rfl⟩
   rcases List.mem_append.1 hx with h | h
   · obtain ⟨e0,h0,h⟩:=S.lgc x h
     obtain ⟨e',g1,g2⟩:=key e0 h0
     exact ⟨e',g1,g2.trans h⟩
   · rw [List.mem_singleton] at h
     obtain ⟨e',g1,g2⟩:=key e (List.mem_of_getElem? he)
     exact ⟨e',g1,by rw [h]; exact g2⟩
 P := S.P.drop he hid (setG_len _ _) fun k e' hk=>by
   have hs:=setG_at (k:=k) he
   by_cases hki:k=id
   · rw [if_pos hki] at hs
     rw [hs] at hk
     cases hk
     exact ⟨e,by rw [hki]; exact he,rfl,fun h=>(nomatch h)⟩
   · rw [if_neg hki] at hs
     exact ⟨e',hs.symm.trans hk,rfl,fun h=>⟨h,hki⟩⟩
theorem SInv.add (S:SInv K s ln lg) (I':WInv (addS s L)):SInv (K++[L]) (addS s L) ln lg where
 I:=I'
 D:=S.D
 R:=S.R
 there c hc:=by
  rcases List.mem_append.1 hc with h | h
  · obtain ⟨id,e,h1,h2,h3,h4⟩:=S.there c h
    have hid:=(List.getElem?_eq_some_iff.1 h2).1
    exact ⟨id,e,h1,by show (s.cs++[_])[id]?=_; rw [List.getElem?_append_left hid]; exact h2,h3,h4⟩
  · rw [List.mem_singleton] at h
    subst h
    refine ⟨s.cs.length,⟨c,0,0,false⟩,fun h=>?_,by show (s.cs++[_])[s.cs.length]?=_; rw [List.getElem?_append_right (Nat.le_refl _),Nat.sub_self]; rfl,rfl,rfl⟩
    obtain ⟨e,h1,_⟩:=S.lns _ h
    have:=(List.getElem?_eq_some_iff.1 h1).1
    omega
 sound M hM hK e he:=by
  have he':e∈s.cs++[⟨L,0,0,false⟩]:=he
  rcases List.mem_append.1 he' with h | h
  · exact S.sound M hM (fun c hc=>hK c (List.mem_append_left _ hc)) e h
  · rw [List.mem_singleton] at h; rw [h]; exact hK L (List.mem_append_right _ (List.mem_singleton.2 rfl))
 lns id hid:=by
  obtain ⟨e,h1,h2⟩:=S.lns id hid
  have hid:=(List.getElem?_eq_some_iff.1 h1).1
  exact ⟨e,by show (s.cs++[_])[id]?=_; rw [List.getElem?_append_left hid]; exact h1,h2⟩
 lgs M hM hK:=S.lgs M hM fun c hc=>hK c (List.mem_append_left _ hc)
 gone:=S.gone
 lgc x hx:=by
  obtain ⟨e,he,h⟩:=S.lgc x hx
  exact ⟨e,List.mem_append_left _ he,h⟩
 P:=S.P.add
theorem SInv.new {vars:Nat} (hv:vars≤16777216):SInv [] (newW vars) [] [] where
 I:=newW_inv hv
 D:=Dcs.nil
 R:=Rm.nil
 there c hc:=by cases hc
 sound M _ _ e he:=by cases he
 lns id h:=by cases h
 lgs M _ _ x h:=by cases h
 gone i c h:=by cases h
 lgc x h:=by cases h
 P:=Prf.new
end
section
variable {s s':WS} {asm:List Int}
theorem pend_learn {id:Int} {cl:List Int} {lv:Int} (I:WInv s) (D:Dcs s.l) (hR:FromR s id cl lv 0) (h0:0<s.level):∃ k:Nat,lv=k∧k<s.level∧Pend (addS (backS s k) cl):=by
 obtain ⟨q1,q2,q3,q4⟩:=hR.shape I D
 have hin:(⟨cl,0,0,false⟩:Ent)∈s.cs++[⟨cl,0,0,false⟩]:=List.mem_append_right _ (List.mem_singleton.2 rfl)
 by_cases hnil:cl=[]
 · have hl:lv=0:=by
    cases hR with
    | ground=>rfl
    | taught=>rw [hnil]; rfl
   refine ⟨0,by omega,h0,⟨cl,0,0,false⟩,hin,rfl,.inr fun y hy=>?_⟩
   have hy':y∈cl:=hy
   rw [hnil] at hy'; cases hy'
 · obtain ⟨x,hx,hx1,hx2⟩:=q4 hnil
   have hlx:lvx s.l x≤s.level:=by
    obtain ⟨k,t,h1,_,_,h4,_⟩:=false_at I.good (q1 x hx).1
    have:=I.lvs.le t (List.mem_of_getElem? h1)
    omega
   refine ⟨lv.toNat,by omega,by omega,⟨cl,0,0,false⟩,hin,rfl,.inl ⟨x,?_⟩⟩
   exact cut_unit I.good (fun y hy=>(q1 y hy).1) hx (by omega) fun y hy hn=>by have:=hx2 y hy hn; omega
def AsI (s:WS) (asm:List Int):Prop:=∃ k:Nat,(∀ t∈s.l,t.rs<0→t.lv≤k→t.lit∈asm)∧(k<s.level→∀ a∈asm,a∈lits (cutTo s.l k))
theorem AsI.ground (R:Rm s.l) (h:s.level=0):AsI s asm:=⟨0,fun t ht h1 h2=>by have:=(R t ht).2 h1; omega,fun h'=>by omega⟩
theorem us_neg {C:List (List Int × Bool)} {lev:Nat} {l l':List St} (h:US C lev l l'):∀ t∈l',t.rs<0→t∈l:=by
 induction h with
 | refl=>exact fun t h _=>h
 | step _ _ _ ih =>
   intro t ht hr
   rcases List.mem_append.1 ht with ht | ht
   · exact ih t ht hr
   · rw [List.mem_singleton] at ht
     subst ht
     simp only at hr; omega
theorem lits_sub {l l':List St} (h:l.Sublist l') {x:Int} (hx:x∈lits l):x∈lits l':=by
 obtain ⟨t,ht,rfl⟩:=List.mem_map.1 hx
 exact List.mem_map.2 ⟨t,h.subset ht,rfl⟩
theorem AsI.adv (ad:Adv s s') (A:AsI s asm):AsI s' asm:=by
 obtain ⟨k,h1,h2⟩:=A
 refine ⟨k,fun t ht hr hl=>h1 t (us_neg ad.us t ht hr) hr hl,fun hk a ha=>?_⟩
 rw [ad.level] at hk
 obtain ⟨ext,he⟩:=US.pre ad.us
 have:=h2 hk a ha
 rw [he]
 exact lits_sub (by unfold cutTo; rw [List.filter_append]; exact List.sublist_append_left _ _) this
theorem AsI.back {j:Nat} (hj:j≤s.level) (A:AsI s asm):AsI (backS s j) asm:=by
 obtain ⟨k,h1,h2⟩:=A
 have hm:∀ t∈cutTo s.l j,t∈s.l∧t.lv≤j:=fun t ht=>by
   unfold cutTo at ht
   rw [List.mem_filter,decide_eq_true_eq] at ht
   exact ht
 by_cases hk:j≤k
 · exact ⟨j,fun t ht hr hl=>h1 t (hm t ht).1 hr (by omega),fun h=>absurd h (Nat.lt_irrefl j)⟩
 · refine ⟨k,fun t ht hr hl=>h1 t (hm t ht).1 hr hl,fun _ a ha=>?_⟩
   have h3:=h2 (by omega) a ha
   show a∈lits (cutTo (cutTo s.l j) k)
   have e:cutTo (cutTo s.l j) k=cutTo s.l k:=by
    unfold cutTo
    rw [List.filter_filter]
    refine List.filter_congr fun t _=>?_
    by_cases h1:t.lv≤k
    · have:t.lv≤j:=by omega
      simp [h1,this]
    · simp [h1]
   rw [e]; exact h3
theorem AsI.open (A:AsI s asm) {a:Int} (ha:a∈asm) (hn:a∉lits s.l):∃ k,s.level≤k∧∀ t∈s.l,t.rs<0→t.lv≤k→t.lit∈asm:=by
 obtain ⟨k,h1,h2⟩:=A
 refine ⟨k,?_,h1⟩
 by_cases hk:k<s.level
 · exact absurd (lits_sub List.filter_sublist (h2 hk a ha)) hn
 · omega
theorem decS_l {x:Int} (he:pushE s.vars s.l x (-1)=0):(decS s x).l=s.l++[⟨x,-1,s.level+1⟩]∧(decS s x).level=s.level+1:=by
 unfold decS pushL
 simp only
 rw [if_pos he,if_pos he]
 exact ⟨rfl,rfl⟩
theorem AsI.decA (I:WInv s) (A:AsI s asm) {a:Int} (ha:a∈asm) (hn:a∉lits s.l) (he:pushE s.vars s.l a (-1)=0):AsI (decS s a) asm:=by
 obtain ⟨k,h1,h2⟩:=A.open ha hn
 obtain ⟨e1,e2⟩:=decS_l he
 refine ⟨s.level+1,fun t ht hr hl=>?_,fun h=>by rw [e2] at h; omega⟩
 rw [e1] at ht
 rcases List.mem_append.1 ht with ht | ht
 · exact h2 t ht hr (by have:=I.lvs.le t ht; omega)
 · rw [List.mem_singleton] at ht
   subst ht
   exact ha
theorem AsI.decF (I:WInv s) (A:AsI s asm) {x:Int} (hall:∀ a∈asm,a∈lits s.l) (he:pushE s.vars s.l x (-1)=0):AsI (decS s x) asm:=by
 obtain ⟨k,h1,h2⟩:=A
 obtain ⟨e1,e2⟩:=decS_l he
 have hcut:∀ k',k'≤s.level→cutTo (decS s x).l k'=cutTo s.l k':=fun k' hk'=>by
   rw [e1]
   unfold cutTo
   rw [List.filter_append,List.filter_cons,if_neg (by rw [decide_eq_true_eq]; show ¬ s.level+1≤k'; omega),List.filter_nil,List.append_nil]
 have hd:∀ k',k'≤s.level→∀ t∈(decS s x).l,t.lv≤k'→t∈s.l:=fun k' hk' t ht hl=>by
   rw [e1] at ht
   rcases List.mem_append.1 ht with ht | ht
   · exact ht
   · rw [List.mem_singleton] at ht
     subst ht
     simp only at hl; omega
 by_cases hk:k<s.level
 · refine ⟨k,fun t ht hr hl=>h1 t (hd k (by omega) t ht hl) hr hl,fun _ a ha=>?_⟩
   rw [hcut k (by omega)]
   exact h2 hk a ha
 · refine ⟨s.level,fun t ht hr hl=>h1 t (hd _ (Nat.le_refl _) t ht hl) hr (by omega),fun _ a ha=>?_⟩
   rw [hcut _ (Nat.le_refl _),cut_all I.lvs (Nat.le_refl _)]
   exact hall a ha
structure CauI (s:WS) (lit:Int) (i:Nat) (seen out:List Int):Prop where
 c1:lit∈seen∧lit∈out
 c2:∀ x∈out,x=lit∨∃ t∈s.l,t.rs<0∧t.lit=x
 c3:∀ j t,i≤j→s.l[j]?=some t→0<t.lv→(t.lit∈seen∨-t.lit∈seen)→(t.rs<0→t.lit∈out)∧(∀ e,0≤t.rs→s.cs[t.rs.toNat]?=some e→∀ y∈e.lits,y∈seen)
theorem CauI.start (lit:Int):CauI s lit s.l.length [lit] [lit] where
 c1:=⟨List.mem_singleton.2 rfl,List.mem_singleton.2 rfl⟩
 c2 x hx:=.inl (List.mem_singleton.1 hx)
 c3 j t hj ht:=by have:=(List.getElem?_eq_some_iff.1 ht).1; omega
section
variable {lit:Int} {i:Nat} {seen out:List Int} {t:St}
theorem CauI.skip (C:CauI s lit (i+1) seen out) (ht:s.l[i]?=some t) (h:t.lv=0∨(t.lit∉seen∧-t.lit∉seen)):CauI s lit i seen out where
 c1:=C.c1
 c2:=C.c2
 c3 j u hj hu h0 hs:=by
  by_cases e:j=i
  · subst e
    rw [ht] at hu; cases hu
    rcases h with h | h
    · omega
    · exact absurd hs fun h'=>h'.elim h.1 h.2
  · exact C.c3 j u (by omega) hu h0 hs
theorem CauI.decision (C:CauI s lit (i+1) seen out) (ht:s.l[i]?=some t) (hr:t.rs<0):CauI s lit i seen (out++[t.lit]) where
 c1:=⟨C.c1.1,List.mem_append_left _ C.c1.2⟩
 c2 x hx:=by
  rcases List.mem_append.1 hx with hx | hx
  · exact C.c2 x hx
  · exact .inr ⟨t,List.mem_of_getElem? ht,hr,(List.mem_singleton.1 hx).symm⟩
 c3 j u hj hu h0 hs:=by
  by_cases e:j=i
  · subst e
    rw [ht] at hu; cases hu
    exact ⟨fun _=>List.mem_append_right _ (List.mem_singleton.2 rfl),fun _ h=>by omega⟩
  · obtain ⟨h1,h2⟩:=C.c3 j u (by omega) hu h0 hs
    exact ⟨fun h=>List.mem_append_left _ (h1 h),h2⟩
theorem CauI.reason (I:WInv s) (C:CauI s lit (i+1) seen out) (ht:s.l[i]?=some t) (hr:0≤t.rs) {e:Ent} (he:s.cs[t.rs.toNat]?=some e):CauI s lit i (seen++e.lits) out where
 c1:=⟨List.mem_append_left _ C.c1.1,C.c1.2⟩
 c2:=C.c2
 c3 j u hj hu h0 hs:=by
  by_cases ej:j=i
  · subst ej
    rw [ht] at hu; cases hu
    exact ⟨fun h=>by omega,fun e' _ he' y hy=>by rw [he] at he'; cases he'; exact List.mem_append_right _ hy⟩
  · have old:u.lit∈seen∨-u.lit∈seen:=by
     obtain ⟨e',he',_,hu1,hu2,hu3⟩:=I.rs i t ht hr
     rw [he] at he'; cases he'
     have key:∀ y∈e.lits,y.natAbs=u.lit.natAbs→False:=fun y hy hyu=>by
       have hpos:∀ (k:Nat) (w:St),s.l[k]?=some w→w.lit.natAbs=u.lit.natAbs→k=j:=fun k w hw hwu=>by
         have a1:=I.good.find hw
         have a2:=I.good.find hu
         rw [hwu,a2] at a1
         exact (Option.some.inj a1).symm
       by_cases eyt:y=t.lit
       · exact ej (hpos i t ht (by rw [← eyt]; exact hyu)).symm
       · have h1:=(tr_m1.1 (hu3 y hy eyt)).2
         obtain ⟨w,hw,ew⟩:=List.mem_map.1 h1
         obtain ⟨q,hq⟩:=List.getElem?_of_mem hw
         rw [List.getElem?_take] at hq
         split at hq
         · have:=hpos q w hq (by rw [ew,Int.natAbs_neg]; exact hyu)
           omega
         · cases hq
     rcases hs with hs | hs
     · rcases List.mem_append.1 hs with hs | hs
       · exact .inl hs
       · exact (key _ hs rfl).elim
     · rcases List.mem_append.1 hs with hs | hs
       · exact .inr hs
       · exact (key _ hs (Int.natAbs_neg _)).elim
    obtain ⟨h1,h2⟩:=C.c3 j u (by omega) hu h0 old
    exact ⟨h1,fun e' h3 h4 y hy=>List.mem_append_left _ (h2 e' h3 h4 y hy)⟩
theorem CauI.rup (I:WInv s) (R:Rm s.l) (C:CauI s lit 0 seen out) (hf:trI s.l lit=-1) {T:Int→Prop} (P:PM (LvC s.cs) T) (ho:∀ x∈out,T x):False:=by
 have key:∀ (j:Nat) (t:St),s.l[j]?=some t→(t.lv=0∨t.lit∈seen∨-t.lit∈seen)→T t.lit:=by
  intro j
  induction j using Nat.strongRecOn with
  | ind j ih =>
    intro t ht hor
    by_cases h0:t.lv=0
    · exact lv0_t I R P j t ht h0
    obtain ⟨h1,h2⟩:=C.c3 j t (Nat.zero_le _) ht (by omega) (hor.resolve_left h0)
    by_cases hr:t.rs<0
    · exact ho _ (h1 hr)
    exact rs_t I P ht (by omega) fun q w hqj hq ⟨e,he,hw⟩=>ih q hqj w hq (.inr (.inr (h2 e (by omega) he _ hw)))
 obtain ⟨k,t,h1,h2,_⟩:=false_at I.good hf
 have h3:=key k t h1 (.inr (.inr (by rw [h2,Int.neg_neg]; exact C.c1.1)))
 rw [h2] at h3
 exact P.con lit (ho lit C.c1.2) h3
end
section
variable {K:List (List Int)} {ln:List Nat} {lg:List (List Int × Bool)} {cl:List Int}
theorem mem_negs {l:List Int} {x:Int}:x∈negs l↔-x∈l:=by
 unfold negs
 rw [List.mem_map]
 exact ⟨fun ⟨y,hy,e⟩=>by rw [← e,Int.neg_neg]; exact hy,fun h=>⟨-x,h,Int.neg_neg x⟩⟩
theorem SInv.rep (S:SInv K s ln lg) (R:Rup (LvC s.cs) cl):Rup (·∈repS K lg) cl:=R.mono fun _ h=>S.P.live h
theorem SInv.noM (S:SInv K s ln lg) (h0:∀ x∈cl,x≠0) (R:Rup (LvC s.cs) (negs cl)) (M:Int→Prop) (hM:Mdl M) (hK:∀ c∈K,SatM M c) (ho:∀ x∈cl,M x):False:=by
 obtain ⟨y,hy,hMy⟩:=S.sat R (fun x hx=>by have:=h0 _ (mem_negs.1 hx); omega) hM hK
 have hy':=mem_negs.1 hy
 have h1:=ho _ hy'
 exact (hM y (by have:=h0 _ hy'; omega)).1 h1 hMy
end
end
end Xe
namespace Xe
open Go Tp Go.Proofs
set_option maxRecDepth 16000
set_option maxHeartbeats 1000000
section
variable {h:Heap} {bb:Nat} {p:BP} {s:WS}
theorem baddG_m (M:BaseM h bb p s) (hv:s.vars≤16777216) {A:Option Addr} {n c:Nat} {l:List Int} (R:RowAt h A (ints l)) (hn:n=l.length) (hs:n<2^40) (hr:∀ x∈l,-9223372036854775808≤x∧x≤9223372036854775807)
   (hsz:s.cs.length+1<2^40∧s.todo.length+1<2^40) :
   CallsH Tryz.prog 59 [.pointer (some ⟨bb,0,none⟩),.slice A n c] h fun r h'=>(goodC s.vars l=false∧r=.tuple #[.int .i64 0,.int .i64 1]∧Fr (fun _=>False) h h') ∨
     (goodC s.vars l=true∧CleanR l none∧r=.tuple #[.int .i64 0,.int .i64 11]∧Fr (fun _=>False) h h') ∨
     (goodC s.vars l=true∧∃ L,CleanR l (some L)∧r=.tuple #[.int .i64 s.cs.length,.int .i64 0]∧∃ p',BaseM h' bb p' (addS s L)∧Stp p p' h h'):=by
 have s0:=M.B.at' 0 _ rfl
 refine calls_of 54 [.tmp 4,.tmp 5] Go.Proofs.Tryz.func59 rfl rfl rfl ?_
 simp -implicitDefEqProofs (disch:=omega) [go_sem,s0]
 refine useC (tvars_ok M.T) ?_
 rintro _ h1 ⟨rfl,rfl⟩
 simp -implicitDefEqProofs (disch:=omega) [go_sem]
 refine useC (cgood_ok R hn (by omega) hv hr) ?_
 rintro _ h2 ⟨rfl,f2⟩
 cases hg:goodC s.vars l with
 | false =>
   simp -implicitDefEqProofs (disch:=omega) [go_sem]
   exact f2
 | true =>
   simp -implicitDefEqProofs (disch:=omega) [go_sem]
   refine useC (cleanG_ok (R.fr0 f2) hn hs hr) ?_
   rintro _ h3 ⟨⟨o,ho,hm⟩,f3⟩
   have f23:=f2.trans f3
   cases o with
   | none =>
     simp only at hm
     subst hm
     simp -implicitDefEqProofs (disch:=omega) [go_sem]
     exact ⟨ho,f23⟩
   | some L =>
     obtain ⟨A',c',rfl,S3,own3⟩:=hm
     have M3:=M.fr0 f23
     have s1:=M3.B.at' 1 _ rfl
     simp -implicitDefEqProofs (disch:=omega) [go_sem,s1]
     refine build1 rfl rfl ?_
     simp -implicitDefEqProofs (disch:=omega) [go_sem,s1]
     obtain ⟨h4,e4⟩:∃ h4,h4=h3.push (.cells #[.slice A' L.length c',.complex .f64 (Fx.enc 0) (Fx.enc 0),.bool false] 110):=⟨_,rfl⟩
     have EB4:ListB h4 h3.size [.slice A' L.length c',.complex .f64 (Fx.enc 0) (Fx.enc 0),.bool false]:=by rw [e4]; exact ListB.new
     have f34:Fr (fun _=>False) h3 h4:=by rw [e4]; exact (Fr.refl _ _).push
     have z4:h4.size=h3.size+1:=by rw [e4,push_size]
     have W4:=(SlAt.new (h:=h4) (vs:=[.pointer (some ⟨h3.size,0,none⟩)]) (e:=105)).row
     rw [z4] at W4
     have f45:Fr (fun _=>False) h4 (h4.push (.cells #[.pointer (some ⟨h3.size,0,none⟩)] 105)):=(Fr.refl _ _).push
     have SL4:=(M3.L.fr f34 (fun _ _ h=>h)).fr f45 (fun _ _ h=>h)
     have hsl:SlAt (h4.push (.cells #[.pointer (some ⟨h3.size,0,none⟩)] 105)) p.L (p.cl*1) (eptrs p.eb s.cs.length):=by rw [Nat.mul_one]; exact SL4
     have hml:L.length≤16777216:=by
      have:=nodup_le (a:=L.map Int.natAbs) (b:=List.range 16777217) (by
       rw [List.Nodup,List.pairwise_map]
       exact ho.1.imp fun {a b} h=>by omega) (fun x hx=>by
       obtain ⟨y,hy,rfl⟩:=List.mem_map.1 hx
       have:=((ho.2 y).1 hy).2
       unfold okL at this
       rw [List.mem_range]; omega)
      rw [List.length_map,List.length_range] at this
      have hm:∀ y∈L,1≤y.natAbs:=fun y hy=>((ho.2 y).1 hy).2.1
      have:=nodup_le (a:=L.map Int.natAbs) (b:=List.range' 1 16777216) (by
       rw [List.Nodup,List.pairwise_map]
       exact ho.1.imp fun {a b} h=>by omega) (fun x hx=>by
       obtain ⟨y,hy,rfl⟩:=List.mem_map.1 hx
       have:=((ho.2 y).1 hy).2
       unfold okL at this
       rw [List.mem_range'_1]; omega)
      rwa [List.length_map,List.length_range'] at this
     rw [e4] at hsl W4
     refine appendN (n:=s.cs.length) (m:=1) (ws:=[.pointer (some ⟨h3.size,0,none⟩)]) hsl (by rw [eptrs_len,Nat.mul_one]) W4 rfl (by omega) (by simp [Value.oneCell']) (by omega) (by omega) ?_
     rw [← e4]
     intro L' cl' h6 S6 f6 hL6
     rw [Nat.mul_one] at S6
     have f36:Fr (blk p.L) h3 h6:=((f34.trans f45).mono fun _ _ h=>h.elim).trans f6
     have nl:¬ blk p.L h3.size:=fun h=>by have:=M3.L.blk_lt h; omega
     have EB6:=(EB4.push (X:=.cells #[.pointer (some ⟨h3.size,0,none⟩)] 105)).fr f6 nl
     obtain ⟨p7,M7,ext7,own7,hTA7,htc7⟩:=M.addE M3 f23.size S3.row (fun y hy=>⟨Nat.le_trans f2.size (own3 y hy),S3.blk_lt hy⟩) f36 EB6 S6 (fun y hy=>(hL6 y hy).imp_right fun h=>by rw [push_size,z4] at h; omega) hml hsz.1
     have B6:=M3.B.fr (f36.mono fun x _ hx=>show (fun x=>p.c x=some .lst) x from M3.cL x hx) (fun h=>by rw [M3.cB] at h; cases h)
     have s16:=B6.at' 1 _ rfl
     have fz6:=B6.fz
     have s17:=M7.B.at' 1 _ rfl
     have s37:=M7.B.at' 3 _ rfl
     have fz7:=M7.B.fz
     have hnc:({ s with cs:=s.cs++[⟨L,0,0,false⟩] }:WS).cs.length=s.cs.length+1:=by simp
     rw [hnc] at s17
     obtain ⟨h7,e7⟩:∃ h7,h7=hset h6 ⟨bb,1,none⟩ (.slice L' (s.cs.length+1) cl'):=⟨_,rfl⟩
     rw [← e7] at M7 s17 s37 fz7
     simp -implicitDefEqProofs (disch:=omega) [go_sem,s16,fz6]
     refine drawC [(0,0),(1,0),(2,0),(3,0),(4,2),(5,0),(6,0),(7,0),(8,1),(9,0),(10,0),(11,3),(12,3),(13,0),(14,0),(15,4)] (fun h'=>hcell h' ⟨bb,3,none⟩=some (.slice p7.TA s.todo.length p7.tc)) (by rw [← e7]; exact s37) ?_
     rw [← e7]
     simp -implicitDefEqProofs (disch:=omega) [go_sem]
     refine float2 (.slice p7.TA s.todo.length p7.tc) (fun h' hC=>by simp -implicitDefEqProofs (disch:=omega) [go_sem,hC]) ?_
     simp -implicitDefEqProofs (disch:=omega) [go_sem,s17]
     refine build1 rfl rfl ?_
     have f78:Fr (fun _=>False) h7 (h7.push (.cells #[.int .i64 (s.cs.length:Int)] 3)):=(Fr.refl _ _).push
     refine ⟨(f78.cell (hcell_lt s37) (fun h=>h)).trans s37,?_⟩
     simp -implicitDefEqProofs (disch:=omega) [go_sem]
     have D8:=M7.D.fr f78 (fun _ _ h=>h)
     refine appendQ (vs:=ids s.todo) (ws:=[.int .i64 (s.cs.length:Int)]) D8 (by rw [ids_len]) (SlAt.new (vs:=[.int .i64 (s.cs.length:Int)])).row rfl (by simp [Value.oneCell']) (by omega) (by omega) ?_
     intro TA9 tc9 h9 S9 f9 hA9
     have f79:Fr (blk p7.TA) h7 h9:=(f78.mono fun _ _ h=>h.elim).trans f9
     have nbT:¬ blk p7.TA bb:=fun h=>by have:=M7.cD _ h; rw [M7.cB] at this; cases this
     have s39:=(f79.cell (hcell_lt s37) nbT).trans s37
     have B9:=M7.B.fr f79 nbT
     have fz9:=B9.fz
     have s19:=B9.at' 1 _ rfl
     rw [hnc] at s19
     have ei:ids s.todo++[.int .i64 (s.cs.length:Int)]=ids (s.todo++[s.cs.length]):=by rw [ids_append]; rfl
     rw [ei] at S9
     obtain ⟨p10,M10,st10,_⟩:=M7.todo (l':=s.todo++[s.cs.length]) f79 S9 (fun y hy=>(hA9 y hy).imp_right fun h=>by rw [push_size] at h; omega) (by rw [List.length_append]; simp; omega)
     have hl10:(s.todo++[s.cs.length]).length=s.todo.length+1:=by simp
     rw [hl10] at M10 st10
     refine ⟨s39,?_⟩
     simp -implicitDefEqProofs (disch:=omega) [go_sem,s39,fz9,s19]
     refine ⟨L,ho,p10,M10,?_⟩
     have hne:∀ x,blk p.L x→p.c x≠none:=fun x hx=>by rw [M.cL x hx]; exact fun h=>(nomatch h)
     have st7:Stp p p7 h1 h7:=⟨ext7,own7,by
      rw [e7]
      have f16:Fr (fun x=>p.c x≠none) h1 h6:=(f23.mono fun _ _ h=>h.elim).trans' (f36.mono fun x _ hx=>hne x hx) fun x _ hx=>hx
      exact f16.set (show p.c bb≠none by rw [M.cB]; exact fun h=>(nomatch h))⟩
     exact st7.trans st10
end
end Xe
