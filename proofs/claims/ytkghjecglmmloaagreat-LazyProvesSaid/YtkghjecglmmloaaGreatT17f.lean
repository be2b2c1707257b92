/- Package watch: its memory; what only reads it. -/
import Derived.Test.YtkghjecglmmloaaGreatT16a
import Derived.Test.YtkghjecglmmloaaGreatWP2
namespace Xe
open Go Tp Go.Proofs
set_option maxRecDepth 16000
inductive Tag
 | base | map | trail | lst | todo | con
 | ent (id:Nat)
 | wat (x:Int)
def ids (l:List Nat):List Value:=l.map fun (i:Nat)=>.int .i64 (i:Int)
theorem ids_len (l:List Nat):(ids l).length=l.length:=List.length_map ..
theorem ids_at {l:List Nat} {i k:Nat} (h:l[i]?=some k):(ids l)[i]?=some (.int .i64 (k:Int)):=by simp [ids,h]
theorem ids_append (l m:List Nat):ids (l++m)=ids l++ids m:=by simp [ids]
theorem ids_one {l:List Nat}:∀ w∈ids l,w.oneCell'=true:=by
 intro w hw
 obtain ⟨x,_,rfl⟩:=List.mem_map.1 hw
 rfl
def eptrs (eb:Nat→Nat) (n:Nat):List Value:=(List.range n).map fun i=>.pointer (some ⟨eb i,0,none⟩)
theorem eptrs_len (eb:Nat→Nat) (n:Nat):(eptrs eb n).length=n:=by unfold eptrs; rw [List.length_map,List.length_range]
theorem eptrs_at {eb:Nat→Nat} {n i:Nat} (h:i<n):(eptrs eb n)[i]?=some (.pointer (some ⟨eb i,0,none⟩)):=by unfold eptrs; rw [List.getElem?_map,List.getElem?_range h]; rfl
structure BP where
 tb:Nat
 mb:Nat
 OT:Nat→Prop
 L:Option Addr
 cl:Nat
 eb:Nat→Nat
 TA:Option Addr
 tc:Nat
 f:Int→Option Value
 c:Nat→Option Tag
structure EntM (h:Heap) (c:Nat→Option Tag) (b id:Nat) (e:Ent):Prop where
 ex:∃ A cap,ListB h b [.slice A e.lits.length cap,.complex .f64 (Fx.enc e.a1) (Fx.enc e.a2),.bool e.gone]∧RowAt h A (ints e.lits)∧∀ x,blk A x→c x=some .con
 cb:c b=some (.ent id)
 la:e.a1≤16777216∧e.a2≤16777216
 len:e.lits.length≤16777216
def WatM (h:Heap) (c:Nat→Option Tag) (f:Int→Option Value) (W:Int→List Nat) (x:Int):Prop:=match f x with
 | none=>W x=[]
 | some v=>∃ A cap,v=.slice A (W x).length cap∧SlO h A cap (ids (W x))∧∀ y,blk A y→c y=some (.wat x)
structure BaseM (h:Heap) (bb:Nat) (p:BP) (s:WS):Prop where
 low:∀ x t,p.c x=some t→x<h.size
 B:ListB h bb [.pointer (some ⟨p.tb,0,none⟩),.slice p.L s.cs.length p.cl,.map (some p.mb),.slice p.TA s.todo.length p.tc,.int .i64 (s.head:Int)]
 cB:p.c bb=some .base
 T:TrailOk h p.tb p.OT s.vars s.l s.level
 cT:∀ x,p.OT x→p.c x=some .trail
 L:SlAt h p.L p.cl (eptrs p.eb s.cs.length)
 cL:∀ x,blk p.L x→p.c x=some .lst
 E:∀ id e,s.cs[id]?=some e→EntM h p.c (p.eb id) id e
 M:MapAt h p.mb p.f
 cM:p.c p.mb=some .map
 W:∀ x,WatM h p.c p.f s.W x
 D:SlO h p.TA p.tc (ids s.todo)
 cD:∀ x,blk p.TA x→p.c x=some .todo
 sm:s.cs.length<2^40∧s.todo.length<2^40
section
variable {h:Heap} {bb:Nat} {p:BP} {s:WS}
theorem EntM.fr {c:Nat→Option Tag} {b id:Nat} {e:Ent} (E:EntM h c b id e) {S:Nat→Prop} {h':Heap} (f:Fr S h h') (h1:∀ x,S x→c x≠some (.ent id)) (h2:∀ x,S x→c x≠some .con):EntM h' c b id e:=by
 obtain ⟨A,cap,B,R,hc⟩:=E.ex
 exact ⟨⟨A,cap,B.fr f fun hs=>h1 _ hs E.cb,R.fr f fun x hx hs=>h2 x hs (hc x hx),hc⟩,E.cb,E.la,E.len⟩
theorem EntM.ext {c c':Nat→Option Tag} {b id:Nat} {e:Ent} (E:EntM h c b id e) (hx:∀ x t,c x=some t→c' x=some t):EntM h c' b id e:=by
 obtain ⟨A,cap,B,R,hc⟩:=E.ex
 exact ⟨⟨A,cap,B,R,fun x h=>hx _ _ (hc x h)⟩,hx _ _ E.cb,E.la,E.len⟩
theorem WatM.fr {c:Nat→Option Tag} {f:Int→Option Value} {W:Int→List Nat} {x:Int} (M:WatM h c f W x) {S:Nat→Prop} {h':Heap} (fr:Fr S h h') (h1:∀ y,S y→c y≠some (.wat x)):WatM h' c f W x:=by
 unfold WatM at *
 split at M
 · exact M
 · obtain ⟨A,cap,hv,Sl,hc⟩:=M
   exact ⟨A,cap,hv,Sl.fr fr fun y hy hs=>h1 y hs (hc y hy),hc⟩
theorem WatM.ext {c c':Nat→Option Tag} {f:Int→Option Value} {W:Int→List Nat} {x:Int} (M:WatM h c f W x) (hx:∀ y t,c y=some t→c' y=some t):WatM h c' f W x:=by
 unfold WatM at *
 split at M
 · exact M
 · obtain ⟨A,cap,hv,Sl,hc⟩:=M
   exact ⟨A,cap,hv,Sl,fun y hy=>hx _ _ (hc y hy)⟩
theorem BaseM.fr (M:BaseM h bb p s) {S:Nat→Prop} {h':Heap} (f:Fr S h h') (hs:∀ x,S x→p.c x=none):BaseM h' bb p s where
 low x t hx:=Nat.lt_of_lt_of_le (M.low x t hx) f.size
 B:=M.B.fr f fun h=>by have:=hs _ h; rw [M.cB] at this; cases this
 cB:=M.cB
 T:=M.T.fr f fun x hx h=>by have:=hs _ h; rw [M.cT x hx] at this; cases this
 cT:=M.cT
 L:=M.L.fr f fun x hx h=>by have:=hs _ h; rw [M.cL x hx] at this; cases this
 cL:=M.cL
 E id e he:=(M.E id e he).fr f (fun x hx=>by rw [hs x hx]; exact fun h=>(nomatch h)) (fun x hx=>by rw [hs x hx]; exact fun h=>(nomatch h))
 M:=M.M.fr f fun h=>by have:=hs _ h; rw [M.cM] at this; cases this
 cM:=M.cM
 W x:=(M.W x).fr f fun y hy=>by rw [hs y hy]; exact fun h=>(nomatch h)
 D:=M.D.fr f fun x hx h=>by have:=hs _ h; rw [M.cD x hx] at this; cases this
 cD:=M.cD
 sm:=M.sm
theorem BaseM.fr0 (M:BaseM h bb p s) {h':Heap} (f:Fr (fun _=>False) h h'):BaseM h' bb p s:=M.fr f fun _ h=>h.elim
theorem there_some (M:BaseM h bb p s) {id:Nat} {e:Ent} (he:s.cs[id]?=some e) (hg:e.gone=false) :
  CallsH Tryz.prog 66 [.pointer (some ⟨bb,0,none⟩),.int .i64 id] h fun r h'=>r=.pointer (some ⟨p.eb id,0,none⟩)∧h'=h:=by
 have s1:=M.B.at' 1 _ rfl
 have hid:=(List.getElem?_eq_some_iff.1 he).1
 have hsm:=M.sm.1
 obtain ⟨bk,hL,_,_,hc⟩:=M.L.base (by rw [eptrs_len]; omega)
 rw [hL] at s1
 have c0:=hc id _ (eptrs_at hid)
 obtain ⟨A,cap,EB,_,_⟩:=(M.E id e he).ex
 have e2:=EB.at' 2 _ rfl
 rw [hg] at e2
 refine calls_of 35 [.tmp 4] Go.Proofs.Tryz.func66 rfl rfl rfl ?_
 simp -implicitDefEqProofs (disch:=omega) [go_sem,s1,c0,e2]
theorem there_none (M:BaseM h bb p s) {id:Int} (h0:-9223372036854775808≤id) (h1:id≤9223372036854775807) (hg:0≤id→∀ e,s.cs[id.toNat]?=some e→e.gone=true) :
   CallsH Tryz.prog 66 [.pointer (some ⟨bb,0,none⟩),.int .i64 id] h fun r h'=>r=.pointer none∧h'=h:=by
 have s1:=M.B.at' 1 _ rfl
 have hsm:=M.sm.1
 refine calls_of 35 [.tmp 4] Go.Proofs.Tryz.func66 rfl rfl rfl ?_
 by_cases hn:id<0
 · simp -implicitDefEqProofs (disch:=omega) [go_sem,s1]
 · by_cases hb:id<s.cs.length
   · obtain ⟨k,rfl⟩:∃ k:Nat,id=k:=⟨id.toNat,by omega⟩
     have hk:k<s.cs.length:=by omega
     obtain ⟨bk,hL,_,_,hc⟩:=M.L.base (by rw [eptrs_len]; omega)
     rw [hL] at s1
     have c0:=hc k _ (eptrs_at hk)
     have he:=List.getElem?_eq_getElem hk
     have hgo:=hg (by omega) s.cs[k] (by rw [Int.toNat_natCast]; exact he)
     obtain ⟨A,cap,EB,_,_⟩:=(M.E k _ he).ex
     have e2:=EB.at' 2 _ rfl
     rw [hgo] at e2
     simp -implicitDefEqProofs (disch:=omega) [go_sem,s1,c0,e2]
   · simp -implicitDefEqProofs (disch:=omega) [go_sem,s1]
theorem btrail_m (M:BaseM h bb p s):CallsH Tryz.prog 20 [.pointer (some ⟨bb,0,none⟩)] h fun r h'=>r=.pointer (some ⟨p.tb,0,none⟩)∧h'=h:=by
 have s0:=M.B.at' 0 _ rfl
 refine calls_of 7 [.tmp 2] Go.Proofs.Tryz.func20 rfl rfl rfl ?_
 simp -implicitDefEqProofs (disch:=omega) [go_sem,s0]
theorem clause_some (M:BaseM h bb p s) {id:Nat} {e:Ent} (he:s.cs[id]?=some e) (hg:e.gone=false) :
  CallsH Tryz.prog 16 [.pointer (some ⟨bb,0,none⟩),.int .i64 id] h fun r h'=>∃ A' c',r=.tuple #[.slice A' e.lits.length c',.bool true]∧SlAt h' A' c' (ints e.lits)∧(∀ x,blk A' x→h.size≤x)∧Fr (fun _=>False) h h':=by
 have EM:=M.E id e he
 have hlen:=EM.len
 obtain ⟨A,cap,EB,R,_⟩:=EM.ex
 have e0:=EB.at' 0 _ rfl
 refine calls_of 17 [.tmp 4,.tmp 5] Go.Proofs.Tryz.func16 rfl rfl rfl ?_
 simp -implicitDefEqProofs (disch:=omega) [go_sem]
 refine useC (there_some M he hg) ?_
 rintro _ h' ⟨rfl,rfl⟩
 simp -implicitDefEqProofs (disch:=omega) [go_sem,e0]
 refine useC (clone_ok R (by rw [ints_len]) ints_one (by omega)) ?_
 rintro _ h2 ⟨A',c',rfl,S,hA,f⟩
 simp -implicitDefEqProofs (disch:=omega) [go_sem]
 exact ⟨A',c',⟨rfl,rfl⟩,S,hA,f⟩
theorem clause_none (M:BaseM h bb p s) {id:Int} (h0:-9223372036854775808≤id) (h1:id≤9223372036854775807) (hg:0≤id→∀ e,s.cs[id.toNat]?=some e→e.gone=true) :
  CallsH Tryz.prog 16 [.pointer (some ⟨bb,0,none⟩),.int .i64 id] h fun r h'=>r=.tuple #[.slice none 0 0,.bool false]∧h'=h:=by
 refine calls_of 17 [.tmp 4,.tmp 5] Go.Proofs.Tryz.func16 rfl rfl rfl ?_
 simp -implicitDefEqProofs (disch:=omega) [go_sem]
 refine useC (there_none M h0 h1 hg) ?_
 rintro _ h' ⟨rfl,rfl⟩
 simp -implicitDefEqProofs (disch:=omega) [go_sem]
def freeP (l:List St) (but x:Int):Bool:=decide (0≤trI l x)&&decide (x≠but)
theorem findF_ok {b1 b2:Nat} {but x:Int} (M:BaseM h bb p s) (hb1:hcell h ⟨b1,0,none⟩=some (.pointer (some ⟨bb,0,none⟩))) (hb2:hcell h ⟨b2,0,none⟩=some (.int .i64 but)) (h0:-9223372036854775808≤x) (h1:x≤9223372036854775807) :
  CallsH Tryz.prog 207 ([.int .i64 x]++[.pointer (some ⟨b1,0,none⟩),.pointer (some ⟨b2,0,none⟩)]) h fun r h'=>r=.bool (freeP s.l but x)∧h'=h:=by
 have s0:=M.B.at' 0 _ rfl
 refine calls_of 17 [.tmp 4] Go.Proofs.Tryz.func207 rfl rfl rfl ?_
 simp -implicitDefEqProofs (disch:=omega) [go_sem,hb1,s0]
 refine useC (ttruth_ok M.T h0 h1) ?_
 rintro _ h' ⟨rfl,rfl⟩
 unfold freeP
 by_cases e:0≤trI s.l x
 · simp -implicitDefEqProofs (disch:=omega) [go_sem,hb2,e]
 · simp -implicitDefEqProofs (disch:=omega) [go_sem,hb2,e]
theorem find_m (M:BaseM h bb p s) (hv:s.vars≤16777216) {id:Nat} {e:Ent} (he:s.cs[id]?=some e) (hcl:∀ x∈e.lits,1≤x.natAbs∧x.natAbs≤s.vars) (but:Int) :
  CallsH Tryz.prog 158 [.pointer (some ⟨bb,0,none⟩),.pointer (some ⟨p.eb id,0,none⟩),.int .i64 but] h fun r h'=>r=.int .i64 (idxF (freeP s.l but) e.lits)∧Fr (fun _=>False) h h':=by
 have EM:=M.E id e he
 have hlen:=EM.len
 refine calls_of 13 [.tmp 6] Go.Proofs.Tryz.func158 rfl rfl rfl ?_
 obtain ⟨h2,e2⟩:∃ h2,h2=(h.push (.cells #[.pointer (some ⟨bb,0,none⟩)] 26)).push (.cells #[.int .i64 but] 3):=⟨_,rfl⟩
 have f2:Fr (fun _=>False) h h2:=by rw [e2]; exact ((Fr.refl _ _).push).push
 have M2:=M.fr0 f2
 obtain ⟨A,cap,EB,R,_⟩:=(M2.E id e he).ex
 have e0:=EB.at' 0 _ rfl
 have q1:hcell h2 ⟨h.size,0,none⟩=some (.pointer (some ⟨bb,0,none⟩)):=by
  rw [e2,hcell_push_old (by rw [push_size]; omega),hcell_push_new]; rfl
 have q2:hcell h2 ⟨h.size+1,0,none⟩=some (.int .i64 but):=by
  rw [e2]
  have:h.size+1=(h.push (.cells #[.pointer (some ⟨bb,0,none⟩)] 26)).size:=by rw [push_size]
  rw [this,hcell_push_new]; rfl
 rw [e2] at e0
 simp -implicitDefEqProofs (disch:=omega) [go_sem,e0]
 rw [← e2]
 have ci:=indexFunc_ok (cs:=[.pointer (some ⟨h.size,0,none⟩),.pointer (some ⟨h.size+1,0,none⟩)]) (c:=cap) R rfl (by omega) (freeP s.l but) (fun x hx=>findF_ok M2 q1 q2 (by have:=hcl x hx; omega) (by have:=hcl x hx; omega))
 refine useC ci ?_
 rintro _ h3 ⟨rfl,rfl⟩
 simp -implicitDefEqProofs (disch:=omega) [go_sem]
 exact f2
end
theorem reco {c:Nat→Option Tag} {sz:Nat} (N:Nat→Prop) (t:Tag) (hN:∀ x,N x→c x=some t∨sz≤x) (low:∀ x u,c x=some u→x<sz) :
   ∃ c':Nat→Option Tag,(∀ x,N x→c' x=some t)∧(∀ x u,c x=some u→c' x=some u)∧(∀ x u,c' x=some u→c x=some u∨(N x∧sz≤x)):=by
 classical
 refine ⟨fun x=>if N x then some t else c x,fun x hx=>if_pos hx,fun x u hx=>?_,fun x u hx=>?_⟩
 · by_cases h:N x
   · simp only [if_pos h]
     rcases hN x h with h2 | h2
     · rw [hx] at h2; exact h2.symm
     · have:=low x u hx; omega
   · simp only [if_neg h]; exact hx
 · by_cases h:N x
   · simp only [if_pos h] at hx
     rcases hN x h with h2 | h2
     · left; rw [h2]; exact hx
     · exact .inr ⟨h,h2⟩
   · simp only [if_neg h] at hx; exact .inl hx
structure Stp (p p':BP) (h h':Heap):Prop where
 ext:∀ x t,p.c x=some t→p'.c x=some t
 own:∀ x t,p'.c x=some t→p.c x=some t∨h.size≤x
 fr:Fr (fun x=>p.c x≠none) h h'
theorem Stp.refl {p:BP} {h:Heap}:Stp p p h h:=⟨fun _ _ h=>h,fun _ _ h=>.inl h,Fr.refl _ _⟩
theorem Stp.trans {p p' p'':BP} {h h' h'':Heap} (a:Stp p p' h h') (b:Stp p' p'' h' h''):Stp p p'' h h'' where
 ext x t hx:=b.ext x t (a.ext x t hx)
 own x t hx:=(b.own x t hx).elim (a.own x t) fun h=>.inr (Nat.le_trans a.fr.size h)
 fr:=a.fr.trans' b.fr fun x hx hn=>by
  cases hc:p'.c x with
  | none=>exact absurd hc hn
  | some t =>
    rcases a.own x t hc with h | h
    · rw [h]; exact fun h=>(nomatch h)
    · omega
theorem Stp.fr0 {p:BP} {h h':Heap} (f:Fr (fun _=>False) h h'):Stp p p h h':=⟨fun _ _ h=>h,fun _ _ h=>.inl h,f.mono fun _ _ h=>h.elim⟩
section
variable {h h':Heap} {bb:Nat} {p:BP} {s:WS}
theorem BaseM.trail (M:BaseM h bb p s) {O':Nat→Prop} {l':List St} {level':Nat} (T':TrailOk h' p.tb O' s.vars l' level') (nx:Nx p.OT O' h h') :
  ∃ p',BaseM h' bb p' { s with l:=l',level:=level' }∧Stp p p' h h'∧p'.eb=p.eb∧p'.f=p.f∧p'.mb=p.mb:=by
 obtain ⟨c',h1,h2,h3⟩:=reco (c:=p.c) (sz:=h.size) O' .trail (fun x hx=>(nx.own x hx).imp_left (M.cT x)) M.low
 have f:Fr (fun x=>p.c x=some .trail) h h':=nx.fr.mono fun x _ hx=>M.cT x hx
 refine ⟨{ p with OT:=O',c:=c' },?_,⟨h2,fun x t hx=>(h3 x t hx).imp_right fun h=>h.2,f.mono fun x _ hx=>by rw [hx]; exact fun h=>(nomatch h)⟩,rfl,rfl,rfl⟩
 exact {
  low:=fun x t hx=>(h3 x t hx).elim (fun h=>Nat.lt_of_lt_of_le (M.low x t h) nx.fr.size) fun h=>T'.low x h.1
  B:=M.B.fr f fun h=>by rw [M.cB] at h; cases h
  cB:=h2 _ _ M.cB
  T:=T'
  cT:=h1
  L:=M.L.fr f fun x hx h=>by rw [M.cL x hx] at h; cases h
  cL:=fun x hx=>h2 _ _ (M.cL x hx)
  E:=fun id e he=>((M.E id e he).fr f (fun x hx=>by rw [hx]; exact fun h=>(nomatch h)) (fun x hx=>by rw [hx]; exact fun h=>(nomatch h))).ext h2
  M:=M.M.fr f fun h=>by rw [M.cM] at h; cases h
  cM:=h2 _ _ M.cM
  W:=fun x=>((M.W x).fr f fun y hy=>by rw [hy]; exact fun h=>(nomatch h)).ext h2
  D:=M.D.fr f fun x hx h=>by rw [M.cD x hx] at h; cases h
  cD:=fun x hx=>h2 _ _ (M.cD x hx)
  sm:=M.sm }
theorem BaseM.cell (M:BaseM h bb p s) {i:Nat} {v:Value} {s':WS} (hB:([Value.pointer (some ⟨p.tb,0,none⟩),.slice p.L s.cs.length p.cl,.map (some p.mb),.slice p.TA s.todo.length p.tc,.int .i64 (s.head:Int)].set i v) =
   [.pointer (some ⟨p.tb,0,none⟩),.slice p.L s'.cs.length p.cl,.map (some p.mb),.slice p.TA s'.todo.length p.tc,.int .i64 (s'.head:Int)]) (hi:i<5)
  (e1:s'.vars=s.vars) (e2:s'.l=s.l) (e3:s'.level=s.level) (e4:s'.cs=s.cs) (e5:s'.W=s.W) (e6:s'.todo=s.todo):BaseM (hset h ⟨bb,i,none⟩ v) bb p s':=by
 have f:Fr (fun x=>x=bb) h (hset h ⟨bb,i,none⟩ v):=(Fr.refl _ _).set rfl
 have nb:∀ {x:Nat} {t:Tag},p.c x=some t→t≠.base→x≠bb:=fun h ht e=>by subst e; rw [M.cB] at h; cases h; exact ht rfl
 exact {
  low:=fun x t hx=>by rw [hset_size]; exact M.low x t hx
  B:=by rw [← hB]; exact M.B.set v (by simpa using hi)
  cB:=M.cB
  T:=by rw [e1,e2,e3]; exact M.T.fr f fun x hx=>nb (M.cT x hx) (fun h=>(nomatch h))
  cT:=M.cT
  L:=by rw [e4]; exact M.L.fr f fun x hx=>nb (M.cL x hx) (fun h=>(nomatch h))
  cL:=M.cL
  E:=fun id e he=>by rw [e4] at he; exact (M.E id e he).fr f (fun x hx=>by rw [hx,M.cB]; exact fun h=>(nomatch h)) (fun x hx=>by rw [hx,M.cB]; exact fun h=>(nomatch h))
  M:=M.M.fr f (nb M.cM (fun h=>(nomatch h)))
  cM:=M.cM
  W:=fun x=>by rw [e5]; exact (M.W x).fr f fun y hy=>by rw [hy,M.cB]; exact fun h=>(nomatch h)
  D:=by rw [e6]; exact M.D.fr f fun x hx=>nb (M.cD x hx) (fun h=>(nomatch h))
  cD:=M.cD
  sm:=by rw [e4,e6]; exact M.sm }
theorem BaseM.setHead (M:BaseM h bb p s) (n:Nat):BaseM (hset h ⟨bb,4,none⟩ (.int .i64 n)) bb p { s with head:=n }:=M.cell (by rfl) (by omega) rfl rfl rfl rfl rfl rfl
theorem stp_set (M:BaseM h bb p s) {b o:Nat} {v:Value} {t:Tag} (hc:p.c b=some t):Stp p p h (hset h ⟨b,o,none⟩ v) :=
 ⟨fun _ _ h=>h,fun _ _ h=>.inl h,(Fr.refl _ _).set (show p.c b≠none by rw [hc]; exact fun h=>(nomatch h))⟩
theorem BaseM.entry (M:BaseM h bb p s) {id i:Nat} {e e':Ent} {v:Value} (he:s.cs[id]?=some e) (hl:e'.lits=e.lits) (ha:e'.a1≤16777216∧e'.a2≤16777216)
  (hv:∀ A cap,[Value.slice A e.lits.length cap,.complex .f64 (Fx.enc e.a1) (Fx.enc e.a2),.bool e.gone].set i v=[.slice A e.lits.length cap,.complex .f64 (Fx.enc e'.a1) (Fx.enc e'.a2),.bool e'.gone]) (hi:i<3)
  {s':WS} (e1:s'.vars=s.vars) (e2:s'.l=s.l) (e3:s'.level=s.level) (e4:s'.cs=s.cs.set id e') (e5:s'.W=s.W) (e6:s'.todo=s.todo) (e7:s'.head=s.head):BaseM (hset h ⟨p.eb id,i,none⟩ v) bb p s':=by
 have EM:=M.E id e he
 have hid:=(List.getElem?_eq_some_iff.1 he).1
 have f:Fr (fun x=>x=p.eb id) h (hset h ⟨p.eb id,i,none⟩ v):=(Fr.refl _ _).set rfl
 have nb:∀ {x:Nat} {t:Tag},p.c x=some t→t≠.ent id→x≠p.eb id:=fun h ht e=>by subst e; rw [EM.cb] at h; cases h; exact ht rfl
 have hlen:s'.cs.length=s.cs.length:=by rw [e4,List.length_set]
 exact {
  low:=fun x t hx=>by rw [hset_size]; exact M.low x t hx
  B:=by rw [hlen,e6,e7]; exact M.B.fr f (nb M.cB (fun h=>(nomatch h)))
  cB:=M.cB
  T:=by rw [e1,e2,e3]; exact M.T.fr f fun x hx=>nb (M.cT x hx) (fun h=>(nomatch h))
  cT:=M.cT
  L:=by rw [hlen]; exact M.L.fr f fun x hx=>nb (M.cL x hx) (fun h=>(nomatch h))
  cL:=M.cL
  E := fun k e2 he2=>by
    rw [e4,List.getElem?_set] at he2
    by_cases hk:id=k
    · subst hk
      rw [if_pos rfl,if_pos hid] at he2
      cases he2
      obtain ⟨A,cap,EB,R,hc⟩:=EM.ex
      refine ⟨⟨A,cap,?_,?_,hc⟩,EM.cb,ha,by rw [hl]; exact EM.len⟩
      · rw [hl,← hv]; exact EB.set v (by simpa using hi)
      · rw [hl]; exact R.fr f fun x hx=>nb (hc x hx) (fun h=>(nomatch h))
    · rw [if_neg hk] at he2
      refine (M.E k e2 he2).fr f (fun x hx=>?_) (fun x hx=>?_)
      · rw [hx,EM.cb]; intro h; cases h; exact hk rfl
      · rw [hx,EM.cb]; exact fun h=>(nomatch h)
  M:=M.M.fr f (nb M.cM (fun h=>(nomatch h)))
  cM:=M.cM
  W:=fun x=>by rw [e5]; exact (M.W x).fr f fun y hy=>by rw [hy,EM.cb]; exact fun h=>(nomatch h)
  D:=by rw [e6]; exact M.D.fr f fun x hx=>nb (M.cD x hx) (fun h=>(nomatch h))
  cD:=M.cD
  sm:=by rw [hlen,e6]; exact M.sm }
theorem BaseM.setA (M:BaseM h bb p s) {id i j:Nat} {e:Ent} (he:s.cs[id]?=some e) (hi:i≤16777216) (hj:j≤16777216) :
  BaseM (hset h ⟨p.eb id,1,none⟩ (.complex .f64 (Fx.enc i) (Fx.enc j))) bb p { s with cs:=setE s.cs id i j } :=
 M.entry (e':={ e with a1:=i,a2:=j }) he rfl ⟨hi,hj⟩ (fun _ _=>rfl) (by omega) rfl rfl rfl (by simp only [setE,he]) rfl rfl rfl
def setG (cs:List Ent) (id:Nat):List Ent:=match cs[id]? with
 | some e=>cs.set id { e with gone:=true }
 | none=>cs
theorem BaseM.setGone (M:BaseM h bb p s) {id:Nat} {e:Ent} (he:s.cs[id]?=some e):BaseM (hset h ⟨p.eb id,2,none⟩ (.bool true)) bb p { s with cs:=setG s.cs id } :=
 M.entry (e':={ e with gone:=true }) he rfl (M.E id e he).la (fun _ _=>rfl) (by omega) rfl rfl rfl (by simp only [setG,he]) rfl rfl rfl
theorem BaseM.todo (M:BaseM h bb p s) {h2:Heap} {TA':Option Addr} {tc':Nat} {l':List Nat} (f:Fr (blk p.TA) h h2) (D:SlO h2 TA' tc' (ids l')) (hA:∀ y,blk TA' y→blk p.TA y∨h.size≤y) (hl:l'.length<2^40) :
   ∃ p',BaseM (hset h2 ⟨bb,3,none⟩ (.slice TA' l'.length tc')) bb p' { s with todo:=l' }∧Stp p p' h (hset h2 ⟨bb,3,none⟩ (.slice TA' l'.length tc'))∧p'.eb=p.eb∧p'.f=p.f∧p'.mb=p.mb:=by
 obtain ⟨c',h1,h2',h3⟩:=reco (c:=p.c) (sz:=h.size) (blk TA') .todo (fun x hx=>(hA x hx).imp_left (M.cD x)) M.low
 have g:Fr (fun x=>p.c x=some .todo) h h2:=f.mono fun x _ hx=>M.cD x hx
 have B2:ListB h2 bb _:=M.B.fr g fun h=>by rw [M.cB] at h; cases h
 have f2:Fr (fun x=>p.c x=some .todo∨x=bb) h (hset h2 ⟨bb,3,none⟩ (.slice TA' l'.length tc')):=(g.mono fun _ _ h=>.inl h).set (.inr rfl)
 have nb:∀ {x:Nat} {t:Tag},p.c x=some t→t≠.todo→t≠.base→¬ (p.c x=some .todo∨x=bb):=fun h h1 h2 hn=>by
   rcases hn with hn | rfl
   · rw [h] at hn; cases hn; exact h1 rfl
   · rw [M.cB] at h; cases h; exact h2 rfl
 have nb2:∀ {x:Nat} {t:Tag},(p.c x=some .todo∨x=bb)→t≠.todo→t≠.base→p.c x≠some t:=fun hx h1 h2 h=>nb h h1 h2 hx
 refine ⟨{ p with TA:=TA',tc:=tc',c:=c' },?_,⟨h2',fun x t hx=>(h3 x t hx).imp_right fun h=>h.2,f2.mono fun x _ hx=>?_⟩,rfl,rfl,rfl⟩
 · exact {
    low:=fun x t hx=>by
      rw [hset_size]
      exact (h3 x t hx).elim (fun h=>Nat.lt_of_lt_of_le (M.low x t h) f.size) fun h=>D.blk_lt h.1
    B:=B2.set (i:=3) (.slice TA' l'.length tc') (by simp)
    cB:=h2' _ _ M.cB
    T:=M.T.fr f2 fun x hx=>nb (M.cT x hx) (fun h=>(nomatch h)) (fun h=>(nomatch h))
    cT:=fun x hx=>h2' _ _ (M.cT x hx)
    L:=M.L.fr f2 fun x hx=>nb (M.cL x hx) (fun h=>(nomatch h)) (fun h=>(nomatch h))
    cL:=fun x hx=>h2' _ _ (M.cL x hx)
    E:=fun id e he=>((M.E id e he).fr f2 (fun x hx=>nb2 hx (fun h=>(nomatch h)) (fun h=>(nomatch h))) (fun x hx=>nb2 hx (fun h=>(nomatch h)) (fun h=>(nomatch h)))).ext h2'
    M:=M.M.fr f2 (nb M.cM (fun h=>(nomatch h)) (fun h=>(nomatch h)))
    cM:=h2' _ _ M.cM
    W:=fun x=>((M.W x).fr f2 fun y hy=>nb2 hy (fun h=>(nomatch h)) (fun h=>(nomatch h))).ext h2'
    D := D.keep (fun x hx=>hset_other (fun e=>by
      have e':x=bb:=e
      rw [e'] at hx
      rcases hA bb hx with h | h
      · have:=M.cD bb h; rw [M.cB] at this; cases this
      · have:=M.low bb _ M.cB; omega)) (by rw [hset_size]; exact Nat.le_refl _)
    cD:=h1
    sm:=⟨M.sm.1,hl⟩ }
 · rcases hx with hx | rfl
   · rw [hx]; exact fun h=>(nomatch h)
   · rw [M.cB]; exact fun h=>(nomatch h)
theorem BaseM.wat (M:BaseM h bb p s) {h2 h3:Heap} {x:Int} {A':Option Addr} {cap':Nat} {w:List Nat} (f:Fr (fun y=>p.c y=some (.wat x)) h h2) (D:SlO h2 A' cap' (ids w)) (hA:∀ y,blk A' y→p.c y=some (.wat x)∨h.size≤y)
   (MA:MapAt h3 p.mb (fun y=>if y=x then some (.slice A' w.length cap') else p.f y)) (f3:Fr (fun y=>y=p.mb) h2 h3) :
   ∃ p',BaseM h3 bb p' { s with W:=updW s.W x w }∧Stp p p' h h3∧p'.eb=p.eb∧p'.f=(fun y=>if y=x then some (.slice A' w.length cap') else p.f y)∧p'.mb=p.mb:=by
 obtain ⟨c',h1,h2',h3'⟩:=reco (c:=p.c) (sz:=h.size) (blk A') (.wat x) hA M.low
 have f2:Fr (fun y=>p.c y=some (.wat x)∨y=p.mb) h h3:=(f.mono fun _ _ h=>.inl h).trans (f3.mono fun _ _ h=>.inr h)
 have nb:∀ {y:Nat} {t:Tag},p.c y=some t→t≠.wat x→t≠.map→¬ (p.c y=some (.wat x)∨y=p.mb):=fun h h1 h2 hn=>by
   rcases hn with hn | rfl
   · rw [h] at hn; cases hn; exact h1 rfl
   · rw [M.cM] at h; cases h; exact h2 rfl
 have nb2:∀ {y:Nat} {t:Tag},(p.c y=some (.wat x)∨y=p.mb)→t≠.wat x→t≠.map→p.c y≠some t:=fun hx h1 h2 h=>nb h h1 h2 hx
 refine ⟨{ p with f:=fun y=>if y=x then some (.slice A' w.length cap') else p.f y,c:=c' },?_,⟨h2',fun x t hx=>(h3' x t hx).imp_right fun h=>h.2,f2.mono fun y _ hy=>?_⟩,rfl,rfl,rfl⟩
 · exact {
    low:=fun y t hy=>(h3' y t hy).elim (fun h=>Nat.lt_of_lt_of_le (M.low y t h) f2.size) fun h=>Nat.lt_of_lt_of_le (D.blk_lt h.1) f3.size
    B:=M.B.fr f2 (nb M.cB (fun h=>(nomatch h)) (fun h=>(nomatch h)))
    cB:=h2' _ _ M.cB
    T:=M.T.fr f2 fun x hx=>nb (M.cT x hx) (fun h=>(nomatch h)) (fun h=>(nomatch h))
    cT:=fun x hx=>h2' _ _ (M.cT x hx)
    L:=M.L.fr f2 fun x hx=>nb (M.cL x hx) (fun h=>(nomatch h)) (fun h=>(nomatch h))
    cL:=fun x hx=>h2' _ _ (M.cL x hx)
    E:=fun id e he=>((M.E id e he).fr f2 (fun x hx=>nb2 hx (fun h=>(nomatch h)) (fun h=>(nomatch h))) (fun x hx=>nb2 hx (fun h=>(nomatch h)) (fun h=>(nomatch h)))).ext h2'
    M:=MA
    cM:=h2' _ _ M.cM
    W := fun z=>by
      show WatM h3 c' (fun y=>if y=x then some (.slice A' w.length cap') else p.f y) (updW s.W x w) z
      by_cases e:z=x
      · subst e
        unfold WatM
        simp only [if_pos]
        rw [updW_same]
        refine ⟨A',cap',rfl,D.fr f3 fun y hy e=>?_,h1⟩
        subst e
        rcases hA _ hy with h | h
        · rw [M.cM] at h; cases h
        · have:=M.low _ _ M.cM; omega
      · have:=((M.W z).fr f2 fun y hy=>nb2 hy (fun h=>by cases h; exact e rfl) (fun h=>(nomatch h))).ext h2'
        unfold WatM at this ⊢
        simp only [if_neg e]
        rw [updW_other _ _ e]
        exact this
    D:=M.D.fr f2 fun x hx=>nb (M.cD x hx) (fun h=>(nomatch h)) (fun h=>(nomatch h))
    cD:=fun x hx=>h2' _ _ (M.cD x hx)
    sm:=M.sm }
 · rcases hy with hy | rfl
   · rw [hy]; exact fun h=>(nomatch h)
   · rw [M.cM]; exact fun h=>(nomatch h)
theorem BaseM.unwat (M:BaseM h bb p s) {h2:Heap} {f':Int→Option Value} {W':Int→List Nat} (MA:MapAt h2 p.mb f') (f3:Fr (fun y=>y=p.mb) h h2) (hf:∀ x,(f' x=p.f x∧W' x=s.W x)∨(f' x=none∧W' x=[])) :
  BaseM h2 bb { p with f:=f' } { s with W:=W' }:=by
 have nb:∀ {y:Nat} {t:Tag},p.c y=some t→t≠.map→¬ y=p.mb:=fun h h1 hn=>by subst hn; rw [M.cM] at h; cases h; exact h1 rfl
 have nb2:∀ {y:Nat} {t:Tag},y=p.mb→t≠.map→p.c y≠some t:=fun hx h1 h=>nb h h1 hx
 exact {
  low:=fun y t hy=>Nat.lt_of_lt_of_le (M.low y t hy) f3.size
  B:=M.B.fr f3 (nb M.cB (fun h=>(nomatch h)))
  cB:=M.cB
  T:=M.T.fr f3 fun x hx=>nb (M.cT x hx) (fun h=>(nomatch h))
  cT:=M.cT
  L:=M.L.fr f3 fun x hx=>nb (M.cL x hx) (fun h=>(nomatch h))
  cL:=M.cL
  E:=fun id e he=>(M.E id e he).fr f3 (fun x hx=>nb2 hx (fun h=>(nomatch h))) (fun x hx=>nb2 hx (fun h=>(nomatch h)))
  M:=MA
  cM:=M.cM
  W := fun z=>by
    show WatM h2 p.c f' W' z
    have:=(M.W z).fr f3 fun y hy=>nb2 hy (fun h=>(nomatch h))
    unfold WatM at this ⊢
    rcases hf z with ⟨h1,h2⟩ | ⟨h1,h2⟩
    · rw [h1,h2]; exact this
    · rw [h1]; exact h2
  D:=M.D.fr f3 fun x hx=>nb (M.cD x hx) (fun h=>(nomatch h))
  cD:=M.cD
  sm:=M.sm }
theorem stp_map (M:BaseM h bb p s) {h2:Heap} {f':Int→Option Value} (f3:Fr (fun y=>y=p.mb) h h2):Stp p { p with f:=f' } h h2 :=
 ⟨fun _ _ h=>h,fun _ _ h=>.inl h,f3.mono fun y _ hy=>by rw [hy,M.cM]; exact fun h=>(nomatch h)⟩
end
theorem fold1 {α β:Type} (f:β→α→β) (a:β) (x:α):Array.foldl f a #[x] 0 1=f a x:=rfl
theorem idxF_cases (p:Int→Bool) (l:List Int):(idxF p l=-1∧∀ x∈l,p x=false)∨∃ (i:Nat) (x:Int),idxF p l=i∧l[i]?=some x∧p x=true:=by
 unfold idxF
 cases h:l.findIdx? p with
 | none =>
   rw [List.findIdx?_eq_none_iff] at h
   exact .inl ⟨rfl,fun x hx=>by simpa using h x hx⟩
 | some i =>
   obtain ⟨hk,hp,_⟩:=List.findIdx?_eq_some_iff_getElem.1 h
   exact .inr ⟨i,l[i],rfl,List.getElem?_eq_getElem hk,hp⟩
def absC (cs:List Ent):List (List Int × Bool):=cs.map fun e=>(e.lits,e.gone)
theorem absC_at {cs:List Ent} {id:Nat} {e:Ent} (h:cs[id]?=some e):(absC cs)[id]?=some (e.lits,e.gone):=by unfold absC; rw [List.getElem?_map,h]; rfl
theorem absC_setE (cs:List Ent) (id i j:Nat):absC (setE cs id i j)=absC cs:=by
 unfold setE
 split
 · rename_i e he
   unfold absC
   apply List.ext_getElem?
   intro k
   simp only [List.getElem?_map,List.getElem?_set]
   by_cases h:id=k
   · subst h; rw [if_pos rfl,if_pos (List.getElem?_eq_some_iff.1 he).1,he]; rfl
   · rw [if_neg h]
 · rfl
inductive US (C:List (List Int × Bool)) (lev:Nat):List St→List St→Prop
 | refl (l:List St):US C lev l l
 | step {l l':List St} {x:Int} {id:Nat} {c:List Int}:US C lev l l'→C[id]?=some (c,false)→UnitAt l' c x→US C lev l (l'++[⟨x,id,lev⟩])
theorem US.trans {C:List (List Int × Bool)} {lev:Nat} {a b c:List St} (h1:US C lev a b) (h2:US C lev b c):US C lev a c:=by
 induction h2 with
 | refl=>exact h1
 | step _ hc hu ih=>exact .step ih hc hu
structure Adv (s s':WS):Prop where
 vars:s'.vars=s.vars
 level:s'.level=s.level
 cs:absC s'.cs=absC s.cs
 us:US (absC s.cs) s.level s.l s'.l
theorem Adv.refl (s:WS):Adv s s:=⟨rfl,rfl,rfl,.refl _⟩
theorem Adv.trans {a b c:WS} (h1:Adv a b) (h2:Adv b c):Adv a c where
 vars:=h2.vars.trans h1.vars
 level:=h2.level.trans h1.level
 cs:=h2.cs.trans h1.cs
 us:=h1.us.trans (by rw [← h1.cs,← h1.level]; exact h2.us)
section
variable {h:Heap} {bb:Nat} {p:BP} {s:WS}
theorem WatM.cur {c:Nat→Option Tag} {f:Int→Option Value} {W:Int→List Nat} {x:Int} (M:WatM h c f W x):∃ A cap,(f x).getD (.slice none 0 0)=.slice A (W x).length cap∧SlO h A cap (ids (W x))∧∀ y,blk A y→c y=some (.wat x):=by
 unfold WatM at M
 cases hf:f x with
 | none =>
   rw [hf] at M
   simp only at M
   rw [M]
   exact ⟨none,0,rfl,SlO.nil,fun y ⟨_,h,_⟩=>(nomatch h)⟩
 | some v =>
   rw [hf] at M
   obtain ⟨A,cap,rfl,S,hc⟩:=M
   exact ⟨A,cap,rfl,S,hc⟩
theorem mapT_w:mapT Tryz.prog 102=some (3,23):=by kernel_rfl
theorem zero_w:zeroOf Tryz.prog 23=some (.slice none 0 0):=by kernel_rfl
theorem BaseM.look (M:BaseM h bb p s) (x:Int):lookV Tryz.prog 102 (.map (some p.mb)) (.int .i64 x) false h=some ((p.f x).getD (.slice none 0 0)):=M.M.look mapT_w zero_w x
theorem WInv.elen (I:WInv s) {id:Nat} {e:Ent} (he:s.cs[id]?=some e):∀ x∈e.lits,1≤x.natAbs∧x.natAbs≤s.vars:=(I.cl e (List.mem_of_getElem? he)).2
theorem WInv.wlen (I:WInv s) (x:Int):(s.W x).length≤s.cs.length:=by
 have:=nodup_le (a:=s.W x) (b:=List.range s.cs.length) (I.wN x) (fun k hk=>List.mem_range.2 (I.wL x k hk).1)
 rwa [List.length_range] at this
def lookS (s:WS) (id i j:Nat) (y z:Int) (k:Nat):WS :=
 { s with cs:=setE s.cs id i j,W:=if k=0 then s.W else if k=1 then updW s.W y (s.W y++[id]) else updW (updW s.W y (s.W y++[id])) z (s.W z++[id]) }
theorem look_m (M:BaseM h bb p s) (I:WInv s) {id:Nat} {rest:List Nat} (ht:s.todo=id::rest) :
   CallsH Tryz.prog 109 [.pointer (some ⟨bb,0,none⟩),.int .i64 id] h fun r h' =>
     ∃ p' s',BaseM h' bb p' s'∧Stp p p' h h'∧((r=.bool false∧s'=s∧∃ e,s.cs[id]?=some e∧e.gone=false∧FailAt s.l e.lits)∨(r=.bool true∧s'.todo=s.todo∧s'.head=s.head∧WInv { s' with todo:=rest }∧Adv s s')):=by
 have hid:=I.todoL id (by rw [ht]; exact List.mem_cons_self ..)
 have hsm:=M.sm.1
 have hvv:=I.hv
 obtain ⟨e,he⟩:∃ e,s.cs[id]?=some e:=⟨_,List.getElem?_eq_getElem hid⟩
 refine calls_of 99 [.tmp 4] Go.Proofs.Tryz.func109 rfl rfl rfl ?_
 simp -implicitDefEqProofs (disch:=omega) [go_sem]
 cases hg:e.gone with
 | true =>
   refine useC (there_none M (id:=(id:Int)) (by omega) (by omega) (fun _ e' he'=>by rw [Int.toNat_natCast,he] at he'; cases he'; exact hg)) ?_
   rintro _ h1 ⟨rfl,rfl⟩
   simp -implicitDefEqProofs (disch:=omega) [go_sem]
   exact ⟨p,s,M,Stp.refl,rfl,rfl,I.skip ht (fun e' he' hg'=>by rw [he] at he'; cases he'; rw [hg] at hg'; cases hg'),Adv.refl s⟩
 | false =>
   refine useC (there_some M he hg) ?_
   rintro _ h1 ⟨rfl,rfl⟩
   simp -implicitDefEqProofs (disch:=omega) [go_sem]
   refine useC (find_m M I.hv he (I.elen he) 0) ?_
   rintro _ h2 ⟨rfl,f2⟩
   have M2:=M.fr0 f2
   have hcl:=I.elen he
   rcases idxF_cases (freeP s.l 0) e.lits with ⟨hi,hno⟩ | ⟨i,y,hi,hy,hpy⟩
   · rw [hi]
     simp -implicitDefEqProofs (disch:=omega) [go_sem]
     rw [List.getElem?_eq_getElem hid,Option.some.injEq] at he
     subst he
     refine ⟨p,s,M2,Stp.fr0 f2,rfl,hg,fun x hx=>?_⟩
     have h1:=hno x hx
     have h2:=hcl x hx
     unfold freeP at h1
     rw [Bool.and_eq_false_iff,decide_eq_false_iff_not,decide_eq_false_iff_not] at h1
     rcases trI_cases s.l x with h | h | h <;> omega
   · rw [hi]
     unfold freeP at hpy
     rw [Bool.and_eq_true,decide_eq_true_eq,decide_eq_true_eq] at hpy
     obtain ⟨EA,Ecap,EB,ER,Ec⟩:=(M2.E id e he).ex
     have hlen:=(M2.E id e he).len
     have e0:=EB.at' 0 _ rfl
     have hil:=(List.getElem?_eq_some_iff.1 hy).1
     obtain ⟨ebk,eoff,rfl,ehc⟩:=ER.get (by rw [ints_len]; omega)
     have cy:=ehc i _ (ints_at hy)
     simp -implicitDefEqProofs (disch:=omega) [go_sem,e0,cy]
     refine useC (find_m M2 I.hv he (I.elen he) y) ?_
     rintro _ h3 ⟨rfl,f3⟩
     have M3:=M2.fr0 f3
     have f23:=f2.trans f3
     have e03:=(f3.cell (o:=0) (hcell_lt e0) (fun h=>h)).trans e0
     have cy3:=(f3.cell (o:=eoff+i) (hcell_lt cy) (fun h=>h)).trans cy
     have s0:=M3.B.at' 0 _ rfl
     have yin:=List.mem_of_getElem? hy
     have hyr:=hcl y yin
     rcases idxF_cases (freeP s.l y) e.lits with ⟨hj,hno⟩ | ⟨j,z,hj,hz,hpz⟩
     · rw [hj]
       have hno':∀ x∈e.lits,x≠y→trI s.l x=-1:=fun x hx hne=>by
         have h1:=hno x hx
         unfold freeP at h1
         rw [Bool.and_eq_false_iff,decide_eq_false_iff_not,decide_eq_false_iff_not] at h1
         rcases trI_cases s.l x with h | h | h <;> omega
       simp -implicitDefEqProofs (disch:=omega) [go_sem]
       refine drawK [(0,0),(1,0),(2,0),(3,1),(4,0),(5,0),(6,0),(7,1),(8,0),(9,0),(10,1),(11,3),(12,0)] ?_
       simp -implicitDefEqProofs (disch:=omega) [go_sem,e03,cy3,s0]
       refine useC (ttruth_ok M3.T (x:=y) (by omega) (by omega)) ?_
       rintro _ h4 ⟨rfl,rfl⟩
       by_cases t0:trI s.l y=0
       · simp -implicitDefEqProofs (disch:=omega) [go_sem,t0]
         refine drawK [(0,0),(1,0),(2,0),(3,1),(4,0),(5,0),(6,0),(7,1),(8,0),(9,0),(10,1),(11,0),(12,3)] ?_
         simp -implicitDefEqProofs (disch:=omega) [go_sem,e03,cy3,s0]
         refine useC (tpush_ok M3.T (x:=y) (r:=(id:Int)) (by omega) (by omega)) ?_
         rintro _ h5 ⟨rfl,O5,T5,nx5⟩
         have hu:UnitAt s.l e.lits y:=⟨yin,t0,hno'⟩
         have hfn:find s.l y.natAbs=none:=by
           cases h:find s.l y.natAbs with
           | none=>rfl
           | some k =>
             obtain ⟨t,ht',h2,_⟩:=find_some h
             have:=tr_at I.good ht' (x:=y) h2.symm
             rw [t0] at this
             split at this <;> omega
         have hpe:pushE s.vars s.l y (id:Int)=0:=by
           unfold pushE varI
           rw [if_pos hyr,if_neg (by omega),hfn]; rfl
         rw [show pushL s.vars s.l y (id:Int) s.level=s.l++[⟨y,id,s.level⟩] from if_pos hpe] at T5
         obtain ⟨p',M5,st5,_⟩:=M3.trail T5 nx5
         have I5:=I.grow (t:=⟨y,id,s.level⟩) (n:=s.level) hfn hyr.1 hyr.2 (.push y id I.lvs) (fun _=>⟨e,by show s.cs[((id:Nat):Int).toNat]?=_; rw [Int.toNat_natCast]; exact he,hg,hu⟩)
         simp -implicitDefEqProofs (disch:=omega) [go_sem]
         refine ⟨p',_,M5,(Stp.fr0 f23).trans st5,rfl,rfl,I5.skip ht (fun e' he' hg'=>?_),⟨rfl,rfl,rfl,.step (.refl _) (by have:=absC_at he; rw [hg] at this; exact this) hu⟩⟩
         have he'':s.cs[id]?=some e':=he'
         rw [he] at he''; cases he''
         exact ⟨y,yin,tr_one.2 (by show y∈lits (s.l++[_]); rw [lits_push]; exact List.mem_append_right _ (List.mem_singleton.2 rfl))⟩
       · have t1:trI s.l y=1:=by rcases trI_cases s.l y with h | h | h <;> omega
         simp -implicitDefEqProofs (disch:=omega) [go_sem,t1]
         exact ⟨p,s,M3,Stp.fr0 f23,rfl,rfl,I.skip ht (fun e' he' hg'=>by rw [he] at he'; cases he'; exact ⟨y,yin,t1⟩),Adv.refl s⟩
     · rw [hj]
       unfold freeP at hpz
       rw [Bool.and_eq_true,decide_eq_true_eq,decide_eq_true_eq] at hpz
       have hjl:=(List.getElem?_eq_some_iff.1 hz).1
       have e13:=((M3.E id e he).ex)
       have M4:=M3.setA he (i:=i) (j:=j) (by omega) (by omega)
       have st4:Stp p p h1 (hset h3 ⟨p.eb id,1,none⟩ (.complex .f64 (Fx.enc i) (Fx.enc j))):=(Stp.fr0 f23).trans (stp_set M3 (M3.E id e he).cb)
       obtain ⟨EA',Ecap',EB3,_,_⟩:=e13
       have e1c:=EB3.at' 1 _ rfl
       have eBf:=EB3.fz
       simp -implicitDefEqProofs (disch:=omega) [go_sem,e1c,eBf,fold1]
       have hyz:y≠z:=Ne.symm hpz.2
       obtain ⟨h4,e4⟩:∃ h4,h4=hset h3 ⟨p.eb id,1,none⟩ (.complex .f64 (Fx.enc i) (Fx.enc j)):=⟨_,rfl⟩
       rw [← e4] at M4 st4
       have M40:BaseM h4 bb p (lookS s id i j y z 0):=M4
       refine loopK (fun ρ h'=>ρ 0=.pointer (some ⟨bb,0,none⟩)∧ρ 1=.int .i64 id∧ρ 5=.pointer (some ⟨p.eb id,0,none⟩)∧ρ 68=.agg #[.int .i64 i,.int .i64 j]∧∃ (k:Nat) (p':BP),ρ 69=.int .i64 k∧k≤2∧BaseM h' bb p' (lookS s id i j y z k)∧Stp p p' h1 h'∧p'.eb=p.eb)
         (fun ρ _=>2-(intOf (ρ 69)).toNat) (by kernel_rfl) ?_ ?_
       · subst e4
         exact ⟨rfl,rfl,rfl,rfl,0,p,rfl,by omega,M40,st4,rfl⟩
       · clear M40 M4 st4 e4 M3 s0 e03 cy3 e0 cy EB EB3 e1c eBf M2 f2 f3 f23 ehc ER
         rintro ρ h5 ⟨r0,r1,r5,r68,k,p',r69,hk,M5,st5,heb⟩
         by_cases hk2:k=2
         · subst hk2
           simp -implicitDefEqProofs (disch:=omega) [go_sem,r0,r1,r5,r68,r69]
           have I6:=I.watch ht he hy hz hyz (by omega) (by omega)
           exact ⟨p',_,M5,st5,rfl,rfl,I6,⟨rfl,rfl,absC_setE _ _ _ _,.refl _⟩⟩
         · have hcase:∃ (ik:Nat) (w:Int),e.lits[ik]?=some w∧[Value.int .i64 (i:Int),.int .i64 j][k]?=some (.int .i64 (ik:Int))∧lookS s id i j y z (k+1)={ lookS s id i j y z k with W:=updW (lookS s id i j y z k).W w ((lookS s id i j y z k).W w++[id]) }∧(lookS s id i j y z k).W w=s.W w:=by
             have:k=0∨k=1:=by omega
             rcases this with rfl | rfl
             · exact ⟨i,y,hy,rfl,rfl,rfl⟩
             · refine ⟨j,z,hz,rfl,?_,?_⟩
               · unfold lookS
                 simp only [Nat.one_ne_zero,if_false,if_true,Nat.reduceAdd,Nat.reduceEqDiff]
                 rw [updW_other _ _ (Ne.symm hyz)]
               · show updW s.W y (s.W y++[id]) z=s.W z
                 exact updW_other _ _ (Ne.symm hyz)
           obtain ⟨ik,w,hw,hidx,hS,hWw⟩:=hcase
           have hwl:=I.wlen w
           have hikl:=(List.getElem?_eq_some_iff.1 hw).1
           have he5:(lookS s id i j y z k).cs[id]?=some { e with a1:=i,a2:=j }:=by show (setE s.cs id i j)[id]?=_; rw [setE_at he,if_pos rfl]
           obtain ⟨EA,Ecap,EB,ER,Ec⟩:=(M5.E id _ he5).ex
           have hcb:=(M5.E id _ he5).cb
           rw [heb] at EB hcb
           have e0:=EB.at' 0 _ rfl
           obtain ⟨ebk,eoff,rfl,ehc⟩:=ER.get (by show 0<(ints e.lits).length; rw [ints_len]; omega)
           have cw:=ehc ik _ (ints_at hw)
           have ccon:=Ec ebk ⟨_,rfl,rfl⟩
           have s2:=M5.B.at' 2 _ rfl
           obtain ⟨A,cap,hcur,SA,hcA⟩:=(M5.W w).cur
           rw [hWw] at hcur SA
           have lk:=M5.look w
           rw [hcur] at lk
           simp -implicitDefEqProofs (disch:=omega) [go_sem,r0,r1,r5,r68,r69,hidx]
           refine drawC [(0,0),(1,0),(2,0),(3,2),(4,0),(5,0),(6,0),(7,2),(8,0),(9,0),(10,2),(11,0),(12,0),(13,0),(14,2),(15,0),(16,0),(17,0),(18,2),(19,0),(20,0),(21,2),(22,2),(23,0),(24,3),(25,3),(26,4)] (fun h'=>hcell h' ⟨bb,2,none⟩=some (.map (some p'.mb))∧hcell h' ⟨p.eb id,0,none⟩=some (.slice (some ⟨ebk,eoff,none⟩) e.lits.length Ecap)∧hcell h' ⟨ebk,eoff+ik,none⟩=some (.int .i64 w) ∧
             lookV Tryz.prog 102 (.map (some p'.mb)) (.int .i64 w) false h'=some (.slice A (s.W w).length cap)) ⟨s2,e0,cw,lk⟩ ?_
           simp -implicitDefEqProofs (disch:=omega) [go_sem,r0,r1,r5]
           refine float2 (.map (some p'.mb)) (fun h' hC=>by obtain ⟨q1,q2,q3,q4⟩:=hC; simp -implicitDefEqProofs (disch:=omega) [go_sem,r0,r1,r5,q1]) ?_
           simp -implicitDefEqProofs (disch:=omega) [go_sem,r0,r1,r5]
           refine float2 (.slice (some ⟨ebk,eoff,none⟩) e.lits.length Ecap) (fun h' hC=>by obtain ⟨q1,q2,q3,q4⟩:=hC; simp -implicitDefEqProofs (disch:=omega) [go_sem,r0,r1,r5,q2]) ?_
           simp -implicitDefEqProofs (disch:=omega) [go_sem,r0,r1,r5]
           refine float2 (.int .i64 w) (fun h' hC=>by obtain ⟨q1,q2,q3,q4⟩:=hC; simp -implicitDefEqProofs (disch:=omega) [go_sem,r0,r1,r5,q3]) ?_
           simp -implicitDefEqProofs (disch:=omega) [go_sem,r0,r1,r5]
           refine float2 (.map (some p'.mb)) (fun h' hC=>by obtain ⟨q1,q2,q3,q4⟩:=hC; simp -implicitDefEqProofs (disch:=omega) [go_sem,r0,r1,r5,q1]) ?_
           simp -implicitDefEqProofs (disch:=omega) [go_sem,r0,r1,r5]
           refine float2 (.slice (some ⟨ebk,eoff,none⟩) e.lits.length Ecap) (fun h' hC=>by obtain ⟨q1,q2,q3,q4⟩:=hC; simp -implicitDefEqProofs (disch:=omega) [go_sem,r0,r1,r5,q2]) ?_
           simp -implicitDefEqProofs (disch:=omega) [go_sem,r0,r1,r5]
           refine float2 (.int .i64 w) (fun h' hC=>by obtain ⟨q1,q2,q3,q4⟩:=hC; simp -implicitDefEqProofs (disch:=omega) [go_sem,r0,r1,r5,q3]) ?_
           simp -implicitDefEqProofs (disch:=omega) [go_sem,r0,r1,r5]
           refine float2 (.slice A (s.W w).length cap) (fun h' hC=>by obtain ⟨q1,q2,q3,q4⟩:=hC; simp -implicitDefEqProofs (disch:=omega) [go_sem,r0,r1,r5,q4]) ?_
           simp -implicitDefEqProofs (disch:=omega) [go_sem,r0,r1,r5]
           refine build1 rfl rfl ?_
           have hC':∀ h',Fr (fun y=>p'.c y=some (.wat w)) h5 h'→hcell h' ⟨bb,2,none⟩=some (.map (some p'.mb))∧hcell h' ⟨p.eb id,0,none⟩=some (.slice (some ⟨ebk,eoff,none⟩) e.lits.length Ecap)∧hcell h' ⟨ebk,eoff+ik,none⟩=some (.int .i64 w) ∧
               lookV Tryz.prog 102 (.map (some p'.mb)) (.int .i64 w) false h'=some (.slice A (s.W w).length cap):=fun h' f =>
             ⟨(f.cell (hcell_lt s2) (by rw [M5.cB]; exact fun h=>(nomatch h))).trans s2,(f.cell (hcell_lt e0) (by rw [hcb]; exact fun h=>(nomatch h))).trans e0,(f.cell (hcell_lt cw) (by rw [ccon]; exact fun h=>(nomatch h))).trans cw,
               by rw [← hcur]; exact (M5.M.fr f (by rw [M5.cM]; exact fun h=>(nomatch h))).look mapT_w zero_w w⟩
           have f6:Fr (fun y=>p'.c y=some (.wat w)) h5 (h5.push (.cells #[.int .i64 id] 3)):=(Fr.refl _ _).push
           refine ⟨hC' _ f6,?_⟩
           simp -implicitDefEqProofs (disch:=omega) [go_sem,r0,r1,r5]
           refine appendQ (vs:=ids (s.W w)) (ws:=[.int .i64 (id:Int)]) (SA.fr ((Fr.refl (fun _=>False) h5).push) (fun _ _ h=>h)) (by rw [ids_len]) (SlAt.new (vs:=[.int .i64 (id:Int)])).row rfl (by simp [Value.oneCell']) (by omega) (by omega) ?_
           intro A7 cap7 h7 S7 f7 hA7
           have f67:Fr (fun y=>p'.c y=some (.wat w)) h5 h7:=f6.trans (f7.mono fun y _ hy=>hcA y hy)
           refine ⟨hC' _ f67,?_⟩
           simp -implicitDefEqProofs (disch:=omega) [go_sem,r0,r1,r5]
           have M7:=M5.M.fr f67 (by rw [M5.cM]; exact fun h=>(nomatch h))
           refine M7.up mapT_w fun h8 M8 f8=>?_
           have ei:ids (s.W w)++[.int .i64 (id:Int)]=ids (s.W w++[id]):=by rw [ids_append]; rfl
           rw [ei] at S7
           have hlen7:(s.W w++[id]).length=(s.W w).length+1:=by simp
           obtain ⟨p8,MB8,st8,heb8,_⟩:=M5.wat (x:=w) (w:=s.W w++[id]) f67 S7 (fun y hy=>(hA7 y hy).elim (fun h=>.inl (hcA y h)) fun h=>.inr (by rw [push_size] at h; omega)) (by rw [hlen7]; exact M8) f8
           rw [← hWw,← hS] at MB8
           simp -implicitDefEqProofs (disch:=omega) [go_sem,r0,r1,r5,r68,r69]
           exact ⟨⟨k+1,by omega,by omega,p8,MB8,st5.trans st8,heb8.trans heb⟩,by omega⟩
end
end Xe
