/- Package cdcl: a search's memory; step, model, free, length. -/
import Derived.Test.YtkghjecglmmloaaGreatRowK
import Derived.Test.YtkghjecglmmloaaGreatL5
namespace Xe
open Go Tp Go.Proofs Hq
set_option maxRecDepth 16000
set_option maxHeartbeats 1000000
def NotK (k:Nat→Option CT) (xb:Nat) (A:Option Addr) (vs:List Value):Prop:=vs≠[]→∀ y,blk A y→k y=none∧y≠xb
theorem row_lt {h:Heap} {A:Option Addr} {vs:List Value} (R:RowAt h A vs) (hv:vs≠[]) {y:Nat} (hy:blk A y):y<h.size:=by
 obtain ⟨bk,off,rfl,hc⟩:=R.get (List.length_pos_iff.2 hv)
 have:=hc 0 _ (List.getElem?_eq_getElem (List.length_pos_iff.2 hv))
 obtain ⟨_,e,rfl⟩:=hy
 cases e
 exact hcell_lt this
theorem KSt.rowK {k k':Nat→Option CT} {h h':Heap} (a:KSt k k' h h') {A:Option Addr} {vs:List Value} {xb:Nat} (R:RowAt h A vs) (hA:NotK k xb A vs):RowAt h' A vs∧NotK k' xb A vs:=by
 by_cases hv:vs=[]
 · subst hv; exact ⟨RowAt.nil,fun h=>absurd rfl h⟩
 · exact ⟨a.row R fun y hy=>(hA hv y hy).1,fun _ y hy=>⟨a.free (hA hv y hy).1 (row_lt R hv hy),(hA hv y hy).2⟩⟩
structure ScrK (k:Nat→Option CT) (xb:Nat) (s:Scr) (a:ScrA):Prop where
 P:NotK k xb a.P (ints s.picks)
 G:NotK k xb a.G (bools s.signs)
 R:NotK k xb a.R (ints s.res)
 D:NotK k xb a.D (ints s.red)
theorem ScrM.kst {k k':Nat→Option CT} {h h':Heap} {s:Scr} {a:ScrA} (st:KSt k k' h h') {xb:Nat} (M:ScrM h s a) (K:ScrK k xb s a):ScrM h' s a∧ScrK k' xb s a:=by
 obtain ⟨a1,a2⟩:=st.rowK M.P K.P
 obtain ⟨b1,b2⟩:=st.rowK M.G K.G
 obtain ⟨c1,c2⟩:=st.rowK M.R K.R
 obtain ⟨d1,d2⟩:=st.rowK M.D K.D
 exact ⟨{ M with P:=a1,G:=b1,R:=c1,D:=d1 },⟨a2,b2,c2,d2⟩⟩
structure Cnt where
 r1:Nat
 r2:Nat
 d1:Nat
 d2:Nat
 cf:Nat
 pk:Nat
def srV (cb:Nat) (sc:Scr) (a:ScrA) (AA:Option Addr) (ac m:Nat) (q:Cnt):List Value :=
 [.pointer (some ⟨cb,0,none⟩),.slice a.P sc.picks.length a.pc,.slice a.G sc.signs.length a.gc,.slice a.R sc.res.length a.rc,.slice a.D sc.red.length a.dc,.int .i64 sc.steps,
  .slice AA m ac,.complex .f64 (Fx.enc q.r1) (Fx.enc q.r2),.complex .f64 (Fx.enc q.d1) (Fx.enc q.d2),.int .i64 q.cf,.int .i64 q.pk]
structure SrM (h:Heap) (xb cb:Nat) (k:Nat→Option CT) (c:CSt) (sc:Scr) (a:ScrA) (AA:Option Addr) (ac:Nat) (am:List Int) (q:Cnt):Prop where
 C:CoreM h cb k c
 B:ListB h xb (srV cb sc a AA ac am.length q)
 S:ScrM h sc a
 A:RowAt h AA (ints am)
 kx:k xb=none
 kS:ScrK k xb sc a
 kA:NotK k xb AA (ints am)
 lA:am.length<2^40
section
variable {h h':Heap} {xb cb:Nat} {k k':Nat→Option CT} {c c':CSt} {sc:Scr} {a:ScrA} {AA:Option Addr} {ac:Nat} {am:List Int} {q:Cnt}
theorem SrM.next (X:SrM h xb cb k c sc a AA ac am q) (C':CoreM h' cb k' c') (st:KSt k k' h h'):SrM h' xb cb k' c' sc a AA ac am q:=by
 obtain ⟨s1,s2⟩:=X.S.kst st X.kS
 obtain ⟨r1,r2⟩:=st.rowK X.A X.kA
 exact ⟨C',st.lb X.B X.kx,s1,r1,st.free X.kx X.B.lt,s2,r2,X.lA⟩
theorem SrM.fr0 (X:SrM h xb cb k c sc a AA ac am q) (f:Fr (fun _=>False) h h'):SrM h' xb cb k c sc a AA ac am q:=X.next (X.C.fr0 f) (KSt.fr0 f)
theorem CoreB.frN {bb hb:Nat} {p:BP} {O:Nat→Prop} {n:Nat} {act:Nat→Int} {LA:Option Addr} {lc:Nat} {GA:Option Addr} {gc:Nat} {vs:List Value} (C:CoreB h cb k c bb hb p O n act LA lc GA gc vs) {S:Nat→Prop} (f:Fr S h h') (hs:∀ x,S x→k x=none):CoreB h' cb k c bb hb p O n act LA lc GA gc vs:=by
 have ne:∀ {x:Nat} {t:CT},k x=some t→¬ S x:=fun hk hS=>by rw [hs _ hS] at hk; cases hk
 exact {
  B:=C.B.fr f (ne C.kC)
  M := C.M.fr f fun x hx=>by
    cases hc:p.c x with
    | none=>rfl
    | some t=>exact absurd hx (ne (C.kB x t hc))
  H:=C.H.fr f fun x hx=>ne (C.kH x hx)
  L:=C.L.fr f fun x hx=>ne (C.kL x hx)
  G:=C.G.fr f fun x hx=>ne (C.kG x hx)
  R:=C.R.fr f (fun x hx hr=>ne hr hx) fun _ _ h=>h
  kB:=C.kB
  kH:=C.kH
  kC:=C.kC
  kL:=C.kL
  kG:=C.kG
  low:=fun x t hx=>Nat.lt_of_lt_of_le (C.low x t hx) f.size }
theorem CoreM.frN (C:CoreM h cb k c) {S:Nat→Prop} (f:Fr S h h') (hs:∀ x,S x→k x=none):CoreM h' cb k c:=by
 obtain ⟨bb,hb,p,O,n,act,LA,lc,GA,gc,vs,C⟩:=C.ex
 exact ⟨bb,hb,p,O,n,act,LA,lc,GA,gc,vs,C.frN f hs⟩
theorem NotK.row {vs:List Value} {A:Option Addr} (hA:NotK k xb A vs) (R:RowAt h A vs) {S:Nat→Prop} (f:Fr S h h') (hs:∀ x,S x→x=xb):RowAt h' A vs:=by
 by_cases hv:vs=[]
 · subst hv; exact RowAt.nil
 · exact R.fr f fun y hy hS=>(hA hv y hy).2 (hs y hS)
theorem SrM.cell (X:SrM h xb cb k c sc a AA ac am q) {i:Nat} {v:Value} {q':Cnt} (hi:i<11) (he:(srV cb sc a AA ac am.length q).set i v=srV cb sc a AA ac am.length q'):SrM (hset h ⟨xb,i,none⟩ v) xb cb k c sc a AA ac am q':=by
 have f:Fr (fun x=>x=xb) h (hset h ⟨xb,i,none⟩ v):=(Fr.refl _ _).set rfl
 have hb:=X.B.set (i:=i) v hi
 rw [he] at hb
 exact ⟨X.C.frN f fun x hx=>by rw [hx]; exact X.kx,hb,{ X.S with P:=X.kS.P.row X.S.P f fun _ h=>h,G:=X.kS.G.row X.S.G f fun _ h=>h,R:=X.kS.R.row X.S.R f fun _ h=>h,D:=X.kS.D.row X.S.D f fun _ h=>h },X.kA.row X.A f fun _ h=>h,X.kx,X.kS,X.kA,X.lA⟩
theorem model_ok (X:SrM h xb cb k c sc a AA ac am q):CallsH Tryz.prog 141 [.pointer (some ⟨xb,0,none⟩)] h fun r h'=>∃ A' c',r=.slice A' c.s.vars c'∧RowAt h' A' (truthsV c.s.vars c.s.l)∧(∀ x,blk A' x→h.size≤x)∧Fr (fun _=>False) h h':=by
 obtain ⟨bb,hb,p,O,n,act,LA,lc,GA,gc,vs,C⟩:=X.C.ex
 have x0:=X.B.at' 0 _ rfl
 have b0:=C.B.at' 0 _ rfl
 refine calls_of 12 [.tmp 2] Go.Proofs.Tryz.func141 rfl rfl rfl ?_
 simp -implicitDefEqProofs (disch:=omega) [go_sem,x0,b0]
 refine useC (btrail_m C.M) ?_
 rintro _ h2 ⟨rfl,rfl⟩
 simp -implicitDefEqProofs (disch:=omega) [go_sem]
 refine useC (ttruths_ok C.M.T) ?_
 rintro _ h3 ⟨A',c',rfl,R,own,f⟩
 simp -implicitDefEqProofs (disch:=omega) [go_sem]
 exact ⟨R,own,f⟩
def lenC (s:WS) (id:Nat):Nat:=match s.cs[id]? with
 | some e=>if e.gone then 0 else e.lits.length
 | none=>0
theorem length_ok (X:SrM h xb cb k c sc a AA ac am q) {id:Nat} (hid:id<2^62):CallsH Tryz.prog 229 [.pointer (some ⟨xb,0,none⟩),.int .i64 id] h fun r h'=>lenC c.s id<2^40∧r=.int .i64 (lenC c.s id:Nat)∧Fr (fun _=>False) h h':=by
 obtain ⟨bb,hb,p,O,n,act,LA,lc,GA,gc,vs,C⟩:=X.C.ex
 have x0:=X.B.at' 0 _ rfl
 have b0:=C.B.at' 0 _ rfl
 refine calls_of 21 [.tmp 4] Go.Proofs.Tryz.func229 rfl rfl rfl ?_
 simp -implicitDefEqProofs (disch:=omega) [go_sem,x0,b0]
 cases hc:c.s.cs[id]? with
 | none =>
   have e:lenC c.s id=0:=by unfold lenC; rw [hc]
   refine useC (clause_none C.M (id:=(id:Int)) (by omega) (by omega) fun _ e he=>by rw [Int.toNat_natCast,hc] at he; cases he) ?_
   rintro _ h2 ⟨rfl,rfl⟩
   simp -implicitDefEqProofs (disch:=omega) [go_sem,e]
   exact Fr.refl _ _
 | some e =>
   cases hg:e.gone with
   | true =>
     have e1:lenC c.s id=0:=by unfold lenC; rw [hc]; simp [hg]
     refine useC (clause_none C.M (id:=(id:Int)) (by omega) (by omega) fun _ e' he=>by rw [Int.toNat_natCast,hc] at he; cases he; exact hg) ?_
     rintro _ h2 ⟨rfl,rfl⟩
     simp -implicitDefEqProofs (disch:=omega) [go_sem,e1]
     exact Fr.refl _ _
   | false =>
     have e1:lenC c.s id=e.lits.length:=by unfold lenC; rw [hc]; simp [hg]
     have hl:=(C.M.E id e hc).len
     refine useC (clause_some C.M hc hg) ?_
     rintro _ h2 ⟨A',c',rfl,S,own,f⟩
     simp -implicitDefEqProofs (disch:=omega) [go_sem,e1]
     exact f
theorem free_ok (X:SrM h xb cb k c sc a AA ac am q):CallsH Tryz.prog 140 [.pointer (some ⟨xb,0,none⟩)] h fun r h'=>r=.bool (decide (c.s.l.length<c.s.vars))∧Fr (fun _=>False) h h':=by
 obtain ⟨bb,hb,p,O,n,act,LA,lc,GA,gc,vs,C⟩:=X.C.ex
 have x0:=X.B.at' 0 _ rfl
 have b0:=C.B.at' 0 _ rfl
 have hlen:=C.M.T.len
 have hvv:=C.M.T.hv
 refine calls_of 19 [.tmp 2] Go.Proofs.Tryz.func140 rfl rfl rfl ?_
 simp -implicitDefEqProofs (disch:=omega) [go_sem]
 refine drawC [(0,0),(1,0),(2,0),(3,1),(4,0),(5,0),(6,1),(10,0),(11,0),(12,0),(13,2),(7,3),(8,3),(9,0),(14,3),(15,0),(16,0)] (fun h'=>hcell h' ⟨xb,0,none⟩=some (.pointer (some ⟨cb,0,none⟩))) x0 ?_
 simp -implicitDefEqProofs (disch:=omega) [go_sem,x0,b0]
 refine float2 (.pointer (some ⟨cb,0,none⟩)) (fun h' hC=>by simp -implicitDefEqProofs (disch:=omega) [go_sem,hC]) ?_
 simp -implicitDefEqProofs (disch:=omega) [go_sem,x0,b0]
 refine useC (btrail_m C.M) ?_
 rintro _ h2 ⟨rfl,rfl⟩
 refine ⟨x0,?_⟩
 simp -implicitDefEqProofs (disch:=omega) [go_sem]
 refine useC (tlits_ok C.M.T) ?_
 rintro _ h3 ⟨A',c',rfl,S,own,f⟩
 have X3:=X.fr0 f
 refine ⟨X3.B.at' 0 _ rfl,?_⟩
 simp -implicitDefEqProofs (disch:=omega) [go_sem]
 refine useC (cvars_ok X3.C) ?_
 rintro _ h4 ⟨rfl,rfl⟩
 refine ⟨X3.B.at' 0 _ rfl,?_⟩
 simp -implicitDefEqProofs (disch:=omega) [go_sem]
 exact f
theorem step_ok (X:SrM h xb cb k c sc a AA ac am q) (hst:sc.steps≤1099511627776∧0≤sc.steps∧(c.st:Int)≤sc.steps):CallsH Tryz.prog 136 [.pointer (some ⟨xb,0,none⟩)] h fun r h' =>
   ((c.st:Int)=sc.steps∧r=.bool false∧h'=h)∨((c.st:Int)<sc.steps∧r=.bool true∧SrM h' xb cb k { c with st:=c.st+1 } sc a AA ac am q∧KSt k k h h'):=by
 obtain ⟨bb,hb,p,O,n,act,LA,lc,GA,gc,vs,C⟩:=X.C.ex
 have x0:=X.B.at' 0 _ rfl
 have x5:=X.B.at' 5 _ rfl
 have b4:=C.B.at' 4 _ rfl
 refine calls_of 26 [.tmp 2] Go.Proofs.Tryz.func136 rfl rfl rfl ?_
 simp -implicitDefEqProofs (disch:=omega) [go_sem]
 refine drawK [(0,0),(1,0),(2,0),(3,1),(4,0),(5,0),(6,1),(7,0),(8,0),(9,0),(10,0),(11,1),(12,0)] ?_
 obtain ⟨hs1,hs2,hs3⟩:=hst
 by_cases he:(c.st:Int)=sc.steps
 · simp -implicitDefEqProofs (disch:=omega) [go_sem,x0,x5,b4,he]
 · have fz:=C.B.fz
   simp -implicitDefEqProofs (disch:=omega) [go_sem,x0,x5,b4,he,fz]
   obtain ⟨C',st⟩:=C.steps (c.st+1)
   exact ⟨by omega,X.next ⟨_,_,_,_,_,_,_,_,_,_,_,C'⟩ st,st⟩
end
end Xe
namespace Xe
open Go Tp Go.Proofs Hq
set_option maxRecDepth 16000
set_option maxHeartbeats 2000000
theorem build2r {e:TypeId} {bt a c:Nat} {A:Option Addr} {g:Bool} {h:Heap} {k:Value→Heap→Prop} (hk:k (.slice (some ⟨h.size,0,none⟩) 1 1) (h.push (.cells #[.slice A a c,.bool g] e))) :
  @buildSliceK (some (e,2,bt,.agg #[.slice none 0 0,.bool false])) 1 [(0,.agg #[.slice A a c,.bool g])] ⟨h⟩ ⟨k⟩:=by
 refine ⟨by omega,#[.slice A a c,.bool g],?_,hk⟩
 have hz:(zerosOf (Value.agg #[.slice none 0 0,.bool false]).cells (1*2)).size=2:=by simp [zerosOf]
 obtain ⟨L,hL⟩:∃ L,zerosOf (Value.agg #[.slice none 0 0,.bool false]).cells (1*2)=⟨L⟩:=⟨_,rfl⟩
 rw [hL] at hz ⊢
 match L,hz with
 | [p,q],_=>simp [Instr.fill,Value.cells,List.zipIdx]
theorem todo_le {s:WS} (I:WInv s):s.todo.length≤s.cs.length:=by
 have:=Tp.nodup_le (a:=s.todo) (b:=List.range s.cs.length) I.todoN fun x hx=>List.mem_range.2 (I.todoL x hx)
 rwa [List.length_range] at this
theorem backC'_lt {s:WS} {k:Nat} (h:k<s.level):backC' s (k:Int)=backS s k:=by
 unfold backC'
 rw [if_pos (by omega),show (max (k:Int) 0).toNat=k by omega]
theorem good_of {vars:Nat} {l:List Int} (h:∀ x∈l,1≤x.natAbs∧x.natAbs≤vars):goodC vars l=true:=by
 unfold goodC
 rw [List.all_eq_true]
 exact fun x hx=>decide_eq_true (h x hx)
theorem clean_self {vars:Nat} {l:List Int} (hv:vars≤16777216) (hr:Rise l) (h:∀ x∈l,1≤x.natAbs∧x.natAbs≤vars) {o:Option (List Int)} (hC:CleanR l o):o=some l:=by
 have hC':CleanR l (some l):=⟨hr,fun x=>⟨fun hx=>⟨hx,by have:=h x hx; unfold okL; omega⟩,fun hx=>hx.1⟩⟩
 exact hC.uniq hC'
theorem UsedR.len {s:WS} (I:WInv s) (D:Dcs s.l) {id:Int} {ul:List Int} (h:UsedR s id ul):ul.length≤s.vars:=by
 cases h with
 | none=>simp
 | nofail=>simp
 | @used k e rs c _ h1 h2 h3 h4 h5 h6 h7 h8 =>
   have hcl:=I.cl e (List.mem_of_getElem? h2)
   have F0:Cf s.vars s.l e.lits:=⟨hcl.1,hcl.2,h4⟩
   have hr:∀ v∈ul,1≤v∧v≤s.vars:=fun v hv=>by
    rcases (h8 v).1 hv with h | h
    · obtain ⟨y,hy,rfl⟩:=List.mem_map.1 h
      have:=hcl.2 y hy; omega
    · obtain ⟨y,hy,rfl⟩:=List.mem_map.1 h
      obtain ⟨r,hr,hyr⟩:=List.mem_flatten.1 hy
      have:=h5.rng I D F0 r hr y hyr; omega
   have:=rise_length (c:=ul) (a:=0) (n:=s.vars) (List.Pairwise.imp_of_mem (fun {a b} ha hb hl=>by have:=hr a ha; have:=hr b hb; omega) h7) fun v hv=>by have:=hr v hv; omega
   omega
theorem KSt.trans3 {k k' k'':Nat→Option CT} {h h' h'':Heap} {A:Option Addr} (a:KSt k k' h h') (ext:∀ x t,k' x=some t→k'' x=some t) (own:∀ x t,k'' x=some t→k' x=some t∨blk A x∨h'.size≤x) (hA:∀ x,blk A x→h.size≤x) (fr:Fr (fun x=>k' x≠none) h' h''):KSt k k'' h h'' where
 ext x t hx:=ext x t (a.ext x t hx)
 own x t hx:=by
  rcases own x t hx with h | h | h
  · exact a.own x t h
  · exact .inr (hA x h)
  · exact .inr (Nat.le_trans a.fr.size h)
 fr:=a.fr.trans' fr fun x hx hn=>by
  cases hc:k' x with
  | none=>exact absurd hc hn
  | some t=>exact (a.own x t hc).elim (fun h=>by rw [h]; exact fun h=>(nomatch h)) fun h=>by omega
structure KSx (xb:Nat) (k k':Nat→Option CT) (h h':Heap):Prop where
 ext:∀ x t,k x=some t→k' x=some t
 own:∀ x t,k' x=some t→k x=some t∨h.size≤x
 fr:Fr (fun x=>k x≠none∨x=xb) h h'
theorem KSt.x {xb:Nat} {k k':Nat→Option CT} {h h':Heap} (a:KSt k k' h h'):KSx xb k k' h h':=⟨a.ext,a.own,a.fr.mono fun _ _ h=>.inl h⟩
theorem KSx.refl {xb:Nat} {k:Nat→Option CT} {h:Heap}:KSx xb k k h h:=KSt.refl.x
theorem KSx.trans {xb:Nat} {k k' k'':Nat→Option CT} {h h' h'':Heap} (a:KSx xb k k' h h') (b:KSx xb k' k'' h' h''):KSx xb k k'' h h'' where
 ext x t hx:=b.ext x t (a.ext x t hx)
 own x t hx:=(b.own x t hx).elim (a.own x t) fun h=>.inr (Nat.le_trans a.fr.size h)
 fr:=a.fr.trans' b.fr fun x hx hn=>hn.imp_left fun hn=>by
  cases hc:k' x with
  | none=>exact absurd hc hn
  | some t=>exact (a.own x t hc).elim (fun h=>by rw [h]; exact fun h=>(nomatch h)) fun h=>by omega
theorem KSx.set {xb:Nat} {k k':Nat→Option CT} {h h':Heap} (a:KSx xb k k' h h') {i:Nat} {v:Value}:KSx xb k k' h (hset h' ⟨xb,i,none⟩ v):=⟨a.ext,a.own,a.fr.set (.inr rfl)⟩
section
variable {h h':Heap} {xb cb:Nat} {k k':Nat→Option CT} {c c':CSt} {sc:Scr} {a:ScrA} {AA:Option Addr} {ac:Nat} {am:List Int} {q:Cnt} {K:List (List Int)}
def TeachR (xb cb:Nat) (k:Nat→Option CT) (c:CSt) (sc:Scr) (a:ScrA) (AA:Option Addr) (ac:Nat) (am:List Int) (q:Cnt) (K:List (List Int)) (id:Nat) (h h':Heap):Prop :=
 ∃ k' c' cl,∃ lv:Nat,SrM h' xb cb k' c' sc a AA ac am { q with r2:=q.r2+1,d2:=q.d2+1,cf:=q.cf+1 }∧KSx xb k k' h h'∧HFull c'∧SInv K c'.s c'.ln c'.lg∧c'.st=c.st ∧
  FromR c.s id cl lv 0∧lv<c.s.level∧c'.s=addS (backS c.s lv) cl∧Pend c'.s∧c'.lg=c.lg++[(cl,false)]∧c'.ln=c.ln++[c.s.cs.length]
theorem teach_ok (X:SrM h xb cb k c sc a AA ac am q) (S:SInv K c.s c.ln c.lg) (HF:HFull c) {id:Nat} {e:Ent} (he:c.s.cs[id]?=some e) (hg:e.gone=false) (hf:FailAt c.s.l e.lits) (hl0:0<c.s.level) (hv:c.s.vars≤10000)
   (z1:c.s.cs.length+1<2^40) (z2:c.lg.length+1<2^40) (z3:c.ln.length+1<2^40) (z4:q.r1<2^41∧q.r2<2^41∧q.d1<2^41∧q.d2<2^41∧q.cf<2^41) :
   CallsH Tryz.prog 137 [.pointer (some ⟨xb,0,none⟩),.int .i64 id] h fun _ h'=>TeachR xb cb k c sc a AA ac am q K id h h':=by
 have hidl:=(List.getElem?_eq_some_iff.1 he).1
 refine calls_of 138 [] Go.Proofs.Tryz.func137 rfl rfl rfl ?_
 obtain ⟨bb,hb,p,O,n,act,LA,lc,GA,gc,vs,C⟩:=X.C.ex
 have x0:=X.B.at' 0 _ rfl
 have b0:=C.B.at' 0 _ rfl
 simp -implicitDefEqProofs (disch:=omega) [go_sem,x0,b0]
 refine useC (used_ok C.M S.I S.D S.R (by omega) (id:=(id:Int)) (by omega) (by omega)) ?_
 rintro _ h1 ⟨f1,U,ud,ul,rfl,SU,ownU,hus⟩
 have X1:=X.fr0 f1
 have hull:=hus.len S.I S.D
 have hkU:∀ y,blk U y→k y=none:=fun y hy=>by
   have h1:=ownU y hy
   cases hc:k y with
   | none=>rfl
   | some t=>have:=C.low y t hc; omega
 simp -implicitDefEqProofs (disch:=omega) [go_sem]
 refine loopK (fun ρ h'=>ρ 0=.pointer (some ⟨xb,0,none⟩)∧ρ 1=.int .i64 id∧ρ 19=.slice U ul.length ud∧ρ 20=.int .i64 ul.length∧∃ (i:Nat) (k1:Nat→Option CT),ρ 21=.int .i64 i∧i≤ul.length∧SrM h' xb cb k1 c sc a AA ac am q∧KSt k k1 h1 h')
   (fun ρ _=>ul.length-(intOf (ρ 21)).toNat) (by kernel_rfl) ?_ ?_
 · exact ⟨rfl,rfl,rfl,rfl,0,k,rfl,by omega,X1,KSt.refl⟩
 · clear x0 b0 C
   rintro ρ h2 ⟨r0,r1,r19,r20,i,k2,r21,hi,X2,st2⟩
   obtain ⟨bb,hb,p,O,n,act,LA,lc,GA,gc,vs,C⟩:=X2.C.ex
   have x0:=X2.B.at' 0 _ rfl
   have b0:=C.B.at' 0 _ rfl
   have b1:=C.B.at' 1 _ rfl
   by_cases hin:i<ul.length
   · have RU:=st2.row SU.row hkU
     obtain ⟨bk,off,rfl,hc⟩:=RU.get (by rw [ints_len]; omega)
     obtain ⟨v,hv'⟩:=some_at hin
     have c0:=hc _ _ (ints_at hv')
     simp -implicitDefEqProofs (disch:=omega) [go_sem,r0,r1,r19,r20,r21,c0,x0,b1]
     refine useC (bump_ok C.H v 1) ?_
     rintro _ h3 (⟨w,rfl,rfl,_,_,_,_,H3,f3⟩ | ⟨_,rfl,rfl⟩)
     · obtain ⟨k3,C3,st3⟩:=C.heap H3 ⟨f3,fun x hx=>.inl hx⟩
       simp -implicitDefEqProofs (disch:=omega) [go_sem,r0,r1,r19,r20,r21]
       exact ⟨⟨i+1,by omega,by omega,k3,X2.next ⟨_,_,_,_,_,_,_,_,_,_,_,C3⟩ st3,st2.trans st3⟩,by omega⟩
     · simp -implicitDefEqProofs (disch:=omega) [go_sem,r0,r1,r19,r20,r21]
       exact ⟨⟨i+1,by omega,by omega,k2,X2,st2⟩,by omega⟩
   · simp -implicitDefEqProofs (disch:=omega) [go_sem,r0,r1,r19,r20,r21,x0,b0]
     refine useC (from_ok C.M S.I S.D S.R (by omega) (id:=(id:Int)) (by omega) (by omega)) ?_
     rintro _ h3 ⟨f3,A,d,cl,lv0,er,rfl,SA,ownA,hR⟩
     have her:er=0:=by
       cases hR with
       | none hn=>have:=hn (by omega) e (by rw [Int.toNat_natCast]; exact he); rw [hg] at this; cases this
       | nofail h1 h2 h3 h4 =>
         have e1:=Int.ofNat_inj.1 h1
         subst e1
         rw [he] at h2
         cases h2
         exact absurd hf h4
       | ground=>rfl
       | taught=>rfl
     subst her
     obtain ⟨lv,rfl,hlv,hpd⟩:=pend_learn S.I S.D hR hl0
     obtain ⟨q1,q2,q3,q4⟩:=hR.shape S.I S.D
     have hll:=S.I.lvs.len
     have hlen:=S.I.good.len
     have hcl:=rise_length (a:=0) (n:=c.s.vars) q2 fun x hx=>⟨(q1 x hx).2.1,(q1 x hx).2.2⟩
     have hkA:∀ y,blk A y→k2 y=none:=fun y hy=>by
       have h1:=ownA y hy
       cases hc:k2 y with
       | none=>rfl
       | some t=>have:=C.low y t hc; omega
     have hAlt:∀ y,blk A y→y<h3.size:=fun y hy=>SA.blk_lt hy
     have X3:=X2.fr0 f3
     have x03:=X3.B.at' 0 _ rfl
     simp -implicitDefEqProofs (disch:=omega) [go_sem,r0,r1,x03]
     refine useC (cback_ok X3.C S.I (lv:=(lv:Int)) (by omega) (by omega)) ?_
     rintro _ h4 ⟨k4,S4,C4,st4,hF4⟩
     rw [backC'_lt hlv] at C4 hF4
     have X4:=X3.next C4 st4
     have HF4:=hF4 HF
     have hkA4:∀ y,blk A y→k4 y=none:=fun y hy=>st4.free (hkA y hy) (hAlt y hy)
     have RA4:=st4.row SA.row hkA
     have S4':=S.back (Nat.le_of_lt hlv)
     have htd:=todo_le S4'.I
     obtain ⟨bb4,hb4,p4,O4,n4,act4,LA4,lc4,GA4,gc4,vs4,C4⟩:=C4.ex
     have x04:=X4.B.at' 0 _ rfl
     have b04:=C4.B.at' 0 _ rfl
     have M4:BaseM h4 bb4 p4 (backS c.s lv):=C4.M
     have hcs4:(backS c.s lv).cs.length=c.s.cs.length:=rfl
     rw [hcs4] at htd
     simp -implicitDefEqProofs (disch:=omega) [go_sem,r0,r1,x04,b04]
     refine useC (baddG_m M4 S.I.hv RA4 rfl (by omega) (fun x hx=>by have:=q1 x hx; have:=S.I.hv; omega) ⟨by rw [hcs4]; omega,by omega⟩) ?_
     rintro _ h5 (⟨hb,_⟩ | ⟨_,hno,_⟩ | ⟨_,L,hL,rfl,p5,M5,st5⟩)
     · rw [show goodC (backS c.s lv).vars cl=true from good_of fun x hx=>(q1 x hx).2] at hb; cases hb
     · have:=clean_self S.I.hv q2 (fun x hx=>(q1 x hx).2) hno; cases this
     have eL:L=cl:=Option.some.inj (clean_self S.I.hv q2 (fun x hx=>(q1 x hx).2) hL)
     subst eL
     obtain ⟨k5,C5,ks5⟩:=C4.base M5 st5 rfl
     have X5:=X4.next ⟨_,_,_,_,_,_,_,_,_,_,_,C5⟩ ks5
     have hkA5:∀ y,blk A y→k5 y=none:=fun y hy=>ks5.free (hkA4 y hy) (Nat.lt_of_lt_of_le (hAlt y hy) st4.fr.size)
     have RA5:=ks5.row RA4 hkA4
     simp -implicitDefEqProofs (disch:=omega) [go_sem,r0,r1]
     have x05:=X5.B.at' 0 _ rfl
     have b25:=C5.B.at' 2 _ rfl
     have hln:c.ln.length+1<2^40:=z3
     refine drawC [(0,0),(1,0),(2,0),(3,2),(4,0),(5,0),(6,0),(7,2),(8,0),(9,0),(10,2),(11,0),(12,3),(13,3),(14,0),(15,0),(16,4)] (fun h'=>hcell h' ⟨xb,0,none⟩=some (.pointer (some ⟨cb,0,none⟩))∧hcell h' ⟨cb,2,none⟩=some (.slice LA4 c.ln.length lc4)) ⟨x05,b25⟩ ?_
     simp -implicitDefEqProofs (disch:=omega) [go_sem,r0,r1]
     refine float2 (.pointer (some ⟨cb,0,none⟩)) (fun h' hC=>by simp -implicitDefEqProofs (disch:=omega) [go_sem,r0,hC.1]) ?_
     simp -implicitDefEqProofs (disch:=omega) [go_sem,r0,r1]
     refine float2 (.pointer (some ⟨cb,0,none⟩)) (fun h' hC=>by simp -implicitDefEqProofs (disch:=omega) [go_sem,r0,hC.1]) ?_
     simp -implicitDefEqProofs (disch:=omega) [go_sem,r0,r1]
     refine float2 (.slice LA4 c.ln.length lc4) (fun h' hC=>by simp -implicitDefEqProofs (disch:=omega) [go_sem,r0,hC.2]) ?_
     simp -implicitDefEqProofs (disch:=omega) [go_sem,r0,r1]
     refine build1 rfl rfl ?_
     have f6:Fr (fun _=>False) h5 (h5.push (.cells #[.int .i64 (c.s.cs.length:Int)] 3)):=(Fr.refl _ _).push
     refine ⟨⟨(f6.cell (hcell_lt x05) fun h=>h).trans x05,(f6.cell (hcell_lt b25) fun h=>h).trans b25⟩,?_⟩
     simp -implicitDefEqProofs (disch:=omega) [go_sem,r0,r1]
     have C6:=C5.fr0 f6
     refine appendN (sz:=1) (vs:=ids c.ln) (ws:=[.int .i64 (c.s.cs.length:Int)]) (by rw [Nat.mul_one]; exact C6.L) (by rw [ids_len,Nat.mul_one]) (SlAt.new (vs:=[.int .i64 (c.s.cs.length:Int)])).row rfl (by omega) (by simp [Value.oneCell']) (by omega) (by omega) ?_
     intro LA7 lc7 h7 S7 f7 hLA7
     rw [Nat.mul_one,show ids c.ln++[Value.int .i64 (c.s.cs.length:Int)]=ids (c.ln++[c.s.cs.length]) by rw [ids_append]; rfl] at S7
     obtain ⟨k8,C8,ks8⟩:=C6.lrn f7 S7 hLA7
     have el8:(c.ln++[c.s.cs.length]).length=c.ln.length+1:=by rw [List.length_append]; rfl
     rw [el8] at C8 ks8
     have X6:=X5.fr0 f6
     have X8:=X6.next ⟨_,_,_,_,_,_,_,_,_,_,_,C8⟩ ks8
     have nB7:¬ blk LA4 xb:=fun h=>by have:=C6.kL _ h; rw [X6.kx] at this; cases this
     have nC7:¬ blk LA4 cb:=fun h=>by have:=C6.kL _ h; rw [C6.kC] at this; cases this
     have x06:=X6.B.at' 0 _ rfl
     have b26:=C6.B.at' 2 _ rfl
     have x07:=(f7.cell (hcell_lt x06) nB7).trans x06
     have b27:=(f7.cell (hcell_lt b26) nC7).trans b26
     have fz7:=(C6.B.fr f7 nC7).fz
     refine ⟨⟨x07,b27⟩,?_⟩
     simp -implicitDefEqProofs (disch:=omega) [go_sem,r0,r1,fz7,b27]
     have hkA8:∀ y,blk A y→k8 y=none:=fun y hy=>ks8.free (hkA5 y hy) (Nat.lt_of_lt_of_le (hAlt y hy) (by have:=st4.fr.size; have:=ks5.fr.size; have:=f6.size; omega))
     have RA8:=ks8.row (RA5.fr0 f6) hkA5
     obtain ⟨h8,eh8⟩:∃ h8,h8=hset h7 ⟨cb,2,none⟩ (.slice LA7 (c.ln.length+1) lc7):=⟨_,rfl⟩
     rw [← eh8] at C8 ks8 X8 RA8 ⊢
     have x08:=X8.B.at' 0 _ rfl
     have b38:=C8.B.at' 3 _ rfl
     refine drawC [(0,0),(1,0),(2,0),(3,2),(4,0),(5,0),(6,0),(7,2),(8,0),(9,0),(10,2),(11,0),(12,0),(13,3),(14,3),(15,0),(16,0),(17,4)] (fun h'=>hcell h' ⟨xb,0,none⟩=some (.pointer (some ⟨cb,0,none⟩))∧hcell h' ⟨cb,3,none⟩=some (.slice GA4 c.lg.length gc4)) ⟨x08,b38⟩ ?_
     simp -implicitDefEqProofs (disch:=omega) [go_sem,r0,r1]
     refine float2 (.pointer (some ⟨cb,0,none⟩)) (fun h' hC=>by simp -implicitDefEqProofs (disch:=omega) [go_sem,r0,hC.1]) ?_
     simp -implicitDefEqProofs (disch:=omega) [go_sem,r0,r1]
     refine float2 (.pointer (some ⟨cb,0,none⟩)) (fun h' hC=>by simp -implicitDefEqProofs (disch:=omega) [go_sem,r0,hC.1]) ?_
     simp -implicitDefEqProofs (disch:=omega) [go_sem,r0,r1]
     refine float2 (.slice GA4 c.lg.length gc4) (fun h' hC=>by simp -implicitDefEqProofs (disch:=omega) [go_sem,r0,hC.2]) ?_
     simp -implicitDefEqProofs (disch:=omega) [go_sem,r0,r1]
     refine build2r ?_
     have f9:Fr (fun _=>False) h8 (h8.push (.cells #[.slice A L.length d,.bool false] 74)):=(Fr.refl _ _).push
     refine ⟨⟨(f9.cell (hcell_lt x08) fun h=>h).trans x08,(f9.cell (hcell_lt b38) fun h=>h).trans b38⟩,?_⟩
     simp -implicitDefEqProofs (disch:=omega) [go_sem,r0,r1]
     have C9:=C8.fr0 f9
     have X9:=X8.fr0 f9
     refine appendN (sz:=2) (vs:=vs4) (ws:=[.slice A L.length d,.bool false]) C9.G (by rw [C9.R.len]) (SlAt.new (vs:=[.slice A L.length d,.bool false])).row rfl (by omega) (by simp [Value.oneCell']) (by omega) (by omega) ?_
     intro GA10 gc10 h10 S10 f10 hGA10
     have x09:=X9.B.at' 0 _ rfl
     have b39:=C9.B.at' 3 _ rfl
     have nB10:¬ blk GA4 xb:=fun h=>by have:=C9.kG _ h; rw [X9.kx] at this; cases this
     have nC10:¬ blk GA4 cb:=fun h=>by have:=C9.kG _ h; rw [C9.kC] at this; cases this
     have x010:=(f10.cell (hcell_lt x09) nB10).trans x09
     have b310:=(f10.cell (hcell_lt b39) nC10).trans b39
     have fz10:=(C9.B.fr f10 nC10).fz
     refine ⟨⟨x010,b310⟩,?_⟩
     simp -implicitDefEqProofs (disch:=omega) [go_sem,r0,r1,fz10,b310]
     obtain ⟨k11,C11,ext11,own11,fr11⟩:=C9.log f10 S10 hGA10 (RA8.fr0 f9) fun y hy=>⟨hkA8 y hy,Nat.lt_of_lt_of_le (hAlt y hy) (by have:=st4.fr.size; have:=ks5.fr.size; have:=f6.size; have:=ks8.fr.size; have:=f9.size; omega)⟩
     have st11:KSt k k11 h _:=(((((((KSt.fr0 f1).trans st2).trans (KSt.fr0 f3)).trans st4).trans ks5).trans (KSt.fr0 f6)).trans (ks8.trans (KSt.fr0 f9))).trans3 ext11 own11 (fun y hy=>by have:=ownA y hy; have:=f1.size; have:=st2.fr.size; omega) fr11
     have X11:=X.next ⟨_,_,_,_,_,_,_,_,_,_,_,C11⟩ st11
     obtain ⟨h11,eh11⟩:∃ h11,h11=hset h10 ⟨cb,3,none⟩ (.slice GA10 (c.lg.length+1) gc10):=⟨_,rfl⟩
     have eh11':hset h10 ⟨cb,3,none⟩ (.slice GA10 (c.lg.length+1) gc10)=h11:=eh11.symm
     simp only [] at C11 X11 st11
     rw [eh11'] at C11 X11 st11
     rw [eh11']
     have x7:=X11.B.at' 7 _ rfl
     have x8:=X11.B.at' 8 _ rfl
     have fz11:=X11.B.fz
     refine drawC [(0,0),(1,0),(2,0),(3,0),(4,0),(5,1),(7,0),(8,0),(9,0),(10,2),(6,3),(11,3),(12,0),(13,0),(14,3),(15,0),(16,0),(17,4)] (fun h'=>hcell h' ⟨xb,8,none⟩=some (.complex .f64 (Fx.enc q.d1) (Fx.enc q.d2))) x8 ?_
     simp -implicitDefEqProofs (disch:=omega) [go_sem,r0,r1,x7]
     refine float2 (.complex .f64 (Fx.enc q.d1) (Fx.enc q.d2)) (fun h' hC=>by simp -implicitDefEqProofs (disch:=omega) [go_sem,r0,hC]) ?_
     simp -implicitDefEqProofs (disch:=omega) [go_sem,r0,r1,x7]
     refine useC (count_one_ok (a:=(q.r1:Int)) (b:=(q.r2:Int)) (by omega) (by omega) (by omega) (by omega)) ?_
     rintro _ h12 ⟨rfl,rfl⟩
     refine ⟨x8,?_⟩
     simp -implicitDefEqProofs (disch:=omega) [go_sem,r0,r1,x7]
     refine useC (count_one_ok (a:=(q.d1:Int)) (b:=(q.d2:Int)) (by omega) (by omega) (by omega) (by omega)) ?_
     rintro _ h13 ⟨rfl,rfl⟩
     refine ⟨x8,?_⟩
     simp -implicitDefEqProofs (disch:=omega) [go_sem,r0,r1,x7,x8,fz11]
     have x9:=X11.B.at' 9 _ rfl
     have Y1:=X11.cell (i:=7) (v:=.complex .f64 (Fx.enc q.r1) (Fx.enc ((q.r2:Int)+1))) (q':={ q with r2:=q.r2+1 }) (by omega) (by unfold srV; simp)
     have Y2:=Y1.cell (i:=8) (v:=.complex .f64 (Fx.enc q.d1) (Fx.enc ((q.d2:Int)+1))) (q':={ q with r2:=q.r2+1,d2:=q.d2+1 }) (by omega) (by unfold srV; simp)
     have Y3:=Y2.cell (i:=9) (v:=.int .i64 ((q.cf:Int)+1)) (q':={ q with r2:=q.r2+1,d2:=q.d2+1,cf:=q.cf+1 }) (by omega) (by unfold srV; simp)
     obtain ⟨h14,eh14⟩:∃ h14,h14=hset (hset (hset h13 ⟨xb,7,none⟩ (.complex .f64 (Fx.enc q.r1) (Fx.enc ((q.r2:Int)+1)))) ⟨xb,8,none⟩ (.complex .f64 (Fx.enc q.d1) (Fx.enc ((q.d2:Int)+1)))) ⟨xb,9,none⟩ (.int .i64 ((q.cf:Int)+1)):=⟨_,rfl⟩
     have sx:KSx xb k k11 h h14:=by rw [eh14]; exact ((st11.x.set).set).set
     rw [← eh14] at Y3
     have hadd:SInv K (addS (backS c.s lv) L) (c.ln++[c.s.cs.length]) (c.lg++[(L,false)]):=by
       exact S4'.learn (S4'.I.add q2 fun x hx=>(q1 x hx).2) (show Rup (LvC c.s.cs) L from hR.rup S.I S.D S.R)
     have y0:=Y3.B.at' 0 _ rfl
     have y9:hcell h14 ⟨xb,9,none⟩=some (.int .i64 ((q.cf:Int)+1)):=Y3.B.at' 9 _ rfl
     by_cases hm:((q.cf:Int)+1) % 16=0
     · simp -implicitDefEqProofs (disch:=omega) [go_sem,r0,r1,x9,x7,x8,fz11,hm,← eh14,y9,y0]
       obtain ⟨bbD,hbD,pD,OD,nD,actD,LAD,lcD,GAD,gcD,vsD,CD⟩:=Y3.C.ex
       have bD:=CD.B.at' 1 _ rfl
       simp -implicitDefEqProofs (disch:=omega) [go_sem,r0,r1,y0,bD]
       rw [← eh14]
       refine useC (decay_ok CD.H) ?_
       rintro _ h15 ⟨rfl,H15,f15⟩
       obtain ⟨k15,C15,ks15⟩:=CD.heap H15 ⟨f15,fun x hx=>.inl hx⟩
       simp -implicitDefEqProofs (disch:=omega) [go_sem]
       exact ⟨k15,_,L,lv,Y3.next ⟨_,_,_,_,_,_,_,_,_,_,_,C15⟩ ks15,sx.trans ks15.x,HF4,hadd,rfl,hR,hlv,rfl,hpd,rfl,rfl⟩
     · simp -implicitDefEqProofs (disch:=omega) [go_sem,r0,r1,x9,x7,x8,fz11,hm,← eh14,y9,y0]
       exact ⟨k11,_,L,lv,Y3,sx,HF4,hadd,rfl,hR,hlv,rfl,hpd,rfl,rfl⟩
end
theorem find_of_zero {l:List St} {x:Int} (h:trI l x=0):find l x.natAbs=none:=by
 rw [tr_zero] at h
 refine find_none' fun t ht e=>?_
 have hm:t.lit∈lits l:=List.mem_map.2 ⟨t,ht,rfl⟩
 by_cases e2:t.lit=x
 · rw [e2] at hm; exact h.1 hm
 · rw [show t.lit=-x by omega] at hm; exact h.2 hm
theorem pushE_0 {vars:Nat} {l:List St} {x:Int} (h1:1≤x.natAbs) (h2:x.natAbs≤vars) (h:trI l x=0):pushE vars l x (-1)=0:=by
 have e:varI vars x=x.natAbs:=by unfold varI; rw [if_pos ⟨h1,h2⟩]
 unfold pushE
 rw [if_neg (by rw [e]; omega),find_of_zero h]; rfl
theorem tr_neg0 {l:List St} {x:Int}:trI l (-x)=0↔trI l x=0:=by
 rw [tr_zero,tr_zero,Int.neg_neg]
 exact ⟨fun h=>⟨h.2,h.1⟩,fun h=>⟨h.2,h.1⟩⟩
theorem free_var {vars:Nat} {l:List St} (h:l.length<vars):∃ v:Nat,1≤v∧v≤vars∧trI l (v:Int)=0:=by
 apply Classical.byContradiction
 intro hn
 have:=Tp.nodup_le (a:=List.range' 1 vars) (b:=l.map fun t=>t.lit.natAbs) List.nodup_range' fun v hv=>by
  rw [List.mem_range'_1] at hv
  have h0:trI l (v:Int)≠0:=fun h0=>hn ⟨v,by omega,by omega,h0⟩
  have h1:(v:Int)∈lits l∨-(v:Int)∈lits l:=by
    apply Classical.byContradiction
    intro h2
    rw [not_or] at h2
    exact h0 (tr_zero.2 h2)
  rcases h1 with h1 | h1
  · obtain ⟨t,ht,e⟩:=List.mem_map.1 h1
    exact List.mem_map.2 ⟨t,ht,by rw [e]; exact Int.natAbs_natCast v⟩
  · obtain ⟨t,ht,e⟩:=List.mem_map.1 h1
    exact List.mem_map.2 ⟨t,ht,by rw [e,Int.natAbs_neg]; exact Int.natAbs_natCast v⟩
 rw [List.length_range',List.length_map] at this
 omega
section
variable {h h':Heap} {xb cb:Nat} {k k':Nat→Option CT} {c c':CSt} {sc:Scr} {a:ScrA} {AA:Option Addr} {ac:Nat} {am:List Int} {q:Cnt}
structure DcJ (h0:Heap) (xb cb:Nat) (k:Nat→Option CT) (c:CSt) (sc:Scr) (a:ScrA) (AA:Option Addr) (ac:Nat) (am:List Int) (q:Cnt) (m:Nat) (ρ:Env) (h:Heap):Prop where
 r0:ρ 0=.pointer (some ⟨xb,0,none⟩)
 ex:∃ k' S' bb hb p O act LA lc GA gc vs,CoreB h cb k' { c with S:=S' } bb hb p O m act LA lc GA gc vs∧SrM h xb cb k' { c with S:=S' } sc a AA ac am q∧KSx xb k k' h0 h∧HFull { c with S:=S' }
def DecR (xb cb:Nat) (k:Nat→Option CT) (c:CSt) (sc:Scr) (a:ScrA) (AA:Option Addr) (ac:Nat) (am:List Int) (q:Cnt) (r:Value) (h h':Heap):Prop :=
 ∃ k' S',∃ x:Int,r=.bool true∧SrM h' xb cb k' { c with s:=decS c.s x,S:=S' } sc a AA ac am { q with pk:=q.pk+1 }∧KSx xb k k' h h'∧HFull { c with s:=decS c.s x,S:=S' }∧pushE c.s.vars c.s.l x (-1)=0
theorem decide_ok (X:SrM h xb cb k c sc a AA ac am q) (I:WInv c.s) (HF:HFull c) (hfree:c.s.l.length<c.s.vars) (hpk:q.pk<2^41) (hsc:sc.picks.length<2^40∧sc.signs.length<2^40) :
   CallsH Tryz.prog 142 [.pointer (some ⟨xb,0,none⟩)] h fun r h'=>DecR xb cb k c sc a AA ac am q r h h':=by
 have hvv:=I.hv
 refine calls_of 72 [.tmp 2] Go.Proofs.Tryz.func142 rfl rfl rfl ?_
 simp -implicitDefEqProofs (disch:=omega) [go_sem]
 obtain ⟨bb,hb,p,O,n,act,LA,lc,GA,gc,vs,C⟩:=X.C.ex
 refine scopeLG 0 (DcJ h xb cb k c sc a AA ac am q) n (by kernel_rfl) ?_ ?_
 · exact ⟨rfl,k,c.S,bb,hb,p,O,act,LA,lc,GA,gc,vs,C,X,KSx.refl,HF⟩
 · clear C
   rintro m ρ h1 ⟨r0,k1,S1,bb,hb,p,O,act,LA,lc,GA,gc,vs,C1,X1,sx1,HF1⟩
   have x0:=X1.B.at' 0 _ rfl
   have x1:=X1.B.at' 1 _ rfl
   have x10:=X1.B.at' 10 _ rfl
   have b1:=C1.B.at' 1 _ rfl
   simp -implicitDefEqProofs (disch:=omega) [go_sem,r0]
   refine drawC [(0,0),(1,0),(2,0),(3,2),(4,0),(5,0),(6,2),(7,0),(8,0),(9,0),(10,0),(11,1),(12,0),(13,0),(14,0),(15,1),(16,3),(17,3),(18,0),(19,0),(20,0),(21,0),(22,0)] (fun h'=>hcell h' ⟨xb,0,none⟩=some (.pointer (some ⟨cb,0,none⟩))∧hcell h' ⟨cb,1,none⟩=some (.pointer (some ⟨hb,0,none⟩))) ⟨x0,b1⟩ ?_
   simp -implicitDefEqProofs (disch:=omega) [go_sem,r0,x0,x1,x10,b1]
   refine float2 (.pointer (some ⟨cb,0,none⟩)) (fun h' hC=>by simp -implicitDefEqProofs (disch:=omega) [go_sem,r0,hC.1]) ?_
   simp -implicitDefEqProofs (disch:=omega) [go_sem,r0,x0,x1,x10,b1]
   refine float2 (.pointer (some ⟨hb,0,none⟩)) (fun h' hC=>by simp -implicitDefEqProofs (disch:=omega) [go_sem,r0,hC.2]) ?_
   simp -implicitDefEqProofs (disch:=omega) [go_sem,r0,x0,x1,x10,b1]
   refine useC (hat_ok X1.S.P rfl hsc.1 (i:=(q.pk:Int)) (by omega) (by omega)) ?_
   rintro _ h2 ⟨⟨y,rfl⟩,rfl⟩
   refine ⟨⟨x0,b1⟩,?_⟩
   simp -implicitDefEqProofs (disch:=omega) [go_sem,r0]
   refine useC (pop_ok C1.H y) ?_
   rintro _ h3 (⟨hm0,rfl,rfl⟩ | ⟨v,rfl,hm0,hfr,O3,H3,nx3⟩)
   · exfalso
     obtain ⟨v,hv1,hv2,hv3⟩:=free_var hfree
     have hS:=HF1 v hv1 hv2 hv3
     obtain ⟨kb,lb,pb,kc,lc',pc,A',l',pl',_,_,_,hin,_⟩:=C1.H.ex
     obtain ⟨i,hi,_⟩:=(hin v).2 hS
     omega
   obtain ⟨k3,C3,ks3⟩:=C1.heap H3 nx3
   have X3:=X1.next ⟨_,_,_,_,_,_,_,_,_,_,_,C3⟩ ks3
   have hSv:S1 v:=((mem_front (act:=act) (S:=S1) (vars:=c.s.vars) fun v hv=>C1.H.range hv).1 (List.mem_of_getElem? hfr)).1
   have hvr:1≤v∧v≤c.s.vars:=C1.H.range hSv
   have x03:=X3.B.at' 0 _ rfl
   have b03:=C3.B.at' 0 _ rfl
   have b13:=C3.B.at' 1 _ rfl
   refine ⟨⟨x03,b13⟩,?_⟩
   simp -implicitDefEqProofs (disch:=omega) [go_sem,r0,x03,b03]
   refine useC (btrail_m C3.M) ?_
   rintro _ h4 ⟨rfl,rfl⟩
   simp -implicitDefEqProofs (disch:=omega) [go_sem,r0,x03,b03]
   refine useC (ttruth_ok C3.M.T (x:=(v:Int)) (by omega) (by omega)) ?_
   rintro _ h4 ⟨rfl,rfl⟩
   by_cases ht:trI c.s.l (v:Int)=0
   · have x23:=X3.B.at' 2 _ rfl
     have x103:=X3.B.at' 10 _ rfl
     have fz3:=X3.B.fz
     simp -implicitDefEqProofs (disch:=omega) [go_sem,r0,x03,b03,ht]
     refine drawK [(0,0),(1,0),(2,0),(3,0),(4,1),(5,0),(6,0),(7,0),(8,1),(9,3)] ?_
     simp -implicitDefEqProofs (disch:=omega) [go_sem,r0,x23,x103]
     refine useC (hsign_ok X3.S.G rfl hsc.2 (i:=(q.pk:Int)) (by omega) (by omega)) ?_
     rintro _ h5 ⟨⟨g,rfl⟩,rfl⟩
     have Y:=X3.cell (i:=10) (v:=.int .i64 ((q.pk:Int)+1)) (q':={ q with pk:=q.pk+1 }) (by omega) (by unfold srV; simp)
     obtain ⟨h6,eh6⟩:∃ h6,h6=hset h5 ⟨xb,10,none⟩ (.int .i64 ((q.pk:Int)+1)):=⟨_,rfl⟩
     have sx6:KSx xb k k3 h h6:=by rw [eh6]; exact (sx1.trans ks3.x).set
     rw [← eh6] at Y
     obtain ⟨bb6,hb6,p6,O6,n6,act6,LA6,lc6,GA6,gc6,vs6,C6⟩:=Y.C.ex
     have y0:=Y.B.at' 0 _ rfl
     have c0:=C6.B.at' 0 _ rfl
     have fin:∀ x:Int,x=v∨x=-(v:Int)→CallsH Tryz.prog 60 [.pointer (some ⟨bb6,0,none⟩),.int .i64 x] h6 fun r h'=>∃ k' S',SrM h' xb cb k' { c with s:=decS c.s x,S:=S' } sc a AA ac am { q with pk:=q.pk+1 }∧KSx xb k k' h h'∧HFull { c with s:=decS c.s x,S:=S' }∧pushE c.s.vars c.s.l x (-1)=0:=fun x hx=>by
       have hxv:x.natAbs=v:=by omega
       have ht':trI c.s.l x=0:=by
        rcases hx with rfl | rfl
        · exact ht
        · exact tr_neg0.2 ht
       have hpe:pushE c.s.vars c.s.l x (-1)=0:=pushE_0 (by omega) (by omega) ht'
       refine (bdecide_m C6.M (x:=x) (by omega) (by omega)).mono ?_
       rintro _ h7 ⟨_,p7,M7,st7⟩
       obtain ⟨k7,C7,ks7⟩:=C6.base M7 st7 rfl
       refine ⟨k7,_,Y.next ⟨_,_,_,_,_,_,_,_,_,_,_,C7⟩ ks7,sx6.trans ks7.x,fun u h1 h2 h0=>?_,hpe⟩
       obtain ⟨e1,_⟩:=decS_l (s:=c.s) hpe
       have h0':trI (decS c.s x).l (u:Int)=0:=h0
       rw [e1,tr_zero,lits_push] at h0'
       simp only [List.mem_append,List.mem_singleton,not_or] at h0'
       exact ⟨HF1 u h1 h2 (tr_zero.2 ⟨h0'.1.1,h0'.2.1⟩),fun e=>by
        rcases hx with rfl | rfl
        · exact h0'.1.2 (by rw [e])
        · exact h0'.2.2 (by rw [e])⟩
     cases g with
     | true =>
       simp -implicitDefEqProofs (disch:=omega) [go_sem,r0,x103,fz3,← eh6,y0,c0]
       rw [← eh6]
       refine useC (fin v (.inl rfl)) ?_
       rintro _ h7 ⟨k7,S7,X7,sx7,HF7,hpe⟩
       simp -implicitDefEqProofs (disch:=omega) [go_sem]
       exact ⟨k7,S7,_,rfl,X7,sx7,HF7,hpe⟩
     | false =>
       simp -implicitDefEqProofs (disch:=omega) [go_sem,r0,x103,fz3,← eh6,y0,c0]
       rw [← eh6]
       refine useC (fin (-(v:Int)) (.inr rfl)) ?_
       rintro _ h7 ⟨k7,S7,X7,sx7,HF7,hpe⟩
       simp -implicitDefEqProofs (disch:=omega) [go_sem]
       exact ⟨k7,S7,_,rfl,X7,sx7,HF7,hpe⟩
   · simp -implicitDefEqProofs (disch:=omega) [go_sem,r0,x03,b03,ht]
     exact ⟨m-1,by omega,r0,k3,_,bb,hb,p,O3,act,LA,lc,GA,gc,vs,C3,X3,sx1.trans ks3.x,fun u h1 h2 h0=>⟨HF1 u h1 h2 h0,fun e=>ht (by rw [← e]; exact h0)⟩⟩
end
end Xe
