/- Stable sorting in place, walked: SortStableFunc. -/
import Derived.Test.YtkghjecglmmloaaGreatST
import Derived.Test.YtkghjecglmmloaaGreatC6
import Derived.Test.YtkghjecglmmloaaGreatL20
namespace Xe
open Go Go.Proofs
set_option maxRecDepth 16000
set_option maxHeartbeats 1000000
section
variable {h:Heap} {A:Option Addr} {cap:Nat} {fn:FuncId} {cs:List Value} {cf:Value→Value→Int} {ok:Value→Prop} {L:List Value} {n:Nat}
structure StJ (h0:Heap) (A:Option Addr) (cap:Nat) (L:List Value) (n:Nat) (fv:Value) (ρ:Env) (h:Heap):Prop where
 r0:ρ 0=.slice A n cap
 r1:ρ 1=.int .i64 n
 r2:ρ 2=fv
 r6:ρ 6=.int .i64 20
 ex:∃ (a:Nat) (L':List Value),ρ 7=.int .i64 a∧ρ 8=.int .i64 (a+20:Nat)∧a≤n∧Dat h0 A cap L 0 n h L'
structure StJ2 (h0:Heap) (A:Option Addr) (cap:Nat) (L:List Value) (n:Nat) (fv:Value) (ρ:Env) (h:Heap):Prop where
 r0:ρ 0=.slice A n cap
 r1:ρ 1=.int .i64 n
 r2:ρ 2=fv
 ex:∃ (bs:Nat) (L':List Value),ρ 6=.int .i64 bs∧1≤bs∧bs≤n+n+20∧Dat h0 A cap L 0 n h L'
structure StJ3 (h0:Heap) (A:Option Addr) (cap:Nat) (L:List Value) (n:Nat) (fv:Value) (bs:Nat) (ρ:Env) (h:Heap):Prop where
 r0:ρ 0=.slice A n cap
 r1:ρ 1=.int .i64 n
 r2:ρ 2=fv
 r6:ρ 6=.int .i64 bs
 ex:∃ (a:Nat) (L':List Value),ρ 7=.int .i64 a∧ρ 8=.int .i64 (a+2*bs:Nat)∧a≤n∧Dat h0 A cap L 0 n h L'
theorem Dat.wide {h0 h1 h2:Heap} {L0 L1 L2:List Value} {a b:Nat} (D:Dat h0 A cap L0 0 n h1 L1) (E:Dat h1 A cap L1 a b h2 L2) (hb:b≤n) (hn:n≤L0.length):Dat h0 A cap L0 0 n h2 L2 :=
 ⟨D.R.trans (E.R.mono (Nat.zero_le _) hb (by rw [D.R.len]; exact hn)),E.S,D.f.trans E.f⟩
theorem stable_ok (C:Cmp Tryz.prog h A fn cs cf ok) (S:SlAt h A cap L) (hn:n=L.length) (hs:n<2^40) (hone:∀ w∈L,w.oneCell'=true) (hok:OkR ok L) :
   CallsH Tryz.prog 245 [.slice A n cap,.int .i64 n,.func (.func fn) #[] cs.toArray] h fun _ h'=>∃ L',Dat h A cap L 0 n h' L':=by
 have one2:∀ {L2:List Value},Rng 0 n L L2→∀ w∈L2,w.oneCell'=true:=fun R w hw=>hone w (R.perm.mem_iff.1 hw)
 have hnl:n≤L.length:=by omega
 refine calls_of 63 [] Go.Proofs.Tryz.func245 rfl rfl rfl ?_
 simp -implicitDefEqProofs (disch:=omega) [go_sem]
 refine loopK (StJ h A cap L n (.func (.func fn) #[] cs.toArray)) (fun ρ _=>n+20-(intOf (ρ 7)).toNat) (by kernel_rfl) ?_ ?_
 · exact ⟨rfl,rfl,rfl,rfl,0,L,rfl,rfl,by omega,Dat.refl S⟩
 · rintro ρ h1 ⟨r0,r1,r2,r6,a,L1,r7,r8,ha,D⟩
   have hl1:=D.R.len
   by_cases hle:a+20≤n
   · simp -implicitDefEqProofs (disch:=omega) [go_sem,r0,r1,r2,r6,r7,r8]
     refine useC (insertionR_ok (C.fr D.f) D.S (by omega) hs (one2 D.R) (hok.rng D.R hnl) (a:=a) (b:=a+20) (by omega) (by omega)) ?_
     rintro _ h2 ⟨L2,E,_⟩
     simp -implicitDefEqProofs (disch:=omega) [go_sem,r0,r1,r2,r6,r7,r8]
     exact ⟨⟨r0,r1,r2,r6,a+20,L2,rfl,rfl,by omega,D.wide E (by omega) hnl⟩,by omega⟩
   · simp -implicitDefEqProofs (disch:=omega) [go_sem,r0,r1,r2,r6,r7,r8]
     refine useC (insertionR_ok (C.fr D.f) D.S (by omega) hs (one2 D.R) (hok.rng D.R hnl) (a:=a) (b:=n) (by omega) (by omega)) ?_
     rintro _ h2 ⟨L2,E,_⟩
     simp -implicitDefEqProofs (disch:=omega) [go_sem,r0,r1,r2,r6,r7,r8]
     have D2:=D.wide E (by omega) hnl
     refine loopK (StJ2 h A cap L n (.func (.func fn) #[] cs.toArray)) (fun ρ _=>n-(intOf (ρ 6)).toNat) (by kernel_rfl) ?_ ?_
     · exact ⟨r0,r1,r2,20,L2,r6,by omega,by omega,D2⟩
     · clear r0 r1 r2 r6 r7 r8 D D2 E hl1 hle ha
       rintro ρ h3 ⟨r0,r1,r2,bs,L3,r6,hb1,hb2,D3⟩
       by_cases hlt:bs<n
       · simp -implicitDefEqProofs (disch:=omega) [go_sem,r0,r1,r2,r6]
         refine loopK (StJ3 h A cap L n (.func (.func fn) #[] cs.toArray) bs) (fun ρ _=>n+2*bs-(intOf (ρ 7)).toNat) (by kernel_rfl) ?_ ?_
         · exact ⟨r0,r1,r2,r6,0,L3,rfl,by rw [show ((0+2*bs:Nat):Int)=2*(bs:Int) by omega]; rfl,by omega,D3⟩
         · have hr6:(intOf (ρ 6)).toNat=bs:=by rw [r6]; rfl
           clear r0 r1 r2 r6 D3
           rintro ρ h4 ⟨r0,r1,r2,r6,a,L4,r7,r8,ha,D4⟩
           have hl4:=D4.R.len
           by_cases hle:a+2*bs≤n
           · simp -implicitDefEqProofs (disch:=omega) [go_sem,r0,r1,r2,r6,r7,r8]
             refine useC (symMerge_ok C n (a:=a) (m:=a+bs) (b:=a+2*bs) D4.f D4.S (by omega) hs (one2 D4.R) (hok.rng D4.R hnl) (by omega) (by omega) (by omega) (by omega)) ?_
             rintro _ h5 ⟨L5,E5⟩
             simp -implicitDefEqProofs (disch:=omega) [go_sem,r0,r1,r2,r6,r7,r8]
             exact ⟨⟨r0,r1,r2,r6,a+2*bs,L5,rfl,rfl,by omega,D4.wide E5 (by omega) hnl⟩,by omega⟩
           · by_cases hm:a+bs<n
             · have hm':(a:Int)+(bs:Int)<(n:Int):=by omega
               simp -implicitDefEqProofs (disch:=omega) [go_sem,r0,r1,r2,r6,r7,r8,hm']
               refine useC (symMerge_ok C n (a:=a) (m:=a+bs) (b:=n) D4.f D4.S (by omega) hs (one2 D4.R) (hok.rng D4.R hnl) (by omega) (by omega) (by omega) (by omega)) ?_
               rintro _ h5 ⟨L5,E5⟩
               simp -implicitDefEqProofs (disch:=omega) [go_sem,r0,r1,r2,r6,r7,r8]
               exact ⟨⟨r0,r1,r2,bs*2,L5,rfl,by omega,by omega,D4.wide E5 (by omega) hnl⟩,by omega⟩
             · have hm':¬ (a:Int)+(bs:Int)<(n:Int):=by omega
               simp -implicitDefEqProofs (disch:=omega) [go_sem,r0,r1,r2,r6,r7,r8,hm']
               exact ⟨⟨r0,r1,r2,bs*2,L4,rfl,by omega,by omega,D4⟩,by omega⟩
       · simp -implicitDefEqProofs (disch:=omega) [go_sem,r0,r1,r2,r6]
         exact ⟨L3,D3⟩
theorem sortStable_ok {l:List Int} {cfI:Int→Int→Int} {okI:Int→Prop} (C:CmpOk cfI okI) (S:SlAt h A cap (ints l)) (hl:∀ x∈l,okI x) (hn:n=l.length) (hs:n<2^40)
  (hf:∀ h',Fr (blk A) h h'→∀ x y,okI x→okI y→CallsH Tryz.prog fn ([.int .i64 x,.int .i64 y]++cs) h' fun r h''=>r=.int .i64 (cfI x y)∧Fr (fun _=>False) h' h'') :
  CallsH Tryz.prog 227 [.slice A n cap,.func (.func fn) #[] cs.toArray] h fun _ h'=>∃ L,L.Perm l∧SlAt h' A cap (ints L)∧Fr (blk A) h h':=by
 have hone:∀ w∈ints l,w.oneCell'=true:=ints_one
 have hok:OkR (okV okI) (ints l):=fun p hp=>by
  rw [ints_len] at hp
  exact ⟨gt l p,gv_ints hp,hl _ (List.mem_of_getElem? (gt_at hp))⟩
 have C':Cmp Tryz.prog h A fn cs (cfV cfI) (okV okI):=⟨fun h' f x y hx hy=>by
  obtain ⟨a,rfl,ha⟩:=hx
  obtain ⟨b,rfl,hb⟩:=hy
  exact hf h' f a b ha hb,cfV_ok C⟩
 refine calls_of 9 [] Go.Proofs.Tryz.func227 rfl rfl rfl ?_
 simp -implicitDefEqProofs (disch:=omega) [go_sem]
 refine useC (stable_ok C' S (by rw [ints_len]; exact hn) hs hone hok) ?_
 rintro r h' ⟨L',D⟩
 obtain ⟨g,rfl,hP⟩:=perm_ints D.R.perm
 simp -implicitDefEqProofs (disch:=omega) [go_sem]
 exact ⟨g,hP,D.S,D.f⟩
end
end Xe
namespace Xe
open Go Tp Go.Proofs Hq
set_option maxRecDepth 16000
set_option maxHeartbeats 2000000
theorem ids_ints (l:List Nat):ids l=ints (l.map fun (i:Nat)=>(i:Int)):=by unfold ids ints; rw [List.map_map]; rfl
def lenCf (s:WS) (x y:Int):Int:=cmpI (lenC s y.toNat) (lenC s x.toNat)
theorem lenCf_ok (s:WS) (ok:Int→Prop):CmpOk (lenCf s) ok where
 le x y _ _ h:=by unfold lenCf cmpI at *; split at h <;> split <;> omega
 tr x y z _ _ _ h1 h2:=by
  unfold lenCf cmpI at *
  generalize lenC s x.toNat=a at *
  generalize lenC s y.toNat=b at *
  generalize lenC s z.toNat=c at *
  split at h1 <;> split at h2 <;> split <;> first | omega | (split <;> omega)
structure LessS (s s':WS):Prop where
 vars:s'.vars=s.vars
 l:s'.l=s.l
 level:s'.level=s.level
 len:s'.cs.length=s.cs.length
 old:∀ (id:Nat) e',s'.cs[id]?=some e'→e'.gone=false→∃ e,s.cs[id]?=some e∧e.gone=false∧e.lits=e'.lits
theorem LessS.refl (s:WS):LessS s s:=⟨rfl,rfl,rfl,rfl,fun _ e h hg=>⟨e,h,hg,rfl⟩⟩
theorem LessS.trans {a b c:WS} (h1:LessS a b) (h2:LessS b c):LessS a c where
 vars:=h2.vars.trans h1.vars
 l:=h2.l.trans h1.l
 level:=h2.level.trans h1.level
 len:=h2.len.trans h1.len
 old id e' h hg:=by
  obtain ⟨e1,g1,g2,g3⟩:=h2.old id e' h hg
  obtain ⟨e2,k1,k2,k3⟩:=h1.old id e1 g1 g2
  exact ⟨e2,k1,k2,k3.trans g3⟩
theorem LessS.drop {s:WS} {id:Nat} {e:Ent} (he:s.cs[id]?=some e):LessS s { s with cs:=setG s.cs id } where
 vars:=rfl
 l:=rfl
 level:=rfl
 len:=setG_len _ _
 old k e' h hg:=by
  have h':(setG s.cs id)[k]?=some e':=h
  rw [setG_at he] at h'
  split at h'
  · cases h'; cases hg
  · exact ⟨e',h',hg,rfl⟩
theorem LessS.quiet {s s':WS} (L:LessS s s') (q:Quiet (absC s.cs) s.l):Quiet (absC s'.cs) s'.l:=fun id c hc=>by
 obtain ⟨e',he',rfl,hg⟩:=absC_back hc
 obtain ⟨e,h1,h2,h3⟩:=L.old id e' he' hg
 have h4:=absC_at h1
 rw [h2,h3] at h4
 rw [L.l]
 exact q id _ h4
section
variable {h h':Heap} {xb cb:Nat} {k k':Nat→Option CT} {c c':CSt} {sc:Scr} {a:ScrA} {AA:Option Addr} {ac:Nat} {am:List Int} {q:Cnt}
theorem redF1_ok (X:SrM h xb cb k c sc a AA ac am q) {b1:Nat} (h1:hcell h ⟨b1,0,none⟩=some (.pointer (some ⟨xb,0,none⟩))) {x y:Int} (hx:0≤x∧x<2^62) (hy:0≤y∧y<2^62) :
  CallsH Tryz.prog 228 ([.int .i64 x,.int .i64 y]++[.pointer (some ⟨b1,0,none⟩)]) h fun r h'=>r=.int .i64 (lenCf c.s x y)∧Fr (fun _=>False) h h':=by
 obtain ⟨m,rfl⟩:∃ m:Nat,x=m:=⟨x.toNat,by omega⟩
 obtain ⟨n,rfl⟩:∃ n:Nat,y=n:=⟨y.toNat,by omega⟩
 refine calls_of 13 [.tmp 5] Go.Proofs.Tryz.func228 rfl rfl rfl ?_
 simp -implicitDefEqProofs (disch:=omega) [go_sem]
 refine drawC [(0,1),(1,0),(3,2),(4,0),(2,3),(5,3),(6,3),(7,0)] (fun h'=>hcell h' ⟨b1,0,none⟩=some (.pointer (some ⟨xb,0,none⟩))) h1 ?_
 simp -implicitDefEqProofs (disch:=omega) [go_sem,h1]
 refine float2 (.pointer (some ⟨xb,0,none⟩)) (fun h' hC=>by simp -implicitDefEqProofs (disch:=omega) [go_sem,hC]) ?_
 simp -implicitDefEqProofs (disch:=omega) [go_sem,h1]
 refine useC (length_ok X (id:=n) (by omega)) ?_
 rintro _ h2 ⟨hl1,rfl,f2⟩
 have h12:=(f2.cell (hcell_lt h1) fun h=>h).trans h1
 refine ⟨h12,?_⟩
 simp -implicitDefEqProofs (disch:=omega) [go_sem,h12]
 refine useC (length_ok (X.fr0 f2) (id:=m) (by omega)) ?_
 rintro _ h3 ⟨hl2,rfl,f3⟩
 refine ⟨(f3.cell (hcell_lt h12) fun h=>h).trans h12,?_⟩
 simp -implicitDefEqProofs (disch:=omega) [go_sem]
 refine useC (compare_ok _ _) ?_
 rintro _ h4 ⟨rfl,rfl⟩
 refine ⟨(f3.cell (hcell_lt h12) fun h=>h).trans h12,?_⟩
 simp -implicitDefEqProofs (disch:=omega) [go_sem]
 unfold lenCf
 simp
 exact f2.trans f3
theorem redF2_ok {b4:Nat} {id x:Int} (h4:hcell h ⟨b4,0,none⟩=some (.int .i64 id)):CallsH Tryz.prog 231 ([.int .i64 x]++[.pointer (some ⟨b4,0,none⟩)]) h fun r h'=>r=.bool (decide (x=id))∧h'=h:=by
 refine calls_of 7 [.tmp 3] Go.Proofs.Tryz.func231 rfl rfl rfl ?_
 simp -implicitDefEqProofs (disch:=omega) [go_sem,h4]
theorem KSx.lb {vs:List Value} {b:Nat} (st:KSx xb k k' h h') (B:ListB h b vs) (hk:k b=none) (hb:b≠xb):ListB h' b vs:=B.fr st.fr fun h=>h.elim (fun h=>h hk) hb
theorem KSx.row {vs:List Value} {A:Option Addr} (st:KSx xb k k' h h') (R:RowAt h A vs) (hA:∀ y,blk A y→k y=none∧y≠xb):RowAt h' A vs:=R.fr st.fr fun y hy h=>h.elim (fun h=>h (hA y hy).1) (hA y hy).2
theorem KSx.free (st:KSx xb k k' h h') {x:Nat} (hx:k x=none) (hl:x<h.size):k' x=none:=by
 cases hc:k' x with
 | none=>rfl
 | some t=>exact (st.own x t hc).elim (fun h=>by rw [hx] at h; cases h) fun h=>by omega
def RedR (xb cb:Nat) (k:Nat→Option CT) (c:CSt) (sc:Scr) (a:ScrA) (AA:Option Addr) (ac:Nat) (am:List Int) (q:Cnt) (K:List (List Int)) (h h':Heap):Prop :=
 ∃ k' s' ln' lg',SrM h' xb cb k' { c with s:=s',ln:=ln',lg:=lg' } sc a AA ac am q∧KSx xb k k' h h'∧SInv K s' ln' lg'∧LessS c.s s'∧(lg'.length+ln'.length≤c.lg.length+c.ln.length∧c.lg <+: lg')
structure RdJ (h5:Heap) (xb cb b1:Nat) (k:Nat→Option CT) (c:CSt) (sc:Scr) (a:ScrA) (AA:Option Addr) (ac:Nat) (am:List Int) (q:Cnt) (K:List (List Int)) (A:Option Addr) (half cap:Nat) (ρ:Env) (h:Heap):Prop where
 r1:ρ 1=.pointer (some ⟨b1,0,none⟩)
 r22:ρ 22=.slice A half cap
 r23:ρ 23=.int .i64 half
 ex:∃ (i:Nat) (k':Nat→Option CT) (s':WS) (ln':List Nat) (lg':List (List Int × Bool)),ρ 24=.int .i64 i∧i≤half∧SrM h xb cb k' { c with s:=s',ln:=ln',lg:=lg' } sc a AA ac am q∧KSx xb k k' h5 h∧SInv K s' ln' lg'∧LessS c.s s' ∧
  (lg'.length+ln'.length≤c.lg.length+c.ln.length∧c.lg <+: lg')∧∀ id∈c.ln,(∃ e,s'.cs[id]?=some e∧e.gone=false)→id∈ln'
theorem reduce_ok (X:SrM h xb cb k c sc a AA ac am q) {K:List (List Int)} (S:SInv K c.s c.ln c.lg) (hz:c.lg.length+c.ln.length+1<2^40) :
   CallsH Tryz.prog 185 [.pointer (some ⟨xb,0,none⟩)] h fun _ h'=>RedR xb cb k c sc a AA ac am q K h h':=by
 refine calls_of 82 [] Go.Proofs.Tryz.func185 rfl rfl rfl ?_
 simp -implicitDefEqProofs (disch:=omega) [go_sem]
 obtain ⟨h1,e1⟩:∃ h1,h1=h.push (.cells #[.pointer (some ⟨xb,0,none⟩)] 135):=⟨_,rfl⟩
 have f1:Fr (fun _=>False) h h1:=by rw [e1]; exact (Fr.refl _ _).push
 have V1:ListB h1 h.size [.pointer (some ⟨xb,0,none⟩)]:=by rw [e1]; exact ListB.new
 rw [← e1]
 have X1:=X.fr0 f1
 obtain ⟨bb,hb,p,O,n,act,LA,lc,GA,gc,vs,C1⟩:=X1.C.ex
 have v1:=V1.at' 0 _ rfl
 have x0:=X1.B.at' 0 _ rfl
 have b2:=C1.B.at' 2 _ rfl
 have hsm:=C1.M.sm.1
 have hidb:∀ id∈c.ln,id<2^40:=fun id hid=>by
   obtain ⟨e,he,_⟩:=S.lns id hid
   have:=(List.getElem?_eq_some_iff.1 he).1
   omega
 have hb1k:k h.size=none:=by
   cases hc:k h.size with
   | none=>rfl
   | some t=>have:=X.C.low _ t hc; omega
 have hb1x:h.size≠xb:=fun e=>by have:=X.B.lt; omega
 simp -implicitDefEqProofs (disch:=omega) [go_sem,v1,x0,b2]
 refine useC (clone_ok C1.L.row (by rw [ids_len]) (by rw [ids_ints]; exact ints_one) (by omega)) ?_
 rintro _ h2 ⟨A,cap,rfl,SA,ownA,f2⟩
 rw [ids_ints] at SA
 have X2:=X1.fr0 f2
 have V2:=V1.fr f2 fun h=>h
 have hb1A:¬ blk A h.size:=fun h=>by have:=ownA _ h; have:=V1.lt; omega
 simp -implicitDefEqProofs (disch:=omega) [go_sem]
 refine useC (sortStable_ok (cs:=[.pointer (some ⟨h.size,0,none⟩)]) (lenCf_ok c.s fun x=>0≤x∧x<2^62) SA (fun x hx=>?_) (by rw [List.length_map]) (by omega) (fun h' f x y hx hy=>?_)) ?_
 · obtain ⟨i,hi,rfl⟩:=List.mem_map.1 hx
   have:=hidb i hi; omega
 · exact redF1_ok (X1.fr0 (f2.trans' f fun x hx h=>by have:=ownA x h; omega)) ((V2.fr f hb1A).at' 0 _ rfl) hx hy
 rintro _ h3 ⟨Ls,hP,S3,f3⟩
 have f13:Fr (fun _=>False) h1 h3:=f2.trans' f3 fun x hx h=>by have:=ownA x h; omega
 have X3:=X1.fr0 f13
 have V3:=V2.fr f3 hb1A
 have hLl:Ls.length=c.ln.length:=by rw [hP.length_eq,List.length_map]
 obtain ⟨half,hhalf⟩:∃ half,half=c.ln.length / 2:=⟨_,rfl⟩
 have eh:(c.ln.length:Int) / 2=(half:Int):=by omega
 have hcap:=S3.len
 rw [ints_len] at hcap
 simp -implicitDefEqProofs (disch:=omega) [go_sem,eh]
 have hAk:∀ y,blk A y→k y=none∧y≠xb∧y<h3.size:=fun y hy=>by
   have h1':=ownA y hy
   have h2':=S3.blk_lt hy
   have h3':=f1.size
   refine ⟨?_,fun e=>by have:=X.B.lt; omega,h2'⟩
   cases hc:k y with
   | none=>rfl
   | some t=>have:=X.C.low y t hc; omega
 have hidL:∀ (j:Nat) x,Ls[j]?=some x→∃ id:Nat,x=id∧id∈c.ln:=fun j x hx=>by
   have:=hP.mem_iff.1 (List.mem_of_getElem? hx)
   obtain ⟨i,hi,rfl⟩:=List.mem_map.1 this
   exact ⟨i,rfl,hi⟩
 refine loopK (RdJ h3 xb cb h.size k c sc a AA ac am q K A half cap) (fun ρ _=>half-(intOf (ρ 24)).toNat) (by kernel_rfl) ?_ ?_
 · exact ⟨rfl,rfl,rfl,0,k,c.s,c.ln,c.lg,rfl,by omega,X3,KSx.refl,S,LessS.refl _,⟨Nat.le_refl _,List.prefix_refl _⟩,fun id hid _=>hid⟩
 · clear C1 x0 b2 v1
   rintro ρ h4 ⟨r1,r22,r23,i,k4,s4,ln4,lg4,r24,hi,X4,sx4,S4,L4,hz4,hin4⟩
   have V4:=sx4.lb V3 hb1k hb1x
   by_cases hin:i<half
   · obtain ⟨x,hx⟩:=some_at (show i<Ls.length by omega)
     obtain ⟨id,rfl,hid⟩:=hidL i x hx
     have R4:=sx4.row S3.row fun y hy=>⟨(hAk y hy).1,(hAk y hy).2.1⟩
     obtain ⟨bk,off,rfl,hc⟩:=R4.get (by rw [ints_len]; omega)
     have c0:=hc _ _ (ints_at hx)
     have hid40:=hidb id hid
     simp -implicitDefEqProofs (disch:=omega) [go_sem,r1,r22,r23,r24,c0]
     obtain ⟨h5,e5⟩:∃ h5,h5=hset (h4.push (.cells #[.int .i64 0] 3)) ⟨h4.size,0,none⟩ (.int .i64 (id:Int)):=⟨_,rfl⟩
     have f5:Fr (fun _=>False) h4 h5:=by rw [e5]; exact (Fr.refl _ _).push.new (Nat.le_refl _)
     have V5:ListB h5 h4.size [.int .i64 (id:Int)]:=by
       rw [e5]
       have:=(ListB.new (h:=h4) (vs:=[.int .i64 0]) (e:=3)).set (i:=0) (.int .i64 (id:Int)) (by simp)
       simpa using this
     rw [← e5]
     have W5:=V4.fr f5 fun h=>h
     have X5:=X4.fr0 f5
     have hk5:k4 h4.size=none:=by
       cases hc:k4 h4.size with
       | none=>rfl
       | some t=>have:=X4.C.low _ t hc; omega
     have hx5:h4.size≠xb:=fun e=>by have:=X4.B.lt; omega
     have hk41:k4 h.size=none:=sx4.free hb1k V3.lt
     obtain ⟨bb5,hb5,p5,O5,n5,act5,LA5,lc5,GA5,gc5,vs5,C5⟩:=X5.C.ex
     have w0:=W5.at' 0 _ rfl
     have v0:=V5.at' 0 _ rfl
     have x0:=X5.B.at' 0 _ rfl
     have b0:=C5.B.at' 0 _ rfl
     have hcs:s4.cs.length=c.s.cs.length:=L4.len
     obtain ⟨e,he⟩:∃ e,s4.cs[id]?=some e:=by
       obtain ⟨e0,he0,_⟩:=S.lns id hid
       exact ⟨_,List.getElem?_eq_getElem (by have:=(List.getElem?_eq_some_iff.1 he0).1; omega)⟩
     have M5:BaseM h5 bb5 p5 s4:=C5.M
     refine drawK [(0,1),(1,0),(2,0),(3,1),(4,0),(5,0),(6,1),(7,1),(8,3),(9,0),(10,0),(11,0),(12,0),(13,0)] ?_
     simp -implicitDefEqProofs (disch:=omega) [go_sem,r1,r22,r23,r24,w0,v0,x0,b0]
     cases hg:e.gone with
     | true =>
       have hn:0≤(id:Int)→∀ e',s4.cs[(id:Int).toNat]?=some e'→e'.gone=true:=fun _ e' he'=>by rw [Int.toNat_natCast,he] at he'; cases he'; exact hg
       refine useC (clause_none M5 (id:=(id:Int)) (by omega) (by omega) hn) ?_
       rintro _ h6 ⟨rfl,rfl⟩
       simp -implicitDefEqProofs (disch:=omega) [go_sem,r1,r22,r23,r24]
       refine drawK [(0,1),(1,0),(2,0),(3,1),(4,0),(5,0),(6,1),(7,1),(8,3)] ?_
       simp -implicitDefEqProofs (disch:=omega) [go_sem,r1,r22,r23,r24,w0,v0,x0,b0]
       refine useC (bdrop_m M5 S4.I (id:=(id:Int)) (by omega) (by omega)) ?_
       rintro _ h7 (⟨m,e',hm,he',hg',_⟩ | ⟨rfl,f7,_⟩)
       · obtain rfl:=Int.ofNat_inj.1 hm
         rw [he] at he'; cases he'
         rw [hg] at hg'; cases hg'
       · simp -implicitDefEqProofs (disch:=omega) [go_sem,r1,r22,r23,r24]
         exact ⟨⟨r1,r22,r23,i+1,k4,s4,ln4,lg4,rfl,by omega,X5.fr0 f7,(sx4.trans (KSt.fr0 f5).x).trans (KSt.fr0 f7).x,S4,L4,hz4,hin4⟩,by omega⟩
     | false =>
       refine useC (clause_some M5 he hg) ?_
       rintro _ h6 ⟨D,dc,rfl,SD,ownD,f6⟩
       have X6:=X5.fr0 f6
       have C6:=C5.fr0 f6
       have w06:=(W5.fr f6 fun h=>h).at' 0 _ rfl
       have v06:=(V5.fr f6 fun h=>h).at' 0 _ rfl
       have x06:=X6.B.at' 0 _ rfl
       have b06:=C6.B.at' 0 _ rfl
       have hDk:∀ y,blk D y→k4 y=none∧y<h6.size∧y≠xb:=fun y hy=>by
         have h1':=ownD y hy
         refine ⟨?_,SD.blk_lt hy,fun e=>by have:=X5.B.lt; omega⟩
         cases hc:k4 y with
         | none=>rfl
         | some t=>have:=C5.low y t hc; omega
       simp -implicitDefEqProofs (disch:=omega) [go_sem,r1,r22,r23,r24]
       refine drawK [(0,1),(1,0),(2,0),(3,1),(4,0),(5,0),(6,1),(7,1),(8,3)] ?_
       simp -implicitDefEqProofs (disch:=omega) [go_sem,r1,r22,r23,r24,w06,v06,x06,b06]
       refine useC (bdrop_m (show BaseM h6 bb5 p5 s4 from C6.M) S4.I (id:=(id:Int)) (by omega) (by omega)) ?_
       rintro _ h7 (⟨m,e',hm,he',hg',hrs,rfl,M7,st7⟩ | ⟨rfl,f7,_⟩)
       · obtain rfl:=Int.ofNat_inj.1 hm
         rw [he] at he'; cases he'
         obtain ⟨k7,C7,ks7⟩:=C6.base M7 st7 rfl
         have X7:=X6.next ⟨_,_,_,_,_,_,_,_,_,_,_,C7⟩ ks7
         simp -implicitDefEqProofs (disch:=omega) [go_sem,r1,r22,r23,r24]
         have hz56:=f6.size
         have hz45:=f5.size
         have hz67:=ks7.fr.size
         have W7:=ks7.lb (W5.fr f6 fun h=>h) hk41
         have V7:=ks7.lb (V5.fr f6 fun h=>h) hk5
         have w07:=W7.at' 0 _ rfl
         have x07:=X7.B.at' 0 _ rfl
         have b37:=C7.B.at' 3 _ rfl
         have RD7:=ks7.row SD.row fun y hy=>(hDk y hy).1
         have hDk7:∀ y,blk D y→k7 y=none∧y<h7.size:=fun y hy=>⟨ks7.free (hDk y hy).1 (hDk y hy).2.1,Nat.lt_of_lt_of_le (hDk y hy).2.1 hz67⟩
         refine drawC [(0,2),(1,0),(2,0),(3,2),(4,2),(5,0),(6,0),(7,2),(8,0),(9,0),(10,2),(11,0),(12,0),(13,3),(14,3),(15,0),(16,0),(17,4)] (fun h'=>hcell h' ⟨h.size,0,none⟩=some (.pointer (some ⟨xb,0,none⟩))∧hcell h' ⟨xb,0,none⟩=some (.pointer (some ⟨cb,0,none⟩))∧hcell h' ⟨cb,3,none⟩=some (.slice GA5 lg4.length gc5)) ⟨w07,x07,b37⟩ ?_
         simp -implicitDefEqProofs (disch:=omega) [go_sem,r1,r22,r23,r24]
         refine float2 (.pointer (some ⟨xb,0,none⟩)) (fun h' hC=>by simp -implicitDefEqProofs (disch:=omega) [go_sem,r1,hC.1]) ?_
         simp -implicitDefEqProofs (disch:=omega) [go_sem,r1,r22,r23,r24]
         refine float2 (.pointer (some ⟨cb,0,none⟩)) (fun h' hC=>by simp -implicitDefEqProofs (disch:=omega) [go_sem,r1,hC.2.1]) ?_
         simp -implicitDefEqProofs (disch:=omega) [go_sem,r1,r22,r23,r24]
         refine float2 (.pointer (some ⟨xb,0,none⟩)) (fun h' hC=>by simp -implicitDefEqProofs (disch:=omega) [go_sem,r1,hC.1]) ?_
         simp -implicitDefEqProofs (disch:=omega) [go_sem,r1,r22,r23,r24]
         refine float2 (.pointer (some ⟨cb,0,none⟩)) (fun h' hC=>by simp -implicitDefEqProofs (disch:=omega) [go_sem,r1,hC.2.1]) ?_
         simp -implicitDefEqProofs (disch:=omega) [go_sem,r1,r22,r23,r24]
         refine float2 (.slice GA5 lg4.length gc5) (fun h' hC=>by simp -implicitDefEqProofs (disch:=omega) [go_sem,r1,hC.2.2]) ?_
         simp -implicitDefEqProofs (disch:=omega) [go_sem,r1,r22,r23,r24]
         refine build2r ?_
         have f8:Fr (fun _=>False) h7 (h7.push (.cells #[.slice D e.lits.length dc,.bool true] 74)):=(Fr.refl _ _).push
         refine ⟨⟨(f8.cell (hcell_lt w07) fun h=>h).trans w07,(f8.cell (hcell_lt x07) fun h=>h).trans x07,(f8.cell (hcell_lt b37) fun h=>h).trans b37⟩,?_⟩
         simp -implicitDefEqProofs (disch:=omega) [go_sem,r1,r22,r23,r24]
         have C8:=C7.fr0 f8
         have X8:=X7.fr0 f8
         have W8:=W7.fr f8 fun h=>h
         have V8:=V7.fr f8 fun h=>h
         refine appendN (sz:=2) (vs:=vs5) (ws:=[.slice D e.lits.length dc,.bool true]) C8.G (by rw [C8.R.len]) (SlAt.new (vs:=[.slice D e.lits.length dc,.bool true])).row rfl (by omega) (by simp [Value.oneCell']) (by omega) (by omega) ?_
         intro GA9 gc9 h9 S9 f9 hGA9
         have hz8:=f8.size
         have hk71:k7 h.size=none:=ks7.free hk41 (Nat.lt_of_lt_of_le W5.lt hz56)
         have hk75:k7 h4.size=none:=ks7.free hk5 (Nat.lt_of_lt_of_le V5.lt hz56)
         have nW:¬ blk GA5 h.size:=fun h=>by have:=C8.kG _ h; rw [hk71] at this; cases this
         have nX:¬ blk GA5 xb:=fun h=>by have:=C8.kG _ h; rw [X8.kx] at this; cases this
         have nC:¬ blk GA5 cb:=fun h=>by have:=C8.kG _ h; rw [C8.kC] at this; cases this
         have w09:=(W8.fr f9 nW).at' 0 _ rfl
         have x09:=(X8.B.fr f9 nX).at' 0 _ rfl
         have b39:=(C8.B.fr f9 nC).at' 3 _ rfl
         have fz9:=(C8.B.fr f9 nC).fz
         refine ⟨⟨w09,x09,b39⟩,?_⟩
         simp -implicitDefEqProofs (disch:=omega) [go_sem,r1,r22,r23,r24,fz9,b39]
         obtain ⟨k10,C10,ext10,own10,fr10⟩:=C8.log f9 S9 hGA9 (RD7.fr0 f8) fun y hy=>⟨(hDk7 y hy).1,Nat.lt_of_lt_of_le (hDk7 y hy).2 hz8⟩
         have st10:KSt k4 k10 h4 _:=(((KSt.fr0 f5).trans (KSt.fr0 f6)).trans (ks7.trans (KSt.fr0 f8))).trans3 ext10 own10 (fun y hy=>Nat.le_trans hz45 (ownD y hy)) fr10
         have X10:=X4.next ⟨_,_,_,_,_,_,_,_,_,_,_,C10⟩ st10
         have W10:=st10.lb V4 hk41
         have V10:ListB _ h4.size [.int .i64 (id:Int)]:=V8.fr fr10 fun h=>h hk75
         obtain ⟨h10,e10⟩:∃ h10,h10=hset h9 ⟨cb,3,none⟩ (.slice GA9 (lg4.length+1) gc9):=⟨_,rfl⟩
         have e10':hset h9 ⟨cb,3,none⟩ (.slice GA9 (lg4.length+1) gc9)=h10:=e10.symm
         simp only [] at C10 X10 st10 W10 V10
         rw [e10'] at C10 X10 st10 W10 V10
         rw [e10']
         have hidn:id∈ln4:=hin4 id hid ⟨e,he,hg⟩
         have hk101:k10 h.size=none:=st10.free hk41 V4.lt
         have hlt10:h4.size<h10.size:=V10.lt
         have w010:=W10.at' 0 _ rfl
         have x010:=X10.B.at' 0 _ rfl
         have b210:=C10.B.at' 2 _ rfl
         refine drawC [(0,2),(1,0),(2,0),(3,2),(4,1),(5,0),(6,0),(7,1),(8,0),(9,0),(10,1),(11,0),(12,3),(13,0),(14,0),(15,4)] (fun h'=>hcell h' ⟨h.size,0,none⟩=some (.pointer (some ⟨xb,0,none⟩))∧hcell h' ⟨xb,0,none⟩=some (.pointer (some ⟨cb,0,none⟩))) ⟨w010,x010⟩ ?_
         simp -implicitDefEqProofs (disch:=omega) [go_sem,r1,r22,r23,r24]
         refine float2 (.pointer (some ⟨xb,0,none⟩)) (fun h' hC=>by simp -implicitDefEqProofs (disch:=omega) [go_sem,r1,hC.1]) ?_
         simp -implicitDefEqProofs (disch:=omega) [go_sem,r1,r22,r23,r24]
         refine float2 (.pointer (some ⟨cb,0,none⟩)) (fun h' hC=>by simp -implicitDefEqProofs (disch:=omega) [go_sem,r1,hC.2]) ?_
         simp -implicitDefEqProofs (disch:=omega) [go_sem,r1,r22,r23,r24,w010,x010,b210]
         have nL1:¬ blk LA5 h4.size:=fun h=>by have:=C8.kL _ h; rw [hk75] at this; cases this
         have nL2:¬ blk LA5 h.size:=fun h=>by have:=C8.kL _ h; rw [hk71] at this; cases this
         have nL3:¬ blk LA5 xb:=fun h=>by have:=C8.kL _ h; rw [X8.kx] at this; cases this
         have nL4:¬ blk LA5 cb:=fun h=>by have:=C8.kL _ h; rw [C8.kC] at this; cases this
         have SL10:=C10.L
         rw [ids_ints] at SL10
         refine useC (delete_ok (cs:=[.pointer (some ⟨h4.size,0,none⟩)]) SL10 (by rw [List.length_map]) (by have:=S4; omega) (fun y=>decide (y=(id:Int))) fun h' f y _=>redF2_ok ((V10.fr f nL1).at' 0 _ rfl)) ?_
         rintro _ h11 ⟨rfl,S11,f11⟩
         have efl:((ln4.map fun (i:Nat)=>(i:Int)).filter fun x=>!decide (x=(id:Int)))=(ln4.filter fun k=>!decide (k=id)).map fun (i:Nat)=>(i:Int):=by
           rw [List.filter_map]
           congr 1
           refine List.filter_congr fun k _=>?_
           show (!decide ((k:Int)=(id:Int)))=_
           rw [show decide ((k:Int)=(id:Int))=decide (k=id) from decide_eq_decide.2 Int.ofNat_inj]
         obtain ⟨lnN,hlnN⟩:∃ lnN,lnN=ln4.filter fun k=>!decide (k=id):=⟨_,rfl⟩
         rw [efl,← hlnN,← ids_ints] at S11
         rw [efl,← hlnN,List.length_map]
         have hlnl:lnN.length+1≤ln4.length:=by
           rw [hlnN]
           exact List.length_filter_lt_length_iff_exists.2 ⟨id,hidn,by simp⟩
         obtain ⟨k12,C12,ks12⟩:=C10.lrn f11 S11 fun y hy=>.inl hy
         have X12:=X10.next ⟨_,_,_,_,_,_,_,_,_,_,_,C12⟩ ks12
         have w011:=(W10.fr f11 nL2).at' 0 _ rfl
         have x011:=(X10.B.fr f11 nL3).at' 0 _ rfl
         have b211:=(C10.B.fr f11 nL4).at' 2 _ rfl
         have fz11:=(C10.B.fr f11 nL4).fz
         refine ⟨⟨w011,x011⟩,?_⟩
         simp -implicitDefEqProofs (disch:=omega) [go_sem,r1,r22,r23,r24,fz11,b211]
         have SD4:=S4.drop he hidn hrs
         rw [← hlnN] at SD4
         refine ⟨⟨r1,r22,r23,i+1,k12,_,lnN,_,rfl,by omega,X12,(sx4.trans st10.x).trans ks12.x,SD4,L4.trans (LessS.drop he),?_,fun k hk ⟨e',he',hg'⟩=>?_⟩,by omega⟩
         · exact ⟨by rw [List.length_append,List.length_singleton]; omega,hz4.2.trans (List.prefix_append _ _)⟩
         · have he'':(setG s4.cs id)[k]?=some e':=he'
           rw [setG_at he] at he''
           split at he''
           · cases he''; cases hg'
           · rename_i hne
             rw [hlnN,List.mem_filter]
             exact ⟨hin4 k hk ⟨e',he'',hg'⟩,by simpa using hne⟩
       · simp -implicitDefEqProofs (disch:=omega) [go_sem,r1,r22,r23,r24]
         exact ⟨⟨r1,r22,r23,i+1,k4,s4,ln4,lg4,rfl,by omega,X6.fr0 f7,((sx4.trans (KSt.fr0 f5).x).trans (KSt.fr0 f6).x).trans (KSt.fr0 f7).x,S4,L4,hz4,hin4⟩,by omega⟩
   · simp -implicitDefEqProofs (disch:=omega) [go_sem,r1,r22,r23,r24]
     have sx:KSx xb k k4 h h4:=((KSt.fr0 f1).x.trans (KSt.fr0 f13).x).trans sx4
     exact ⟨k4,s4,ln4,lg4,X4,sx,S4,L4,hz4⟩
end
section
variable {h h':Heap} {xb cb:Nat} {k k':Nat→Option CT} {c c':CSt} {sc:Scr} {a:ScrA} {AA:Option Addr} {ac:Nat} {am:List Int} {q:Cnt} {K:List (List Int)}
structure CntOk (sc:Scr) (st:Nat) (q:Cnt):Prop where
 r1:q.r1≤sc.res.length
 d1:q.d1≤sc.red.length
 r2:q.r2≤st
 d2:q.d2≤st
 cf:q.cf≤st
 pk:q.pk≤st
structure ScrS (sc:Scr):Prop where
 p:sc.picks.length≤1000
 g:sc.signs.length≤1000
 r:sc.res.length≤1000
 d:sc.red.length≤1000
 s0:0≤sc.steps
 s1:sc.steps≤1099511627776
def RstR (xb cb:Nat) (k:Nat→Option CT) (c:CSt) (sc:Scr) (a:ScrA) (AA:Option Addr) (ac:Nat) (am:List Int) (q:Cnt) (K:List (List Int)) (r:Value) (h h':Heap):Prop :=
 ∃ again k' c' q',r=.bool again∧SrM h' xb cb k' c' sc a AA ac am q'∧KSx xb k k' h h'∧SInv K c'.s c'.ln c'.lg∧HFull c'∧c'.st=c.st∧(c'.lg.length+c'.ln.length≤c.lg.length+c.ln.length∧c.lg <+: c'.lg)∧CntOk sc c.st q' ∧
   ((again=true∧q.r1<sc.res.length∧q'.r1=q.r1+1∧LessS (backC' c.s 0) c'.s)∨(again=false∧q'.r1=q.r1∧LessS c.s c'.s))
theorem HFull.less {s':WS} {ln':List Nat} {lg':List (List Int × Bool)} (H:HFull c) (L:LessS c.s s'):HFull { c with s:=s',ln:=ln',lg:=lg' }:=fun v h1 h2 h0=>by
 have h2':v≤s'.vars:=h2
 have h0':trI s'.l (v:Int)=0:=h0
 rw [L.vars] at h2'
 rw [L.l] at h0'
 exact H v h1 h2' h0'
theorem rest_ok (X:SrM h xb cb k c sc a AA ac am q) (S:SInv K c.s c.ln c.lg) (HF:HFull c) (hz:c.lg.length+c.ln.length+1<2^40) (Q:CntOk sc c.st q) (Z:ScrS sc) (hst:c.st≤1099511627776) :
   CallsH Tryz.prog 138 [.pointer (some ⟨xb,0,none⟩)] h fun r h'=>RstR xb cb k c sc a AA ac am q K r h h':=by
 obtain ⟨qr1,qd1,qr2,qd2,qcf,qpk⟩:=Q
 obtain ⟨zp,zg,zr,zd,_,_⟩:=Z
 refine calls_of 49 [.tmp 2] Go.Proofs.Tryz.func138 rfl rfl rfl ?_
 have x3:=X.B.at' 3 _ rfl
 have x7:=X.B.at' 7 _ rfl
 simp -implicitDefEqProofs (disch:=omega) [go_sem]
 refine drawK [(0,0),(1,0),(2,0),(3,1),(4,0),(5,0),(6,0),(7,0),(8,1),(9,3),(10,0)] ?_
 simp -implicitDefEqProofs (disch:=omega) [go_sem,x3,x7]
 refine useC (count_due_ok X.S.R rfl (by omega) (a:=(q.r1:Int)) (b:=(q.r2:Int)) (by omega) (by omega) (by omega) (by omega)) ?_
 rintro _ h1 ⟨rfl,rfl⟩
 cases hd:dueP sc.res q.r1 q.r2 with
 | true =>
   have hlt:=dueP_lt hd
   have fz:=X.B.fz
   simp -implicitDefEqProofs (disch:=omega) [go_sem,x7]
   refine useC (count_next_ok (a:=(q.r1:Int)) (b:=(q.r2:Int)) (by omega) (by omega)) ?_
   rintro _ h2 ⟨rfl,rfl⟩
   have Y:=X.cell (i:=7) (v:=.complex .f64 (Fx.enc ((q.r1:Int)+1)) (Fx.enc 0)) (q':={ q with r1:=q.r1+1,r2:=0 }) (by omega) (by unfold srV; simp)
   obtain ⟨h3,e3⟩:∃ h3,h3=hset h2 ⟨xb,7,none⟩ (.complex .f64 (Fx.enc ((q.r1:Int)+1)) (Fx.enc 0)):=⟨_,rfl⟩
   have sx3:KSx xb k k h2 h3:=by rw [e3]; exact KSx.set KSx.refl
   rw [← e3] at Y
   have y0:=Y.B.at' 0 _ rfl
   simp -implicitDefEqProofs (disch:=omega) [go_sem,x7,fz,← e3,y0]
   rw [← e3]
   refine useC (cback_ok Y.C S.I (lv:=0) (by omega) (by omega)) ?_
   rintro _ h4 ⟨k4,S4',C4,st4,hF4⟩
   have X1:=Y.next C4 st4
   have HF1:=hF4 HF
   have S1:SInv K (backC' c.s 0) c.ln c.lg:=by
     unfold backC'
     split
     · exact S.back (Nat.zero_le _)
     · exact S
   have sx1:=sx3.trans st4.x
   simp -implicitDefEqProofs (disch:=omega) [go_sem]
   have x41:=X1.B.at' 4 _ rfl
   have x81:=X1.B.at' 8 _ rfl
   have fz1:=X1.B.fz
   refine drawK [(0,0),(1,0),(2,0),(3,1),(4,0),(5,0),(6,0),(7,0),(8,1),(9,3)] ?_
   simp -implicitDefEqProofs (disch:=omega) [go_sem,x41,x81]
   refine useC (count_due_ok X1.S.D rfl (by omega) (a:=(q.d1:Int)) (b:=(q.d2:Int)) (by omega) (by omega) (by omega) (by omega)) ?_
   rintro _ h5 ⟨rfl,rfl⟩
   cases hd2:dueP sc.red q.d1 q.d2 with
   | true =>
     have hlt2:=dueP_lt hd2
     simp -implicitDefEqProofs (disch:=omega) [go_sem,x81]
     refine useC (count_next_ok (a:=(q.d1:Int)) (b:=(q.d2:Int)) (by omega) (by omega)) ?_
     rintro _ h6 ⟨rfl,rfl⟩
     have Y6:=X1.cell (i:=8) (v:=.complex .f64 (Fx.enc ((q.d1:Int)+1)) (Fx.enc 0)) (q':={ ({ q with r1:=q.r1+1,r2:=0 }:Cnt) with d1:=q.d1+1,d2:=0 }) (by omega) (by unfold srV; simp)
     obtain ⟨h7,e7⟩:∃ h7,h7=hset h6 ⟨xb,8,none⟩ (.complex .f64 (Fx.enc ((q.d1:Int)+1)) (Fx.enc 0)):=⟨_,rfl⟩
     have sx7:=sx1.set (i:=8) (v:=.complex .f64 (Fx.enc ((q.d1:Int)+1)) (Fx.enc 0))
     rw [← e7] at sx7
     rw [← e7] at Y6
     simp -implicitDefEqProofs (disch:=omega) [go_sem,x81,fz1]
     rw [← e7]
     refine useC (reduce_ok Y6 S1 hz) ?_
     rintro _ h8 ⟨k8,s8,ln8,lg8,X8,sx8,S8,L8,hz8⟩
     simp -implicitDefEqProofs (disch:=omega) [go_sem]
     exact ⟨true,k8,_,_,rfl,X8,sx7.trans sx8,S8,HF1.less L8,rfl,hz8,⟨by show q.r1+1≤_; omega,by show q.d1+1≤_; omega,Nat.zero_le _,Nat.zero_le _,qcf,qpk⟩,.inl ⟨rfl,by omega,rfl,L8⟩⟩
   | false =>
     simp -implicitDefEqProofs (disch:=omega) [go_sem]
     exact ⟨true,_,_,_,rfl,X1,sx1,S1,HF1,rfl,⟨Nat.le_refl _,List.prefix_refl _⟩,⟨by show q.r1+1≤_; omega,qd1,Nat.zero_le _,qd2,qcf,qpk⟩,.inl ⟨rfl,by omega,rfl,LessS.refl _⟩⟩
 | false =>
   have X1:=X
   have S1:=S
   have HF1:=HF
   simp -implicitDefEqProofs (disch:=omega) [go_sem]
   have x41:=X1.B.at' 4 _ rfl
   have x81:=X1.B.at' 8 _ rfl
   have fz1:=X1.B.fz
   refine drawK [(0,0),(1,0),(2,0),(3,1),(4,0),(5,0),(6,0),(7,0),(8,1),(9,3)] ?_
   simp -implicitDefEqProofs (disch:=omega) [go_sem,x41,x81]
   refine useC (count_due_ok X1.S.D rfl (by omega) (a:=(q.d1:Int)) (b:=(q.d2:Int)) (by omega) (by omega) (by omega) (by omega)) ?_
   rintro _ h5 ⟨rfl,rfl⟩
   cases hd2:dueP sc.red q.d1 q.d2 with
   | true =>
     have hlt2:=dueP_lt hd2
     simp -implicitDefEqProofs (disch:=omega) [go_sem,x81]
     refine useC (count_next_ok (a:=(q.d1:Int)) (b:=(q.d2:Int)) (by omega) (by omega)) ?_
     rintro _ h6 ⟨rfl,rfl⟩
     have Y6:=X1.cell (i:=8) (v:=.complex .f64 (Fx.enc ((q.d1:Int)+1)) (Fx.enc 0)) (q':={ q with d1:=q.d1+1,d2:=0 }) (by omega) (by unfold srV; simp)
     obtain ⟨h7,e7⟩:∃ h7,h7=hset h6 ⟨xb,8,none⟩ (.complex .f64 (Fx.enc ((q.d1:Int)+1)) (Fx.enc 0)):=⟨_,rfl⟩
     have sx7:=(KSx.refl (xb:=xb) (k:=k) (h:=h6)).set (i:=8) (v:=.complex .f64 (Fx.enc ((q.d1:Int)+1)) (Fx.enc 0))
     rw [← e7] at sx7
     rw [← e7] at Y6
     simp -implicitDefEqProofs (disch:=omega) [go_sem,x81,fz1]
     rw [← e7]
     refine useC (reduce_ok Y6 S1 hz) ?_
     rintro _ h8 ⟨k8,s8,ln8,lg8,X8,sx8,S8,L8,hz8⟩
     simp -implicitDefEqProofs (disch:=omega) [go_sem]
     exact ⟨false,k8,_,_,rfl,X8,sx7.trans sx8,S8,HF1.less L8,rfl,hz8,⟨qr1,by show q.d1+1≤_; omega,qr2,Nat.zero_le _,qcf,qpk⟩,.inr ⟨rfl,rfl,L8⟩⟩
   | false =>
     simp -implicitDefEqProofs (disch:=omega) [go_sem]
     exact ⟨false,_,_,_,rfl,X1,KSx.refl,S1,HF1,rfl,⟨Nat.le_refl _,List.prefix_refl _⟩,⟨qr1,qd1,qr2,qd2,qcf,qpk⟩,.inr ⟨rfl,rfl,LessS.refl _⟩⟩
end
def bsOf (vars:Nat) (l:List St):List Bool:=(List.range vars).map fun i=>decide (0<trI l ((i+1:Nat):Int))
theorem bsOf_len (vars:Nat) (l:List St):(bsOf vars l).length=vars:=by unfold bsOf; rw [List.length_map,List.length_range]
theorem truthsV_bs (vars:Nat) (l:List St):truthsV vars l=bools (bsOf vars l):=by unfold truthsV bools bsOf; rw [List.map_map]; rfl
theorem tr_neg {vars:Nat} {l:List St} (G:Good vars l) {x:Int}:trI l (-x)=-trI l x:=by
 by_cases h1:x∈lits l
 · have h2:-x∉lits l:=fun h=>good_cons G h1 h
   rw [tr_one.2 h1,tr_m1.2 ⟨h2,by rwa [Int.neg_neg]⟩]
 · by_cases h2:-x∈lits l
   · rw [tr_one.2 h2,tr_m1.2 ⟨h1,h2⟩]; rfl
   · rw [tr_zero.2 ⟨h1,h2⟩,tr_neg0.2 (tr_zero.2 ⟨h1,h2⟩)]; rfl
theorem full_tr {vars:Nat} {l:List St} (G:Good vars l) (hl:¬ l.length<vars) {x:Int} (h1:1≤x.natAbs) (h2:x.natAbs≤vars):trI l x≠0:=fun h0=>by
 have hg:=G.push (s:=⟨x,0,0⟩) (find_of_zero h0) h1 h2
 have:=hg.len
 rw [List.length_append] at this
 simp at this
 omega
theorem MB_tr {vars:Nat} {l:List St} (G:Good vars l) (hl:¬ l.length<vars) {x:Int} (h1:1≤x.natAbs) (h2:x.natAbs≤vars):MB (bsOf vars l) x↔trI l x=1:=by
 have hne:=full_tr G hl h1 h2
 have e:(bsOf vars l)[x.natAbs-1]?=some (decide (0<trI l (x.natAbs:Int))):=by
   unfold bsOf
   rw [List.getElem?_map,List.getElem?_range (by omega)]
   simp only [Option.map_some,Option.some.injEq]
   rw [show x.natAbs-1+1=x.natAbs by omega]
 unfold MB
 rw [if_pos ⟨h1,by rw [bsOf_len]; exact h2⟩]
 unfold truB
 rw [if_neg (by omega),e]
 simp only
 rcases Int.le_total 0 x with hx | hx
 · have ex:(x.natAbs:Int)=x:=by omega
   rw [ex]
   have:decide (0<x)=true:=decide_eq_true (by omega)
   rw [this]
   rcases trI_cases l x with h | h | h
   · rw [h]; simp
   · rw [h]; simp
   · exact absurd h hne
 · have ex:(x.natAbs:Int)=-x:=by omega
   rw [ex,tr_neg G]
   have:decide (0<x)=false:=decide_eq_false (by omega)
   rw [this]
   rcases trI_cases l x with h | h | h
   · rw [h]; simp
   · rw [h]; simp
   · exact absurd h hne
theorem HFull.adv {c:CSt} {s':WS} (H:HFull c) (ad:Adv c.s s'):HFull { c with s:=s' }:=fun v h1 h2 h0=>by
 have h2':v≤s'.vars:=h2
 have h0':trI s'.l (v:Int)=0:=h0
 rw [ad.vars] at h2'
 refine H v h1 h2' ?_
 obtain ⟨ext,he⟩:=US.pre ad.us
 rw [tr_zero,he] at h0'
 unfold lits at h0'
 rw [List.map_append] at h0'
 simp only [List.mem_append,not_or] at h0'
 exact tr_zero.2 ⟨h0'.1.1,h0'.2.1⟩
def potOk (vars R:Nat) (c:CSt) (q:Cnt) (b m:Nat):Prop:=(vars+1)*b+(R-q.r1)*((vars+1)*2^vars)≤m+c.s.level
structure RunS (h0:Heap) (xb cb:Nat) (k0:Nat→Option CT) (sc:Scr) (a:ScrA) (AA:Option Addr) (ac:Nat) (am:List Int) (K:List (List Int)) (vars T N1:Nat) (N2:Nat × List (List Int × Bool)) (m:Nat) (h:Heap) (k:Nat→Option CT) (c:CSt) (q:Cnt) (b:Nat):Prop where
 X:SrM h xb cb k c sc a AA ac am q
 sx:KSx xb k0 k h0 h
 S:SInv K c.s c.ln c.lg
 HF:HFull c
 Q:CntOk sc c.st q
 hv:c.s.vars=vars
 st:(c.st:Int)≤sc.steps
 A:AsI c.s am
 B:Bud c.s b
 P:potOk vars sc.res.length c q b m
 T:c.st+m≤T
 n1:c.s.cs.length+m≤N1
 n2:c.lg.length+c.ln.length+2*m≤N2.1∧N2.2 <+: c.lg
structure RunJ (h0:Heap) (xb cb:Nat) (k0:Nat→Option CT) (sc:Scr) (a:ScrA) (AA:Option Addr) (ac:Nat) (am:List Int) (K:List (List Int)) (vars T N1:Nat) (N2:Nat × List (List Int × Bool)) (m:Nat) (ρ:Env) (h:Heap):Prop where
 r0:ρ 0=.pointer (some ⟨xb,0,none⟩)
 ex:∃ k c q b,RunS h0 xb cb k0 sc a AA ac am K vars T N1 N2 m h k c q b
inductive EndR (am:List Int) (K:List (List Int)) (lg:List (List Int × Bool)) (vars T:Nat) (sc:Scr) (st:Nat) (N:Nat) (k:Nat→Option CT) (h:Heap):Value→Prop
 | model {M:Option Addr} {mc:Nat} {bs:List Bool}:bs.length=vars→RowAt h M (bools bs)→(∀ y,blk M y→N≤y∧k y=Option.none)→(∀ c∈K,SatM (MB bs) c)→(∀ x∈am,MB bs x)→EndR am K lg vars T sc st N k h (.tuple #[.int .i64 0,.slice M vars mc,.slice none 0 0])
 | none {A:Option Addr} {ad:Nat} {cl:List Int}:SlAt h A ad (ints cl)→(∀ y,blk A y→N≤y∧k y=Option.none)→(∀ x∈cl,x∈am)→cl.Pairwise lexLt→cl.length≤vars+1→(∀ M,Mdl M→(∀ c∈K,SatM M c)→(∀ x∈cl,M x)→False)→Rup (·∈repS K lg) (negs cl)→EndR am K lg vars T sc st N k h (.tuple #[.int .i64 1,.slice none 0 0,.slice A cl.length ad])
 | steps:(st:Int)=sc.steps→st<T→EndR am K lg vars T sc st N k h (.tuple #[.int .i64 2,.slice none 0 0,.slice none 0 0])
def RunR (h0:Heap) (xb cb:Nat) (k0:Nat→Option CT) (sc:Scr) (a:ScrA) (AA:Option Addr) (ac:Nat) (am:List Int) (K:List (List Int)) (vars T N1:Nat) (N2:Nat × List (List Int × Bool)) (r:Value) (h:Heap):Prop :=
 ∃ k c q,SrM h xb cb k c sc a AA ac am q∧KSx xb k0 k h0 h∧SInv K c.s c.ln c.lg∧HFull c∧c.s.vars=vars∧((c.st:Int)≤sc.steps∧c.st≤T)∧c.s.cs.length≤N1∧(c.lg.length+c.ln.length≤N2.1∧N2.2 <+: c.lg)∧EndR am K c.lg vars T sc c.st h0.size k h r
section
variable {h0 h:Heap} {xb cb:Nat} {k0 k:Nat→Option CT} {sc:Scr} {a:ScrA} {AA:Option Addr} {ac:Nat} {am:List Int} {K:List (List Int)} {vars T N1:Nat} {N2:Nat × List (List Int × Bool)} {m:Nat} {c:CSt} {q:Cnt} {b:Nat}
theorem RunS.pos (R:RunS h0 xb cb k0 sc a AA ac am K vars T N1 N2 m h k c q b):1≤m:=by
 have h1:=Bud.level R.S.I
 have h2:=R.B.pos
 have h3:=R.P
 unfold potOk at h3
 rw [R.hv] at h1
 have h4:vars+1≤(vars+1)*b:=Nat.le_mul_of_pos_right _ (by omega)
 have:=Nat.zero_le ((sc.res.length-q.r1)*((vars+1)*2^vars))
 omega
theorem potOk.dec (hP:potOk vars sc.res.length c q b m) (hm:1≤m) {c':CSt} {q':Cnt} (hl:c'.s.level=c.s.level+1) (hq:q'.r1=q.r1):potOk vars sc.res.length c' q' b (m-1):=by
 unfold potOk at *
 rw [hl,hq]; omega
theorem potOk.conf (hP:potOk vars sc.res.length c q b m) (hb:1≤b) (hl:c.s.level≤vars) (hm:1≤m) {c':CSt} {q':Cnt} (hq:q'.r1=q.r1):potOk vars sc.res.length c' q' (b-1) (m-1):=by
 unfold potOk at *
 rw [hq]
 have:(vars+1)*b=(vars+1)*(b-1)+(vars+1):=by
  obtain ⟨d,rfl⟩:∃ d,b=d+1:=⟨b-1,by omega⟩
  rw [Nat.add_sub_cancel,Nat.mul_succ]
 omega
theorem potOk.again (hP:potOk vars sc.res.length c q b m) (hb:1≤b) (hl:c.s.level≤vars) (hq0:q.r1<sc.res.length) {c':CSt} {q':Cnt} (hq:q'.r1=q.r1+1):potOk vars sc.res.length c' q' (2^vars) (m-1):=by
 unfold potOk at *
 rw [hq]
 have h1:vars+1≤(vars+1)*b:=Nat.le_mul_of_pos_right _ (by omega)
 have h2:(sc.res.length-q.r1)*((vars+1)*2^vars)=(sc.res.length-(q.r1+1))*((vars+1)*2^vars)+(vars+1)*2^vars:=by
  obtain ⟨d,hd⟩:∃ d,sc.res.length-q.r1=d+1:=⟨sc.res.length-q.r1-1,by omega⟩
  rw [hd,show sc.res.length-(q.r1+1)=d by omega,Nat.succ_mul]
 omega
end
end Xe
