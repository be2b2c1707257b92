/- Package lazy: agrees. -/
import Derived.Test.YtkghjecglmmloaaGreatA14
namespace Xe
open Go Tp Go.Proofs Hq
set_option maxRecDepth 16000
set_option maxHeartbeats 4000000
def AgrR (zs:List Nat) (bs:List Bool) (r:Value) (h h':Heap):Prop:=Fr (fun _=>False) h h' ∧
 ((∃ (ch:List Int) (B:Option Addr) (bc:Nat),r=.tuple #[.slice B ch.length bc,.slice none 0 0]∧SlAt h' B bc (ints ch)∧(∀ y,blk B y→h.size≤y)∧ValC zs ch∧tru zs ch=bs) ∨
   ∃ (K:List Int) (B:Option Addr) (bc:Nat),r=.tuple #[.slice none 0 0,.slice B K.length bc]∧SlAt h' B bc (ints K)∧(∀ y,blk B y→h.size≤y)∧ThyK zs K∧Rise K∧∀ x∈K,-x∈mlits bs bs.length)
structure AgJ (h0:Heap) (N sb tb:Nat) (zs:List Nat) (A:Option Addr) (ac:Nat) (bs:List Bool) (ρ:Env) (h:Heap):Prop where
 r6:ρ 6=.pointer (some ⟨sb,0,none⟩)
 r17:ρ 17=.slice A bs.length ac
 r18:ρ 18=.int .i64 bs.length
 fr:Fr (fun y=>N≤y) h0 h
 ex:∃ i:Nat,ρ 19=.int .i64 i∧i≤bs.length∧SolM h N sb tb (mlits bs i)∧∀ (p:Nat) z,zs[p]?=some z→alw zs z (ofP zs p (mlits bs i))≠[]
theorem mlits_le {bs:List Bool} {i j:Nat} (h:i≤j) {x:Int} (hx:x∈mlits bs i):x∈mlits bs j:=by
 obtain ⟨k,h1,h2⟩:=mem_mlits.1 hx
 exact mem_mlits.2 ⟨k,by omega,h2⟩
section
variable {h:Heap} {O X:Nat→Prop} {gb:Nat} {zs:List Nat} {c:CSt} {pf:List (Int × List Int)} {seen:Nat} {st tn:Int}
theorem eagrees_ok (E0:EngM h O X gb zs c pf seen st tn) (F:Few zs) {A:Option Addr} {n ac:Nat} {bs:List Bool} (RA:RowAt h A (bools bs)) (hn:n=bs.length) (hb:bs.length=wsum zs) :
   CallsH Tryz.prog 100 [.pointer (some ⟨gb,0,none⟩),.slice A n ac] h fun r h'=>AgrR zs bs r h h':=by
 subst hn
 have hsum:=F.sum
 obtain ⟨tb,cb,k,P,pc,vs,E⟩:=E0.ex
 have b0:=E.B.at' 0 _ rfl
 refine calls_of 42 [.tmp 4,.tmp 5] Go.Proofs.Tryz.func100 rfl rfl rfl ?_
 simp -implicitDefEqProofs (disch:=omega) [go_sem,b0]
 refine useC onew_ok ?_
 rintro _ h1 ⟨f1,sb,rfl,Z1⟩
 simp -implicitDefEqProofs (disch:=omega) [go_sem]
 refine loopK (AgJ h1 h.size sb tb zs A ac bs) (fun ρ _=>bs.length-(intOf (ρ 19)).toNat) (by kernel_rfl) ?_ ?_
 · exact ⟨rfl,rfl,rfl,Fr.refl _ _,0,rfl,Nat.zero_le _,Z1,fun p z _=>alw_nil⟩
 · rintro ρ h2 ⟨r6,r17,r18,f2,i,r19,hi,Z2,hne⟩
   have f02:Fr (fun _=>False) h h2:=f1.trans' f2 fun y hy hn=>by omega
   have T2:TabM h2 (fun y=>y<h.size) tb zs:=(E.T.mono fun y hy=>hy.1).fr0 f02
   by_cases hin:i<bs.length
   · obtain ⟨b,hbi⟩:∃ b,bs[i]?=some b:=⟨_,List.getElem?_eq_getElem hin⟩
     obtain ⟨bk,off,rfl,hc⟩:=(RA.fr0 f02).get (by rw [bools_len]; omega)
     have c0:=hc _ _ (bools_at hbi)
     have hml:mlit bs i=if b then (i:Int)+1 else -((i:Int)+1):=by
      unfold mlit
      rw [List.getD_eq_getElem?_getD,hbi]; rfl
     obtain ⟨x,hx⟩:∃ x,x=mlit bs i:=⟨_,rfl⟩
     have hxa:x.natAbs=i+1:=by rw [hx]; exact mlit_abs
     have hno:=mlits_no (bs:=bs) (i:=i)
     rw [← hx] at hml hno
     obtain ⟨z,hz⟩:=at_pack (zs:=zs) (u:=i) (by omega)
     have hxl:litAt zs x=atN zs 0 i:=by unfold litAt; rw [hxa,Nat.add_sub_cancel]
     rw [← hxl] at hz
     have hlr:∀ y∈mlits bs i,1≤y.natAbs∧y.natAbs≤wsum zs:=fun y hy=>by have:=mlits_rng hy; omega
     have ass:=oassert_ok (x:=x) T2 F (N:=h.size) (fun y hy=>hy) Z2 (by omega) hlr (by rw [mlits_len]; omega) hno.1 hno.2 rfl hz
     have key:CallsH Tryz.prog 145 [.pointer (some ⟨sb,0,none⟩),.int .i64 (if b then (i:Int)+1 else -((i:Int)+1))] h2 fun r h'=>AssR h.size sb tb zs (litAt zs x).p z (mlits bs i) x r h2 h':=by rw [← hml]; exact ass
     cases b
     case' false =>
      simp -implicitDefEqProofs (disch:=omega) [go_sem,r6,r17,r18,r19,c0]
     case' true =>
      simp -implicitDefEqProofs (disch:=omega) [go_sem,r6,r17,r18,r19,c0]
     all_goals
      refine useC key ?_
      rintro _ h3 ⟨f3,hor⟩
      rcases hor with ⟨ha,rfl,Z3⟩ | ⟨l',e,h4,rfl,hz4,hO,ha,hsub,hll⟩
      · simp -implicitDefEqProofs (disch:=omega) [go_sem,r6,r17,r18,r19]
        rw [hx,← mlits_succ] at Z3
        refine ⟨⟨r6,r17,r18,f2.trans f3,i+1,rfl,by omega,Z3,fun p' z' hz'=>?_⟩,by omega⟩
        rw [mlits_succ,ofP_app,← hx]
        split
        · rename_i hp
          rw [hp,hz'] at hz
          obtain rfl:=Option.some.inj hz
          rw [hp] at ha
          exact ha
        · exact hne p' z' hz'
      · have hsub2:∀ y∈l',y∈mlits bs (i+1)∧(litAt zs y).p=(litAt zs x).p:=fun y hy=>by
          rcases List.mem_append.1 (hsub y hy) with hh | hh
          · obtain ⟨g1,g2⟩:=List.mem_filter.1 hh
            exact ⟨mlits_le (Nat.le_succ i) g1,of_decide_eq_true g2⟩
          · rw [List.mem_singleton] at hh
            rw [hh]
            exact ⟨by rw [mlits_succ,← hx]; exact List.mem_append_right _ (List.mem_singleton.2 rfl),rfl⟩
        have hrng:∀ y∈l',1≤y.natAbs∧y.natAbs≤wsum zs:=fun y hy=>by have:=mlits_rng (hsub2 y hy).1; omega
        obtain ⟨fO,o,ho,hm⟩:=hO
        cases o with
        | none =>
          exfalso
          obtain ⟨y,hy,_,hy2⟩:=ho
          unfold negs at hy hy2
          obtain ⟨y1,g1,e1⟩:=List.mem_map.1 hy
          obtain ⟨y2,g2,e2⟩:=List.mem_map.1 hy2
          have e3:y2=-y1:=by omega
          rw [e3] at g2
          exact mlits_one (hsub2 y1 g1).1 (hsub2 _ g2).1
        | some K =>
          obtain ⟨Q,qc,rfl,SQ,ownQ⟩:=hm
          have hT:=thy_of hz (o:=none) (by omega) ha (fun y hy=>⟨hrng y hy,(hsub2 y hy).2⟩) ho
          simp -implicitDefEqProofs (disch:=omega) [go_sem,r6,r17,r18,r19]
          have f03:Fr (fun _=>False) h h3:=f02.trans' f3 fun y hy hn=>by omega
          refine ⟨f03,.inr ⟨K,Q,qc,rfl,SQ,fun y hy=>?_,hT,ho.1,fun y hy=>?_⟩⟩
          · have:=ownQ y hy; have:=f02.size; omega
          · have hy':=((ho.2 y).1 hy).1
            unfold negs at hy'
            obtain ⟨a,ha1,rfl⟩:=List.mem_map.1 hy'
            rw [Int.neg_neg]
            exact mlits_le (by omega) (hsub2 a ha1).1
   · obtain rfl:i=bs.length:=by omega
     obtain ⟨v1,v2⟩:=choice_of hb hne
     simp -implicitDefEqProofs (disch:=omega) [go_sem,r6,r17,r18,r19]
     refine useC (osnap_ok T2 F Z2 (fun y hy=>by have:=mlits_rng hy; omega) (by rw [mlits_len]; omega) hne) ?_
     rintro _ h3 ⟨f3,Q,qc,rfl,SQ,ownQ⟩
     simp -implicitDefEqProofs (disch:=omega) [go_sem]
     exact ⟨f02.trans f3,.inl ⟨_,Q,qc,rfl,SQ,fun y hy=>Nat.le_trans f02.size (ownQ y hy),v1,v2⟩⟩
end
end Xe
namespace Xe
open Go Tp Go.Proofs Hq
set_option maxRecDepth 16000
def allB:Nat→List (List Bool)
 | 0=>[[]]
 | n+1=>(allB n).flatMap fun b=>[false::b,true::b]
theorem mem_allB {n:Nat} {bs:List Bool} (h:bs.length=n):bs∈allB n:=by
 induction n generalizing bs with
 | zero=>rw [List.length_eq_zero_iff.1 h]; simp [allB]
 | succ n ih =>
   match bs,h with
   | b::r,h =>
     unfold allB
     rw [List.mem_flatMap]
     refine ⟨r,ih (by simpa using h),?_⟩
     cases b <;> simp
theorem allB_len {n:Nat}:(allB n).length=2^n:=by
 induction n with
 | zero=>rfl
 | succ n ih =>
   unfold allB
   rw [List.length_flatMap]
   have:(List.map (fun b:List Bool=>([false::b,true::b]:List (List Bool)).length) (allB n))=List.replicate (allB n).length 2:=by
    rw [List.eq_replicate_iff]
    exact ⟨by simp,fun x hx=>by obtain ⟨_,_,rfl⟩:=List.mem_map.1 hx; rfl⟩
   rw [this,List.sum_replicate_nat,ih,Nat.pow_succ]
noncomputable def cntM (n:Nat) (K:List (List Int)):Nat:=by
 classical
 exact ((allB n).filter fun bs=>decide (∀ k∈K,SatM (MB bs) k)).length
theorem cntM_le {n:Nat} {K:List (List Int)}:cntM n K≤2^n:=by
 unfold cntM
 rw [← allB_len (n:=n)]
 exact List.length_filter_le _ _
theorem cntM_dec {n:Nat} {K:List (List Int)} {L:List Int} {bs:List Bool} (h:bs.length=n) (hs:∀ k∈K,SatM (MB bs) k) (hf:¬ SatM (MB bs) L):cntM n (K++[L])<cntM n K:=by
 classical
 unfold cntM
 refine filter_lt (fun x hx=>?_) (mem_allB h) (decide_eq_true hs) (decide_eq_false fun hh=>hf (hh L (by simp)))
 have:=of_decide_eq_true hx
 exact decide_eq_true fun k hk=>this k (List.mem_append_left _ hk)
structure KSem (zs:List Nat) (Cs K:List (List Int)):Prop where
 fro:∀ ch,ValC zs ch→(∀ C∈Cs,SatM (MB (tru zs ch)) C)→∀ k∈K,SatM (MB (tru zs ch)) k
 to:∀ M,Mdl M→(∀ k∈K,SatM M k)→∀ C∈Cs,SatM M C
theorem KSem.nil {zs:List Nat}:KSem zs [] []:=⟨fun _ _ _ k hk=>(nomatch hk),fun _ _ _ C hC=>(nomatch hC)⟩
theorem KSem.thy {zs:List Nat} {Cs K:List (List Int)} (H:KSem zs Cs K) {L:List Int} (hT:ThyK zs L):KSem zs Cs (K++[L]) where
 fro ch V hs k hk:=by
  rcases List.mem_append.1 hk with h | h
  · exact H.fro ch V hs k h
  · rw [List.mem_singleton] at h; rw [h]; exact hT.sat V
 to M hM hs:=H.to M hM fun k hk=>hs k (List.mem_append_left _ hk)
theorem KSem.add {zs:List Nat} {Cs K:List (List Int)} (H:KSem zs Cs K) {C L:List Int} (hg:∀ x∈C,1≤x.natAbs∧x.natAbs≤16777216) (hL:CleanR C (some L)):KSem zs (Cs++[C]) (K++[L]):=by
 have hm:∀ x,x∈L↔x∈C:=fun x=>⟨fun h=>((hL.2 x).1 h).1,fun h=>(hL.2 x).2 ⟨h,by have:=hg x h; unfold okL; omega⟩⟩
 refine ⟨fun ch V hs k hk=>?_,fun M hM hs D hD=>?_⟩
 · rcases List.mem_append.1 hk with h | h
   · exact H.fro ch V (fun D hD=>hs D (List.mem_append_left _ hD)) k h
   · rw [List.mem_singleton] at h; rw [h]
     exact (hs C (List.mem_append_right _ (List.mem_singleton.2 rfl))).congr fun x=>(hm x).symm
 · rcases List.mem_append.1 hD with h | h
   · exact H.to M hM (fun k hk=>hs k (List.mem_append_left _ hk)) D h
   · rw [List.mem_singleton] at h; rw [h]
     exact (hs L (List.mem_append_right _ (List.mem_singleton.2 rfl))).congr hm
theorem KSem.taut {zs:List Nat} {Cs K:List (List Int)} (H:KSem zs Cs K) {C:List Int} (hL:CleanR C none):KSem zs (Cs++[C]) K:=by
 refine ⟨fun ch V hs k hk=>H.fro ch V (fun D hD=>hs D (List.mem_append_left _ hD)) k hk,fun M hM hs D hD=>?_⟩
 rcases List.mem_append.1 hD with h | h
 · exact H.to M hM hs D h
 · rw [List.mem_singleton] at h; rw [h]
   obtain ⟨x,hx,ho,hn⟩:=hL
   by_cases hx2:M x
   · exact ⟨x,hx,hx2⟩
   · refine ⟨-x,hn,?_⟩
     exact (hM x (by unfold okL at ho; omega)).2 hx2
end Xe
namespace Xe
open Tp
def GoodP (zs:List Nat) (c:List Int):Prop:=Rise c∧∀ x∈c,1≤x.natAbs∧x.natAbs≤wsum zs
def nxS (S:List (List Int)) (x:Int × List Int):List (List Int):=if x.1=2 then S.erase x.2 else S++[x.2]
def stO (zs:List Nat) (S:List (List Int)) (x:Int × List Int):Prop:=GoodP zs x.2∧((x.1=0∧ThyK zs x.2)∨(x.1=1∧Rup (·∈S) x.2)∨(x.1=2∧x.2∈S))
def PfOk (zs:List Nat):List (List Int)→List (Int × List Int)→Prop
 | _,[]=>True
 | S,x::t=>stO zs S x∧PfOk zs (nxS S x) t
def pfS (S:List (List Int)) (pf:List (Int × List Int)):List (List Int):=pf.foldl nxS S
section
variable {zs:List Nat} {Cs S:List (List Int)} {pf t:List (Int × List Int)}
theorem PfOk_app:∀ {pf S},PfOk zs S (pf++t)↔PfOk zs S pf∧PfOk zs (pfS S pf) t:=by
 intro pf
 induction pf with
 | nil=>intro S; exact ⟨fun h=>⟨trivial,h⟩,fun h=>h.2⟩
 | cons x pf ih=>intro S; exact (and_congr Iff.rfl ih).trans and_assoc.symm
theorem pfS_app:pfS S (pf++t)=pfS (pfS S pf) t:=List.foldl_append
theorem PfOk.log {seg:List (List Int × Bool)}:∀ {S},RepOk S seg→(∀ x∈seg,GoodP zs x.1)→PfOk zs S (stepsOf seg)∧pfS S (stepsOf seg)=repS S seg:=by
 induction seg with
 | nil=>intro S _ _; exact ⟨trivial,rfl⟩
 | cons x seg ih =>
   intro S h hg
   obtain ⟨c,g⟩:=x
   have hg':∀ x∈seg,GoodP zs x.1:=fun x hx=>hg x (List.mem_cons_of_mem _ hx)
   have hc:=hg (c,g) List.mem_cons_self
   cases g
   · obtain ⟨h1,h2⟩:=h
     obtain ⟨a,b⟩:=ih h2 hg'
     exact ⟨⟨⟨hc,.inr (.inl ⟨rfl,h1⟩)⟩,a⟩,b⟩
   · obtain ⟨h1,h2⟩:=h
     obtain ⟨a,b⟩:=ih h2 hg'
     exact ⟨⟨⟨hc,.inr (.inr ⟨rfl,h1⟩)⟩,a⟩,b⟩
theorem PfOk.sound {M:Int→Prop} (hM:Mdl M) (hT:∀ c,ThyK zs c→SatM M c):∀ {pf S},PfOk zs S pf→(∀ c∈S,(∀ x∈c,x≠0)∧SatM M c)→∀ c∈pfS S pf,(∀ x∈c,x≠0)∧SatM M c:=by
 intro pf
 induction pf with
 | nil=>intro S _ h; exact h
 | cons x pf ih =>
   intro S h hS
   obtain ⟨⟨hg,ho⟩,h2⟩:=h
   refine ih h2 fun c hc=>?_
   have hz:∀ y∈x.2,y≠0:=fun y hy=>by have:=hg.2 y hy; omega
   unfold nxS at hc
   rcases ho with ⟨e,ho⟩ | ⟨e,ho⟩ | ⟨e,ho⟩
   · rw [if_neg (by omega)] at hc
     rcases List.mem_append.1 hc with hc | hc
     · exact hS c hc
     · rw [List.mem_singleton] at hc; subst hc; exact ⟨hz,hT _ ho⟩
   · rw [if_neg (by omega)] at hc
     rcases List.mem_append.1 hc with hc | hc
     · exact hS c hc
     · rw [List.mem_singleton] at hc; subst hc; exact ⟨hz,ho.sat hM (fun C hC=>(hS C hC).1) (fun C hC=>(hS C hC).2) hz⟩
   · rw [if_pos e] at hc
     exact hS c (List.mem_of_mem_erase hc)
inductive Tak:List (List Int)→List (List Int)→Prop
 | nil:Tak [] []
 | no {Cs S:List (List Int)} {C:List Int}:Tak Cs S→CleanR C none→Tak (Cs++[C]) S
 | add {Cs S:List (List Int)} {C L:List Int}:Tak Cs S→CleanR C (some L)→Tak (Cs++[C]) (S++[L])
theorem Tak.good (h:Tak Cs S):∀ c∈S,Rise c∧∀ x∈c,okL x:=by
 induction h with
 | nil=>exact fun c hc=>(nomatch hc)
 | no _ _ ih=>exact ih
 | add _ hC ih =>
   intro c hc
   rcases List.mem_append.1 hc with hc | hc
   · exact ih c hc
   · rw [List.mem_singleton] at hc
     subst hc
     exact ⟨hC.1,fun x hx=>((hC.2 x).1 hx).2⟩
structure PfI (zs:List Nat) (Cs:List (List Int)) (pf:List (Int × List Int)) (K:List (List Int)) (lg:List (List Int × Bool)):Prop where
 ex:∃ S0 E,Tak Cs S0∧KSem zs Cs S0∧PfOk zs S0 pf∧(pfS S0 pf).Perm (repS K lg++E)
variable {K:List (List Int)} {lg lg':List (List Int × Bool)} {L:List Int}
theorem PfI.new (h:Tak Cs K) (hK:KSem zs Cs K):PfI zs Cs [] K []:=⟨K,[],h,hK,trivial,by rw [List.append_nil]; exact List.Perm.refl _⟩
theorem PfI.follow (P:PfI zs Cs pf K lg) (ok:RepOk K lg') (hp:lg <+: lg') (hg:∀ x∈lg',GoodP zs x.1):PfI zs Cs (pf++stepsOf (lg'.drop lg.length)) K lg':=by
 obtain ⟨S0,E,h1,hK,h2,h3⟩:=P.ex
 obtain ⟨seg,rfl⟩:=hp
 rw [List.drop_left]
 obtain ⟨g1,g2⟩:=rep_perm h3 (RepOk_app.1 ok).2
 obtain ⟨g3,g4⟩:=PfOk.log (zs:=zs) g1 fun x hx=>hg x (List.mem_append_right _ hx)
 exact ⟨S0,E,h1,hK,PfOk_app.2 ⟨h2,g3⟩,by rw [pfS_app,g4,repS_app]; exact g2⟩
theorem PfI.note (P:PfI zs Cs pf K lg) (hg:GoodP zs L) (hR:Rup (·∈repS K lg) L):PfI zs Cs (pf++[((1:Int),L)]) K lg:=by
 obtain ⟨S0,E,h1,hK,h2,h3⟩:=P.ex
 refine ⟨S0,E++[L],h1,hK,PfOk_app.2 ⟨h2,⟨hg,.inr (.inl ⟨rfl,hR.mono fun C hC=>h3.mem_iff.2 (List.mem_append_left _ hC)⟩)⟩,trivial⟩,?_⟩
 rw [pfS_app,← List.append_assoc]
 exact h3.append_right [L]
theorem PfI.thy (P:PfI zs Cs pf K lg) (ok:RepOk K lg) (hg:GoodP zs L) (hT:ThyK zs L):PfI zs Cs (pf++[((0:Int),L)]) (K++[L]) lg:=by
 obtain ⟨S0,E,h1,hK,h2,h3⟩:=P.ex
 refine ⟨S0,E,h1,hK,PfOk_app.2 ⟨h2,⟨hg,.inl ⟨rfl,hT⟩⟩,trivial⟩,?_⟩
 rw [pfS_app]
 refine (h3.append_right [L]).trans ?_
 refine List.Perm.trans ?_ ((rep_perm (E:=[L]) (List.Perm.refl _) ok).2.append_right E).symm
 rw [List.append_assoc,List.append_assoc]
 exact List.Perm.append_left _ List.perm_append_comm
end
end Xe
namespace Xe
open Go Tp Go.Proofs Hq
set_option maxRecDepth 16000
set_option maxHeartbeats 4000000
def scI (sc:Scr) (x:Int):Scr:={ sc with steps:=x }
theorem scI_self {sc:Scr}:scI sc sc.steps=sc:=rfl
theorem scI_good {sc:Scr} {x:Int} (hg:goodScr sc=true) (h0:0≤x) (h1:x≤sc.steps):goodScr (scI sc x)=true:=by
 have Z:=(goodScr_S hg).s1
 have:goodScr (scI sc x)=((rightL sc.picks&&rightL sc.res&&rightL sc.red&&decide (sc.signs.length≤1000))&&decide (0≤x)&&decide (x≤1099511627776)):=rfl
 rw [this]
 have e:(rightL sc.picks&&rightL sc.res&&rightL sc.red&&decide (sc.signs.length≤1000))=true:=by
  unfold goodScr at hg
  rw [Bool.and_eq_true,Bool.and_eq_true] at hg
  exact hg.1.1
 rw [e,decide_eq_true h0,decide_eq_true (by omega)]
 rfl
theorem scI_M {h:Heap} {sc:Scr} {a:ScrA} (M:ScrM h sc a) {x:Int} (hs:-9223372036854775808≤x∧x≤9223372036854775807):ScrM h (scI sc x) a :=
 ⟨M.P,M.G,M.R,M.D,M.lP,M.lG,M.lR,M.lD,M.rP,M.rR,M.rD,hs⟩
def NotO (O:Nat→Prop) (h:Heap) (A:Option Addr) (vs:List Value):Prop:=vs≠[]→∀ y,blk A y→y<h.size∧¬ O y
section
variable {O O':Nat→Prop} {h h':Heap} {A:Option Addr} {vs:List Value} {sc:Scr} {a:ScrA}
theorem NotO.st (H:NotO O h A vs) (s:ESt O O' h h'):NotO O' h' A vs:=fun hv y hy=>s.imm (H hv y hy)
theorem NotO.row (H:NotO O h A vs) (R:RowAt h A vs) (s:ESt O O' h h'):RowAt h' A vs:=by
 by_cases hv:vs=[]
 · subst hv; exact RowAt.nil
 · exact R.fr s.fr fun y hy=>(H hv y hy).2
theorem NotO.k (H:NotO O h A vs) {k:Nat→Option CT} {cb:Nat} {c:CSt} (C:CoreM h cb k c) (hk:∀ y,k y≠none→O y):NotK k cb A vs:=fun hv y hy=>by
 have h1:=(H hv y hy).2
 obtain ⟨bb,hb,p,O2,n,act,LA,lc,GA,gc,vs',C⟩:=C.ex
 refine ⟨?_,fun e=>h1 (hk y (by rw [e,C.kC]; exact fun h=>(nomatch h)))⟩
 cases hc:k y with
 | none=>rfl
 | some t=>exact absurd (hk y (by rw [hc]; exact fun h=>(nomatch h))) h1
structure ScrO (O:Nat→Prop) (h:Heap) (sc:Scr) (a:ScrA):Prop where
 M:ScrM h sc a
 P:NotO O h a.P (ints sc.picks)
 G:NotO O h a.G (bools sc.signs)
 R:NotO O h a.R (ints sc.res)
 D:NotO O h a.D (ints sc.red)
theorem ScrO.st (H:ScrO O h sc a) (s:ESt O O' h h'):ScrO O' h' sc a :=
 ⟨⟨H.P.row H.M.P s,H.G.row H.M.G s,H.R.row H.M.R s,H.D.row H.M.D s,H.M.lP,H.M.lG,H.M.lR,H.M.lD,H.M.rP,H.M.rR,H.M.rD,H.M.st⟩,H.P.st s,H.G.st s,H.R.st s,H.D.st s⟩
end
section
variable {h:Heap} {A:Option Addr} {n c:Nat} {l:List Int}
theorem eboth_ok (R:RowAt h A (ints l)) (hn:n=l.length) (hs:n<2^40) (hr:∀ x∈l,-9223372036854775808≤x∧x≤9223372036854775807) :
   CallsH Tryz.prog 97 [.slice A n c] h fun r h'=>Fr (fun _=>False) h h'∧∃ b:Bool,r=.bool b∧(b=false→∃ L,CleanR l (some L))∧(b=true→CleanR l none):=by
 refine calls_of 11 [.tmp 2] Go.Proofs.Tryz.func97 rfl rfl rfl ?_
 simp -implicitDefEqProofs (disch:=omega) [go_sem]
 refine useC (cleanG_ok R hn hs hr) ?_
 rintro _ h2 ⟨⟨o,ho,hm⟩,f2⟩
 cases o with
 | none =>
   obtain rfl:=hm
   simp -implicitDefEqProofs (disch:=omega) [go_sem]
   exact ⟨f2,ho⟩
 | some L =>
   obtain ⟨A',c',rfl,S,own⟩:=hm
   simp -implicitDefEqProofs (disch:=omega) [go_sem]
   exact ⟨f2,L,ho⟩
end
structure EngI (h:Heap) (O X:Nat→Prop) (gb:Nat) (zs:List Nat) (Cs:List (List Int)) (c:CSt) (pf:List (Int × List Int)) (K:List (List Int)) (st tn:Int):Prop where
 M:EngM h O X gb zs c pf c.lg.length st tn
 S:SInv K c.s c.ln c.lg
 HF:HFull c
 hv:c.s.vars=wsum zs
 P:PfI zs Cs pf K c.lg
 K:KSem zs Cs K
structure Room (c:CSt) (pf:List (Int × List Int)) (m D L1 L2 L3:Nat):Prop where
 b1:c.s.cs.length+(m+1)*(D+1)≤L1
 b2:c.lg.length+c.ln.length+(m+1)*(2*D)≤L2
 b3:pf.length+(m+1)*2≤c.lg.length+L3
inductive EndL (zs:List Nat) (Cs:List (List Int)) (sc:Scr) (am:List Int) (D M0 tot tn:Nat) (pf:List (Int × List Int)) (h:Heap):Value→Prop
 | bad:(goodScr sc&&goodC (wsum zs) am)=false→EndL zs Cs sc am D M0 tot tn pf h (.tuple #[.int .i64 0,.slice none 0 0,.slice none 0 0,.int .i64 1])
 | model {B:Option Addr} {bc:Nat} {ch:List Int}:(goodScr sc&&goodC (wsum zs) am)=true→1≤tn→(tot:Int)≤sc.steps→SlAt h B bc (ints ch)→ValC zs ch→(∀ C∈Cs,SatM (MB (tru zs ch)) C)→(∀ x∈am,MB (tru zs ch) x)→EndL zs Cs sc am D M0 tot tn pf h (.tuple #[.int .i64 0,.slice B ch.length bc,.slice none 0 0,.int .i64 0])
 | none {A:Option Addr} {ad:Nat} {cl:List Int}:(goodScr sc&&goodC (wsum zs) am)=true→1≤tn→(tot:Int)≤sc.steps→RowAt h A (ints cl)→(∀ x∈cl,x∈am)→cl.length≤wsum zs+1→(∀ ch,ValC zs ch→(∀ C∈Cs,SatM (MB (tru zs ch)) C)→(∀ x∈cl,MB (tru zs ch) x)→False)→(cl=[]→∃ q,pf=q++[((1:Int),[])])→EndL zs Cs sc am D M0 tot tn pf h (.tuple #[.int .i64 1,.slice none 0 0,.slice A cl.length ad,.int .i64 0])
 | steps:(goodScr sc&&goodC (wsum zs) am)=true→1≤tn→(tot:Int)=sc.steps→tot<(M0+1)*D→EndL zs Cs sc am D M0 tot tn pf h (.tuple #[.int .i64 2,.slice none 0 0,.slice none 0 0,.int .i64 0])
def LslR (O:Nat→Prop) (gb:Nat) (zs:List Nat) (Cs:List (List Int)) (sc:Scr) (am:List Int) (D M0 L1 L2 L3:Nat) (r:Value) (h h':Heap):Prop :=
 ∃ (O':Nat→Prop) (c:CSt) (pf:List (Int × List Int)) (K:List (List Int)) (tot tn:Nat),ESt O O' h h'∧EngI h' O' (fun _=>False) gb zs Cs c pf K tot tn∧tn≤M0+1∧c.s.cs.length≤L1∧c.lg.length+c.ln.length≤L2∧pf.length≤c.lg.length+L3∧EndL zs Cs sc am D M0 tot tn pf h' r
structure SvJ (h0:Heap) (O0:Nat→Prop) (gb xb:Nat) (zs:List Nat) (Cs:List (List Int)) (sc:Scr) (a:ScrA) (A:Option Addr) (ac:Nat) (am:List Int) (D M0 L1 L2 L3:Nat) (m:Nat) (ρ:Env) (h:Heap):Prop where
 r0:ρ 0=.pointer (some ⟨gb,0,none⟩)
 r2:ρ 2=.slice A am.length ac
 r4:ρ 4=.pointer (some ⟨xb,0,none⟩)
 r10:ρ 10=.int .i64 sc.steps
 ex:∃ (O:Nat→Prop) (c:CSt) (pf:List (Int × List Int)) (K:List (List Int)) (tot tn:Nat) (y:Int),ESt O0 O h0 h∧EngI h O (fun z=>z=xb) gb zs Cs c pf K tot tn∧Room c pf m D L1 L2 L3∧cntM (wsum zs) K≤m∧tn+m≤M0∧tot+(m+1)*D≤(M0+1)*D ∧
  ListB h xb (scrV (scI sc y) a)∧(((goodScr sc&&goodC (wsum zs) am)=true∧(tot:Int)≤sc.steps)∨tot=0)
section
variable {h:Heap} {O:Nat→Prop} {gb:Nat} {zs:List Nat} {Cs:List (List Int)} {c:CSt} {pf:List (Int × List Int)} {K:List (List Int)} {st tn:Int} {sc:Scr} {a:ScrA} {A:Option Addr} {n ac:Nat} {am:List Int} {D M0 L1 L2 L3:Nat}
theorem esolve_ok (I:EngI h O (fun _=>False) gb zs Cs c pf K st tn) (F:Few zs) (Sc:ScrO O h sc a) (RA:RowAt h A (ints am)) (NA:NotO O h A (ints am)) (hn:n=am.length) (hs:n<2^40) (hr:∀ x∈am,-9223372036854775808≤x∧x≤9223372036854775807)
   (hD:D=needN (wsum zs) sc.res.length) (hM:cntM (wsum zs) K≤M0) (hM2:M0<2^40) (hR:Room c pf M0 D L1 L2 L3) (z1:L1<2^40) (z2:2*L2+L3<2^40) (z3:(M0+1)*D<2^40) :
   CallsH Tryz.prog 48 [.pointer (some ⟨gb,0,none⟩),.agg (scrV sc a).toArray,.slice A n ac] h fun r h'=>LslR O gb zs Cs sc am D M0 L1 L2 L3 r h h':=by
 subst hn
 have hsum:=F.sum
 have hst0:=Sc.M.st
 obtain ⟨tb,cb,k,P,pc,vs,E⟩:=I.M.ex
 refine calls_of 88 [.tmp 6,.tmp 7,.tmp 8,.tmp 9] Go.Proofs.Tryz.func48 rfl rfl rfl ?_
 unfold scrV
 simp -implicitDefEqProofs (disch:=omega) [go_sem]
 obtain ⟨h1,e1⟩:∃ h1,h1=h.push (.cells #[.slice a.P sc.picks.length a.pc,.slice a.G sc.signs.length a.gc,.slice a.R sc.res.length a.rc,.slice a.D sc.red.length a.dc,.int .i64 sc.steps] 56):=⟨_,rfl⟩
 have f1:Fr (fun _=>False) h h1:=by rw [e1]; exact (Fr.refl _ _).push
 have V1:ListB h1 h.size (scrV (scI sc sc.steps) a):=by rw [e1]; exact ListB.new
 rw [← e1]
 have E1:=E.grow f1 (xb:=h.size) (Nat.le_refl _) V1.lt
 have a1:ESt O (fun y=>O y∨y=h.size) h h1:=⟨fun y hy=>hy.imp_right fun e=>by omega,f1.mono fun _ _ h=>h.elim⟩
 have hgb:gb<h.size:=E.B.lt
 have b4:=E1.B.at' 4 _ rfl
 have fz1:=E1.B.fz
 obtain ⟨a2,E2⟩:=E1.set (i:=4) (v:=.complex .f64 (Fx.enc 0) (Fx.enc 0)) (seen':=c.lg.length) (st':=0) (tn':=0) (by omega) rfl
 obtain ⟨h2,e2⟩:∃ h2,h2=hset h1 ⟨gb,4,none⟩ (.complex .f64 (Fx.enc 0) (Fx.enc 0)):=⟨_,rfl⟩
 rw [← e2] at a2 E2
 have V2:ListB h2 h.size (scrV (scI sc sc.steps) a):=by rw [e2]; exact V1.oth (by omega)
 have a02:=a1.trans a2
 refine scopeMG 0 (SvJ h O gb h.size zs Cs sc a A ac am D M0 L1 L2 L3) rfl rfl (by kernel_rfl) ?_ ?_
 · have b44:=V1.at' 4 _ rfl
   have nx:¬ h.size=gb:=by omega
   simp -implicitDefEqProofs (disch:=omega) [go_sem,b4,fz1,nx,b44]
   rw [← e2]
   exact ⟨M0,rfl,rfl,rfl,rfl,_,c,pf,K,0,0,sc.steps,a02,⟨⟨_,_,_,_,_,_,E2⟩,I.S,I.HF,I.hv,I.P,I.K⟩,hR,hM,by omega,by omega,V2,.inr rfl⟩
 · clear a02 V2 e2 E2 a2 fz1 b4 a1 E1 V1 f1 e1 hR hM E I
   clear h2 h1 vs pc P k cb tb K pf c
   rintro m ρ h3 ⟨r0,r2,r4,r10,O3,c,pf,K,tot,tn,y,a3,I,hR,hM,htn,htot,V3,hgd⟩
   have htot2:tot<2^40:=by have:=Nat.zero_le ((m+1)*D); omega
   have hlr:-9223372036854775808≤sc.steps-(tot:Int)∧sc.steps-(tot:Int)≤9223372036854775807:=by
     rcases hgd with ⟨_,hh⟩ | hh <;> omega
   simp -implicitDefEqProofs (disch:=omega) [go_sem,r0,r2,r4,r10]
   refine useC (esteps_ok I.M (by omega) (by omega)) ?_
   rintro _ h4 ⟨rfl,rfl⟩
   obtain ⟨tb,cb,k,P,pc,vs,E3⟩:=I.M.ex
   have b34:=V3.at' 4 _ rfl
   have fz3:=V3.fz
   obtain ⟨x,hx⟩:∃ x,x=sc.steps-(tot:Int):=⟨_,rfl⟩
   rw [← hx] at hlr
   obtain ⟨h5,e5⟩:∃ h5,h5=hset h4 ⟨h.size,4,none⟩ (.int .i64 x):=⟨_,rfl⟩
   have V5:ListB h5 h.size (scrV (scI sc x) a):=by rw [e5]; exact V3.set (i:=4) (.int .i64 x) (Nat.lt_succ_self 4)
   obtain ⟨a5,E5⟩:=E3.oth (x:=h.size) rfl (h':=h5) (by rw [e5]; exact (Fr.refl _ _).set rfl)
   have ld5:=load5 V5
   have b51:=E5.B.at' 1 _ rfl
   have a05:=a3.trans a5
   simp -implicitDefEqProofs (disch:=omega) [go_sem,r0,r2,r4,r10,b34,fz3,← hx]
   rw [← e5]
   refine drawK [(0,0),(1,0),(2,0),(3,1),(4,1),(5,0),(6,3),(7,0),(8,0),(9,0),(10,0),(11,0),(12,0),(13,0),(14,0),(15,0)] ?_
   simp -implicitDefEqProofs (disch:=omega) [go_sem,r0,r2,r4,r10,b51,ld5]
   have Sc5:=Sc.st a05
   have Ms5:=scI_M Sc5.M hlr
   have Ks5:ScrK k cb (scI sc x) a:=⟨Sc5.P.k E5.C E5.kO,Sc5.G.k E5.C E5.kO,Sc5.R.k E5.C E5.kO,Sc5.D.k E5.C E5.kO⟩
   have RA5:=NA.row RA a05
   have NA5:=NA.st a05
   have KA5:=NA5.k E5.C E5.kO
   have hv:=I.hv
   have g1:=hR.b1
   have g2:=hR.b2
   have g3:=hR.b3
   have m1:(m+1)*(D+1)=m*(D+1)+(D+1):=Nat.succ_mul _ _
   have m2:(m+1)*(2*D)=m*(2*D)+2*D:=Nat.succ_mul _ _
   have m3:(m+1)*D=m*D+D:=Nat.succ_mul _ _
   have hD':needN (wsum zs) sc.res.length=D:=hD.symm
   have w1:=Nat.zero_le (m*(D+1))
   have w2:=Nat.zero_le (m*(2*D))
   have w3:=Nat.zero_le (m*D)
   refine useC (solve_ok (sc:=scI sc x) (a:=a) E5.C I.S I.HF Ms5 Ks5 RA5 KA5 rfl hs hr (by omega) (by rw [hv]; show _+needN (wsum zs) sc.res.length<_; omega) (by rw [hv]; show _+2*needN (wsum zs) sc.res.length<_; omega)) ?_
   rintro _ h6 hsol
   rw [SolR,hv] at hsol
   rcases hsol with ⟨hb,rfl,f6⟩ | ⟨hgood,k6,c6,e,mm,ca,rfl,C6,st6,S6,HF6,hv6,hst6,hcs6,hlg6,E6⟩
   · simp -implicitDefEqProofs (disch:=omega) [go_sem,ext4,r0,r2,r4,r10]
     have hbad:(goodScr sc&&goodC (wsum zs) am)=false:=by
       rcases hgd with ⟨hg,hle⟩ | hh
       · rw [Bool.and_eq_true] at hg
         rw [scI_good hg.1 (by omega) (by omega),hg.2] at hb
         cases hb
       · rw [show x=sc.steps by omega,scI_self] at hb
         exact hb
     have E7:=E5.fr0 f6
     exact ⟨O3,c,pf,K,tot,tn,a05.trans (ESt.fr0 f6),⟨⟨_,_,_,_,_,_,E7.drop⟩,I.S,I.HF,I.hv,I.P,I.K⟩,by omega,by omega,by omega,by omega,.bad hbad⟩
   · rw [Bool.and_eq_true] at hgood
     obtain ⟨hg1,hg2⟩:=hgood
     have hst6a:(c6.st:Int)≤x:=hst6.1
     have hst6b:c6.st≤D:=by have:=hst6.2; rw [← hD'] ; exact this
     have hcs6':c6.s.cs.length≤c.s.cs.length+D:=by rw [← hD']; exact hcs6
     have hlg6':c6.lg.length+c6.ln.length≤c.lg.length+c.ln.length+2*D:=by rw [← hD']; exact hlg6.1
     have hgT:(goodScr sc&&goodC (wsum zs) am)=true∧((tot+c6.st:Nat):Int)≤sc.steps:=by
       rcases hgd with ⟨hg,hle⟩ | hh
       · exact ⟨hg,by push_cast; omega⟩
       · rw [show x=sc.steps by omega,scI_self] at hg1
         exact ⟨by rw [hg1,hg2]; rfl,by push_cast; omega⟩
     obtain ⟨a6,E7⟩:=E5.core C6 st6
     have b64:=E7.B.at' 4 _ rfl
     have b61:=E7.B.at' 1 _ rfl
     have fz6:=E7.B.fz
     simp -implicitDefEqProofs (disch:=omega) [go_sem,ext4,r0,r2,r4,r10]
     refine drawC [(0,0),(1,0),(2,0),(3,2),(4,0),(5,0),(6,0),(7,1),(8,3),(9,0),(10,0),(11,0),(12,0),(13,0),(14,4)] (fun h'=>hcell h' ⟨gb,4,none⟩=some (.complex .f64 (Fx.enc tot) (Fx.enc tn))) b64 ?_
     simp -implicitDefEqProofs (disch:=omega) [go_sem,r0,b61]
     refine float2 (.complex .f64 (Fx.enc tot) (Fx.enc tn)) (fun h' hC=>by simp -implicitDefEqProofs (disch:=omega) [go_sem,hC]) ?_
     simp -implicitDefEqProofs (disch:=omega) [go_sem,r0,b61]
     refine useC (csteps_ok E7.C) ?_
     rintro _ h7 ⟨rfl,rfl⟩
     refine ⟨b64,?_⟩
     simp -implicitDefEqProofs (disch:=omega) [go_sem,r0,b64,fz6,cst_1f]
     obtain ⟨h8,e8⟩:∃ h8,h8=hset h7 ⟨gb,4,none⟩ (.complex .f64 (Fx.enc ((tot:Int)+(c6.st:Int))) (Fx.enc ((tn:Int)+1))):=⟨_,rfl⟩
     obtain ⟨a8,E8⟩:=E7.set (i:=4) (v:=.complex .f64 (Fx.enc ((tot:Int)+(c6.st:Int))) (Fx.enc ((tn:Int)+1))) (seen':=c.lg.length) (st':=(tot:Int)+(c6.st:Int)) (tn':=(tn:Int)+1) (by omega) rfl
     rw [← e8] at a8 E8
     rw [← e8]
     have hsz:∀ y∈c6.lg,y.1.length<2^40:=fun y hy=>by have:=(log_rng S6 hy).1; omega
     refine useC (efollow_ok (XX:=fun z=>z=h.size) ⟨_,_,_,_,_,_,E8⟩ ?_ ?_ hsz) ?_
     · exact hlg6.2.length_le
     · omega
     rintro _ h9 ⟨O9,a9,E9,k9⟩
     have V9:ListB h9 h.size (scrV (scI sc x) a):=by
       have hk:=(E5.XO h.size rfl)
       have V7:=st6.lb V5 hk.2.1
       have V8:ListB h8 h.size (scrV (scI sc x) a):=by rw [e8]; exact V7.oth hk.2.2.1
       exact V8.same (k9 _ rfl)
     have a09:=((a05.trans a6).trans a8).trans a9
     have a69:=a8.trans a9
     have hpf9:(pf++stepsOf (c6.lg.drop c.lg.length)).length+c.lg.length=pf.length+c6.lg.length:=by
       have:=hlg6.2.length_le
       unfold stepsOf
       rw [List.length_append,List.length_map,List.length_drop]; omega
     obtain ⟨pf9,hpf⟩:∃ pf9,pf9=pf++stepsOf (c6.lg.drop c.lg.length):=⟨_,rfl⟩
     have hg6:∀ x∈c6.lg,GoodP zs x.1:=fun x hx=>by
       obtain ⟨e,he,hl⟩:=S6.lgc x hx
       have:=S6.I.cl e he
       rw [hl,hv6] at this
       exact this
     have PI9:PfI zs Cs pf9 K c6.lg:=by rw [hpf]; exact I.P.follow S6.P.ok hlg6.2 hg6
     rw [← hpf] at E9 hpf9
     have htn1:((tn+1:Nat):Int)=(tn:Int)+1:=by push_cast; rfl
     have htt:((tot+c6.st:Nat):Int)=(tot:Int)+(c6.st:Int):=by push_cast; rfl
     rw [← htn1,← htt] at E9
     have hzb:h5.size≤h7.size:=st6.fr.size
     have keep:∀ {B:Option Addr},(∀ y,blk B y→y<h7.size)→(∀ y,blk B y→h5.size≤y∧k6 y=none)→∀ y,blk B y→y<h7.size∧¬ (O3 y∨k6 y≠none):=fun hl hB y hy=>⟨hl y hy,fun ho=>ho.elim (fun ho=>by have:=E5.low y ho; have:=(hB y hy).1; omega) fun hk=>hk (hB y hy).2⟩
     cases E6 with
     | steps s1 s2 =>
       simp -implicitDefEqProofs (disch:=omega) [go_sem,r0,r2,r4,r10]
       have s1':(c6.st:Int)=x:=s1
       have s2':c6.st<D:=by rw [← hD']; exact s2
       obtain ⟨tb9,cb9,kk9,P9,pc9,vs9,EB9⟩:=E9.ex
       exact ⟨O9,c6,pf9,K,tot+c6.st,tn+1,a09,⟨⟨_,_,_,_,_,_,EB9.drop⟩,S6,HF6,hv6,PI9,I.K⟩,by omega,by omega,by omega,by omega,.steps hgT.1 (by omega) (by push_cast; omega) (by omega)⟩
     | @none CA cd cl s1 s2 s3 s4 s5 s6 s7 =>
       have ncl:NotO (fun y=>O3 y∨k6 y≠none) h7 CA (ints cl):=fun _=>keep (fun y hy=>s1.blk_lt hy) s2
       have R9:=ncl.row s1.row a69
       have hcr:∀ y∈cl,1≤y.natAbs∧y.natAbs≤wsum zs:=fun y hy=>goodC_mem hg2 (s3 y hy)
       have no6:∀ ch,ValC zs ch→(∀ C∈Cs,SatM (MB (tru zs ch)) C)→(∀ y∈cl,MB (tru zs ch) y)→False:=fun ch Vc h1 h2=>s6 _ (MB_mdl _) (I.K.fro ch Vc h1) h2
       simp -implicitDefEqProofs (disch:=omega) [go_sem,r0,r2,r4,r10]
       refine useC (eboth_ok R9 rfl (by omega) fun y hy=>by have:=hcr y hy; omega) ?_
       rintro _ h10 ⟨f10,b,rfl,hb0,hb1⟩
       have E10:=E9.fr0 f10
       cases b with
       | true =>
         simp -implicitDefEqProofs (disch:=omega) [go_sem,r0,r2,r4,r10]
         obtain ⟨tb9,cb9,kk9,P9,pc9,vs9,EB9⟩:=E10.ex
         exact ⟨O9,c6,pf9,K,tot+c6.st,tn+1,a09.trans (ESt.fr0 f10),⟨⟨_,_,_,_,_,_,EB9.drop⟩,S6,HF6,hv6,PI9,I.K⟩,by omega,by omega,by omega,by omega,.none hgT.1 (by omega) hgT.2 (R9.fr0 f10) s3 s5 no6 fun h=>by
           obtain ⟨y,hy,_⟩:=hb1 rfl
           rw [h] at hy; cases hy⟩
       | false =>
         obtain ⟨L,hL⟩:=hb0 rfl
         simp -implicitDefEqProofs (disch:=omega) [go_sem,r0,r2,r4,r10]
         refine useC (lnegated_ok (R9.fr0 f10) rfl (by omega) fun y hy=>by have:=hcr y hy; omega) ?_
         rintro _ h11 ⟨f11,o,ho,hm⟩
         cases o with
         | none =>
           exfalso
           obtain ⟨y,hy,hok,hy2⟩:=ho
           unfold negs at hy hy2
           obtain ⟨y1,w1',e1'⟩:=List.mem_map.1 hy
           obtain ⟨y2,w2',e2'⟩:=List.mem_map.1 hy2
           have e3':y2=-y1:=by omega
           rw [e3'] at w2'
           have hn:CleanR cl none:=⟨y1,w1',by have:=hcr y1 w1'; unfold okL; omega,w2'⟩
           have:=CleanR.uniq hL hn
           cases this
         | some L2' =>
           obtain ⟨Q,qc,rfl,SQ,ownQ⟩:=hm
           have E11:=E10.fr0 f11
           have hgL:GoodP zs L2':=⟨ho.1,fun y hy=>by
             have:=hcr _ (mem_negs.1 ((ho.2 y).1 hy).1)
             rwa [Int.natAbs_neg] at this⟩
           have hRL:Rup (·∈repS K c6.lg) L2':=fun T P h=>s7 T P fun y hy=>h y ((ho.2 y).2 ⟨hy,by
             have:=hcr _ (mem_negs.1 hy)
             rw [Int.natAbs_neg] at this
             unfold okL; omega⟩)
           have hL2:L2'.length≤33:=by
             have:=rise_length (a:=0) (n:=wsum zs) ho.1 fun y hy=>by
              have h1:=((ho.2 y).1 hy).1
              unfold negs at h1
              obtain ⟨y1,w1',rfl⟩:=List.mem_map.1 h1
              have:=hcr y1 w1'
              rw [Int.natAbs_neg]; omega
             omega
           simp -implicitDefEqProofs (disch:=omega) [go_sem,r0,r2,r4,r10]
           refine useC (enote_ok E11 (by omega) (kd:=1) SQ.row rfl (by omega)) ?_
           rintro _ h12 ⟨O12,a12,E12,_⟩
           simp -implicitDefEqProofs (disch:=omega) [go_sem,r0,r2,r4,r10]
           obtain ⟨tb9,cb9,kk9,P9,pc9,vs9,EB9⟩:=E12.ex
           have af:=((ESt.fr0 (O:=O9) f10).trans (ESt.fr0 f11)).trans a12
           have hpl:(pf9++[((1:Int),L2')]).length=pf9.length+1:=by rw [List.length_append]; rfl
           exact ⟨O12,c6,_,K,tot+c6.st,tn+1,a09.trans af,⟨⟨_,_,_,_,_,_,EB9.drop⟩,S6,HF6,hv6,PI9.note hgL hRL,I.K⟩,by omega,by omega,by omega,by rw [hpl]; omega,.none hgT.1 (by omega) hgT.2 ((ncl.st a69).row R9 af) s3 s5 no6 fun h=>⟨pf9,by
             have hL0:L2'=[]:=List.eq_nil_iff_forall_not_mem.2 fun y hy=>by
              have:=((ho.2 y).1 hy).1
              rw [h] at this; cases this
             rw [hL0]⟩⟩
     | @model M mc bs s1 s2 s3 s4 s5 =>
       have nM:NotO (fun y=>O3 y∨k6 y≠none) h7 M (bools bs):=fun hv'=>keep (fun y hy=>row_lt s2 hv' hy) s3
       have R9:=nM.row s2 a69
       simp -implicitDefEqProofs (disch:=omega) [go_sem,r0,r2,r4,r10]
       refine useC (eagrees_ok E9 F R9 s1.symm s1) ?_
       rintro _ h10 ⟨f10,hor⟩
       have E10:=E9.fr0 f10
       rcases hor with ⟨ch,B,bc,rfl,SB,ownB,Vc,ht⟩ | ⟨Kc,B,bc,rfl,SB,ownB,hT,hRise,hneg⟩
       · simp -implicitDefEqProofs (disch:=omega) [go_sem,r0,r2,r4,r10]
         obtain ⟨tb9,cb9,kk9,P9,pc9,vs9,EB9⟩:=E10.ex
         exact ⟨O9,c6,pf9,K,tot+c6.st,tn+1,a09.trans (ESt.fr0 f10),⟨⟨_,_,_,_,_,_,EB9.drop⟩,S6,HF6,hv6,PI9,I.K⟩,by omega,by omega,by omega,by omega,.model hgT.1 (by omega) hgT.2 SB Vc (by rw [ht]; exact I.K.to _ (MB_mdl _) s4) (by rw [ht]; exact s5)⟩
       · have hKr:∀ y∈Kc,1≤y.natAbs∧y.natAbs≤wsum zs:=fun y hy=>by
           obtain ⟨_,_,_,h1,_⟩:=hT.ex
           exact (h1 y hy).1
         have hKl:Kc.length≤32:=by
           have:=rise_length (a:=0) (n:=wsum zs) hRise fun y hy=>by have:=hKr y hy; omega
           omega
         have hKp:0<Kc.length:=List.length_pos_iff.2 hT.ne
         obtain ⟨bk,off,rfl,_⟩:=SB.row.get (by rw [ints_len]; exact hKp)
         simp -implicitDefEqProofs (disch:=omega) [go_sem,r0,r2,r4,r10]
         refine useC (enote_ok E10 (by omega) (kd:=0) SB.row rfl (by omega)) ?_
         rintro _ h11 ⟨O11,a11,E11,k11⟩
         obtain ⟨tb9,cb9,kk9,P9,pc9,vs9,EB11⟩:=E11.ex
         have b111:=EB11.B.at' 1 _ rfl
         have nK:NotO O9 h10 (some ⟨bk,off,none⟩) (ints Kc):=fun _ y hy=>⟨SB.blk_lt hy,fun ho=>by
           obtain ⟨_,_,_,_,_,_,EB9⟩:=E9.ex
           have:=EB9.low y ho; have:=ownB y hy; omega⟩
         have RK:=nK.row SB.row a11
         simp -implicitDefEqProofs (disch:=omega) [go_sem,r0,r2,r4,r10,b111]
         refine useC (cadd_ok EB11.C S6 HF6 RK ((nK.st a11).k EB11.C EB11.kO) rfl (by omega) (fun y hy=>by have:=hKr y hy; omega) (by omega)) ?_
         rintro _ h12 ⟨k12,c12,ee,rfl,C12,st12,HF12,hv12,eln12,elg12,est12,hcs12,hor12⟩
         have hgK:goodC c6.s.vars Kc=true:=by
           rw [hv6]
           exact List.all_eq_true.2 fun y hy=>decide_eq_true (hKr y hy)
         have hself:∀ o,CleanR Kc o→o=some Kc:=fun o ho=>clean_self (vars:=wsum zs) (by omega) hRise hKr ho
         have hS12:SInv (K++[Kc]) c12.s c12.ln c12.lg:=by
           rcases hor12 with ⟨_,hf,_⟩ | ⟨_,_,hc,_⟩ | ⟨_,_,L,hL,hS⟩
           · rw [hgK] at hf; cases hf
           · have:=hself _ hc; cases this
           · have:=hself _ hL
             cases this
             exact hS
         simp -implicitDefEqProofs (disch:=omega) [go_sem,r0,r2,r4,r10]
         obtain ⟨a12,EB12⟩:=EB11.core C12 st12
         have a0F:=(((a09.trans (ESt.fr0 f10)).trans a11).trans a12)
         have hfal:¬ SatM (MB bs) Kc:=fun ⟨y,hy,hM⟩=>by
           obtain ⟨j,hj,e⟩:=mem_mlits.1 (hneg y hy)
           have h1:=mlit_MB hj
           rw [e] at h1
           exact (MB_mdl bs y (by have:=hKr y hy; omega)).1 h1 hM
         have hdec:=cntM_dec s1 s4 hfal
         have hpl:(pf9++[((0:Int),Kc)]).length=pf9.length+1:=by rw [List.length_append]; rfl
         have hm1:m-1+1=m:=by omega
         have V12:ListB h12 h.size (scrV (scI sc x) a):=st12.lb (((V9.fr f10 fun h=>h)).same (k11 _ rfl)) (EB11.XO h.size rfl).2.1
         rw [← elg12] at EB12
         exact ⟨m-1,by omega,r0,r2,r4,r10,_,c12,_,K++[Kc],tot+c6.st,tn+1,x,a0F,⟨⟨_,_,_,_,_,_,EB12⟩,hS12,HF12,hv12.trans hv6,by rw [elg12]; exact PI9.thy S6.P.ok ⟨hRise,hKr⟩ hT,I.K.thy hT⟩,⟨by rw [hm1]; omega,by rw [hm1,elg12,eln12]; omega,by rw [hm1,hpl,elg12]; omega⟩,by omega,by omega,by rw [hm1]; omega,V12,.inl hgT⟩
end
def csOf (gs:Nat→List Int) (i:Nat):List (List Int):=(List.range i).map gs
theorem csOf_succ {gs:Nat→List Int} {i:Nat}:csOf gs (i+1)=csOf gs i++[gs i]:=by unfold csOf; rw [List.range_succ,List.map_append]; rfl
def LnwR (zs:List Nat) (m:Nat) (gs:Nat→List Int) (r:Value) (h h':Heap):Prop:=Fr (fun _=>False) h h' ∧
 (((∃ i,i<m∧goodC (wsum zs) (gs i)=false)∧r=.pointer none)∨((∀ i,i<m→goodC (wsum zs) (gs i)=true)∧∃ (gb:Nat) (c:CSt) (K:List (List Int)),r=.pointer (some ⟨gb,0,none⟩)∧(∀ X:Nat→Prop,(∀ y,X y→y<h.size)→∃ O:Nat→Prop,EngI h' O X gb zs (csOf gs m) c [] K 0 0∧∀ y,O y→h.size≤y∨X y)∧c.lg=[]∧c.ln=[]∧c.s.cs.length≤m))
structure LnJ (h0:Heap) (tb cb N1:Nat) (zs:List Nat) (A:Option Addr) (m cA:Nat) (gs:Nat→List Int) (ρ:Env) (h:Heap):Prop where
 r18:ρ 18=.slice A m cA
 r19:ρ 19=.int .i64 m
 r5:ρ 5=.pointer (some ⟨tb,0,none⟩)
 r6:ρ 6=.pointer (some ⟨cb,0,none⟩)
 fr:Fr (fun _=>False) h0 h
 T:TabM h (fun y=>h0.size≤y∧y<N1) tb zs
 zN:N1≤h.size
 ex:∃ (i:Nat) (k:Nat→Option CT) (c:CSt) (K:List (List Int)),ρ 20=.int .i64 i∧i≤m∧CoreM h cb k c∧SInv K c.s c.ln c.lg∧HFull c∧c.s.vars=wsum zs∧c.s.cs.length≤i∧c.ln=[]∧c.lg=[]∧(∀ y t,k y=some t→N1≤y)∧KSem zs (csOf gs i) K∧Tak (csOf gs i) K∧∀ j,j<i→goodC (wsum zs) (gs j)=true
theorem lnew_ok {h00 h:Heap} {zs:List Nat} (F:Few zs) {A B:Option Addr} {m cA c0:Nat} {gs:Nat→List Int} (RZ:RowAt h B (ints (nts zs))) (R:Args2 h00 A m gs) (f00:Fr (fun _=>False) h00 h) (hm:m≤16) (hl:∀ i,i<m→(gs i).length≤6) :
   CallsH Tryz.prog 46 [.slice B zs.length c0,.slice A m cA] h fun r h'=>LnwR zs m gs r h h':=by
 have hsum:=F.sum
 refine calls_of 33 [.tmp 4] Go.Proofs.Tryz.func46 rfl rfl rfl ?_
 simp -implicitDefEqProofs (disch:=omega) [go_sem]
 refine useC (anew_ok F RZ) ?_
 rintro _ h1 ⟨f1,tb,rfl,T1⟩
 simp -implicitDefEqProofs (disch:=omega) [go_sem]
 refine useC (avars_ok T1) ?_
 rintro _ h2 ⟨rfl,rfl⟩
 simp -implicitDefEqProofs (disch:=omega) [go_sem]
 refine useC (cnew_ok (x:=((wsum zs:Nat):Int)) (by omega) (by omega)) ?_
 rintro _ h3 (⟨hneg,_⟩ | ⟨vars',cb,ev,_,rfl,k,C3,low3,f3⟩)
 · omega
 obtain rfl:wsum zs=vars':=by omega
 simp -implicitDefEqProofs (disch:=omega) [go_sem]
 refine loopK (LnJ h tb cb h2.size zs A m cA gs) (fun ρ _=>m-(intOf (ρ 20)).toNat) (by kernel_rfl) ?_ ?_
 · exact ⟨rfl,rfl,rfl,rfl,f1.trans f3,T1.fr0 f3,f3.size,0,k,cst0 (wsum zs),[],rfl,Nat.zero_le _,C3,SInv.new (by omega),fun v h1 h2 _=>⟨h1,h2⟩,rfl,Nat.le_refl _,rfl,rfl,low3,KSem.nil,Tak.nil,fun j hj=>absurd hj (Nat.not_lt_zero _)⟩
 · clear C3 low3 f3
   clear k
   rintro ρ h4 ⟨r18,r19,r5,r6,f4,T4,zN,i,k,c,K,r20,hi,C4,S4,HF4,hv4,hcs4,eln,elg,low4,KS4,TK4,hg4⟩
   by_cases hin:i<m
   · have f04:=f00.trans f4
     obtain ⟨bk,off,B',cB,rfl,e0,RB0,hBl,hBr⟩:=R.at' i hin
     have e2:=(f04.cell (hcell_lt e0) fun h=>h).trans e0
     have RB4:=RB0.fr0 f04
     have hli:=hl i hin
     have z1:=f1.size
     have z00:=f00.size
     have nk:NotK k cb B' (ints (gs i)):=fun hv' y hy=>by
       have h1:=row_lt RB0 hv' hy
       obtain ⟨bb,hb,p,O2,n2,act,LA,lc,GA,gc,vs',C⟩:=C4.ex
       have h2:=low4 _ _ C.kC
       refine ⟨?_,by omega⟩
       cases hc:k y with
       | none=>rfl
       | some t=>have:=low4 y t hc; omega
     simp -implicitDefEqProofs (disch:=omega) [go_sem,r18,r19,r5,r6,r20,e2]
     refine useC (cadd_ok C4 S4 HF4 RB4 nk rfl (by omega) hBr (by omega)) ?_
     rintro _ h5 ⟨k5,c5,e,rfl,C5,st5,HF5,hv5,eln5,elg5,est5,hcs5,hor⟩
     have f5:Fr (fun _=>False) h h5:=f4.trans' st5.fr fun y hy hn=>by
       cases hc:k y with
       | none=>exact hn hc
       | some t=>have:=low4 y t hc; omega
     have T5:TabM h5 (fun y=>h.size≤y∧y<h2.size) tb zs:=T4.fr st5.fr fun y hy hn=>by
       cases hc:k y with
       | none=>exact hn hc
       | some t=>have:=low4 y t hc; omega
     have low5:∀ y t,k5 y=some t→h2.size≤y:=fun y t hy=>(st5.own y t hy).elim (low4 y t) fun hh=>Nat.le_trans zN hh
     rcases hor with ⟨rfl,hgF,S5⟩ | ⟨rfl,hgT,hcN,S5⟩ | ⟨rfl,hgT,L,hL,S5⟩
     · simp -implicitDefEqProofs (disch:=omega) [go_sem,r18,r19,r5,r6,r20]
       exact ⟨f5,.inl ⟨⟨i,hin,by rw [← hv4]; exact hgF⟩,rfl⟩⟩
     · simp -implicitDefEqProofs (disch:=omega) [go_sem,r18,r19,r5,r6,r20]
       rw [hv4] at hgT
       exact ⟨⟨r18,r19,r5,r6,f5,T5,Nat.le_trans zN st5.fr.size,i+1,k5,c5,K,rfl,by omega,C5,S5,HF5,hv5.trans hv4,by omega,eln5.trans eln,elg5.trans elg,low5,by rw [csOf_succ]; exact KS4.taut hcN,by rw [csOf_succ]; exact TK4.no hcN,fun j hj=>by
        by_cases e:j=i
        · rw [e]; exact hgT
        · exact hg4 j (by omega)⟩,by omega⟩
     · simp -implicitDefEqProofs (disch:=omega) [go_sem,r18,r19,r5,r6,r20]
       rw [hv4] at hgT
       exact ⟨⟨r18,r19,r5,r6,f5,T5,Nat.le_trans zN st5.fr.size,i+1,k5,c5,K++[L],rfl,by omega,C5,S5,HF5,hv5.trans hv4,by omega,eln5.trans eln,elg5.trans elg,low5,by rw [csOf_succ]; exact KS4.add (fun x hx=>by have:=goodC_mem hgT hx; omega) hL,by rw [csOf_succ]; exact TK4.add hL,fun j hj=>by
        by_cases e:j=i
        · rw [e]; exact hgT
        · exact hg4 j (by omega)⟩,by omega⟩
   · obtain rfl:i=m:=by omega
     simp -implicitDefEqProofs (disch:=omega) [go_sem,r18,r19,r5,r6,r20]
     obtain ⟨h5,e5⟩:∃ h5,h5=h4.push (.cells #[.pointer (some ⟨tb,0,none⟩),.pointer (some ⟨cb,0,none⟩),.slice none 0 0,.int .i64 0,.complex .f64 (Fx.enc 0) (Fx.enc 0)] 144):=⟨_,rfl⟩
     have f5:Fr (fun _=>False) h4 h5:=by rw [e5]; exact (Fr.refl _ _).push
     have V5:ListB h5 h4.size [.pointer (some ⟨tb,0,none⟩),.pointer (some ⟨cb,0,none⟩),.slice none 0 0,.int .i64 0,.complex .f64 (Fx.enc 0) (Fx.enc 0)]:=by rw [e5]; exact ListB.new
     rw [← e5]
     have lowK:∀ y,k y≠none→h2.size≤y∧y<h4.size:=fun y hy=>by
       cases hc:k y with
       | none=>exact absurd hc hy
       | some t=>exact ⟨low4 y t hc,C4.low y t hc⟩
     have hk4:k h4.size=none:=by
       cases hc:k h4.size with
       | none=>rfl
       | some t=>have:=C4.low _ t hc; omega
     have z12:=f1.size
     refine ⟨f4.trans f5,.inr ⟨hg4,h4.size,c,K,rfl,fun X hX=>⟨fun y=>(k y≠none∨y=h4.size)∨X y,⟨⟨tb,cb,k,none,0,[],?_⟩,S4,HF4,hv4,by rw [elg]; exact PfI.new TK4 KS4,KS4⟩,fun y hy=>?_⟩,elg,eln,hcs4⟩⟩
     · rw [elg]
       exact ⟨V5,C4.fr0 f5,(T4.fr0 f5).mono fun y hy=>⟨by have:=V5.lt; omega,fun ho=>ho.elim (fun ho=>ho.elim (fun hk=>by have:=lowK y hk; omega) fun e=>by omega) fun hx=>by have:=hX y hx; omega⟩,⟨by simpa using SlAt.nil h5,rfl,fun w hw=>(nomatch hw),fun i kd c hi=>by simp at hi⟩,fun y hy=>.inl (.inl hy),.inl (.inr rfl),hk4,fun y ⟨_,h,_⟩=>(nomatch h),
        fun y hy=>by
         have:=V5.lt
         rcases hy with (hy | hy) | hy
         · have:=(lowK y hy).2; omega
         · omega
         · have:=hX y hy; omega,fun y hy=>⟨.inr hy,by
           cases hc:k y with
           | none=>rfl
           | some t=>have:=low4 y t hc; have:=hX y hy; omega,by have:=hX y hy; omega,fun ⟨_,h,_⟩=>(nomatch h)⟩⟩
     · rcases hy with (hy | hy) | hy
       · have:=(lowK y hy).1; exact .inl (by omega)
       · exact .inl (by omega)
       · exact .inr hy
end Xe
