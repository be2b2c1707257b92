/- Trees of orders, with a class: loads that float beside those that act. -/
import Derived.Test.YtkghjecglmmloaaGreatSl2
import Derived.Test.YtkghjecglmmloaaGreatA8
namespace Xe
open Go
def trWC (P:Program) (ops:Array Oper) (Q:Exit→Act→World→Prop) (C:World→Prop):Tr→Act→World→Prop
 | .fin sc,a,w=>seqW P ops Q (fun a w=>Q .normal a w) C sc a w
 | .br2 sc i x j y,a,w=>seqW P ops Q (fun a w=>actW P ops Q i (fun a w=>C w∧trWC P ops Q C x a w) a w∧actW P ops Q j (fun a w=>C w∧trWC P ops Q C y a w) a w) C sc a w
 | .br3 ..,_,_=>False
section
variable {P:Program} {ops:Array Oper} {Q:Exit→Act→World→Prop} {md:Region.Mode} {C:World→Prop} {lo:Nat→Bool}
theorem wpAnyT_of_treeC (hs:Region.noSelect ops=true) (hQ:∀ c a w,¬ Q (.panic c) a w) :
   ∀ (t:Tr) (listed:Array Bool) (a:Act) (w:World),listed.size=ops.size→chkT md ops lo t listed=true→C w→trWC P ops Q C t a w →
     wpAnyT P md ops Q C (fun w'=>w'.heap=w.heap) lo (fun _=>false) t.size listed a w:=by
 intro t
 induction t with
 | fin sc =>
   intro listed a w hsz hc hC h
   simp only [chkT,Bool.and_eq_true] at hc
   exact wpAnyT_of_seq (any:=false) (fin:=true) (m:=0) (N:=fun a w=>Q .normal a w) (fun _ _=>rfl) (fun h=>nomatch h) hs hQ sc listed a w (fun j hj=>(noLast_spec hc.1 j hj).elim)
     (fun a w _ hn hr=>⟨hr rfl,hn⟩) hsz hc.2 hC h
 | br2 sc i x j y ihx ihy =>
   intro listed a w hsz hc hC h
   simp only [chkT,Bool.and_eq_true,beq_iff_eq] at hc
   obtain ⟨⟨⟨⟨⟨⟨⟨c1,c2⟩,c3⟩,c4⟩,c5⟩,c6⟩,c7⟩,c8⟩:=hc
   refine wpAnyT_of_seq (any:=false) (fin:=false) (m:=x.size+1) (fun _ _=>rfl) (fun h=>nomatch h) hs hQ sc listed a w (fun j hj=>(noLast_spec c1 j hj).elim) (fun a w _ hn _=>?_) hsz c2 hC h
   refine ⟨fun h0=>(by rw [c3] at h0; cases h0),fun p hp=>?_⟩
   rw [c3] at hp
   have hz:∀ q,((after sc listed).setIfInBounds q true).size=ops.size:=fun q=>by rw [Array.size_setIfInBounds,after_size]; exact hsz
   rcases List.mem_cons.1 hp with rfl | hp
   · exact ⟨fun _=>wpOp_mono (fun a' w' h'=>⟨fun _=>h'.1,wpAnyE_of_T _ _ _ _ (ihx _ _ _ (hz _) c7 h'.1 h'.2)⟩) (actW_op hn.1),fun hf=>by rw [c4] at hf; cases hf⟩
   · obtain rfl:=List.mem_singleton.1 hp
     exact ⟨fun _=>wpOp_mono (fun a' w' h'=>⟨fun _=>h'.1,by rw [c6]; exact wpAnyE_of_T _ _ _ _ (ihy _ _ _ (hz _) c8 h'.1 h'.2)⟩) (actW_op hn.2),fun hf=>by rw [c5] at hf; cases hf⟩
 | br3 sc i x j y k z ihx ihy ihz =>
   intro listed a w hsz hc hC h
   exact h.elim
theorem wp_region_treeC {id:Nat} {a:Act} {w:World} (t:Tr) (hm:P.follows .mixedOrders=true)
  (hok:(t.size==ops.size&&Region.noSelect ops&&chkT .any ops t.loud t (Array.replicate ops.size false))=true)
  (hQ:∀ c a w,¬ Q (.panic c) a w) (hC:C { w with drawn:=w.drawn+1 }) (h:trWC P ops Q C t a { w with drawn:=w.drawn+1 }):(Code.region id ops true).wp P Q a w:=by
 simp only [Bool.and_eq_true,beq_iff_eq] at hok
 obtain ⟨⟨h1,h2⟩,h3⟩:=hok
 refine wp_region_any hm ?_
 rw [← h1]
 refine wpAny_of_E (C:=C) (nc:=fun _=>false) _ _ _ _ (wpAnyE_of_T (S:=fun w'=>w'.heap=w.heap) (lo:=t.loud) _ _ _ _ ?_)
 have:=wpAnyT_of_treeC (md:=.any) (lo:=t.loud) h2 hQ t (Array.replicate ops.size false) a _ (by simp) h3 hC h
 rw [h1]
 rw [h1] at this
 exact this
end
def trXC (P:Program) (ops:Array Oper) (Q:Exit→Env→Heap→Prop) (C:Heap→Prop):Tr→Env→Heap→Prop
 | .fin sc=>seqX P ops Q C sc
 | .br2 sc i x j y=>seqX P ops (fun _ ρ h=>actX P ops i (fun ρ h=>C h∧trXC P ops Q C x ρ h) ρ h∧actX P ops j (fun ρ h=>C h∧trXC P ops Q C y ρ h) ρ h) C sc
 | .br3 ..=>fun _ _=>False
theorem trXC_sound {P:Program} {ops:Array Oper} {n:Nat} {Q:Exit→Env→Heap→Prop} {C:Heap→Prop} (hd:(ops.toList.all (dstOk n))=true) :
   ∀ (t:Tr) (w0:World) (a:Act) (w:World),a.defers=[]→a.tmps.size=n→Like w0 w→C w.heap→trXC P ops Q C t (env a) w.heap→trWC P ops (okX n w0 Q) (fun w=>C w.heap) t a w:=by
 have mono:∀ {N N':Act→World→Prop} {Q:Exit→Act→World→Prop} (hN:∀ a w,N a w→N' a w) (sc:List (Nat × Nat)) (a:Act) (w:World),seqW P ops Q N (fun w=>C w.heap) sc a w→seqW P ops Q N' (fun w=>C w.heap) sc a w:=by
   intro N N' Q hN sc
   induction sc with
   | nil=>exact fun a w h=>hN a w h
   | cons p rest ih =>
     intro a w ⟨o,ho,h⟩
     refine ⟨o,ho,?_⟩
     split at h
     · rename_i hw
       rw [if_pos hw]
       split at h
       · rename_i h3
         rw [if_pos h3]
         exact Oper.wp_mono (fun a' w' h'=>⟨h'.1,ih _ _ h'.2⟩) h
       · rename_i h3
         rw [if_neg h3]
         split at h
         · rename_i h4
           rw [if_pos h4]
           exact Oper.wp_mono (fun a' w' h'=>ih _ _ h') h
         · rename_i h4
           rw [if_neg h4]
           obtain ⟨v,h5,h6⟩:=h
           exact ⟨v,h5,ih _ _ h6⟩
     · rename_i hw
       rw [if_neg hw]
       exact ih _ _ h
 intro t
 induction t with
 | fin sc =>
   intro w0 a w h1 h2 h3 hC h
   exact seqX_sound (Q:=Q) hd sc w0 a w h1 h2 h3 hC h
 | br2 sc i x j y ihx ihy =>
   intro w0 a w h1 h2 h3 hC h
   have:=seqX_sound (Q:=Q) hd sc w0 a w h1 h2 h3 hC h
   refine mono (fun a w hn=>?_) sc a w this
   obtain ⟨g1,g2,g3,g4,g5⟩:=hn
   exact ⟨actX_sound hd (fun a w a1 a2 a3 a4=>⟨a4.1,ihx w0 a w a1 a2 a3 a4.1 a4.2⟩) g1 g2 g3 g4,actX_sound hd (fun a w a1 a2 a3 a4=>⟨a4.1,ihy w0 a w a1 a2 a3 a4.1 a4.2⟩) g1 g2 g3 g5⟩
 | br3 sc i x j y k z ihx ihy ihz =>
   intro w0 a w h1 h2 h3 hC h
   exact h.elim
section
variable {P:Program} {n id:Nat} {ops:Array Oper} {Q:Exit→Env→Heap→Prop} {C:Heap→Prop} {ρ:Env} {h:Heap}
theorem drawTC (t:Tr) (C:Heap→Prop)
  (hC:C h) (hs:trXC P ops Q C t ρ h) (hm:P.follows .mixedOrders=true:=by kernel_rfl)
  (hok:((t.size==ops.size&&Region.noSelect ops&&chkT .any ops t.loud t (Array.replicate ops.size false))&&ops.toList.all (dstOk n))=true:=by kernel_rfl):@SemK P n ⟨.region id ops true⟩ ⟨Q⟩ ⟨ρ⟩ ⟨h⟩:=by
 rw [Bool.and_eq_true] at hok
 intro w0 a w h1 h2 h3 h4 h5
 subst h3 h4
 refine wp_region_treeC (C:=fun w=>C w.heap) t hm hok.1 okX_panic hC ?_
 exact trXC_sound hok.2 t w0 a _ h1 h2 (h5.trans ⟨rfl,rfl,rfl⟩) hC hs
@[go_sem ↓] theorem trXC_fin {sc:List (Nat × Nat)}:trXC P ops Q C (.fin sc) ρ h=seqX P ops Q C sc ρ h:=rfl
@[go_sem ↓] theorem trXC_br2 {sc:List (Nat × Nat)} {i j:Nat} {x y:Tr}:trXC P ops Q C (.br2 sc i x j y) ρ h =
 seqX P ops (fun _ ρ h=>actX P ops i (fun ρ h=>C h∧trXC P ops Q C x ρ h) ρ h∧actX P ops j (fun ρ h=>C h∧trXC P ops Q C y ρ h) ρ h) C sc ρ h:=rfl
end
end Xe
namespace Xe
open Go Tp Go.Proofs Hq
set_option maxRecDepth 16000
set_option maxHeartbeats 4000000
structure SolM (h:Heap) (N sb tb:Nat) (l:List Int):Prop where
 ex:∃ A c,ListB h sb [.pointer (some ⟨tb,0,none⟩),.slice A l.length c]∧SlAt h A c (ints l)∧N≤sb∧∀ y,blk A y→N≤y∧y≠sb
theorem SolM.fr0 {h h':Heap} {N sb tb:Nat} {l:List Int} (M:SolM h N sb tb l) (f:Fr (fun _=>False) h h'):SolM h' N sb tb l:=by
 obtain ⟨A,c,B,S,h1,h2⟩:=M.ex
 exact ⟨A,c,B.fr f fun h=>h,S.fr f fun _ _ h=>h,h1,h2⟩
section
variable {h:Heap} {T:Nat→Prop} {tb:Nat} {zs:List Nat}
theorem onew_ok:CallsH Tryz.prog 144 [.pointer (some ⟨tb,0,none⟩)] h fun r h'=>Fr (fun _=>False) h h'∧∃ sb,r=.pointer (some ⟨sb,0,none⟩)∧SolM h' h.size sb tb []:=by
 refine calls_of 8 [.tmp 2] Go.Proofs.Tryz.func144 rfl rfl rfl ?_
 simp -implicitDefEqProofs (disch:=omega) [go_sem]
 exact ⟨(Fr.refl _ _).push,⟨none,0,ListB.new (vs:=[.pointer (some ⟨tb,0,none⟩),.slice none 0 0]),SlAt.nil _,Nat.le_refl _,fun y ⟨_,h,_⟩=>(nomatch h)⟩⟩
def AssR (N sb tb:Nat) (zs:List Nat) (p z:Nat) (l:List Int) (x:Int) (r:Value) (h h':Heap):Prop :=
 Fr (fun y=>N≤y) h h'∧((alw zs z (ofP zs p l++[x])≠[]∧r=.tuple #[.slice none 0 0,.int .i64 0]∧SolM h' N sb tb (l++[x])) ∨
  ∃ (l':List Int) (e:Value) (h1:Heap),r=.tuple #[e,.int .i64 18]∧h.size≤h1.size∧ClnO (negs l') e h1 h'∧alw zs z l'=[]∧(∀ y∈l',y∈ofP zs p l++[x])∧l'.length≤l.length+1)
theorem oassert_ok (M:TabM h T tb zs) (F:Few zs) {N sb:Nat} (hT:∀ y,T y→y<N) {l:List Int} (Z:SolM h N sb tb l) {x:Int} (hx:1≤x.natAbs∧x.natAbs≤wsum zs) (hl:∀ y∈l,1≤y.natAbs∧y.natAbs≤wsum zs) (hs:l.length<2^36) (n1:x∉l) (n2:-x∉l) {p z:Nat} (hp:p=(litAt zs x).p) (hz:zs[p]?=some z) :
  CallsH Tryz.prog 145 [.pointer (some ⟨sb,0,none⟩),.int .i64 x] h fun r h'=>AssR N sb tb zs p z l x r h h':=by
 have hsum:=F.sum
 obtain ⟨A,c,B,S,hN,hA⟩:=Z.ex
 have b0:=B.at' 0 _ rfl
 have b1:=B.at' 1 _ rfl
 refine calls_of 81 [.tmp 4,.tmp 5] Go.Proofs.Tryz.func145 rfl rfl rfl ?_
 simp -implicitDefEqProofs (disch:=omega) [go_sem,b0]
 refine useC (oatom_ok M F hx) ?_
 rintro _ h1 ⟨rfl,f1⟩
 unfold atV
 rw [← hp]
 obtain ⟨h2,e2⟩:∃ h2,h2=hset (hset (hset (h1.push (.cells #[.int .i64 0,.int .i64 0,.int .i64 0] 150)) ⟨h1.size,0,none⟩ (.int .i64 (litAt zs x).k)) ⟨h1.size,1,none⟩ (.int .i64 p)) ⟨h1.size,2,none⟩ (.int .i64 (litAt zs x).i):=⟨_,rfl⟩
 have f2:Fr (fun _=>False) h1 h2:=by rw [e2]; exact ((((Fr.refl _ _).push).new (Nat.le_refl _)).new (Nat.le_refl _)).new (Nat.le_refl _)
 have V2:ListB h2 h1.size [.int .i64 (litAt zs x).k,.int .i64 p,.int .i64 (litAt zs x).i]:=by
  rw [e2]
  exact (((ListB.new (vs:=[.int .i64 0,.int .i64 0,.int .i64 0])).set (i:=0) (.int .i64 (litAt zs x).k) (by simp)).set (i:=1) (.int .i64 p) (by simp)).set (i:=2) (.int .i64 (litAt zs x).i) (by simp)
 have f02:=f1.trans f2
 have B2:=B.fr f02 fun h=>h
 have S2:=S.fr f02 fun _ _ h=>h
 have M2:=M.fr0 f02
 have c0:=B2.at' 0 _ rfl
 have c1:=B2.at' 1 _ rfl
 have v1:=V2.at' 1 _ rfl
 have b11:=(f1.cell (hcell_lt b1) fun h=>h).trans b1
 have nsb:¬ sb=h1.size:=by have:=hcell_lt b1; have:=f1.size; omega
 have b12:hcell (h1.push (.cells #[.int .i64 0,.int .i64 0,.int .i64 0] 150)) ⟨sb,1,none⟩=some (.slice A l.length c):=((Fr.refl (fun _=>False) h1).push.cell (hcell_lt b11) fun h=>h).trans b11
 simp -implicitDefEqProofs (disch:=omega) [go_sem,nsb,b12]
 rw [← e2]
 refine useC (contains_ok S2.row (by rfl) (by omega) x) ?_
 rintro _ h3 ⟨rfl,rfl⟩
 simp -implicitDefEqProofs (disch:=omega) [go_sem,n1,c1]
 refine useC (contains_ok S2.row (by rfl) (by omega) (-x)) ?_
 rintro _ h3 ⟨rfl,rfl⟩
 simp -implicitDefEqProofs (disch:=omega) [go_sem,n2,c1]
 refine drawTC (.br2 [(0,0),(1,0),(2,0),(3,2),(4,0),(5,2),(6,0),(7,0),(8,0),(9,2),(11,0)] 10 (.fin [(12,3),(13,3),(14,0)]) 12 (.fin [(10,3),(13,3),(14,0)])) (fun h'=>hcell h' ⟨sb,0,none⟩=some (.pointer (some ⟨tb,0,none⟩))∧hcell h' ⟨h1.size,1,none⟩=some (.int .i64 p)∧hcell h' ⟨sb,1,none⟩=some (.slice A l.length c)) ⟨c0,v1,c1⟩ ?_
 simp -implicitDefEqProofs (disch:=omega) [go_sem]
 refine float2 (.pointer (some ⟨tb,0,none⟩)) (fun h' hC=>by simp -implicitDefEqProofs (disch:=omega) [go_sem,hC.1]) ?_
 simp -implicitDefEqProofs (disch:=omega) [go_sem]
 refine float2 (.int .i64 p) (fun h' hC=>by simp -implicitDefEqProofs (disch:=omega) [go_sem,hC.2.1]) ?_
 simp -implicitDefEqProofs (disch:=omega) [go_sem]
 refine float2 (.slice A l.length c) (fun h' hC=>by simp -implicitDefEqProofs (disch:=omega) [go_sem,hC.2.2]) ?_
 simp -implicitDefEqProofs (disch:=omega) [go_sem]
 have cls:∀ {h':Heap},Fr (fun _=>False) h3 h'→hcell h' ⟨sb,0,none⟩=some (.pointer (some ⟨tb,0,none⟩))∧hcell h' ⟨h1.size,1,none⟩=some (.int .i64 p)∧hcell h' ⟨sb,1,none⟩=some (.slice A l.length c):=fun f=>⟨(f.cell (hcell_lt c0) fun h=>h).trans c0,(f.cell (hcell_lt v1) fun h=>h).trans v1,(f.cell (hcell_lt c1) fun h=>h).trans c1⟩
 have hol:=ofP_len (zs:=zs) (p:=p) (l:=l)
 have ei:ints (ofP zs p l)++[.int .i64 x]=ints (ofP zs p l++[x]):=by unfold ints; rw [List.map_append]; rfl
 have hlq:(ofP zs p l++[x]).length=(ofP zs p l).length+1:=by rw [List.length_append]; rfl
 refine ⟨?_,?_⟩
 case' refine_1 =>
  refine useC (oof_ok M2 F (p:=p) S2.row rfl (by omega) hl) ?_
  rintro _ h4 ⟨f4,Q,qc,rfl,SQ,ownQ⟩
  refine ⟨cls f4,?_⟩
  simp -implicitDefEqProofs (disch:=omega) [go_sem]
  refine build1 rfl rfl ?_
  have f5:Fr (fun _=>False) h4 (h4.push (.cells #[.int .i64 x] 3)):=(Fr.refl _ _).push
  refine ⟨cls (f4.trans f5),?_⟩
  simp -implicitDefEqProofs (disch:=omega) [go_sem]
  refine appendB (vs:=ints (ofP zs p l)) (ws:=[.int .i64 x]) (SQ.fr f5 fun _ _ h=>h) (by rw [ints_len]) (SlAt.new (vs:=[.int .i64 x])).row rfl (by simp [Value.oneCell']) (by omega) (by omega) ?_
  intro B6 bc6 h6 S6 f6 hB6
  have own6:∀ y,blk B6 y→h3.size≤y:=fun y hy=>(hB6 y hy).elim (ownQ y) fun h=>by have:=f4.size; have:=f5.size; omega
  have f36:Fr (fun _=>False) h3 h6:=(f4.trans f5).trans' f6 fun y hy hb=>by have:=ownQ y hb; omega
  refine ⟨cls f36,?_⟩
  simp -implicitDefEqProofs (disch:=omega) [go_sem]
  clear f4 SQ ownQ f5 f6 hB6
 case' refine_2 =>
  refine build1 rfl rfl ?_
  have f5:Fr (fun _=>False) h3 (h3.push (.cells #[.int .i64 x] 3)):=(Fr.refl _ _).push
  have W5:SlAt (h3.push (.cells #[.int .i64 x] 3)) (some ⟨h3.size,0,none⟩) 1 [.int .i64 x]:=SlAt.new (vs:=[.int .i64 x])
  refine ⟨cls f5,?_⟩
  simp -implicitDefEqProofs (disch:=omega) [go_sem]
  refine useC (oof_ok (M2.fr0 f5) F (p:=p) (S2.fr f5 fun _ _ h=>h).row rfl (by omega) hl) ?_
  rintro _ h4 ⟨f4,Q,qc,rfl,SQ,ownQ⟩
  refine ⟨cls (f5.trans f4),?_⟩
  simp -implicitDefEqProofs (disch:=omega) [go_sem]
  refine appendB (vs:=ints (ofP zs p l)) (ws:=[.int .i64 x]) SQ (by rw [ints_len]) (W5.fr f4 fun _ _ h=>h).row rfl (by simp [Value.oneCell']) (by omega) (by omega) ?_
  intro B6 bc6 h6 S6 f6 hB6
  have z35:=f5.size
  have own6:∀ y,blk B6 y→h3.size≤y:=fun y hy=>(hB6 y hy).elim (fun h=>by have:=ownQ y h; omega) fun h=>by have:=f4.size; omega
  have f36:Fr (fun _=>False) h3 h6:=(f5.trans f4).trans' f6 fun y hy hb=>by have:=ownQ y hb; omega
  refine ⟨cls f36,?_⟩
  simp -implicitDefEqProofs (disch:=omega) [go_sem]
  clear f4 SQ ownQ f5 f6 hB6 W5 z35
 all_goals
  rw [ei] at S6
  have M6:=M2.fr0 f36
  obtain ⟨g0,g1,g2⟩:=cls f36
  have hx6:∀ y∈ofP zs p l++[x],1≤y.natAbs∧y.natAbs≤wsum zs:=fun y hy=>by
    rcases List.mem_append.1 hy with h | h
    · exact hl y (List.mem_filter.1 h).1
    · rw [List.mem_singleton] at h; rw [h]; exact hx
  refine drawK [(0,0),(1,0),(2,0),(3,1),(4,0),(5,1),(6,0),(7,3),(8,0),(9,0)] ?_
  simp -implicitDefEqProofs (disch:=omega) [go_sem,g0,g1]
  refine useC (oallowed_ok M6 F hz S6.row hlq.symm (by omega) hx6) ?_
  rintro _ h7 ⟨f7,Q7,q7,rfl,SQ7,own7⟩
  have f37:=f36.trans f7
  have f07:=f02.trans f37
  have M7:=M2.fr0 f37
  have S7:=S6.fr f7 fun _ _ h=>h
  obtain ⟨k0,k1,k2⟩:=cls f37
  have z07:=f07.size
  cases hq:alw zs z (ofP zs p l++[x]) with
  | nil =>
    simp -implicitDefEqProofs (disch:=omega) [go_sem]
    refine drawK [(0,0),(1,0),(2,0),(3,1),(4,0),(5,1),(6,0),(7,3),(8,3),(9,0),(10,0)] ?_
    simp -implicitDefEqProofs (disch:=omega) [go_sem,k0,k1]
    refine useC (oexpl_ok M7 F hz S7.row hlq.symm (by omega) hx6 hq) ?_
    rintro _ h8 ⟨l',⟨f8,Q8,q8,rfl,SQ8,own8⟩,ha8,hs8,hl8⟩
    simp -implicitDefEqProofs (disch:=omega) [go_sem]
    refine useC (onegated_ok SQ8.row rfl (by omega) fun y hy=>by have:=hx6 y (hs8 y hy); omega) ?_
    rintro _ h9 hO
    have f9:=hO.1
    simp -implicitDefEqProofs (disch:=omega) [go_sem]
    exact ⟨((f07.trans f8).trans f9).mono fun _ _ h=>h.elim,.inr ⟨l',_,h8,rfl,by have:=f8.size; omega,hO,ha8,hs8,by omega⟩⟩
  | cons q0 qs =>
    have hne:¬ (((q0::qs).length:Nat):Int)=0:=by simp; omega
    simp -implicitDefEqProofs (disch:=omega) [go_sem,hne,k2]
    refine build1 rfl rfl ?_
    have f8:Fr (fun _=>False) h7 (h7.push (.cells #[.int .i64 x] 3)):=(Fr.refl _ _).push
    simp -implicitDefEqProofs (disch:=omega) [go_sem]
    refine appendB (vs:=ints l) (ws:=[.int .i64 x]) (S2.fr (f37.trans f8) fun _ _ h=>h) (by rw [ints_len]) (SlAt.new (vs:=[.int .i64 x])).row rfl (by simp [Value.oneCell']) (by omega) (by omega) ?_
    intro B9 bc9 h9 S9 f9 hB9
    have nA:¬ blk A sb:=fun h=>(hA _ h).2 rfl
    have B9':=(B2.fr (f37.trans f8) fun h=>h).fr f9 nA
    have fz:=B9'.fz
    have b91:=B9'.at' 1 _ rfl
    simp -implicitDefEqProofs (disch:=omega) [go_sem,b91,fz]
    have f09:Fr (fun y=>N≤y) h h9:=((f07.trans f8).mono fun _ _ h=>h.elim).trans (f9.mono fun y _ hy=>(hA y hy).1)
    have e10:ints l++[.int .i64 x]=ints (l++[x]):=by unfold ints; rw [List.map_append]; rfl
    have hll:(l++[x]).length=l.length+1:=by rw [List.length_append]; rfl
    have hB9':∀ y,blk B9 y→N≤y∧y≠sb:=fun y hy=>by
     rcases hB9 y hy with h | h
     · exact hA y h
     · have:=f8.size; have:=B.lt; omega
    rw [e10] at S9
    refine ⟨f09.set hN,.inl ⟨by rw [hq]; exact List.cons_ne_nil _ _,rfl,B9,bc9,?_,S9.keep (fun y hy=>hset_other fun e=>(hB9' y hy).2 e) (by rw [hset_size]; exact Nat.le_refl _),hN,hB9'⟩⟩
    rw [hll]
    exact B9'.set (i:=1) _ Nat.one_lt_two
end
def lst (zs:List Nat) (l:List Int) (p:Nat):Int:=(alw zs (zs.getD p 0) (ofP zs p l)).headD 0
def snp (zs:List Nat) (l:List Int) (i:Nat):List Int:=(List.range i).map (lst zs l)
theorem snp_len {zs:List Nat} {l:List Int} {i:Nat}:(snp zs l i).length=i:=by simp [snp]
theorem snp_at {zs:List Nat} {l:List Int} {i p:Nat} (h:p<i):(snp zs l i)[p]?=some (lst zs l p):=by unfold snp; rw [List.getElem?_map,List.getElem?_range h]; rfl
section
variable {h:Heap} {T:Nat→Prop} {tb:Nat} {zs:List Nat} {N sb:Nat} {l:List Int}
theorem sallowed_ok (M:TabM h T tb zs) (F:Few zs) (Z:SolM h N sb tb l) (hl:∀ y∈l,1≤y.natAbs∧y.natAbs≤wsum zs) (hs:l.length<2^36) {p z:Nat} (hz:zs[p]?=some z) :
  CallsH Tryz.prog 197 [.pointer (some ⟨sb,0,none⟩),.int .i64 p] h fun r h'=>RowN (alw zs z (ofP zs p l)) r h h':=by
 have hpl:=(List.getElem?_eq_some_iff.1 hz).1
 have hlen:=F.len
 obtain ⟨A,c,B,S,hN,hA⟩:=Z.ex
 have b0:=B.at' 0 _ rfl
 have b1:=B.at' 1 _ rfl
 refine calls_of 32 [.tmp 4] Go.Proofs.Tryz.func197 rfl rfl rfl ?_
 simp -implicitDefEqProofs (disch:=omega) [go_sem,b0]
 refine useC (apacks_ok M) ?_
 rintro _ h1 ⟨rfl,rfl⟩
 simp -implicitDefEqProofs (disch:=omega) [go_sem]
 refine drawC [(0,0),(1,0),(2,0),(3,2),(4,0),(5,0),(6,0),(7,0),(8,1),(9,0),(10,0),(11,0),(12,0),(13,1),(14,3),(15,3),(16,0)] (fun h'=>hcell h' ⟨sb,0,none⟩=some (.pointer (some ⟨tb,0,none⟩))) b0 ?_
 simp -implicitDefEqProofs (disch:=omega) [go_sem,b0,b1]
 refine float2 (.pointer (some ⟨tb,0,none⟩)) (fun h' hC=>by simp -implicitDefEqProofs (disch:=omega) [go_sem,hC]) ?_
 simp -implicitDefEqProofs (disch:=omega) [go_sem,b0,b1]
 refine useC (oof_ok M F (p:=p) S.row rfl (by omega) hl) ?_
 rintro _ h4 ⟨f4,Q,qc,rfl,SQ,ownQ⟩
 refine ⟨(f4.cell (hcell_lt b0) fun h=>h).trans b0,?_⟩
 have hol:=ofP_len (zs:=zs) (p:=p) (l:=l)
 simp -implicitDefEqProofs (disch:=omega) [go_sem]
 refine useC (oallowed_ok (M.fr0 f4) F hz SQ.row rfl (by omega) fun y hy=>hl y (List.mem_filter.1 hy).1) ?_
 rintro _ h5 ⟨f5,Q5,q5,rfl,S5,own5⟩
 refine ⟨((f4.trans f5).cell (hcell_lt b0) fun h=>h).trans b0,?_⟩
 simp -implicitDefEqProofs (disch:=omega) [go_sem]
 exact ⟨f4.trans f5,Q5,q5,rfl,S5,fun y hy=>Nat.le_trans f4.size (own5 y hy)⟩
structure SnJ (h0:Heap) (sb:Nat) (zs:List Nat) (l:List Int) (ρ:Env) (h:Heap):Prop where
 r0:ρ 0=.pointer (some ⟨sb,0,none⟩)
 r9:ρ 9=.int .i64 zs.length
 fr:Fr (fun _=>False) h0 h
 ex:∃ (i:Nat) (B:Option Addr) (bc:Nat),ρ 10=.int .i64 i∧i≤zs.length∧ρ 3=.slice B i bc∧SlAt h B bc (ints (snp zs l i))∧∀ y,blk B y→h0.size≤y
theorem osnap_ok (M:TabM h T tb zs) (F:Few zs) (Z:SolM h N sb tb l) (hl:∀ y∈l,1≤y.natAbs∧y.natAbs≤wsum zs) (hs:l.length<2^36) (hne:∀ (p:Nat) z,zs[p]?=some z→alw zs z (ofP zs p l)≠[]) :
   CallsH Tryz.prog 146 [.pointer (some ⟨sb,0,none⟩)] h fun r h'=>RowN (snp zs l zs.length) r h h':=by
 have hlen:=F.len
 obtain ⟨A,c,B,S,hN,hA⟩:=Z.ex
 have b0:=B.at' 0 _ rfl
 refine calls_of 23 [.tmp 2] Go.Proofs.Tryz.func146 rfl rfl rfl ?_
 simp -implicitDefEqProofs (disch:=omega) [go_sem,b0]
 refine useC (apacks_ok M) ?_
 rintro _ h1 ⟨rfl,rfl⟩
 simp -implicitDefEqProofs (disch:=omega) [go_sem]
 refine loopK (SnJ h1 sb zs l) (fun ρ _=>zs.length-(intOf (ρ 10)).toNat) (by kernel_rfl) ?_ ?_
 · exact ⟨rfl,rfl,Fr.refl _ _,0,none,0,rfl,Nat.zero_le _,rfl,SlAt.nil _,fun y ⟨_,h,_⟩=>(nomatch h)⟩
 · rintro ρ h2 ⟨r0,r9,f2,i,X,xc,r10,hi,r3,SX,hX⟩
   by_cases hin:i<zs.length
   · obtain ⟨z,hz⟩:∃ z,zs[i]?=some z:=⟨_,List.getElem?_eq_getElem hin⟩
     simp -implicitDefEqProofs (disch:=omega) [go_sem,r0,r3,r9,r10]
     refine useC (sallowed_ok (M.fr0 f2) F (Z.fr0 f2) hl hs hz) ?_
     rintro _ h3 ⟨f3,Q,qc,rfl,SQ,ownQ⟩
     obtain ⟨q0,qs,hq⟩:∃ q0 qs,alw zs z (ofP zs i l)=q0::qs:=by
      cases hc:alw zs z (ofP zs i l) with
      | nil=>exact absurd hc (hne i z hz)
      | cons a b=>exact ⟨a,b,rfl⟩
     have hlst:lst zs l i=q0:=by unfold lst; rw [List.getD_eq_getElem?_getD,hz]; simp [hq]
     obtain ⟨bk,off,rfl,hc⟩:=SQ.row.get (by rw [ints_len,hq]; simp)
     have c0:=hc 0 _ (ints_at (show (alw zs z (ofP zs i l))[0]?=some q0 by rw [hq]; rfl))
     rw [Nat.add_zero] at c0
     have hpos:0<(alw zs z (ofP zs i l)).length:=by rw [hq]; simp
     simp -implicitDefEqProofs (disch:=omega) [go_sem,r0,r3,r9,r10,c0]
     refine build1 rfl rfl ?_
     have f4:Fr (fun _=>False) h3 (h3.push (.cells #[.int .i64 q0] 3)):=(Fr.refl _ _).push
     simp -implicitDefEqProofs (disch:=omega) [go_sem,r0,r3,r9,r10]
     refine appendB (vs:=ints (snp zs l i)) (ws:=[.int .i64 q0]) (SX.fr (f3.trans f4) fun _ _ h=>h) (by rw [ints_len,snp_len]) (SlAt.new (vs:=[.int .i64 q0])).row rfl (by simp [Value.oneCell']) (by omega) (by omega) ?_
     intro B5 bc5 h5 S5 f5 hB5
     simp -implicitDefEqProofs (disch:=omega) [go_sem,r0,r3,r9,r10]
     have e5:ints (snp zs l i)++[.int .i64 q0]=ints (snp zs l (i+1)):=by
      unfold snp ints
      rw [List.range_succ,List.map_append,List.map_append]
      simp [hlst]
     rw [e5] at S5
     have f24:=f3.trans f4
     have z24:=f24.size
     exact ⟨⟨r0,r9,(f2.trans f24).trans' f5 fun y hy hb=>by have:=hX y hb; omega,i+1,B5,bc5,rfl,by omega,rfl,S5,fun y hy=>(hB5 y hy).elim (hX y) fun h=>by have:=f2.size; omega⟩,by omega⟩
   · obtain rfl:i=zs.length:=by omega
     simp -implicitDefEqProofs (disch:=omega) [go_sem,r0,r3,r9,r10]
     exact ⟨f2,X,xc,by rw [snp_len],SX,hX⟩
end
end Xe
namespace Xe
open Go Tp Go.Proofs Hq
set_option maxRecDepth 16000
def mlit (bs:List Bool) (j:Nat):Int:=if bs.getD j false then (j:Int)+1 else -((j:Int)+1)
def mlits (bs:List Bool) (i:Nat):List Int:=(List.range i).map (mlit bs)
theorem mlit_abs {bs:List Bool} {j:Nat}:(mlit bs j).natAbs=j+1:=by unfold mlit; split <;> omega
theorem mlits_succ {bs:List Bool} {i:Nat}:mlits bs (i+1)=mlits bs i++[mlit bs i]:=by unfold mlits; rw [List.range_succ,List.map_append]; rfl
theorem mlits_len {bs:List Bool} {i:Nat}:(mlits bs i).length=i:=by simp [mlits]
theorem mem_mlits {bs:List Bool} {i:Nat} {x:Int}:x∈mlits bs i↔∃ j,j<i∧mlit bs j=x:=by
 unfold mlits
 rw [List.mem_map]
 exact ⟨fun ⟨j,h,e⟩=>⟨j,List.mem_range.1 h,e⟩,fun ⟨j,h,e⟩=>⟨j,List.mem_range.2 h,e⟩⟩
theorem mlits_rng {bs:List Bool} {i:Nat} {x:Int} (h:x∈mlits bs i):1≤x.natAbs∧x.natAbs≤i:=by
 obtain ⟨j,h1,rfl⟩:=mem_mlits.1 h
 rw [mlit_abs]; omega
theorem mlits_no {bs:List Bool} {i:Nat}:mlit bs i∉mlits bs i∧-mlit bs i∉mlits bs i:=by
 refine ⟨fun h=>?_,fun h=>?_⟩
 · have:=mlits_rng h; rw [mlit_abs] at this; omega
 · have:=mlits_rng h; rw [Int.natAbs_neg,mlit_abs] at this; omega
theorem mlits_one {bs:List Bool} {i:Nat} {x:Int} (h:x∈mlits bs i) (h2:-x∈mlits bs i):False:=by
 obtain ⟨j,h1,rfl⟩:=mem_mlits.1 h
 obtain ⟨k,h3,e⟩:=mem_mlits.1 h2
 have h4:=congrArg Int.natAbs e
 rw [Int.natAbs_neg,mlit_abs,mlit_abs] at h4
 obtain rfl:k=j:=by omega
 have:=mlit_abs (bs:=bs) (j:=k)
 omega
theorem mlit_MB {bs:List Bool} {j:Nat} (hj:j<bs.length):MB bs (mlit bs j):=by
 unfold MB
 rw [mlit_abs,if_pos (by omega)]
 unfold truB
 rw [mlit_abs,if_neg (by omega),Nat.add_sub_cancel,List.getElem?_eq_getElem hj]
 unfold mlit
 rw [List.getD_eq_getElem?_getD,List.getElem?_eq_getElem hj]
 simp only [Option.getD_some]
 cases bs[j] <;> simp <;> omega
theorem ofP_app {zs:List Nat} {p:Nat} {l:List Int} {x:Int}:ofP zs p (l++[x])=if (litAt zs x).p=p then ofP zs p l++[x] else ofP zs p l:=by
 unfold ofP
 rw [List.filter_append]
 split
 · rename_i h; simp [h]
 · rename_i h; simp [h]
structure ThyK (zs:List Nat) (K:List Int):Prop where
 ne:K≠[]
 ex:∃ (p z:Nat),zs[p]?=some z∧(∀ x∈K,(1≤x.natAbs∧x.natAbs≤wsum zs)∧(litAt zs x).p=p)∧∀ r:Int,-1≤r→r<(z:Int)→∃ x∈K,litA zs x r=true
theorem litAt_neg {zs:List Nat} {x:Int}:litAt zs (-x)=litAt zs x:=by unfold litAt; rw [Int.natAbs_neg]
theorem litA_neg {zs:List Nat} {x r:Int} (hx:x≠0):litA zs (-x) r=!litA zs x r:=by
 unfold litA
 rw [litAt_neg]
 have:decide (0 < -x)=!decide (0<x):=by
  by_cases h:0<x
  · rw [decide_eq_true h,decide_eq_false (by omega)]; rfl
  · rw [decide_eq_false h,decide_eq_true (by omega)]; rfl
 rw [this]
 cases isA (litAt zs x) r <;> cases decide (0<x) <;> rfl
theorem ThyK.sat {zs:List Nat} {K:List Int} (H:ThyK zs K) {ch:List Int} (V:ValC zs ch):SatM (MB (tru zs ch)) K:=by
 obtain ⟨p,z,hz,h1,h2⟩:=H.ex
 have hp:=(List.getElem?_eq_some_iff.1 hz).1
 obtain ⟨r,hr⟩:∃ r,ch[p]?=some r:=⟨_,List.getElem?_eq_getElem (by rw [V.len]; exact hp)⟩
 have hv:=V.at' p z r hz hr
 obtain ⟨x,hx,hl⟩:=h2 r hv.1 hv.2
 refine ⟨x,hx,(MB_tru (h1 x hx).1).2 ?_⟩
 rw [(h1 x hx).2,List.getD_eq_getElem?_getD,hr]
 exact hl
theorem thy_of {zs:List Nat} {p z:Nat} (hz:zs[p]?=some z) {l' K:List Int} {o:Option (List Int)} (hn:wsum zs≤16777216) (ha:alw zs z l'=[]) (hl:∀ x∈l',(1≤x.natAbs∧x.natAbs≤wsum zs)∧(litAt zs x).p=p) (hC:CleanR (negs l') (some K)):ThyK zs K:=by
 have hm:∀ x,x∈K↔-x∈l':=fun x=>by
   rw [hC.2 x]
   unfold negs
   rw [List.mem_map]
   constructor
   · rintro ⟨⟨y,hy,rfl⟩,_⟩; rw [Int.neg_neg]; exact hy
   · intro h
     refine ⟨⟨-x,h,Int.neg_neg x⟩,?_⟩
     have:=(hl _ h).1
     unfold okL; omega
 have hne:l'≠[]:=fun e=>by rw [e] at ha; exact alw_nil ha
 refine ⟨fun e=>?_,p,z,hz,fun x hx=>?_,fun r h1 h2=>?_⟩
 · cases l' with
   | nil=>exact hne rfl
   | cons y ys =>
     have:=(hm (-y)).2 (by rw [Int.neg_neg]; exact List.mem_cons_self)
     rw [e] at this; cases this
 · have:=hl _ ((hm x).1 hx)
   rw [Int.natAbs_neg,litAt_neg] at this
   exact this
 · refine Classical.byContradiction fun hno=>?_
   have:r∈alw zs z l':=mem_alw.2 ⟨⟨h1,h2⟩,fun x hx=>?_⟩
   · rw [ha] at this; cases this
   · have hxr:=(hl x hx).1
     refine Classical.byContradiction fun hf=>hno ⟨-x,(hm (-x)).2 (by rw [Int.neg_neg]; exact hx),?_⟩
     rw [litA_neg (by omega)]
     simpa using hf
theorem choice_of {zs:List Nat} {bs:List Bool} (hb:bs.length=wsum zs) (hne:∀ (p:Nat) z,zs[p]?=some z→alw zs z (ofP zs p (mlits bs bs.length))≠[]) :
   ValC zs (snp zs (mlits bs bs.length) zs.length)∧tru zs (snp zs (mlits bs bs.length) zs.length)=bs:=by
 have key:∀ (p z:Nat),zs[p]?=some z→lst zs (mlits bs bs.length) p∈alw zs z (ofP zs p (mlits bs bs.length)):=fun p z hz=>by
   have:=hne p z hz
   unfold lst
   rw [List.getD_eq_getElem?_getD,hz]
   simp only [Option.getD_some]
   cases hc:alw zs z (ofP zs p (mlits bs bs.length)) with
   | nil=>exact absurd hc this
   | cons a b=>simp
 refine ⟨⟨snp_len,fun p z r hz hr=>?_⟩,?_⟩
 · rw [snp_at (List.getElem?_eq_some_iff.1 hz).1] at hr
   cases hr
   exact (mem_alw.1 (key p z hz)).1
 · refine List.ext_getElem? fun u=>?_
   by_cases hu:u<wsum zs
   · rw [tru_at hu]
     obtain ⟨z,hz⟩:=at_pack hu
     have hp:=(List.getElem?_eq_some_iff.1 hz).1
     rw [List.getD_eq_getElem?_getD,snp_at hp]
     simp only [Option.getD_some]
     have hub:u<bs.length:=by omega
     have hm:mlit bs u∈ofP zs (atN zs 0 u).p (mlits bs bs.length):=by
      unfold ofP
      rw [List.mem_filter]
      refine ⟨mem_mlits.2 ⟨u,hub,rfl⟩,?_⟩
      unfold litAt
      rw [mlit_abs,Nat.add_sub_cancel]
      simp
     have hl:=(mem_alw.1 (key _ z hz)).2 _ hm
     unfold litA litAt at hl
     rw [mlit_abs,Nat.add_sub_cancel] at hl
     rw [List.getElem?_eq_getElem hub]
     have hpos:decide (0<mlit bs u)=bs[u]:=by
      unfold mlit
      rw [List.getD_eq_getElem?_getD,List.getElem?_eq_getElem hub]
      simp only [Option.getD_some]
      cases bs[u] <;> simp <;> omega
     rw [hpos] at hl
     rw [beq_iff_eq] at hl
     rw [hl]
   · rw [List.getElem?_eq_none (by rw [tru_len]; omega),List.getElem?_eq_none (by omega)]
end Xe
namespace Xe
open Go Tp Go.Proofs Hq
set_option maxRecDepth 16000
set_option maxHeartbeats 4000000
structure PfW (h:Heap) (O:Nat→Prop) (P:Option Addr) (pc:Nat) (pf:List (Int × List Int)) (vs:List Value):Prop where
 S:SlAt h P (pc*2) vs
 len:vs.length=pf.length*2
 one:∀ w∈vs,w.oneCell'=true
 at':∀ (i:Nat) kd c,pf[i]?=some (kd,c)→∃ A d,vs[i*2]?=some (.int .i64 kd)∧vs[i*2+1]?=some (.slice A c.length d)∧RowAt h A (ints c)∧∀ y,blk A y→y<h.size∧¬ O y
structure ESt (O O':Nat→Prop) (h h':Heap):Prop where
 own:∀ y,O' y→O y∨h.size≤y
 fr:Fr O h h'
structure EngB (h:Heap) (O X:Nat→Prop) (gb tb cb:Nat) (zs:List Nat) (k:Nat→Option CT) (c:CSt) (P:Option Addr) (pc:Nat) (vs:List Value) (pf:List (Int × List Int)) (seen:Nat) (st tn:Int):Prop where
 B:ListB h gb [.pointer (some ⟨tb,0,none⟩),.pointer (some ⟨cb,0,none⟩),.slice P pf.length pc,.int .i64 seen,.complex .f64 (Fx.enc st) (Fx.enc tn)]
 C:CoreM h cb k c
 T:TabM h (fun y=>y<h.size∧¬ O y) tb zs
 S:PfW h O P pc pf vs
 kO:∀ y,k y≠none→O y
 gO:O gb
 kg:k gb=none
 PO:∀ y,blk P y→O y∧k y=none∧y≠gb
 low:∀ y,O y→y<h.size
 XO:∀ y,X y→O y∧k y=none∧y≠gb∧¬ blk P y
structure EngM (h:Heap) (O X:Nat→Prop) (gb:Nat) (zs:List Nat) (c:CSt) (pf:List (Int × List Int)) (seen:Nat) (st tn:Int):Prop where
 ex:∃ tb cb k P pc vs,EngB h O X gb tb cb zs k c P pc vs pf seen st tn
section
variable {h h' h'':Heap} {O O' O'' X:Nat→Prop} {gb tb cb:Nat} {zs:List Nat} {k:Nat→Option CT} {c:CSt} {P:Option Addr} {pc:Nat} {vs:List Value} {pf:List (Int × List Int)} {seen:Nat} {st tn:Int}
theorem ESt.refl:ESt O O h h:=⟨fun _ h=>.inl h,Fr.refl _ _⟩
theorem ESt.trans (a:ESt O O' h h') (b:ESt O' O'' h' h''):ESt O O'' h h'' :=
 ⟨fun y hy=>(b.own y hy).elim (a.own y) fun hh=>.inr (Nat.le_trans a.fr.size hh),a.fr.trans' b.fr fun y hy ho=>(a.own y ho).elim (fun h=>h) fun hh=>by omega⟩
theorem ESt.fr0 (f:Fr (fun _=>False) h h'):ESt O O h h':=⟨fun _ h=>.inl h,f.mono fun _ _ h=>h.elim⟩
theorem ESt.imm (a:ESt O O' h h') {y:Nat} (hy:y<h.size∧¬ O y):y<h'.size∧¬ O' y:=⟨Nat.lt_of_lt_of_le hy.1 a.fr.size,fun ho=>(a.own y ho).elim hy.2 fun hh=>by omega⟩
theorem PfW.next (S:PfW h O P pc pf vs) (a:ESt O O' h h') (S':SlAt h' P (pc*2) vs):PfW h' O' P pc pf vs where
 S:=S'
 len:=S.len
 one:=S.one
 at' i kd c hi:=by
  obtain ⟨A,d,h1,h2,h3,h4⟩:=S.at' i kd c hi
  exact ⟨A,d,h1,h2,h3.fr a.fr fun y hy=>(h4 y hy).2,fun y hy=>a.imm (h4 y hy)⟩
theorem EngB.tab (E:EngB h O X gb tb cb zs k c P pc vs pf seen st tn) (a:ESt O O' h h'):TabM h' (fun y=>y<h'.size∧¬ O' y) tb zs :=
 (E.T.fr a.fr fun _ hy=>hy.2).mono fun _ hy=>a.imm hy
theorem EngB.core (E:EngB h O X gb tb cb zs k c P pc vs pf seen st tn) {k':Nat→Option CT} {c':CSt} (C':CoreM h' cb k' c') (s:KSt k k' h h') :
   ESt O (fun y=>O y∨k' y≠none) h h'∧EngB h' (fun y=>O y∨k' y≠none) X gb tb cb zs k' c' P pc vs pf seen st tn:=by
 have a:ESt O (fun y=>O y∨k' y≠none) h h':=⟨fun y hy=>hy.elim .inl fun hk=>by
   cases hc:k' y with
   | none=>exact absurd hc hk
   | some t=>exact (s.own y t hc).elim (fun hh=>.inl (E.kO y (by rw [hh]; exact fun h=>(nomatch h)))) .inr,s.fr.mono fun y _ hy=>E.kO y hy⟩
 refine ⟨a,?_,C',E.tab a,E.S.next a (E.S.S.fr s.fr fun y hy hk=>hk (E.PO y hy).2.1),fun y hy=>.inr hy,.inl E.gO,s.free E.kg E.B.lt,fun y hy=>⟨.inl (E.PO y hy).1,s.free (E.PO y hy).2.1 (E.low y (E.PO y hy).1),(E.PO y hy).2.2⟩,fun y hy=>?_,fun y hy=>⟨.inl (E.XO y hy).1,s.free (E.XO y hy).2.1 (E.low y (E.XO y hy).1),(E.XO y hy).2.2⟩⟩
 · exact s.lb E.B E.kg
 · rcases hy with hy | hy
   · exact Nat.lt_of_lt_of_le (E.low y hy) s.fr.size
   · cases hc:k' y with
     | none=>exact absurd hc hy
     | some t=>exact C'.low y t hc
theorem EngB.fr0 (E:EngB h O X gb tb cb zs k c P pc vs pf seen st tn) (f:Fr (fun _=>False) h h'):EngB h' O X gb tb cb zs k c P pc vs pf seen st tn where
 B:=E.B.fr f fun h=>h
 C:=E.C.fr0 f
 T:=E.tab (ESt.fr0 f)
 S:=E.S.next (ESt.fr0 f) (E.S.S.fr f fun _ _ h=>h)
 kO:=E.kO
 gO:=E.gO
 kg:=E.kg
 PO:=E.PO
 low y hy:=Nat.lt_of_lt_of_le (E.low y hy) f.size
 XO:=E.XO
theorem EngM.fr0 (E:EngM h O X gb zs c pf seen st tn) (f:Fr (fun _=>False) h h'):EngM h' O X gb zs c pf seen st tn:=by
 obtain ⟨tb,cb,k,P,pc,vs,E⟩:=E.ex
 exact ⟨tb,cb,k,P,pc,vs,E.fr0 f⟩
theorem EngB.set (E:EngB h O X gb tb cb zs k c P pc vs pf seen st tn) {i:Nat} {v:Value} {seen':Nat} {st' tn':Int} (hi:i<5) (he:[Value.pointer (some ⟨tb,0,none⟩),.pointer (some ⟨cb,0,none⟩),.slice P pf.length pc,.int .i64 seen,.complex .f64 (Fx.enc st) (Fx.enc tn)].set i v =
   [Value.pointer (some ⟨tb,0,none⟩),.pointer (some ⟨cb,0,none⟩),.slice P pf.length pc,.int .i64 seen',.complex .f64 (Fx.enc st') (Fx.enc tn')]) :
  ESt O O h (hset h ⟨gb,i,none⟩ v)∧EngB (hset h ⟨gb,i,none⟩ v) O X gb tb cb zs k c P pc vs pf seen' st' tn':=by
 have f:Fr (fun y=>y=gb) h (hset h ⟨gb,i,none⟩ v):=(Fr.refl _ _).set rfl
 have a:ESt O O h (hset h ⟨gb,i,none⟩ v):=⟨fun _ h=>.inl h,f.mono fun y _ hy=>by rw [hy]; exact E.gO⟩
 refine ⟨a,by rw [← he]; exact E.B.set v hi,E.C.frN f fun x hx=>by rw [hx]; exact E.kg,E.tab a,E.S.next a (E.S.S.fr f fun y hy h=>(E.PO y hy).2.2 h),E.kO,E.gO,E.kg,E.PO,fun y hy=>Nat.lt_of_lt_of_le (E.low y hy) f.size,E.XO⟩
theorem EngB.note (E:EngB h O X gb tb cb zs k c P pc vs pf seen st tn) {P':Option Addr} {pc':Nat} {kd:Int} {cl:List Int} {A:Option Addr} {d:Nat} (f:Fr (blk P) h h') (S':SlAt h' P' (pc'*2) (vs++[.int .i64 kd,.slice A cl.length d])) (hP:∀ y,blk P' y→blk P y∨h.size≤y) (RA:RowAt h A (ints cl)) (hA:∀ y,blk A y→y<h.size∧¬ O y) :
   ESt O (fun y=>O y∨blk P' y) h (hset h' ⟨gb,2,none⟩ (.slice P' (pf.length+1) pc'))∧EngB (hset h' ⟨gb,2,none⟩ (.slice P' (pf.length+1) pc')) (fun y=>O y∨blk P' y) X gb tb cb zs k c P' pc' (vs++[.int .i64 kd,.slice A cl.length d]) (pf++[(kd,cl)]) seen st tn:=by
 have nG:¬ blk P gb:=fun h=>(E.PO _ h).2.2 rfl
 have f2:Fr (fun y=>y=gb) h' (hset h' ⟨gb,2,none⟩ (.slice P' (pf.length+1) pc')):=(Fr.refl _ _).set rfl
 have a1:ESt O (fun y=>O y∨blk P' y) h h':=⟨fun y hy=>hy.elim .inl fun hb=>(hP y hb).imp_left fun hh=>(E.PO y hh).1,f.mono fun y _ hy=>(E.PO y hy).1⟩
 have a:ESt O (fun y=>O y∨blk P' y) h (hset h' ⟨gb,2,none⟩ (.slice P' (pf.length+1) pc')):=a1.trans ⟨fun _ h=>.inl h,f2.mono fun y _ hy=>by rw [hy]; exact .inl E.gO⟩
 have hPg:∀ y,blk P' y→y≠gb:=fun y hy e=>(hP y hy).elim (fun hh=>(E.PO y hh).2.2 e) fun hh=>by have:=E.B.lt; omega
 have hkP:∀ y,blk P' y→k y=none:=fun y hy=>(hP y hy).elim (fun hh=>(E.PO y hh).2.1) fun hh=>by
   cases hc:k y with
   | none=>rfl
   | some t=>have:=E.C.low y t hc; omega
 have hz:=f2.size
 have hll:(pf++[(kd,cl)]).length=pf.length+1:=by rw [List.length_append]; rfl
 refine ⟨a,?_,?_,E.tab a,⟨S'.fr f2 fun y hy e=>hPg y hy e,?_,?_,?_⟩,fun y hy=>.inl (E.kO y hy),.inl E.gO,E.kg,fun y hy=>⟨.inr hy,hkP y hy,hPg y hy⟩,fun y hy=>?_,fun y hy=>⟨.inl (E.XO y hy).1,(E.XO y hy).2.1,(E.XO y hy).2.2.1,fun hb=>(hP y hb).elim (E.XO y hy).2.2.2 fun hh=>by have:=E.low y (E.XO y hy).1; omega⟩⟩
 · have:=(E.B.fr f nG).set (i:=2) (.slice P' (pf.length+1) pc') (by simp)
   rw [hll]
   exact this
 · exact (E.C.frN f fun x hx=>(E.PO x hx).2.1).frN f2 fun x hx=>by rw [hx]; exact E.kg
 · rw [List.length_append,hll,E.S.len]; simp; omega
 · intro w hw
   rcases List.mem_append.1 hw with hh | hh
   · exact E.S.one w hh
   · simp only [List.mem_cons,List.not_mem_nil,or_false] at hh
     rcases hh with rfl | rfl <;> rfl
 · intro i kd' c' hi
   have hl:=E.S.len
   by_cases hil:i<pf.length
   · rw [List.getElem?_append_left hil] at hi
     obtain ⟨B,e,h1,h2,h3,h4⟩:=E.S.at' i kd' c' hi
     exact ⟨B,e,by rw [List.getElem?_append_left (by omega)]; exact h1,by rw [List.getElem?_append_left (by omega)]; exact h2,h3.fr a.fr fun y hy=>(h4 y hy).2,fun y hy=>a.imm (h4 y hy)⟩
   · have hi':=(List.getElem?_eq_some_iff.1 hi).1
     rw [hll] at hi'
     obtain rfl:i=pf.length:=by omega
     rw [List.getElem?_append_right (Nat.le_refl _),Nat.sub_self] at hi
     simp only [List.getElem?_cons_zero,Option.some.injEq,Prod.mk.injEq] at hi
     obtain ⟨rfl,rfl⟩:=hi
     exact ⟨A,d,by rw [List.getElem?_append_right (by omega),hl,Nat.sub_self]; rfl,by rw [List.getElem?_append_right (by omega),hl,Nat.add_sub_cancel_left]; rfl,RA.fr a.fr fun y hy=>(hA y hy).2,fun y hy=>a.imm (hA y hy)⟩
 · have z1:=f.size
   rcases hy with hh | hh
   · have:=E.low y hh; omega
   · have:=S'.blk_lt hh; omega
theorem EngB.grow (E:EngB h O (fun _=>False) gb tb cb zs k c P pc vs pf seen st tn) (f:Fr (fun _=>False) h h') {xb:Nat} (h1:h.size≤xb) (h2:xb<h'.size):EngB h' (fun y=>O y∨y=xb) (fun y=>y=xb) gb tb cb zs k c P pc vs pf seen st tn:=by
 have E':=E.fr0 f
 have a:ESt O (fun y=>O y∨y=xb) h h':=⟨fun y hy=>hy.imp_right fun e=>by omega,f.mono fun _ _ h=>h.elim⟩
 refine ⟨E'.B,E'.C,E.tab a,E.S.next a E'.S.S,fun y hy=>.inl (E.kO y hy),.inl E.gO,E.kg,fun y hy=>⟨.inl (E.PO y hy).1,(E.PO y hy).2⟩,fun y hy=>hy.elim (E'.low y) fun e=>by omega,fun y hy=>⟨.inr hy,?_,?_,fun hb=>?_⟩⟩
 · cases hc:k y with
   | none=>rfl
   | some t=>have:=E.C.low y t hc; omega
 · have:=E.B.lt; omega
 · have:=E.low y (E.PO y hb).1; omega
theorem EngB.oth (E:EngB h O X gb tb cb zs k c P pc vs pf seen st tn) {x:Nat} (hx:X x) (f:Fr (fun y=>y=x) h h'):ESt O O h h'∧EngB h' O X gb tb cb zs k c P pc vs pf seen st tn:=by
 obtain ⟨x1,x2,x3,x4⟩:=E.XO x hx
 have a:ESt O O h h':=⟨fun _ h=>.inl h,f.mono fun y _ hy=>by rw [hy]; exact x1⟩
 exact ⟨a,E.B.fr f fun e=>x3 e.symm,E.C.frN f fun y hy=>by rw [hy]; exact x2,E.tab a,E.S.next a (E.S.S.fr f fun y hy e=>x4 (by rw [← e]; exact hy)),E.kO,E.gO,E.kg,E.PO,fun y hy=>Nat.lt_of_lt_of_le (E.low y hy) f.size,E.XO⟩
theorem EngB.drop (E:EngB h O X gb tb cb zs k c P pc vs pf seen st tn):EngB h O (fun _=>False) gb tb cb zs k c P pc vs pf seen st tn:=⟨E.B,E.C,E.T,E.S,E.kO,E.gO,E.kg,E.PO,E.low,fun _ h=>h.elim⟩
end
theorem build2i {e:TypeId} {bt a c:Nat} {A:Option Addr} {g:Int} {h:Heap} {k:Value→Heap→Prop} (hk:k (.slice (some ⟨h.size,0,none⟩) 1 1) (h.push (.cells #[.int .i64 g,.slice A a c] e))) :
  @buildSliceK (some (e,2,bt,.agg #[.int .i64 0,.slice none 0 0])) 1 [(0,.agg #[.int .i64 g,.slice A a c])] ⟨h⟩ ⟨k⟩:=by
 refine ⟨by omega,#[.int .i64 g,.slice A a c],?_,hk⟩
 have hz:(zerosOf (Value.agg #[Value.int .i64 0,Value.slice none 0 0]).cells (1*2)).size=2:=by simp [zerosOf,Value.cells]
 obtain ⟨L,hL⟩:∃ L,zerosOf (Value.agg #[Value.int .i64 0,Value.slice none 0 0]).cells (1*2)=⟨L⟩:=⟨_,rfl⟩
 rw [hL] at hz ⊢
 match L,hz with
 | [p,q],_=>simp [Instr.fill,Value.cells,List.zipIdx]
section
variable {h:Heap} {O X:Nat→Prop} {gb:Nat} {zs:List Nat} {c:CSt} {pf:List (Int × List Int)} {seen:Nat} {st tn:Int}
theorem esteps_ok (E:EngM h O X gb zs c pf seen st tn) (h1:-9007199254740992<st) (h2:st<9007199254740992):CallsH Tryz.prog 49 [.pointer (some ⟨gb,0,none⟩)] h fun r h'=>r=.int .i64 st∧h'=h:=by
 obtain ⟨tb,cb,k,P,pc,vs,E⟩:=E.ex
 have b4:=E.B.at' 4 _ rfl
 refine calls_of 9 [.tmp 2] Go.Proofs.Tryz.func49 rfl rfl rfl ?_
 simp -implicitDefEqProofs (disch:=omega) [go_sem,b4]
theorem evars_ok (E:EngM h O X gb zs c pf seen st tn):CallsH Tryz.prog 93 [.pointer (some ⟨gb,0,none⟩)] h fun r h'=>r=.int .i64 (wsum zs:Nat)∧h'=h:=by
 obtain ⟨tb,cb,k,P,pc,vs,E⟩:=E.ex
 have b0:=E.B.at' 0 _ rfl
 refine calls_of 8 [.tmp 2] Go.Proofs.Tryz.func93 rfl rfl rfl ?_
 simp -implicitDefEqProofs (disch:=omega) [go_sem,b0]
 refine useC (avars_ok E.T) ?_
 rintro _ h1 ⟨rfl,rfl⟩
 simp -implicitDefEqProofs (disch:=omega) [go_sem]
def NotR (O X:Nat→Prop) (gb:Nat) (zs:List Nat) (c:CSt) (pf:List (Int × List Int)) (seen:Nat) (st tn:Int) (h h':Heap):Prop:=∃ O',ESt O O' h h'∧EngM h' O' X gb zs c pf seen st tn∧∀ y,X y→h'[y]?=h[y]?
theorem enote_ok (E:EngM h O X gb zs c pf seen st tn) (hp:pf.length<2^40) {kd:Int} {A:Option Addr} {n d:Nat} {cl:List Int} (RA:RowAt h A (ints cl)) (hn:n=cl.length) (hs:n<2^40) :
  CallsH Tryz.prog 98 [.pointer (some ⟨gb,0,none⟩),.int .i64 kd,.slice A n d] h fun r h'=>NotR O X gb zs c (pf++[(kd,cl)]) seen st tn h h':=by
 subst hn
 obtain ⟨tb,cb,k,P,pc,vs,E⟩:=E.ex
 have b2:=E.B.at' 2 _ rfl
 refine calls_of 19 [] Go.Proofs.Tryz.func98 rfl rfl rfl ?_
 simp -implicitDefEqProofs (disch:=omega) [go_sem]
 refine drawC [(0,0),(1,0),(2,0),(3,0),(4,2),(5,0),(6,0),(7,3),(8,0),(9,3),(10,3),(11,0),(12,0),(13,4)] (fun h'=>hcell h' ⟨gb,2,none⟩=some (.slice P pf.length pc)) b2 ?_
 simp -implicitDefEqProofs (disch:=omega) [go_sem]
 refine float2 (.slice P pf.length pc) (fun h' hC=>by simp -implicitDefEqProofs (disch:=omega) [go_sem,hC]) ?_
 simp -implicitDefEqProofs (disch:=omega) [go_sem]
 refine useC (clone_ok RA (by rw [ints_len]) ints_one hs) ?_
 rintro _ h1 ⟨A1,d1,rfl,S1,own1,f1⟩
 have b21:=(f1.cell (hcell_lt b2) fun h=>h).trans b2
 refine ⟨b21,?_⟩
 simp -implicitDefEqProofs (disch:=omega) [go_sem]
 refine build2i ?_
 obtain ⟨h2,e2⟩:∃ h2,h2=h1.push (.cells #[.int .i64 kd,.slice A1 cl.length d1] 153):=⟨_,rfl⟩
 have f2:Fr (fun _=>False) h1 h2:=by rw [e2]; exact (Fr.refl _ _).push
 have W2:SlAt h2 (some ⟨h1.size,0,none⟩) 2 [.int .i64 kd,.slice A1 cl.length d1]:=by rw [e2]; exact SlAt.new (vs:=[.int .i64 kd,.slice A1 cl.length d1])
 rw [← e2]
 have f02:=f1.trans f2
 have E2:=E.fr0 f02
 refine ⟨E2.B.at' 2 _ rfl,?_⟩
 simp -implicitDefEqProofs (disch:=omega) [go_sem]
 refine appendN (sz:=2) (vs:=vs) (ws:=[.int .i64 kd,.slice A1 cl.length d1]) E2.S.S (by rw [E2.S.len]) W2.row rfl (by omega) (by simp [Value.oneCell']) (by omega) (by omega) ?_
 intro P3 pc3 h3 S3 f3 hP3
 have nG:¬ blk P gb:=fun h=>(E.PO _ h).2.2 rfl
 have B3:=E2.B.fr f3 nG
 have b23:=B3.at' 2 _ rfl
 have fz:=B3.fz
 refine ⟨b23,?_⟩
 have z1:=f1.size
 have z2:=f2.size
 obtain ⟨a4,E4⟩:=E2.note f3 S3 hP3 (S1.row.fr0 f2) fun y hy=>⟨by have:=S1.blk_lt hy; omega,fun ho=>by have:=E.low y ho; have:=own1 y hy; omega⟩
 simp -implicitDefEqProofs (disch:=omega) [go_sem,b23,fz]
 refine ⟨_,(ESt.fr0 f02).trans a4,⟨_,_,_,_,_,_,E4⟩,fun y hy=>?_⟩
 obtain ⟨y1,y2,y3,y4⟩:=E.XO y hy
 have hy1:=E.low y y1
 exact (hset_other y3).trans ((f3.same y (by have:=f02.size; omega) y4).trans (f02.same y hy1 fun h=>h))
end
def stepsOf (L:List (List Int × Bool)):List (Int × List Int):=L.map fun x=>(if x.2 then 2 else 1,x.1)
theorem LgW.tail {h:Heap} {N:Nat} {X:Option Addr} {xc:Nat} {L:List (List Int × Bool)} {vs:List Value} (W:LgW h N X xc L vs) {s:Nat} (hs:s≤L.length) :
   ∃ Y yc,sliceV (some (2,none)) (.slice X L.length xc) (some (.int .i64 s)) none=some (.slice Y (L.length-s) yc)∧∀ (j:Nat) cl g,L[s+j]?=some (cl,g) →
     ∃ bk o A d,Y=some ⟨bk,o,none⟩∧hcell h ⟨bk,o+j*2,none⟩=some (.slice A cl.length d)∧hcell h ⟨bk,o+j*2+1,none⟩=some (.bool g)∧RowAt h A (ints cl)∧N≤bk∧∀ y,blk A y→N≤y:=by
 have hl:=W.len
 have hcap:=W.S.len
 rcases W.S.at' with ⟨rfl,h0⟩ | ⟨bk,rfl,h1,h2,h3,h4⟩
 · obtain rfl:xc=0:=by omega
   have h5:L.length=0:=by omega
   obtain rfl:s=0:=by omega
   refine ⟨none,0,?_,fun j cl g hj=>?_⟩
   · rw [h5]
     simp [sliceV,boundV]
   · have:=(List.getElem?_eq_some_iff.1 hj).1; omega
 · refine ⟨_,_,slice_from2 (kd:=.i64) (i:=(s:Int)) (by omega) (by omega) (by omega),fun j cl g hj=>?_⟩
   have hjl:=(List.getElem?_eq_some_iff.1 hj).1
   obtain ⟨A,d,g1,g2,g3,g4⟩:=W.at' _ cl g hj
   rw [Int.toNat_natCast,if_neg (by omega)]
   have e1:=h4 _ _ g1
   have e2:=h4 _ _ g2
   have ea:0+s*2+j*2=(s+j)*2:=by omega
   exact ⟨bk,0+s*2,A,d,rfl,by rw [ea]; exact e1,by rw [ea]; exact e2,g3,W.own bk ⟨_,rfl,rfl⟩,fun y hy=>(g4 y hy).1⟩
structure FoJ (h0:Heap) (O XX:Nat→Prop) (gb:Nat) (zs:List Nat) (c:CSt) (pf:List (Int × List Int)) (seen:Nat) (st tn:Int) (X:Option Addr) (xc:Nat) (Y:Option Addr) (yc:Nat) (ρ:Env) (h:Heap):Prop where
 r0:ρ 0=.pointer (some ⟨gb,0,none⟩)
 r2:ρ 2=.slice X c.lg.length xc
 r16:ρ 16=.slice Y (c.lg.length-seen) yc
 r17:ρ 17=.int .i64 (c.lg.length-seen:Nat)
 ex:∃ (i:Nat) (O':Nat→Prop),ρ 18=.int .i64 i∧i≤c.lg.length-seen∧ESt O O' h0 h∧EngM h O' XX gb zs c (pf++stepsOf ((c.lg.drop seen).take i)) seen st tn∧∀ y,XX y→h[y]?=h0[y]?
section
variable {h:Heap} {O XX:Nat→Prop} {gb:Nat} {zs:List Nat} {c:CSt} {pf:List (Int × List Int)} {seen:Nat} {st tn:Int}
theorem efollow_ok (E0:EngM h O XX gb zs c pf seen st tn) (hs:seen≤c.lg.length) (hl:pf.length+c.lg.length<2^40) (hb:∀ x∈c.lg,x.1.length<2^40) :
   CallsH Tryz.prog 96 [.pointer (some ⟨gb,0,none⟩)] h fun r h'=>NotR O XX gb zs c (pf++stepsOf (c.lg.drop seen)) c.lg.length st tn h h':=by
 obtain ⟨tb,cb,k,P,pc,vs,E⟩:=E0.ex
 have b1:=E.B.at' 1 _ rfl
 refine calls_of 35 [] Go.Proofs.Tryz.func96 rfl rfl rfl ?_
 simp -implicitDefEqProofs (disch:=omega) [go_sem,b1]
 refine useC (clog_ok E.C (by omega) hb) ?_
 rintro _ h1 ⟨f1,X,xc,ys,rfl,W⟩
 have b3:=(E.B.fr f1 fun h=>h).at' 3 _ rfl
 obtain ⟨Y,yc,hsl,hY⟩:=W.tail hs
 have hsub:(c.lg.length:Int)-(seen:Int)=((c.lg.length-seen:Nat):Int):=by omega
 simp -implicitDefEqProofs (disch:=omega) [go_sem,b3,hsl]
 refine loopK (FoJ h1 O XX gb zs c pf seen st tn X xc Y yc) (fun ρ _=>(c.lg.length-seen)-(intOf (ρ 18)).toNat) (by kernel_rfl) ?_ ?_
 · exact ⟨rfl,rfl,rfl,rfl,0,O,rfl,Nat.zero_le _,ESt.refl,by simpa [stepsOf] using E0.fr0 f1,fun y _=>rfl⟩
 · rintro ρ h2 ⟨r0,r2,r16,r17,i,O2,r18,hi,a2,E2,k2⟩
   by_cases hin:i<c.lg.length-seen
   · obtain ⟨⟨cl,g⟩,hx⟩:∃ x,c.lg[seen+i]?=some x:=⟨_,List.getElem?_eq_getElem (by omega)⟩
     have hcl:=hb _ (List.mem_of_getElem? hx)
     obtain ⟨bk,o,A,d,rfl,c0,c1,RA,nbk,nA⟩:=hY i cl g hx
     have nO:∀ y,h.size≤y→¬ O y:=fun y hy ho=>by have:=E.low y ho; omega
     have c02:=(a2.fr.cell (hcell_lt c0) (nO _ nbk)).trans c0
     have c12:=(a2.fr.cell (hcell_lt c1) (nO _ nbk)).trans c1
     have RA2:=RA.fr a2.fr fun y hy=>nO y (nA y hy)
     simp -implicitDefEqProofs (disch:=omega) [go_sem,r0,r2,r16,r17,r18,c02,c12]
     obtain ⟨h3,e3⟩:∃ h3,h3=hset (hset (h2.push (.cells #[.slice none 0 0,.bool false] 74)) ⟨h2.size,0,none⟩ (.slice A cl.length d)) ⟨h2.size,1,none⟩ (.bool g):=⟨_,rfl⟩
     have f3:Fr (fun _=>False) h2 h3:=by rw [e3]; exact (((Fr.refl _ _).push).new (Nat.le_refl _)).new (Nat.le_refl _)
     have V3:ListB h3 h2.size [.slice A cl.length d,.bool g]:=by rw [e3]; exact ((ListB.new (vs:=[.slice none 0 0,.bool false])).set (i:=0) (.slice A cl.length d) Nat.two_pos).set (i:=1) (.bool g) Nat.one_lt_two
     rw [← e3]
     have q0:=V3.at' 0 _ rfl
     have kx:∀ {h4:Heap},(∀ y,XX y→h4[y]?=h3[y]?)→∀ y,XX y→h4[y]?=h1[y]?:=fun hk y hy=>by
       have hy2:y<h2.size:=by
        have:=E.low y (E.XO y hy).1; have:=f1.size; have:=a2.fr.size; omega
       exact (hk y hy).trans ((f3.same y hy2 fun h=>h).trans (k2 y hy))
     have hpl:(pf++stepsOf ((c.lg.drop seen).take i)).length<2^40:=by
       unfold stepsOf
       rw [List.length_append,List.length_map,List.length_take]; omega
     have est:∀ kd:Int,kd=(if g then 2 else 1)→pf++stepsOf ((c.lg.drop seen).take i)++[(kd,cl)]=pf++stepsOf ((c.lg.drop seen).take (i+1)):=fun kd hk=>by
       have hd:(c.lg.drop seen)[i]?=some (cl,g):=by rw [List.getElem?_drop]; exact hx
       rw [List.take_add_one,hd,List.append_assoc,hk]
       unfold stepsOf
       rw [List.map_append]
       rfl
     cases g with
     | true =>
       simp -implicitDefEqProofs (disch:=omega) [go_sem,r0,r2,r16,r17,r18,q0]
       refine useC (enote_ok (E2.fr0 f3) hpl (kd:=2) (RA2.fr0 f3) rfl hcl) ?_
       rintro _ h4 ⟨O4,a4,E4,k4⟩
       rw [est 2 rfl] at E4
       simp -implicitDefEqProofs (disch:=omega) [go_sem,r0,r2,r16,r17,r18]
       exact ⟨⟨r0,r2,r16,r17,i+1,O4,rfl,by omega,(a2.trans (ESt.fr0 f3)).trans a4,E4,kx k4⟩,by omega⟩
     | false =>
       simp -implicitDefEqProofs (disch:=omega) [go_sem,r0,r2,r16,r17,r18,q0]
       refine useC (enote_ok (E2.fr0 f3) hpl (kd:=1) (RA2.fr0 f3) rfl hcl) ?_
       rintro _ h4 ⟨O4,a4,E4,k4⟩
       rw [est 1 rfl] at E4
       simp -implicitDefEqProofs (disch:=omega) [go_sem,r0,r2,r16,r17,r18]
       exact ⟨⟨r0,r2,r16,r17,i+1,O4,rfl,by omega,(a2.trans (ESt.fr0 f3)).trans a4,E4,kx k4⟩,by omega⟩
   · obtain rfl:i=c.lg.length-seen:=by omega
     obtain ⟨tb2,cb2,kk2,P2,pc2,vs2,E2⟩:=E2.ex
     have b32:=E2.B.at' 3 _ rfl
     have fz2:=E2.B.fz
     obtain ⟨a3,E3⟩:=E2.set (i:=3) (v:=.int .i64 c.lg.length) (seen':=c.lg.length) (st':=st) (tn':=tn) (by omega) rfl
     have hd:(c.lg.drop seen).take (c.lg.length-seen)=c.lg.drop seen:=List.take_of_length_le (by rw [List.length_drop]; exact Nat.le_refl _)
     rw [hd] at E3
     simp -implicitDefEqProofs (disch:=omega) [go_sem,r0,r2,r16,r17,r18,b32,fz2]
     exact ⟨O2,((ESt.fr0 f1).trans a2).trans a3,⟨_,_,_,_,_,_,E3⟩,fun y hy=>(hset_other (E2.XO y hy).2.2.1).trans ((k2 y hy).trans (f1.same y (E.low y (E.XO y hy).1) fun h=>h))⟩
end
end Xe
