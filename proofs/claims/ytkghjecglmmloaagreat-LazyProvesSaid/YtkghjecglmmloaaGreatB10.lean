/- Package check, walked: says, literals, theory. -/
import Derived.Test.YtkghjecglmmloaaGreatB1
import Derived.Test.YtkghjecglmmloaaGreatB5
import Derived.Test.YtkghjecglmmloaaGreatA19
namespace Xe
open Go Tp Go.Proofs Hq
set_option maxRecDepth 16000
set_option maxHeartbeats 4000000
theorem atN_k {zs:List Nat}:∀ {p u:Nat},(atN zs p u).k≤2:=by
 induction zs with
 | nil=>intro p u; show (0:Nat)≤2; omega
 | cons a l ih =>
   intro p u
   unfold atN
   split
   · unfold atOf
     split
     · show (0:Nat)≤2; omega
     · split
       · show (1:Nat)≤2; omega
       · exact Nat.le_refl _
   · exact ih
theorem csays_ok {h:Heap} {a:At} (hk:a.k≤2) {x r:Int} :
   CallsH Tryz.prog 199 [atV a,.int .i64 x,.int .i64 r] h fun v h'=>v=.bool (isA a r==decide (0<x))∧Fr (fun _=>False) h h':=by
 refine calls_of 30 [.tmp 6] Go.Proofs.Tryz.func199 rfl rfl rfl ?_
 unfold atV
 have hf:∀ {P:List Value},Fr (fun _=>False) h (h.push (.cells P.toArray 150)):=(Fr.refl _ _).push
 obtain hk | hk | hk:a.k=0∨a.k=1∨a.k=2:=by omega
 · have e:isA a r=decide (0≤r):=if_pos hk
   simp -implicitDefEqProofs (disch:=omega) [go_sem,hk,e]
   exact hf
 · have e:isA a r=decide (r≤(a.i:Int)):=by unfold isA; rw [if_neg (by omega),if_pos hk]
   simp -implicitDefEqProofs (disch:=omega) [go_sem,hk,e]
   exact hf
 · have e:isA a r=decide (r=(a.i:Int)):=by unfold isA; rw [if_neg (by omega),if_neg (by omega)]
   simp -implicitDefEqProofs (disch:=omega) [go_sem,hk,e]
   exact hf
def lats (zs:List Nat) (l:List Int):List Value:=l.flatMap fun x=>atC (litAt zs x)
theorem lats_len {zs:List Nat} {l:List Int}:(lats zs l).length=l.length*3:=by
 induction l with
 | nil=>rfl
 | cons a l ih =>
   unfold lats at *
   rw [List.flatMap_cons,List.length_append,ih]
   simp [atC]; omega
theorem lats_at {zs:List Nat} {l:List Int} {i j:Nat} {x:Int} (hx:l[i]?=some x) (hj:j<3):(lats zs l)[i*3+j]?=(atC (litAt zs x))[j]?:=by
 induction l generalizing i with
 | nil=>simp at hx
 | cons a l ih =>
   unfold lats at *
   rw [List.flatMap_cons]
   have h3:(atC (litAt zs a)).length=3:=rfl
   cases i with
   | zero =>
     simp at hx
     subst hx
     rw [Nat.zero_mul,Nat.zero_add,List.getElem?_append_left (by omega)]
   | succ i =>
     rw [List.getElem?_cons_succ] at hx
     rw [List.getElem?_append_right (by omega),h3,show (i+1)*3+j-3=i*3+j by omega]
     exact ih hx
theorem lats_snoc {zs:List Nat} {l:List Int} {x:Int}:lats zs (l++[x])=lats zs l++atC (litAt zs x):=by
 unfold lats
 rw [List.flatMap_append]
 simp
structure CliJ (h0:Heap) (tb:Nat) (zs:List Nat) (A:Option Addr) (d:Nat) (l:List Int) (ρ:Env) (h:Heap):Prop where
 r0:ρ 0=.pointer (some ⟨tb,0,none⟩)
 r11:ρ 11=.slice A l.length d
 r12:ρ 12=.int .i64 l.length
 fr:Fr (fun _=>False) h0 h
 ex:∃ (i:Nat) (Q:Option Addr) (qc:Nat),ρ 13=.int .i64 i∧i≤l.length∧ρ 6=.slice Q i qc∧SlAt h Q (qc*3) (lats zs (l.take i))∧∀ y,blk Q y→h0.size≤y
section
variable {h:Heap} {tb:Nat} {zs:List Nat} {T:Nat→Prop} {A:Option Addr} {n d:Nat} {l:List Int}
def CliR (zs:List Nat) (l:List Int) (v:Value) (h h':Heap):Prop:=Fr (fun _=>False) h h'∧∃ Q qc,v=.tuple #[.slice Q l.length qc,.bool true]∧SlAt h' Q (qc*3) (lats zs l)∧∀ y,blk Q y→h.size≤y
theorem cliterals_ok (M:TabM h T tb zs) (F:Few zs) (R:RowAt h A (ints l)) (hn:n=l.length) (hs:n<2^38) (hne:l≠[]) {p:Nat} (hp:p<2^40) (hx:∀ x∈l,(1≤x.natAbs∧x.natAbs≤wsum zs)∧(litAt zs x).p=p) :
   CallsH Tryz.prog 198 [.pointer (some ⟨tb,0,none⟩),.slice A n d] h fun v h'=>CliR zs l v h h':=by
 subst hn
 have hsum:=F.sum
 have hlp:0<l.length:=List.length_pos_iff.2 hne
 refine calls_of 56 [.tmp 4,.tmp 5] Go.Proofs.Tryz.func198 rfl rfl rfl ?_
 simp -implicitDefEqProofs (disch:=omega) [go_sem]
 refine loopK (CliJ h tb zs A d l) (fun ρ _=>l.length-(intOf (ρ 13)).toNat) (by kernel_rfl) ?_ ?_
 · exact ⟨rfl,rfl,rfl,Fr.refl _ _,0,none,0,rfl,Nat.zero_le _,rfl,by simpa [lats] using SlAt.nil h,fun y ⟨_,h,_⟩=>(nomatch h)⟩
 · rintro ρ h1 ⟨r0,r11,r12,f1,i,Q,qc,r13,hi,r6,SQ,hQ⟩
   by_cases hin:i<l.length
   · obtain ⟨x,hxi⟩:=some_at hin
     obtain ⟨hxr,hxp⟩:=hx x (List.mem_of_getElem? hxi)
     obtain ⟨bk,off,rfl,hc⟩:=(R.fr0 f1).get (by rw [ints_len]; omega)
     have c0:=hc _ _ (ints_at hxi)
     have hm:max x (-x)=((x.natAbs-1:Nat):Int)+1:=by omega
     simp -implicitDefEqProofs (disch:=omega) [go_sem,r0,r6,r11,r12,r13,c0]
     refine useC (avars_ok (M.fr0 f1)) ?_
     rintro _ h2 ⟨rfl,rfl⟩
     simp -implicitDefEqProofs (disch:=omega) [go_sem,r0,r6,r11,r12,r13,hm]
     refine useC (aatom_ok (M.fr0 f1) F (u:=x.natAbs-1) (by omega)) ?_
     rintro _ h3 ⟨rfl,f3⟩
     have ea:atN zs 0 (x.natAbs-1)=litAt zs x:=rfl
     rw [ea]
     obtain ⟨a,ha⟩:∃ a,a=litAt zs x:=⟨_,rfl⟩
     have hap:a.p=p:=by rw [ha]; exact hxp
     rw [← ha]
     unfold atV
     simp -implicitDefEqProofs (disch:=omega) [go_sem,r0,r6,r11,r12,r13]
     obtain ⟨h4,e4⟩:∃ h4,h4=hset (hset (hset (h3.push (.cells #[.int .i64 0,.int .i64 0,.int .i64 0] 150)) ⟨h3.size,0,none⟩ (.int .i64 a.k)) ⟨h3.size,1,none⟩ (.int .i64 a.p)) ⟨h3.size,2,none⟩ (.int .i64 a.i):=⟨_,rfl⟩
     have f4:Fr (fun _=>False) h3 h4:=by rw [e4]; exact ((((Fr.refl _ _).push).new (Nat.le_refl _)).new (Nat.le_refl _)).new (Nat.le_refl _)
     have V4:ListB h4 h3.size [.int .i64 a.k,.int .i64 a.p,.int .i64 a.i]:=by rw [e4]; exact (((ListB.new (vs:=[.int .i64 0,.int .i64 0,.int .i64 0])).set (i:=0) (.int .i64 a.k) (by simp)).set (i:=1) (.int .i64 a.p) (by simp)).set (i:=2) (.int .i64 a.i) (by simp)
     rw [← e4]
     have q1:=V4.at' 1 _ rfl
     have q0:=V4.at' 0 _ rfl
     have q2:=V4.at' 2 _ rfl
     have f14:=f3.trans f4
     have f04:=f1.trans f14
     have SQ4:=SQ.fr f14 fun _ _ h=>h
     have hlt:(l.take i).length=i:=by rw [List.length_take]; omega
     have out:∀ {ρ':Env} {k:Value→Heap→Prop},(∀ Q' qc' h',SlAt h' Q' (qc'*3) (lats zs (l.take (i+1)))→(∀ y,blk Q' y→h.size≤y)→Fr (fun _=>False) h h'→k (.slice Q' (i+1) qc') h') →
        @appendK (some (150,3,24,.agg #[.int .i64 0,.int .i64 0,.int .i64 0])) (.slice Q i qc) (.slice (some ⟨h4.size,0,none⟩) 1 1) ⟨h4.push (.cells #[.int .i64 a.k,.int .i64 a.p,.int .i64 a.i] 150)⟩ ⟨k⟩:=by
       intro ρ' k hk
       have f5:Fr (fun _=>False) h4 (h4.push (.cells #[.int .i64 a.k,.int .i64 a.p,.int .i64 a.i] 150)):=(Fr.refl _ _).push
       refine appendN (sz:=3) (vs:=lats zs (l.take i)) (ws:=[.int .i64 a.k,.int .i64 a.p,.int .i64 a.i]) (SQ4.fr f5 fun _ _ h=>h) (by rw [lats_len,hlt]) (SlAt.new (vs:=[.int .i64 a.k,.int .i64 a.p,.int .i64 a.i])).row rfl (by omega) (by simp [Value.oneCell']) (by omega) (by omega) ?_
       intro Q6 qc6 h6 S6 f6 hQ6
       have z1:=f04.size
       have z5:=f5.size
       exact hk Q6 qc6 h6 (by rw [take_at hxi,lats_snoc,← ha]; exact S6) (fun y hy=>(hQ6 y hy).elim (hQ y) fun h=>by omega) ((f04.trans f5).trans' f6 fun y hy hb=>by have:=hQ y hb; omega)
     by_cases hi0:i=0
     · subst hi0
       refine drawC [(0,0),(1,0),(2,0),(3,0),(4,0),(5,0),(6,0),(7,0),(8,0),(9,0),(10,1),(11,0),(12,1),(13,0),(14,0),(15,0)] (Eq h4) rfl ?_
       simp -implicitDefEqProofs (disch:=omega) [go_sem,r0,r6,r11,r12,r13,q0,q1,q2]
       refine build3a ?_
       simp -implicitDefEqProofs (disch:=omega) [go_sem,r0,r6,r11,r12,r13]
       refine out (ρ':=ρ) ?_
       intro Q6 qc6 h6 S6 hQ6 f6
       simp -implicitDefEqProofs (disch:=omega) [go_sem,r0,r6,r11,r12,r13]
       exact ⟨⟨r0,r11,r12,f6,0+1,Q6,qc6,rfl,by omega,rfl,S6,hQ6⟩,by omega⟩
     · obtain ⟨y0,hy0⟩:=some_at hlp
       obtain ⟨qb,rfl,_,_,hcq⟩:=SQ4.base (by rw [lats_len,hlt]; omega)
       have c1:hcell h4 ⟨qb,1,none⟩=some (.int .i64 p):=by
        have h0:(l.take i)[0]?=some y0:=by rw [List.getElem?_take,if_pos (by omega)]; exact hy0
        have:=lats_at (zs:=zs) (j:=1) h0 (by omega)
        rw [hcq _ _ this]
        show some (Value.int .i64 ((litAt zs y0).p:Int))=_
        rw [(hx y0 (List.mem_of_getElem? hy0)).2]
       refine drawC [(0,0),(1,0),(2,0),(3,0),(4,0),(5,0),(6,0),(7,0),(8,0),(9,0),(10,1),(11,0),(12,1),(13,0),(14,0),(15,0)] (Eq h4) rfl ?_
       simp -implicitDefEqProofs (disch:=omega) [go_sem,r0,r6,r11,r12,r13,c1,q0,q1,q2,hap]
       rw [← hap]
       refine build3a ?_
       simp -implicitDefEqProofs (disch:=omega) [go_sem,r0,r6,r11,r12,r13]
       refine out (ρ':=ρ) ?_
       intro Q6 qc6 h6 S6 hQ6 f6
       simp -implicitDefEqProofs (disch:=omega) [go_sem,r0,r6,r11,r12,r13]
       exact ⟨⟨r0,r11,r12,f6,i+1,Q6,qc6,rfl,by omega,rfl,S6,hQ6⟩,by omega⟩
   · obtain rfl:i=l.length:=by omega
     rw [List.take_length] at SQ
     simp -implicitDefEqProofs (disch:=omega) [go_sem,r0,r6,r11,r12,r13]
     exact ⟨f1,Q,qc,rfl,SQ,hQ⟩
end
structure ThJ (h0:Heap) (tb:Nat) (zs:List Nat) (A:Option Addr) (d:Nat) (l:List Int) (z:Nat) (m:Nat) (ρ:Env) (h:Heap):Prop where
 r0:ρ 0=.pointer (some ⟨tb,0,none⟩)
 r1:ρ 1=.slice A l.length d
 fr:Fr (fun _=>False) h0 h
 ex:∃ (Q:Option Addr) (qc:Nat) (r:Int),ρ 5=.slice Q l.length qc∧SlAt h Q (qc*3) (lats zs l)∧ρ 7=.int .i64 r∧-1≤r∧r+m=z∧0<m
structure TiJ (h0:Heap) (tb:Nat) (zs:List Nat) (A:Option Addr) (d:Nat) (l:List Int) (Q:Option Addr) (qc:Nat) (r:Int) (ρ:Env) (h:Heap):Prop where
 r0:ρ 0=.pointer (some ⟨tb,0,none⟩)
 r1:ρ 1=.slice A l.length d
 r5:ρ 5=.slice Q l.length qc
 r7:ρ 7=.int .i64 r
 r19:ρ 19=.slice Q l.length qc
 r20:ρ 20=.int .i64 l.length
 fr:Fr (fun _=>False) h0 h
 ex:∃ i:Nat,ρ 21=.int .i64 i∧i≤l.length∧ρ 8=.bool ((l.take i).any fun x=>litA zs x r)
section
variable {h:Heap} {tb:Nat} {zs:List Nat} {T:Nat→Prop} {A:Option Addr} {n d:Nat} {l:List Int}
theorem ctheory_ok (M:TabM h T tb zs) (F:Few zs) (R:RowAt h A (ints l)) (hn:n=l.length) (hs:n<2^38) (K:ThyK zs l) :
   CallsH Tryz.prog 148 [.pointer (some ⟨tb,0,none⟩),.slice A n d] h fun v h'=>v=.bool true∧Fr (fun _=>False) h h':=by
 subst hn
 have hsum:=F.sum
 obtain ⟨p,z,hz,hx,hall⟩:=K.ex
 have hp:=(List.getElem?_eq_some_iff.1 hz).1
 have hz4:=F.le z (List.mem_of_getElem? hz)
 have hl4:=F.len
 have hlp:0<l.length:=List.length_pos_iff.2 K.ne
 refine calls_of 51 [.tmp 4] Go.Proofs.Tryz.func148 rfl rfl rfl ?_
 simp -implicitDefEqProofs (disch:=omega) [go_sem]
 refine scopeMG 0 (ThJ h tb zs A d l z) rfl rfl (by kernel_rfl) ?_ ?_
 · simp -implicitDefEqProofs (disch:=omega) [go_sem]
   refine useC (cliterals_ok M F R rfl hs K.ne (by omega) hx) ?_
   rintro _ h1 ⟨f1,Q,qc,rfl,SQ,hQ⟩
   simp -implicitDefEqProofs (disch:=omega) [go_sem]
   exact ⟨z+1,rfl,rfl,f1,Q,qc,-1,rfl,SQ,rfl,by omega,by omega,by omega⟩
 · rintro m ρ h1 ⟨r0,r1,f1,Q,qc,r,r5,SQ,r7,hr1,hrm,hm⟩
   obtain ⟨qb,rfl,_,_,hcq⟩:=SQ.base (by rw [lats_len]; omega)
   obtain ⟨y0,hy0⟩:=some_at hlp
   have c1:hcell h1 ⟨qb,1,none⟩=some (.int .i64 p):=by
     have:=lats_at (zs:=zs) (j:=1) hy0 (by omega)
     rw [hcq _ _ this]
     show some (Value.int .i64 ((litAt zs y0).p:Int))=_
     rw [(hx y0 (List.mem_of_getElem? hy0)).2]
   simp -implicitDefEqProofs (disch:=omega) [go_sem,r0,r1,r5,r7]
   refine loopK (TiJ h1 tb zs A d l (some ⟨qb,0,none⟩) qc r) (fun ρ _=>l.length-(intOf (ρ 21)).toNat) (by kernel_rfl) ?_ ?_
   · exact ⟨r0,r1,r5,r7,rfl,rfl,Fr.refl _ _,0,rfl,Nat.zero_le _,rfl⟩
   · clear r0 r1 r5 r7
     rintro ρ h2 ⟨r0,r1,r5,r7,r19,r20,f2,i,r21,hi,r8⟩
     by_cases hin:i<l.length
     · obtain ⟨x,hxi⟩:=some_at hin
       obtain ⟨hxr,hxp⟩:=hx x (List.mem_of_getElem? hxi)
       obtain ⟨bk,off,rfl,hc⟩:=(R.fr0 (f1.trans f2)).get (by rw [ints_len]; omega)
       have c0:=hc _ _ (ints_at hxi)
       have g0:hcell h2 ⟨qb,i*3+0,none⟩=_:=(f2.cell (hcell_lt (hcq _ _ (lats_at (zs:=zs) (j:=0) hxi (by omega)))) fun h=>h).trans (hcq _ _ (lats_at (zs:=zs) (j:=0) hxi (by omega)))
       have g1:hcell h2 ⟨qb,i*3+1,none⟩=_:=(f2.cell (hcell_lt (hcq _ _ (lats_at (zs:=zs) (j:=1) hxi (by omega)))) fun h=>h).trans (hcq _ _ (lats_at (zs:=zs) (j:=1) hxi (by omega)))
       have g2:hcell h2 ⟨qb,i*3+2,none⟩=_:=(f2.cell (hcell_lt (hcq _ _ (lats_at (zs:=zs) (j:=2) hxi (by omega)))) fun h=>h).trans (hcq _ _ (lats_at (zs:=zs) (j:=2) hxi (by omega)))
       have hka:(litAt zs x).k≤2:=atN_k
       obtain ⟨a,ha⟩:∃ a,a=litAt zs x:=⟨_,rfl⟩
       rw [← ha] at g0 g1 g2 hka
       have g0':hcell h2 ⟨qb,i*3,none⟩=some (.int .i64 a.k):=g0
       have g1':hcell h2 ⟨qb,i*3+1,none⟩=some (.int .i64 a.p):=g1
       have g2':hcell h2 ⟨qb,i*3+2,none⟩=some (.int .i64 a.i):=g2
       simp -implicitDefEqProofs (disch:=omega) [go_sem,r0,r1,r5,r7,r8,r19,r20,r21,g0',g1',g2']
       obtain ⟨h4,e4⟩:∃ h4,h4=hset (hset (hset (h2.push (.cells #[.int .i64 0,.int .i64 0,.int .i64 0] 150)) ⟨h2.size,0,none⟩ (.int .i64 a.k)) ⟨h2.size,1,none⟩ (.int .i64 a.p)) ⟨h2.size,2,none⟩ (.int .i64 a.i):=⟨_,rfl⟩
       have f4:Fr (fun _=>False) h2 h4:=by rw [e4]; exact ((((Fr.refl _ _).push).new (Nat.le_refl _)).new (Nat.le_refl _)).new (Nat.le_refl _)
       have V4:ListB h4 h2.size [.int .i64 a.k,.int .i64 a.p,.int .i64 a.i]:=by rw [e4]; exact (((ListB.new (vs:=[.int .i64 0,.int .i64 0,.int .i64 0])).set (i:=0) (.int .i64 a.k) (by simp)).set (i:=1) (.int .i64 a.p) (by simp)).set (i:=2) (.int .i64 a.i) (by simp)
       rw [← e4]
       have v0:=V4.at' 0 _ rfl
       have v1:=V4.at' 1 _ rfl
       have v2:=V4.at' 2 _ rfl
       have c04:=(f4.cell (hcell_lt c0) fun h=>h).trans c0
       have hany:((l.take (i+1)).any fun x=>litA zs x r)=(((l.take i).any fun x=>litA zs x r)||litA zs x r):=by rw [take_at hxi,List.any_append]; simp
       have hla:litA zs x r=(isA a r==decide (0<x)):=by rw [ha]; rfl
       cases hb:(l.take i).any fun x=>litA zs x r with
       | true =>
         rw [hb] at r8 hany
         refine drawC [(0,0),(1,0),(2,1),(3,0),(4,0),(5,0),(6,1),(7,0),(8,3),(9,0),(10,0)] (Eq h4) rfl ?_
         simp -implicitDefEqProofs (disch:=omega) [go_sem,r0,r1,r5,r7,r8,r19,r20,r21]
         exact ⟨⟨r0,r1,r5,r7,r19,r20,f2.trans f4,i+1,rfl,by omega,by rw [hany]; rfl⟩,by omega⟩
       | false =>
         rw [hb] at r8 hany
         refine drawK [(0,0),(1,0),(2,1),(3,0),(4,0),(5,0),(6,1),(7,0),(8,3),(9,0),(10,0)] ?_
         simp -implicitDefEqProofs (disch:=omega) [go_sem,r0,r1,r5,r7,r8,r19,r20,r21,v0,v1,v2,c04]
         refine useC (csays_ok hka (x:=x) (r:=r)) ?_
         rintro _ h5 ⟨rfl,f5⟩
         simp -implicitDefEqProofs (disch:=omega) [go_sem,r0,r1,r5,r7,r8,r19,r20,r21]
         exact ⟨⟨r0,r1,r5,r7,r19,r20,(f2.trans f4).trans f5,i+1,rfl,by omega,by rw [hany,hla]; rfl⟩,by omega⟩
     · obtain rfl:i=l.length:=by omega
       have hone:((l.take l.length).any fun x=>litA zs x r)=true:=by
         rw [List.take_length,List.any_eq_true]
         obtain ⟨x,hxm,hl⟩:=hall r hr1 (by omega)
         exact ⟨x,hxm,hl⟩
       rw [hone] at r8
       have c12:=(f2.cell (hcell_lt c1) fun h=>h).trans c1
       simp -implicitDefEqProofs (disch:=omega) [go_sem,r0,r1,r5,r7,r8,r19,r20,r21,c12]
       refine useC (asize_ok (M.fr0 (f1.trans f2)) F hz) ?_
       rintro _ h3 ⟨rfl,rfl⟩
       by_cases hlt:r+1<(z:Int)
       · simp -implicitDefEqProofs (disch:=omega) [go_sem,r0,r1,r5,r7,r8,hlt]
         exact ⟨m-1,by omega,r0,r1,f1.trans f2,_,qc,r+1,r5,SQ.fr f2 fun _ _ h=>h,rfl,by omega,by omega,by omega⟩
       · simp -implicitDefEqProofs (disch:=omega) [go_sem,r0,r1,r5,r7,r8,hlt]
         exact f1.trans f2
end
theorem GoodP.g16 {zs:List Nat} (F:Few zs) {c:List Int} (h:GoodP zs c):Rise c∧∀ x∈c,1≤x.natAbs∧x.natAbs≤16777216:=⟨h.1,fun x hx=>by have:=h.2 x hx; have:=F.sum; omega⟩
theorem SGd.next {zs:List Nat} (F:Few zs) {S:List (List Int)} (hS:SGd S) {x:Int × List Int} (hx:GoodP zs x.2):SGd (nxS S x):=fun c hc=>by
 unfold nxS at hc
 split at hc
 · exact hS c (List.mem_of_mem_erase hc)
 · rcases List.mem_append.1 hc with h | h
   · exact hS c h
   · rw [List.mem_singleton] at h; rw [h]; exact hx.g16 F
theorem nxS_len {S:List (List Int)} {x:Int × List Int}:(nxS S x).length≤S.length+1:=by
 unfold nxS
 split
 · have:=List.length_erase_le (a:=x.2) (l:=S); omega
 · rw [List.length_append,List.length_singleton]; omega
section
variable {h:Heap} {N sb tb d:Nat} {S:List (List Int)} {zs:List Nat} {T:Nat→Prop} {A:Option Addr} {kd:Int} {c:List Int}
theorem cstep_ok (M:StM h N sb S) (TM:TabM h T tb zs) (F:Few zs) (hS:SGd S) (hl:S.length<2^40) (R:RowAt h A (ints c)) (H:stO zs S (kd,c)) (hN:N≤h.size) :
   CallsH Tryz.prog 104 [.pointer (some ⟨tb,0,none⟩),.pointer (some ⟨sb,0,none⟩),.agg #[.int .i64 kd,.slice A c.length d]] h fun v h'=>v=.bool true∧StM h' N sb (nxS S (kd,c))∧Fr (fun y=>N≤y) h h':=by
 obtain ⟨hg,hor⟩:=H
 have hg16:Rise c∧∀ x∈c,1≤x.natAbs∧x.natAbs≤16777216:=GoodP.g16 F hg
 have hlen:=rise_16 hg16
 have hS2:∀ k∈S,k.length<2^40:=fun k hk=>by have:=rise_16 (hS k hk); omega
 have hself:∀ o,CleanR c o→o=some c:=fun o ho=>clean_self (by omega) hg16.1 hg16.2 ho
 refine calls_of 39 [.tmp 6] Go.Proofs.Tryz.func104 rfl rfl rfl ?_
 simp -implicitDefEqProofs (disch:=omega) [go_sem]
 obtain ⟨h1,e1⟩:∃ h1,h1=h.push (.cells #[.int .i64 kd,.slice A c.length d] 153):=⟨_,rfl⟩
 have f1:Fr (fun _=>False) h h1:=by rw [e1]; exact (Fr.refl _ _).push
 have V1:ListB h1 h.size [.int .i64 kd,.slice A c.length d]:=by rw [e1]; exact ListB.new
 have g1:Fr (fun y=>N≤y) h h1:=f1.mono fun _ _ h=>h.elim
 rcases hor with ⟨e,ho⟩ | ⟨e,ho⟩ | ⟨e,ho⟩
 · have e:kd=0:=e
   subst e
   simp -implicitDefEqProofs (disch:=omega) [go_sem]
   rw [← e1]
   refine useC (ctheory_ok (TM.fr0 f1) F (R.fr0 f1) rfl (by omega) ho) ?_
   rintro _ h2 ⟨rfl,f2⟩
   have v1:=(V1.fr f2 fun h=>h).at' 1 _ rfl
   simp -implicitDefEqProofs (disch:=omega) [go_sem,v1]
   refine useC (radd_ok ((M.fr0 f1).fr0 f2) ((R.fr0 f1).fr0 f2) rfl (by omega) hg16.2 hl) ?_
   rintro _ h3 ⟨f3,⟨hn,_⟩ | ⟨L,hL,rfl,M3⟩⟩
   · have:=hself _ hn; cases this
   · have:=hself _ hL
     cases this
     simp -implicitDefEqProofs (disch:=omega) [go_sem]
     exact ⟨M3,(g1.trans (f2.mono fun _ _ h=>h.elim)).trans f3⟩
 · have e:kd=1:=e
   subst e
   simp -implicitDefEqProofs (disch:=omega) [go_sem]
   rw [← e1]
   refine useC (rfollows_ok (M.fr0 f1) (R.fr0 f1) rfl hg16 hS hl) ?_
   rintro _ h2 ⟨f2,b,rfl,hb⟩
   obtain rfl:=hb ho
   have v1:=(V1.fr f2 fun h=>h).at' 1 _ rfl
   simp -implicitDefEqProofs (disch:=omega) [go_sem,v1]
   refine useC (radd_ok ((M.fr0 f1).fr0 f2) ((R.fr0 f1).fr0 f2) rfl (by omega) hg16.2 hl) ?_
   rintro _ h3 ⟨f3,⟨hn,_⟩ | ⟨L,hL,rfl,M3⟩⟩
   · have:=hself _ hn; cases this
   · have:=hself _ hL
     cases this
     simp -implicitDefEqProofs (disch:=omega) [go_sem]
     exact ⟨M3,(g1.trans (f2.mono fun _ _ h=>h.elim)).trans f3⟩
 · have e:kd=2:=e
   subst e
   simp -implicitDefEqProofs (disch:=omega) [go_sem]
   rw [← e1]
   refine useC (rdrop_ok (M.fr0 f1) (R.fr0 f1) rfl (by omega) hg16.2 hg16.1 hl hS2 ho) ?_
   rintro _ h2 ⟨rfl,M2,f2⟩
   simp -implicitDefEqProofs (disch:=omega) [go_sem]
   exact ⟨M2,g1.trans f2⟩
end
theorem Tak.uniq {Cs S S':List (List Int)} (h1:Tak Cs S) (h2:Tak Cs S'):S=S':=by
 induction h1 generalizing S' with
 | nil =>
   generalize hC:([]:List (List Int))=Cs' at h2
   cases h2 with
   | nil=>rfl
   | no _ _=>simp at hC
   | add _ _=>simp at hC
 | @no Cs S C h hc ih =>
   generalize hC:Cs++[C]=Cs' at h2
   cases h2 with
   | nil=>simp at hC
   | no h' _=>obtain ⟨rfl,_⟩:=List.append_inj' hC rfl; exact ih h'
   | add h' hc' =>
     obtain ⟨rfl,e⟩:=List.append_inj' hC rfl
     cases e
     have:=hc.uniq hc'; cases this
 | @add Cs S C L h hc ih =>
   generalize hC:Cs++[C]=Cs' at h2
   cases h2 with
   | nil=>simp at hC
   | no h' hc' =>
     obtain ⟨rfl,e⟩:=List.append_inj' hC rfl
     cases e
     have:=hc.uniq hc'; cases this
   | add h' hc' =>
     obtain ⟨rfl,e⟩:=List.append_inj' hC rfl
     cases e
     have:=hc.uniq hc'; cases this
     rw [ih h']
theorem Tak.len {Cs S:List (List Int)} (h:Tak Cs S):S.length≤Cs.length:=by
 induction h with
 | nil=>exact Nat.le_refl _
 | no _ _ ih=>rw [List.length_append,List.length_singleton]; omega
 | add _ _ ih=>rw [List.length_append,List.length_append,List.length_singleton,List.length_singleton]; omega
theorem Tak.sgd {Cs S:List (List Int)} (h:Tak Cs S):SGd S:=fun c hc=>h.good c hc
theorem pfS_len:∀ {pf:List (Int × List Int)} {S:List (List Int)},(pfS S pf).length≤S.length+pf.length:=by
 intro pf
 induction pf with
 | nil=>intro S; exact Nat.le_refl _
 | cons x pf ih =>
   intro S
   have h1:=ih (S:=nxS S x)
   have h2:=nxS_len (S:=S) (x:=x)
   show (pfS (nxS S x) pf).length≤_
   rw [List.length_cons]; omega
theorem pfS_sgd {zs:List Nat} (F:Few zs):∀ {pf:List (Int × List Int)} {S:List (List Int)},SGd S→PfOk zs S pf→SGd (pfS S pf):=by
 intro pf
 induction pf with
 | nil=>intro S h _; exact h
 | cons x pf ih=>intro S h hp; exact ih (h.next F hp.1.1) hp.2
abbrev PfQ (h:Heap) (Q:Option Addr) (qc:Nat) (pf:List (Int × List Int)) (vs:List Value):Prop:=PfW h (blk Q) Q qc pf vs
structure CsJ (h0:Heap) (zs:List Nat) (tb sb N:Nat) (m:Nat) (A:Option Addr) (c:Nat) (gs:Nat→List Int) (Q:Option Addr) (qc np:Nat) (ρ:Env) (h:Heap):Prop where
 r2:ρ 2=.slice Q np qc
 r6:ρ 6=.int .i64 0
 r8:ρ 8=.pointer (some ⟨tb,0,none⟩)
 r9:ρ 9=.pointer (some ⟨sb,0,none⟩)
 r18:ρ 18=.slice A m c
 r19:ρ 19=.int .i64 m
 fr:Fr (fun _=>False) h0 h
 T:TabM h (fun y=>y<N) tb zs
 z:N≤h.size
 ex:∃ (i:Nat) (S:List (List Int)),ρ 20=.int .i64 i∧i≤m∧StM h N sb S∧Tak (csOf gs i) S
structure CpJ (h0:Heap) (zs:List Nat) (S0:List (List Int)) (pf:List (Int × List Int)) (Q:Option Addr) (qc:Nat) (m:Nat) (ρ:Env) (h:Heap):Prop where
 r2:ρ 2=.slice Q pf.length qc
 fr:Fr (fun _=>False) h0 h
 ex:∃ tb sb N i:Nat,ρ 8=.pointer (some ⟨tb,0,none⟩)∧ρ 9=.pointer (some ⟨sb,0,none⟩)∧ρ 6=.int .i64 i∧i+m=pf.length∧StM h N sb (pfS S0 (pf.take i))∧TabM h (fun y=>y<N) tb zs∧h0.size≤N∧N≤h.size
section
variable {h00 h:Heap} {zs:List Nat} {A B Q:Option Addr} {m cA c0 qc np:Nat} {gs:Nat→List Int} {pf:List (Int × List Int)} {S0:List (List Int)} {vs:List Value}
def CsR (S0:List (List Int)) (pf:List (Int × List Int)) (v:Value) (h h':Heap):Prop:=Fr (fun _=>False) h h'∧v=.tuple #[.int .i64 pf.length,.bool (decide ([]∈pfS S0 pf))]
theorem csteps24_ok (F:Few zs) (RZ:RowAt h B (ints (nts zs))) (R:Args2 h00 A m gs) (f00:Fr (fun _=>False) h00 h) (hm:m≤16) (hgc:∀ i,i<m→goodC (wsum zs) (gs i)=true) (hgl:∀ i,i<m→(gs i).length≤6) (W:PfQ h Q qc pf vs) (hp:pf.length<2^39) (hT:Tak (csOf gs m) S0) (hO:PfOk zs S0 pf) (hnp:np=pf.length) :
   CallsH Tryz.prog 57 [.slice B zs.length c0,.slice A m cA,.slice Q np qc] h fun v h'=>CsR S0 pf v h h':=by
 subst hnp
 have hsum:=F.sum
 have hS0:S0.length≤16:=by have:=hT.len; rw [csOf_len] at this; omega
 refine calls_of 52 [.tmp 6,.tmp 7] Go.Proofs.Tryz.func57 rfl rfl rfl ?_
 simp -implicitDefEqProofs (disch:=omega) [go_sem]
 refine scopeMG 0 (CpJ h zs S0 pf Q qc) rfl rfl (by kernel_rfl) ?_ ?_
 · simp -implicitDefEqProofs (disch:=omega) [go_sem]
   refine useC (anew_ok F RZ) ?_
   rintro _ h1 ⟨f1,tb,rfl,T1⟩
   simp -implicitDefEqProofs (disch:=omega) [go_sem]
   obtain ⟨h2,e2⟩:∃ h2,h2=h1.push (.cells #[.slice none 0 0] 156):=⟨_,rfl⟩
   have f2:Fr (fun _=>False) h1 h2:=by rw [e2]; exact (Fr.refl _ _).push
   have V2:ListB h2 h1.size [.slice none 0 0]:=by rw [e2]; exact ListB.new
   have z1:=f1.size
   have z2:=V2.lt
   rw [← e2]
   refine loopK (CsJ h zs tb h1.size h1.size m A cA gs Q qc pf.length) (fun ρ _=>m-(intOf (ρ 20)).toNat) (by kernel_rfl) ?_ ?_
   · exact ⟨rfl,rfl,rfl,rfl,rfl,rfl,f1.trans f2,(T1.fr0 f2).mono fun y hy=>hy.2,Nat.le_of_lt z2,0,[],rfl,Nat.zero_le _,⟨none,0,[],V2,SlAt.nil _,rfl,fun w hw=>(nomatch hw),Nat.le_refl _,fun y ⟨_,h,_⟩=>(nomatch h),fun i k hk=>by simp at hk⟩,Tak.nil⟩
   · rintro ρ h3 ⟨r2,r6,r8,r9,r18,r19,f3,T3,zN,i,S,r20,hi,M3,TK⟩
     by_cases hin:i<m
     · obtain ⟨bk,off,B',cB,rfl,e0,RB0,hBl,hBr⟩:=R.at' i hin
       have f03:=f00.trans f3
       have e3:=(f03.cell (hcell_lt e0) fun h=>h).trans e0
       have hli:=hgl i hin
       have hSl:=TK.len
       rw [csOf_len] at hSl
       have hgi:∀ x∈gs i,1≤x.natAbs∧x.natAbs≤16777216:=fun x hx=>by have:=goodC_mem (hgc i hin) hx; omega
       simp -implicitDefEqProofs (disch:=omega) [go_sem,r2,r6,r8,r9,r18,r19,r20,e3]
       refine useC (radd_ok M3 (RB0.fr0 f03) rfl (by omega) hgi (by omega)) ?_
       rintro _ h4 ⟨f4,⟨hn,rfl,M4⟩ | ⟨L,hL,rfl,M4⟩⟩
       · simp -implicitDefEqProofs (disch:=omega) [go_sem,r2,r6,r8,r9,r18,r19,r20]
         exact ⟨⟨r2,r6,r8,r9,r18,r19,f3.trans' f4 fun y hy hb=>by omega,T3.fr f4 fun y hy hb=>by omega,Nat.le_trans zN f4.size,i+1,S,rfl,by omega,M4,by rw [csOf_succ]; exact TK.no hn⟩,by omega⟩
       · simp -implicitDefEqProofs (disch:=omega) [go_sem,r2,r6,r8,r9,r18,r19,r20]
         exact ⟨⟨r2,r6,r8,r9,r18,r19,f3.trans' f4 fun y hy hb=>by omega,T3.fr f4 fun y hy hb=>by omega,Nat.le_trans zN f4.size,i+1,S++[L],rfl,by omega,M4,by rw [csOf_succ]; exact TK.add hL⟩,by omega⟩
     · obtain rfl:i=m:=by omega
       obtain rfl:=TK.uniq hT
       simp -implicitDefEqProofs (disch:=omega) [go_sem,r2,r6,r8,r9,r18,r19,r20]
       exact ⟨pf.length,r2,f3,tb,h1.size,h1.size,0,r8,r9,r6,by omega,M3,T3,z1,zN⟩
 · rintro j ρ h3 ⟨r2,f3,tb,sb,N,i,r8,r9,r6,hij,M3,T3,zN,zN2⟩
   have hpl:(pf.take i++pf.drop i)=pf:=List.take_append_drop i pf
   have hO':=hO
   rw [← hpl,PfOk_app] at hO'
   have hsg:=pfS_sgd F hT.sgd hO'.1
   have hsl:=pfS_len (pf:=pf.take i) (S:=S0)
   rw [List.length_take] at hsl
   by_cases hin:i<pf.length
   · obtain ⟨⟨kd,cl⟩,hx⟩:∃ x,pf[i]?=some x:=⟨_,List.getElem?_eq_getElem hin⟩
     obtain ⟨D,d,g1,g2,RD,hD⟩:=W.at' i kd cl hx
     have hdr:pf.drop i=(kd,cl)::pf.drop (i+1):=by
       rw [List.drop_eq_getElem_cons hin]
       have:=(List.getElem?_eq_some_iff.1 hx).2
       rw [this]
     rw [hdr] at hO'
     have hst:stO zs (pfS S0 (pf.take i)) (kd,cl):=hO'.2.1
     have hnx:pfS S0 (pf.take (i+1))=nxS (pfS S0 (pf.take i)) (kd,cl):=by
       rw [List.take_add_one,hx,pfS_app]; rfl
     have hvl:=W.len
     obtain ⟨qb,rfl,_,_,hcq⟩:=W.S.base (by omega)
     have c0:=(f3.cell (hcell_lt (hcq _ _ g1)) fun h=>h).trans (hcq _ _ g1)
     have c1:=(f3.cell (hcell_lt (hcq _ _ g2)) fun h=>h).trans (hcq _ _ g2)
     simp -implicitDefEqProofs (disch:=omega) [go_sem,r2,r6,r8,r9,c0,c1]
     refine useC (cstep_ok M3 T3 F hsg (by omega) (RD.fr0 f3) hst zN2) ?_
     rintro _ h4 ⟨rfl,M4,f4⟩
     simp -implicitDefEqProofs (disch:=omega) [go_sem,r2,r6,r8,r9]
     exact ⟨j-1,by omega,r2,f3.trans' f4 fun y hy hb=>by omega,tb,sb,N,i+1,r8,r9,rfl,by omega,by rw [hnx]; exact M4,T3.fr f4 fun y hy hb=>by omega,zN,Nat.le_trans zN2 f4.size⟩
   · obtain rfl:i=pf.length:=by omega
     rw [List.take_length] at M3 hsg hsl
     have hS2:∀ k∈pfS S0 pf,k.length<2^40:=fun k hk=>by have:=rise_16 (hsg k hk); omega
     simp -implicitDefEqProofs (disch:=omega) [go_sem,r2,r6,r8,r9]
     refine useC (rhas_ok (l:=[]) (A:=none) M3 RowAt.nil rfl (by decide) (fun x hx=>(nomatch hx)) List.Pairwise.nil (by omega) hS2) ?_
     rintro _ h4 ⟨rfl,f4⟩
     simp -implicitDefEqProofs (disch:=omega) [go_sem,r2,r6,r8,r9]
     exact ⟨f3.trans f4,rfl⟩
end
structure PrJ (h0:Heap) (P:Option Addr) (pc:Nat) (pf:List (Int × List Int)) (ρ:Env) (h:Heap):Prop where
 r9:ρ 9=.slice P pf.length pc
 r10:ρ 10=.int .i64 pf.length
 fr:Fr (fun _=>False) h0 h
 ex:∃ (i:Nat) (Q:Option Addr) (qc:Nat) (ws:List Value),ρ 11=.int .i64 i∧i≤pf.length∧ρ 3=.slice Q i qc∧PfW h (blk Q) Q qc (pf.take i) ws∧∀ y,blk Q y→h0.size≤y
def PrfR (pf:List (Int × List Int)) (v:Value) (h h':Heap):Prop:=Fr (fun _=>False) h h'∧∃ Q qc ws,v=.slice Q pf.length qc∧PfW h' (blk Q) Q qc pf ws
section
variable {h:Heap} {O X:Nat→Prop} {gb:Nat} {zs:List Nat} {c:CSt} {pf:List (Int × List Int)} {seen:Nat} {st tn:Int}
theorem eproof_ok (E0:EngM h O X gb zs c pf seen st tn) (hp:pf.length<2^39) (hl:∀ x∈pf,x.2.length<2^40) :
   CallsH Tryz.prog 56 [.pointer (some ⟨gb,0,none⟩)] h fun v h'=>PrfR pf v h h':=by
 obtain ⟨tb,cb,k,P,pc,vs,E⟩:=E0.ex
 have W:=E.S
 have b2:=E.B.at' 2 _ rfl
 refine calls_of 26 [.tmp 2] Go.Proofs.Tryz.func56 rfl rfl rfl ?_
 simp -implicitDefEqProofs (disch:=omega) [go_sem,b2]
 refine loopK (PrJ h P pc pf) (fun ρ _=>pf.length-(intOf (ρ 11)).toNat) (by kernel_rfl) ?_ ?_
 · exact ⟨rfl,rfl,Fr.refl _ _,0,none,0,[],rfl,Nat.zero_le _,rfl,⟨by simpa using SlAt.nil h,rfl,fun w hw=>(nomatch hw),fun i kd c hi=>by simp at hi⟩,fun y ⟨_,h,_⟩=>(nomatch h)⟩
 · rintro ρ h1 ⟨r9,r10,f1,i,Q,qc,ws,r11,hi,r3,WQ,hQ⟩
   by_cases hin:i<pf.length
   · obtain ⟨⟨kd,cl⟩,hx⟩:∃ x,pf[i]?=some x:=⟨_,List.getElem?_eq_getElem hin⟩
     have hcl:=hl _ (List.mem_of_getElem? hx)
     obtain ⟨D,d,g1,g2,RD,hD⟩:=W.at' i kd cl hx
     have hvl:=W.len
     have hwl:=WQ.len
     rw [List.length_take] at hwl
     obtain ⟨qb,rfl,_,_,hcq⟩:=W.S.base (by omega)
     have c0:=(f1.cell (hcell_lt (hcq _ _ g1)) fun h=>h).trans (hcq _ _ g1)
     have c1:=(f1.cell (hcell_lt (hcq _ _ g2)) fun h=>h).trans (hcq _ _ g2)
     simp -implicitDefEqProofs (disch:=omega) [go_sem,r3,r9,r10,r11,c0,c1]
     obtain ⟨h2,e2⟩:∃ h2,h2=hset (hset (h1.push (.cells #[.int .i64 0,.slice none 0 0] 153)) ⟨h1.size,0,none⟩ (.int .i64 kd)) ⟨h1.size,1,none⟩ (.slice D cl.length d):=⟨_,rfl⟩
     have f2:Fr (fun _=>False) h1 h2:=by rw [e2]; exact (((Fr.refl _ _).push).new (Nat.le_refl _)).new (Nat.le_refl _)
     have V2:ListB h2 h1.size [.int .i64 kd,.slice D cl.length d]:=by rw [e2]; exact ((ListB.new (vs:=[.int .i64 0,.slice none 0 0])).set (i:=0) (.int .i64 kd) Nat.two_pos).set (i:=1) (.slice D cl.length d) Nat.one_lt_two
     rw [← e2]
     have v0:=V2.at' 0 _ rfl
     have v1:=V2.at' 1 _ rfl
     refine drawC [(0,0),(1,0),(2,2),(3,0),(4,1),(5,3),(6,0),(7,3),(8,3),(9,0)] (fun h'=>hcell h' ⟨h1.size,0,none⟩=some (.int .i64 kd)) v0 ?_
     simp -implicitDefEqProofs (disch:=omega) [go_sem,r3,r9,r10,r11]
     refine float2 (.int .i64 kd) (fun h' hC=>by simp -implicitDefEqProofs (disch:=omega) [go_sem,hC]) ?_
     simp -implicitDefEqProofs (disch:=omega) [go_sem,r3,r9,r10,r11,v1]
     refine useC (clone_ok ((RD.fr0 f1).fr0 f2) (by rw [ints_len]) ints_one hcl) ?_
     rintro _ h3 ⟨A3,d3,rfl,S3,own3,f3⟩
     have v03:=(f3.cell (hcell_lt v0) fun h=>h).trans v0
     refine ⟨v03,?_⟩
     simp -implicitDefEqProofs (disch:=omega) [go_sem,r3,r9,r10,r11]
     refine build2i ?_
     obtain ⟨h4,e4⟩:∃ h4,h4=h3.push (.cells #[.int .i64 kd,.slice A3 cl.length d3] 153):=⟨_,rfl⟩
     have f4:Fr (fun _=>False) h3 h4:=by rw [e4]; exact (Fr.refl _ _).push
     have W4:SlAt h4 (some ⟨h3.size,0,none⟩) 2 [.int .i64 kd,.slice A3 cl.length d3]:=by rw [e4]; exact SlAt.new (vs:=[.int .i64 kd,.slice A3 cl.length d3])
     rw [← e4]
     have f14:=(f2.trans f3).trans f4
     have f04:=f1.trans f14
     have z1:=f1.size
     have z2:=f2.size
     have z3:=f3.size
     have z4:=f4.size
     have v04:=(f4.cell (hcell_lt v03) fun h=>h).trans v03
     refine ⟨v04,?_⟩
     simp -implicitDefEqProofs (disch:=omega) [go_sem,r3,r9,r10,r11]
     refine appendN (sz:=2) (vs:=ws) (ws:=[.int .i64 kd,.slice A3 cl.length d3]) (WQ.S.fr f14 fun _ _ h=>h) (by omega) W4.row rfl (by omega) (by simp [Value.oneCell']) (by omega) (by omega) ?_
     intro Q5 qc5 h5 S5 f5 hQ5
     refine ⟨(f5.cell (hcell_lt v04) fun hb=>by have:=WQ.S.blk_lt hb; omega).trans v04,?_⟩
     have z5:=f5.size
     simp -implicitDefEqProofs (disch:=omega) [go_sem,r3,r9,r10,r11]
     have hlt:(pf.take (i+1)).length=i+1:=by rw [List.length_take]; omega
     have hdis:∀ y,y<h1.size∧¬ blk Q y→y<h5.size∧¬ blk Q5 y:=fun y hy=>⟨by omega,fun hb=>(hQ5 y hb).elim hy.2 fun hh=>by omega⟩
     refine ⟨⟨r9,r10,f04.trans' f5 fun y hy hb=>by have:=hQ y hb; omega,i+1,Q5,qc5,_,rfl,by omega,rfl,⟨S5,by rw [List.length_append,hlt,hwl]; show _+2=_; omega,?_,fun j kd' c' hj=>?_⟩,fun y hy=>(hQ5 y hy).elim (hQ y) fun h=>by omega⟩,by omega⟩
     · intro w hw
       rcases List.mem_append.1 hw with hw | hw
       · exact WQ.one w hw
       · simp only [List.mem_cons,List.not_mem_nil,or_false] at hw
         rcases hw with rfl | rfl <;> rfl
     · rw [take_at hx] at hj
       by_cases hji:j<i
       · rw [List.getElem?_append_left (by rw [List.length_take]; omega)] at hj
         obtain ⟨D',d',q1,q2,q3,q4⟩:=WQ.at' j kd' c' hj
         exact ⟨D',d',by rw [List.getElem?_append_left (by omega)]; exact q1,by rw [List.getElem?_append_left (by omega)]; exact q2,(q3.fr0 f14).fr f5 fun y hy=>(q4 y hy).2,fun y hy=>hdis y (q4 y hy)⟩
       · have hjl:=(List.getElem?_eq_some_iff.1 hj).1
         rw [List.length_append,List.length_take,List.length_singleton] at hjl
         obtain rfl:j=i:=by omega
         rw [List.getElem?_append_right (by rw [List.length_take]; omega),List.length_take,Nat.min_eq_left (by omega),Nat.sub_self] at hj
         simp only [List.getElem?_cons_zero,Option.some.injEq,Prod.mk.injEq] at hj
         obtain ⟨rfl,rfl⟩:=hj
         have ewl:ws.length=j*2:=by omega
         refine ⟨A3,d3,by rw [List.getElem?_append_right (by omega),ewl,Nat.sub_self]; rfl,by rw [List.getElem?_append_right (by omega),ewl,Nat.add_sub_cancel_left]; rfl,(S3.row.fr0 f4).fr f5 fun y hy hb=>?_,fun y hy=>⟨?_,fun hb=>(hQ5 y hb).elim (fun hq=>?_) fun hh=>?_⟩⟩
         · have:=own3 y hy; have:=WQ.S.blk_lt hb; omega
         · have:=S3.blk_lt hy; omega
         · have:=own3 y hy; have:=WQ.S.blk_lt hq; omega
         · have:=S3.blk_lt hy; omega
   · obtain rfl:i=pf.length:=by omega
     rw [List.take_length] at WQ
     simp -implicitDefEqProofs (disch:=omega) [go_sem,r3,r9,r10,r11]
     exact ⟨f1,Q,qc,ws,rfl,WQ⟩
end
theorem PfOk.good {zs:List Nat}:∀ {pf:List (Int × List Int)} {S:List (List Int)},PfOk zs S pf→∀ x∈pf,GoodP zs x.2:=by
 intro pf
 induction pf with
 | nil=>intro S _ x hx; cases hx
 | cons a pf ih =>
   intro S h x hx
   rcases List.mem_cons.1 hx with rfl | hx
   · exact h.1.1
   · exact ih h.2 x hx
theorem room2_of {M0 D:Nat} (hM:M0≤16384) (hD:D≤5160960):∃ B1 B2 B3,B1=(M0+1)*(D+1)∧B2=(M0+1)*(2*D)∧B3=(M0+1)*2∧B1≤84562345985∧B2≤169124659200∧B3≤32770∧(M0+1)*D<2^40:=by
 have h1:(M0+1)*(D+1)≤16385*5160961:=Nat.mul_le_mul (by omega) (by omega)
 have h2:(M0+1)*(2*D)≤16385*10321920:=Nat.mul_le_mul (by omega) (by omega)
 have h3:(M0+1)*D≤16385*5160960:=Nat.mul_le_mul (by omega) (by omega)
 exact ⟨_,_,_,rfl,rfl,rfl,by omega,by omega,by omega,by omega⟩
theorem EndL.proof {zs:List Nat} {Cs:List (List Int)} {sc:Scr} {D M0 tot tn:Nat} {pf:List (Int × List Int)} {h:Heap} {r:Value} {K:List (List Int)} {lg:List (List Int × Bool)} (E:EndL zs Cs sc [] D M0 tot tn pf h r) (P:PfI zs Cs pf K lg) (hg:goodScr sc=true) (hno:(tot:Int)=sc.steps→tot<(M0+1)*D→False) :
   ∃ (n:Int) (v1:Value) (A:Option Addr) (ad:Nat) (S0:List (List Int)),r=.tuple #[.int .i64 n,v1,.slice A 0 ad,.int .i64 0]∧Tak Cs S0∧PfOk zs S0 pf∧decide ([]∈pfS S0 pf)=decide (n=1):=by
 obtain ⟨S0,E0,h1,hK,h2,_⟩:=P.ex
 cases E with
 | bad q=>rw [hg] at q; cases q
 | model _ _ _ _ w5 w6 w7 =>
   refine ⟨_,_,_,_,S0,rfl,h1,h2,?_⟩
   have hno:[]∉pfS S0 pf:=fun hm=>by
    obtain ⟨_,y,hy,_⟩:=PfOk.sound (M:=MB (tru zs _)) (MB_mdl _) (fun c hc=>hc.sat w5) h2 (fun c hc=>⟨fun x hx=>by have:=(h1.good c hc).2 x hx; unfold okL at this; omega,hK.fro _ w5 w6 c hc⟩) [] hm
    cases hy
   simp [hno]
 | @none A ad cl _ _ _ _ w5 _ w7 w8 =>
   have hcl:cl=[]:=List.eq_nil_iff_forall_not_mem.2 fun x hx=>by have:=w5 x hx; cases this
   subst hcl
   obtain ⟨q,rfl⟩:=w8 rfl
   refine ⟨_,_,_,_,S0,rfl,h1,h2,?_⟩
   have:[]∈pfS S0 (q++[((1:Int),[])]):=by
    rw [pfS_app]
    exact List.mem_append_right _ (List.mem_singleton.2 rfl)
   simp [this]
 | steps _ _ q2 q3=>exact (hno q2 q3).elim
section
variable {h:Heap}
theorem proves25_walk (Z:Option Addr) (zc:Nat) (zl:List Int) (hzl:zl.length<2^63) (RZ:RowAt h Z (ints zl)) (hzr:∀ x∈zl,-9223372036854775808≤x∧x≤9223372036854775807) (A:Option Addr) (m c:Nat) (gs:Nat→List Int) (R:Args2 h A m gs) (sc:Scr) (a:ScrA) (Ms:ScrM h sc a) (B:Option Addr) (d:Nat) (am:List Int) (hqs:am.length<2^63) (RA:RowAt h B (ints am)) (hr:∀ x∈am,-9223372036854775808≤x∧x≤9223372036854775807) :
   CallsH Tryz.prog 10 [.slice Z zl.length zc,.slice A m c,.agg (scrV sc a).toArray,.slice B am.length d] h fun r h'=>r=.bool true∧Fr (fun _=>False) h h':=by
 refine calls_of 88 [.tmp 8] Go.Proofs.Tryz.func10 rfl rfl rfl ?_
 unfold scrV
 simp -implicitDefEqProofs (disch:=omega) [go_sem]
 obtain ⟨h1,e1⟩:∃ h1,h1=h.push (.cells #[.slice a.P sc.picks.length a.pc,.slice a.G sc.signs.length a.gc,.slice a.R sc.res.length a.rc,.slice a.D sc.red.length a.dc,.int .i64 sc.steps] 56):=⟨_,rfl⟩
 have f1:Fr (fun _=>False) h h1:=by rw [e1]; exact (Fr.refl _ _).push
 have V1:ListB h1 h.size (scrV sc a):=by rw [e1]; exact ListB.new
 rw [← e1]
 clear e1
 refine useC awake25 ?_
 rintro _ h3 ⟨rfl,f3⟩
 have V3:=V1.fr f3 fun h=>h
 have f03:=f1.trans f3
 have ld1:=load5 V3
 simp -implicitDefEqProofs (disch:=omega) [go_sem,ld1]
 refine useC (small25_ok (RZ.fr0 f03) hzl (R.fr f03) (Ms.fr0 f03) hqs) ?_
 rintro _ h4 ⟨f4,b,rfl,hsm⟩
 have f04:=f03.trans f4
 cases b with
 | false =>
   simp -implicitDefEqProofs (disch:=omega) [go_sem]
   exact f04
 | true =>
   obtain ⟨zs,Q⟩:=hsm rfl
   obtain ⟨q1,F,q3,q4,q5,q6,q7,q8,q9,q10⟩:=Q
   subst q1
   clear hsm
   have V4:=V3.fr f4 fun h=>h
   clear ld1
   have ld1:=load5 V4
   rw [nts_len]
   simp -implicitDefEqProofs (disch:=omega) [go_sem,ld1]
   refine useC (right25_ok F (RZ.fr0 f04) R f04 (RA.fr0 f04) rfl (by omega) hr (by omega) fun i hi=>by have:=q10 i hi; omega) ?_
   rintro _ h6 ⟨f6,b,rfl,hb⟩
   have f06:=f04.trans f6
   cases b with
   | false =>
     simp -implicitDefEqProofs (disch:=omega) [go_sem]
     exact f06
   | true =>
     obtain ⟨hall,hga⟩:=hb.1 rfl
     clear hb
     have V6:=V4.fr f6 fun h=>h
     clear ld1
     have ld1:=load5 V6
     simp -implicitDefEqProofs (disch:=omega) [go_sem,ld1]
     refine useC (rgood20_ok (Ms.fr0 f06)) ?_
     rintro _ h8 ⟨rfl,f8⟩
     have f08:=f06.trans f8
     have V8:=V6.fr f8 fun h=>h
     cases hg:goodScr sc with
     | false =>
       simp -implicitDefEqProofs (disch:=omega) [go_sem]
       exact f08
     | true =>
       simp -implicitDefEqProofs (disch:=omega) [go_sem]
       refine useC (all13_ok F (RZ.fr0 f08)) ?_
       rintro _ h9 ⟨f9,X,xc,rfl,_,_⟩
       have f09:=f08.trans f9
       have V9:=V8.fr f9 fun h=>h
       by_cases h10:10<wsum zs
       · simp -implicitDefEqProofs (disch:=omega) [go_sem]
         exact f09
       · simp -implicitDefEqProofs (disch:=omega) [go_sem]
         have z9:h.size<h9.size:=V9.lt
         refine useC (lnew_ok F (RZ.fr0 f09) R f09 q4 q10) ?_
         rintro _ h10' ⟨f10,⟨⟨i,hi,hbad⟩,_⟩ | ⟨_,gb,cc,K,rfl,IX,hlg,hln,hcs⟩⟩
         · rw [hall i hi] at hbad; cases hbad
         obtain ⟨O,I,hO⟩:=IX (fun y=>y=h.size) fun y hy=>by omega
         have f010:=f09.trans f10
         have V10:=V9.fr f10 fun h=>h
         clear IX ld1
         have ld10:=load5 V10
         simp -implicitDefEqProofs (disch:=omega) [go_sem,ld10]
         refine useC (lbound_ok (sc:=sc) (a:=a) (v:=wsum zs) (by omega) q8 q9) ?_
         rintro _ h12 ⟨rfl,f12⟩
         have hT:=lbd_le (v:=wsum zs) (by omega) q8 q9
         have hnT:=lbd_need (v:=wsum zs) (R:=sc.res.length) (D:=sc.red.length)
         obtain ⟨T,hTe⟩:∃ T,T=lbd (wsum zs) sc.res.length sc.red.length:=⟨_,rfl⟩
         rw [← hTe] at hT hnT ⊢
         have V12:=V10.fr f12 fun h=>h
         have c4:=V12.at' 4 _ rfl
         have fz:=V12.fz
         obtain ⟨h13,e13⟩:∃ h13,h13=hset h12 ⟨h.size,4,none⟩ (.int .i64 T):=⟨_,rfl⟩
         have V13:ListB h13 h.size (scrV (scI sc T) a):=by rw [e13]; exact V12.set (i:=4) (.int .i64 T) (Nat.lt_succ_self 4)
         have g13:Fr (fun y=>y=h.size) h12 h13:=by rw [e13]; exact (Fr.refl _ _).set rfl
         have f013:Fr (fun _=>False) h h13:=by rw [e13]; exact (f010.trans f12).new (Nat.le_refl _)
         have ld13:=load5 V13
         simp -implicitDefEqProofs (disch:=omega) [go_sem,c4,fz]
         rw [← e13]
         clear c4 fz e13 ld10
         simp -implicitDefEqProofs (disch:=omega) [go_sem,ld13]
         have J1:=((I.fr0 f12).oth g13).shrink
         obtain ⟨N1,hN1⟩:∃ N1,N1=fun y=>O y∧¬ y=h.size:=⟨_,rfl⟩
         have lN1:∀ y,N1 y→h9.size≤y:=fun y hy=>by
          rw [hN1] at hy
          exact (hO y hy.1).resolve_right hy.2
         rw [← hN1] at J1
         clear hN1 I hO
         have zT:∀ y,y<h.size→y<h13.size:=fun y hy=>by have:=f013.size; omega
         have nO1:∀ {B':Option Addr} {ws:List Value},RowAt h B' ws→NotO N1 h13 B' ws:=fun RB hv y hy=>by
          have h1:=row_lt RB hv hy
          exact ⟨zT y h1,fun ho=>by have:=lN1 y ho; omega⟩
         have sT:-9223372036854775808≤(T:Int)∧(T:Int)≤9223372036854775807:=by omega
         have Sc:ScrO N1 h13 (scI sc T) a:=⟨scI_M (Ms.fr0 f013) sT,nO1 Ms.P,nO1 Ms.G,nO1 Ms.R,nO1 Ms.D⟩
         have hp2:2^wsum zs≤16384:=show 2^wsum zs≤2^14 from Nat.pow_le_pow_right (by omega) q3
         obtain ⟨B1,B2,B3,k1,k2,k3,w1,w2,w3,y3⟩:=room2_of (M0:=2^wsum zs) (D:=needN (wsum zs) sc.res.length) hp2 (needN_le14 q3 q8)
         have hR:Room cc [] (2^wsum zs) (needN (wsum zs) sc.res.length) (16+B1) B2 B3:=⟨by rw [← k1]; omega,by rw [← k2,hlg,hln]; show 0+0+_≤_; omega,by rw [← k3,hlg]; show 0+_≤0+_; omega⟩
         refine useC (esolve_ok J1 F Sc (RA.fr0 f013) (nO1 RA) rfl (by omega) hr rfl cntM_le (by omega) hR (by omega) (by omega) y3) ?_
         rintro r h16 ⟨O6,c6,pf6,K6,tot,tn,s16,I6,hz0,hz1,hz2,hz3,E⟩
         have f016:Fr (fun _=>False) h h16:=f013.trans' s16.fr fun y hy ho=>by have:=lN1 y ho; omega
         have V16:ListB h16 h.size (scrV (scI sc T) a):=V13.fr s16.fr fun ho=>by have:=lN1 _ ho; omega
         obtain ⟨v0,v1,v2,v3,rfl⟩:∃ v0 v1 v2 v3,r=.tuple #[v0,v1,v2,v3]:=by cases E <;> exact ⟨_,_,_,_,rfl⟩
         clear E
         have ld16:=load5 V16
         simp -implicitDefEqProofs (disch:=omega) [go_sem,ext4,ld16]
         have Sc6:=Sc.st s16
         have hR6:Room c6 pf6 (2^wsum zs) (needN (wsum zs) sc.res.length) (16+B1+B1) (B2+B2) (B3+B3):=⟨by rw [← k1]; omega,by rw [← k2]; omega,by rw [← k3]; omega⟩
         refine useC (esolve_ok (am:=[]) (A:=none) (ac:=0) (n:=0) I6 F Sc6 RowAt.nil (fun h=>absurd rfl h) rfl (by decide) (fun x hx=>(nomatch hx)) rfl cntM_le (by omega) hR6 (by omega) (by omega) y3) ?_
         rintro r h17 ⟨O7,c7,pf7,K7,tot2,tn2,s17,I7,_,_,x2,x3,E⟩
         have f017:Fr (fun _=>False) h h17:=f016.trans' s17.fr fun y hy ho=>by
          rcases s16.own y ho with ho | ho
          · have:=lN1 y ho; omega
          · have:=f013.size; omega
         obtain ⟨n,v1',CA,cd,S0,rfl,hTk,hPf,hdone⟩:=E.proof I7.P (scI_good2 hg (by omega) (by omega)) (fun g1 g2=>by have g1':(tot2:Int)=(T:Int):=g1; have g2':tot2<(2^wsum zs+1)*needN (wsum zs) sc.res.length:=g2; omega)
         clear E
         simp -implicitDefEqProofs (disch:=omega) [go_sem,ext4]
         have hpl:pf7.length<2^39:=by omega
         have hsum:=F.sum
         refine useC (eproof_ok I7.M hpl fun x hx=>by have:=rise_16 ((PfOk.good hPf x hx).g16 F); omega) ?_
         rintro _ h18 ⟨f18,Q,qc,ws,rfl,W⟩
         have f018:=f017.trans f18
         simp -implicitDefEqProofs (disch:=omega) [go_sem,ext4]
         refine useC (csteps24_ok F (RZ.fr0 f018) R f018 q4 hall q10 W hpl hTk hPf rfl) ?_
         rintro _ h19 ⟨f19,rfl⟩
         rw [hdone]
         simp -implicitDefEqProofs (disch:=omega) [go_sem,ext4]
         exact f018.trans f19
end
end Xe
