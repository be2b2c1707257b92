/- The document's atoms: Is, Truths. -/
import Derived.Test.YtkghjecglmmloaaGreatA20
import Derived.Test.YtkghjecglmmloaaGreatA1
namespace Xe
open Go Tp Go.Proofs Hq
set_option maxRecDepth 16000
set_option maxHeartbeats 4000000
section
variable {h:Heap} {zs:List Nat} {B C:Option Addr} {c0 d0:Nat} {ch:List Int}
theorem is13_ok {a:At} {r:Int} (RC:RowAt h C (ints ch)) (hr:ch[a.p]?=some r) (hl:ch.length<2^40):CallsH Tryz.prog 101 [atV a,.slice C ch.length d0] h fun v h'=>v=.bool (isA a r)∧Fr (fun _=>False) h h':=by
 have hp:=(List.getElem?_eq_some_iff.1 hr).1
 obtain ⟨bk,off,rfl,hc⟩:=RC.get (by rw [ints_len]; omega)
 have c0:=hc _ _ (ints_at hr)
 unfold atV
 refine calls_of 27 [.tmp 4] Go.Proofs.Tryz.func101 rfl rfl rfl (by kernel_rfl) (Nat.le_of_ble_eq_true rfl) ?_
 have c1:hcell (h.push (.cells #[.int .i64 a.k,.int .i64 a.p,.int .i64 a.i] 150)) ⟨bk,off+a.p,none⟩=some (.int .i64 r):=(((Fr.refl (fun _=>False) h).push).cell (hcell_lt c0) fun h=>h).trans c0
 simp -implicitDefEqProofs (disch:=omega) [go_sem,c1]
 unfold isA
 by_cases h0:a.k=0
 · have h0':(a.k:Int)=0:=by omega
   simp -implicitDefEqProofs (disch:=omega) [go_sem,h0,h0']
   exact (Fr.refl _ _).push
 · have h0':¬ (a.k:Int)=0:=by omega
   by_cases h1:a.k=1
   · have h1':(a.k:Int)=1:=by omega
     simp -implicitDefEqProofs (disch:=omega) [go_sem,h0,h1,h0',h1']
     exact (Fr.refl _ _).push
   · have h1':¬ (a.k:Int)=1:=by omega
     simp -implicitDefEqProofs (disch:=omega) [go_sem,h0,h1,h0',h1']
     exact (Fr.refl _ _).push
def RowT (l:List Bool) (r:Value) (h h':Heap):Prop:=Fr (fun _=>False) h h'∧∃ X xc,r=.slice X l.length xc∧SlAt h' X xc (bools l)∧∀ y,blk X y→h.size≤y
structure TrJ (h0:Heap) (zs:List Nat) (X:Option Addr) (xc:Nat) (C:Option Addr) (d0:Nat) (ch:List Int) (ρ:Env) (h:Heap):Prop where
 r1:ρ 1=.slice C ch.length d0
 r6:ρ 6=.slice X (wsum zs) xc
 fr:Fr (fun _=>False) h0 h
 ex:∃ (i:Nat) (Y:Option Addr) (yc:Nat),ρ 8=.int .i64 i∧i≤wsum zs∧ρ 7=.slice Y i yc∧SlAt h Y yc (bools ((tru zs ch).take i))∧∀ y,blk Y y→h0.size≤y
theorem truths13_ok (F:Few zs) (R:RowAt h B (ints (nts zs))) (RC:RowAt h C (ints ch)) (V:ValC zs ch) :
   CallsH Tryz.prog 51 [.slice B zs.length c0,.slice C ch.length d0] h fun r h'=>RowT (tru zs ch) r h h':=by
 have hsum:=F.sum
 have hlen:=F.len
 have hcl:=V.len
 refine calls_of 54 [.tmp 4] Go.Proofs.Tryz.func51 rfl rfl rfl (by kernel_rfl) (Nat.le_of_ble_eq_true rfl) ?_
 simp -implicitDefEqProofs (disch:=omega) [go_sem]
 refine loopK (fun ρ h'=>(ρ 0=.slice B zs.length c0∧ρ 1=.slice C ch.length d0∧h'=h)∧∃ p:Nat,ρ 5=.int .i64 p∧p≤zs.length) (fun ρ _=>zs.length-(intOf (ρ 5)).toNat) (by kernel_rfl) ?_ ?_
 · exact ⟨⟨rfl,rfl,rfl⟩,0,rfl,Nat.zero_le _⟩
 · rintro ρ h1 ⟨⟨r0,r1,rfl⟩,p,r5,hp⟩
   by_cases hpn:p<zs.length
   · obtain ⟨z,hz⟩:∃ z,zs[p]?=some z:=⟨_,List.getElem?_eq_getElem hpn⟩
     obtain ⟨x,hx⟩:∃ x,ch[p]?=some x:=⟨_,List.getElem?_eq_getElem (by omega)⟩
     have hv:=V.at' p z x hz hx
     have hz4:=F.le z (List.mem_of_getElem? hz)
     obtain ⟨bk,off,rfl,hc⟩:=R.get (by rw [ints_len,nts_len]; omega)
     have c0':=hc _ _ (ints_at (nts_at hz))
     obtain ⟨bk2,off2,rfl,hc2⟩:=RC.get (by rw [ints_len]; omega)
     have d0':=hc2 _ _ (ints_at hx)
     have n1:¬ x < -1:=by omega
     simp -implicitDefEqProofs (disch:=omega) [go_sem,r0,r1,r5]
     refine drawK [(0,0),(1,0),(2,0),(3,1),(4,0),(5,0),(6,0),(7,0),(8,0),(9,1),(10,0),(11,0),(12,0),(13,1),(14,0),(15,0)] mixed (by kernel_rfl) ?_
     simp -implicitDefEqProofs (disch:=omega) [go_sem,r0,r1,r5,c0',d0',n1]
     exact ⟨⟨p+1,by omega,by omega⟩,by omega⟩
   · simp -implicitDefEqProofs (disch:=omega) [go_sem,r0,r1,r5]
     refine useC (all13_ok F R) ?_
     rintro _ h2 ⟨f2,X,xc,rfl,SX,ownX⟩
     simp -implicitDefEqProofs (disch:=omega) [go_sem,r0,r1]
     refine loopK (TrJ h2 zs X xc C d0 ch) (fun ρ _=>wsum zs-(intOf (ρ 8)).toNat) (by kernel_rfl) ?_ ?_
     · exact ⟨r1,rfl,Fr.refl _ _,0,none,0,rfl,Nat.zero_le _,rfl,by simpa [bools] using SlAt.nil h2,fun y ⟨_,h,_⟩=>(nomatch h)⟩
     · clear r0 r1 r5
       rintro ρ h3 ⟨r1,r6,f3,i,Y,yc,r8,hi,r7,SY,hY⟩
       by_cases hin:i<wsum zs
       · obtain ⟨z,hz⟩:=at_pack hin
         have hpp:=(List.getElem?_eq_some_iff.1 hz).1
         obtain ⟨x,hx⟩:∃ x,ch[(atN zs 0 i).p]?=some x:=⟨_,List.getElem?_eq_getElem (by omega)⟩
         obtain ⟨bk,off,rfl,hc⟩:=(SX.fr f3 fun _ _ h=>h).row.get (by rw [atsV_len]; omega)
         have g0:=hc _ _ ((atsV_at (j:=0) hin (by omega)).trans (show _=some (Value.int .i64 (atN zs 0 i).k) from rfl))
         have g1:=hc _ _ ((atsV_at (j:=1) hin (by omega)).trans (show _=some (Value.int .i64 (atN zs 0 i).p) from rfl))
         have g2:=hc _ _ ((atsV_at (j:=2) hin (by omega)).trans (show _=some (Value.int .i64 (atN zs 0 i).i) from rfl))
         rw [Nat.add_zero] at g0
         rw [← Nat.add_assoc] at g1 g2
         simp -implicitDefEqProofs (disch:=omega) [go_sem,r1,r6,r7,r8,g0,g1,g2]
         refine useC (is13_ok (a:=atN zs 0 i) ((RC.fr0 f2).fr0 f3) hx (by omega)) ?_
         rintro _ h4 ⟨rfl,f4⟩
         simp -implicitDefEqProofs (disch:=omega) [go_sem,r1,r6,r7,r8]
         refine build1 rfl rfl ?_
         have f5:Fr (fun _=>False) h4 (h4.push (.cells #[.bool (isA (atN zs 0 i) x)] 4)):=(Fr.refl _ _).push
         simp -implicitDefEqProofs (disch:=omega) [go_sem,r1,r6,r7,r8]
         have hbl:(bools ((tru zs ch).take i)).length=i:=by rw [bools_len,List.length_take,tru_len]; omega
         refine appendB (vs:=bools ((tru zs ch).take i)) (ws:=[.bool (isA (atN zs 0 i) x)]) (SY.fr (f4.trans f5) fun _ _ h=>h) hbl.symm (SlAt.new (vs:=[.bool (isA (atN zs 0 i) x)])).row rfl (by simp [Value.oneCell']) (by omega) (by omega) ?_
         intro Y6 yc6 h6 S6 f6 hY6
         have et:bools ((tru zs ch).take i)++[.bool (isA (atN zs 0 i) x)]=bools ((tru zs ch).take (i+1)):=by
          rw [List.take_add_one,tru_at hin,List.getD_eq_getElem?_getD,hx]
          simp [bools]
         rw [et] at S6
         have f45:=f4.trans f5
         have z1:=f3.size
         have z2:=f45.size
         simp -implicitDefEqProofs (disch:=omega) [go_sem,r1,r6,r7,r8]
         exact ⟨⟨r1,r6,(f3.trans f45).trans' f6 fun y hy hb=>by have:=hY y hb; omega,i+1,Y6,yc6,rfl,by omega,rfl,S6,fun y hy=>(hY6 y hy).elim (hY y) fun h=>by omega⟩,by omega⟩
       · obtain rfl:i=wsum zs:=by omega
         simp -implicitDefEqProofs (disch:=omega) [go_sem,r1,r6,r7,r8]
         rw [List.take_of_length_le (by rw [tru_len]; exact Nat.le_refl _)] at SY
         exact ⟨f2.trans f3,Y,yc,by rw [tru_len],SY,fun y hy=>Nat.le_trans f2.size (hY y hy)⟩
end
end Xe
/- The document's choices. -/
namespace Xe
open Go Tp Go.Proofs Hq
set_option maxRecDepth 16000
set_option maxHeartbeats 4000000
section
variable {h h':Heap} {N:Nat} {A:Option Addr} {cap:Nat} {vs:List Value}
structure RowsC (h:Heap) (N:Nat) (A:Option Addr) (cap:Nat) (ms:List (List Int)) (vs:List Value):Prop where
 S:SlAt h A cap vs
 len:vs.length=ms.length
 own:∀ y,blk A y→N≤y
 one:∀ w∈vs,w.oneCell'=true
 at':∀ (i:Nat) m,ms[i]?=some m→∃ B c,vs[i]?=some (Value.slice B m.length c)∧RowAt h B (ints m)∧∀ y,blk B y→y<h.size∧¬ blk A y∧N≤y
theorem RowsC.fr0 {ms:List (List Int)} (R:RowsC h N A cap ms vs) (f:Fr (fun _=>False) h h'):RowsC h' N A cap ms vs where
 S:=R.S.fr f fun _ _ h=>h
 len:=R.len
 own:=R.own
 one:=R.one
 at' i m hm:=by
  obtain ⟨B,c,h1,h2,h3⟩:=R.at' i m hm
  exact ⟨B,c,h1,h2.fr0 f,fun y hy=>⟨Nat.lt_of_lt_of_le (h3 y hy).1 f.size,(h3 y hy).2⟩⟩
theorem RowsC.append {h h2 h':Heap} {N:Nat} {A1 A2 A':Option Addr} {c1 c2 c':Nat} {ms1 ms2:List (List Int)} {vs1 vs2:List Value} (R1:RowsC h N A1 c1 ms1 vs1) (z1:h.size≤h2.size) (R1':RowsC h2 N A1 c1 ms1 vs1) (R2:RowsC h2 h.size A2 c2 ms2 vs2) (S:SlAt h' A' c' (vs1++vs2)) (f:Fr (blk A1) h2 h') (hA:∀ y,blk A' y→blk A1 y∨h2.size≤y) (hN:N≤h.size):RowsC h' N A' c' (ms1++ms2) (vs1++vs2) where
 S:=S
 len:=by rw [List.length_append,List.length_append,R1.len,R2.len]
 own y hy:=(hA y hy).elim (R1.own y) fun h=>by omega
 one w hw:=(List.mem_append.1 hw).elim (R1.one w) (R2.one w)
 at' i m hm:=by
  have hl1:=R1.len
  have z2:=f.size
  by_cases hi:i<ms1.length
  · rw [List.getElem?_append_left hi] at hm
    obtain ⟨B,c,g1,g2,g3⟩:=R1'.at' i m hm
    refine ⟨B,c,by rw [List.getElem?_append_left (by omega)]; exact g1,g2.fr f fun y hy=>(g3 y hy).2.1,fun y hy=>⟨by have:=(g3 y hy).1; omega,fun h=>?_,(g3 y hy).2.2⟩⟩
    rcases hA y h with h | h
    · exact (g3 y hy).2.1 h
    · have:=(g3 y hy).1; omega
  · rw [List.getElem?_append_right (by omega)] at hm
    obtain ⟨B,c,g1,g2,g3⟩:=R2.at' _ m hm
    refine ⟨B,c,by rw [List.getElem?_append_right (by omega),hl1]; exact g1,g2.fr f fun y hy h=>?_,fun y hy=>⟨by have:=(g3 y hy).1; omega,fun h=>?_,by have:=(g3 y hy).2.2; omega⟩⟩
    · have:=R1.S.blk_lt h; have:=(g3 y hy).2.2; omega
    · rcases hA y h with h | h
      · have:=R1.S.blk_lt h; have:=(g3 y hy).2.2; omega
      · have:=(g3 y hy).1; omega
end
theorem RowsC.nil {h:Heap} {N:Nat}:RowsC h N none 0 [] []:=⟨SlAt.nil _,rfl,fun y ⟨_,h,_⟩=>(nomatch h),fun w hw=>(nomatch hw),fun i k hk=>by simp at hk⟩
def chsF (zs:List Nat):Nat→List Int→List (List Int)
 | 0,b=>[b]
 | d+1,b=>(List.range (zs.getD b.length 0+1)).flatMap fun j:Nat=>chsF zs d (b++[(j:Int)-1])
theorem chsF_len {zs:List Nat} (hz:∀ z∈zs,z≤4):∀ (d:Nat) (b:List Int),(chsF zs d b).length≤5^d:=by
 intro d
 induction d with
 | zero=>intro b; simp [chsF]
 | succ d ih =>
   intro b
   unfold chsF
   have hz4:zs.getD b.length 0≤4:=by
    rw [List.getD_eq_getElem?_getD]
    cases hc:zs[b.length]? with
    | none=>simp
    | some z=>exact hz z (List.mem_of_getElem? hc)
   have key:∀ n,((List.range n).flatMap fun j:Nat=>chsF zs d (b++[(j:Int)-1])).length≤n*5^d:=fun n=>by
    induction n with
    | zero=>simp
    | succ n ihn =>
      rw [List.range_succ,List.flatMap_append,List.length_append,Nat.succ_mul]
      have:=ih (b++[(n:Int)-1])
      simp only [List.flatMap_cons,List.flatMap_nil,List.append_nil]
      omega
   have h1:=key (zs.getD b.length 0+1)
   have h2:(zs.getD b.length 0+1)*5^d≤5*5^d:=Nat.mul_le_mul_right _ (by omega)
   rw [Nat.pow_succ,Nat.mul_comm]; omega
def ChsR (K:List (List Int)) (r:Value) (h h':Heap):Prop:=Fr (fun _=>False) h h'∧∃ R rc vs,r=.slice R K.length rc∧RowsC h' h.size R rc K vs
structure ChJ (h0:Heap) (zs:List Nat) (B:Option Addr) (c0:Nat) (D:Option Addr) (d0:Nat) (b:List Int) (d:Nat) (ρ:Env) (h:Heap):Prop where
 r0:ρ 0=.slice B zs.length c0
 r1:ρ 1=.slice D b.length d0
 fr:Fr (fun _=>False) h0 h
 ex:∃ (j:Nat) (R:Option Addr) (rc:Nat) (vs:List Value),ρ 6=.int .i64 ((j:Int)-1)∧j≤zs.getD b.length 0+1∧ρ 5=.slice R ((List.range j).flatMap fun i:Nat=>chsF zs d (b++[(i:Int)-1])).length rc∧RowsC h h0.size R rc ((List.range j).flatMap fun i:Nat=>chsF zs d (b++[(i:Int)-1])) vs
theorem choices13_ok {h00:Heap} {zs:List Nat} (F:Few zs) {B:Option Addr} {c0:Nat} (R:RowAt h00 B (ints (nts zs))):∀ (d:Nat) {h:Heap} {D:Option Addr} {d0:Nat} {b:List Int},Fr (fun _=>False) h00 h→RowAt h D (ints b)→b.length+d=zs.length →
   CallsH Tryz.prog 102 [.slice B zs.length c0,.slice D b.length d0] h fun r h'=>ChsR (chsF zs d b) r h h':=by
 have hlen:=F.len
 intro d
 induction d with
 | zero =>
   intro h D d0 b f0 RD hd
   have e1:(b.length:Int)=(zs.length:Int):=by omega
   refine calls_of 36 [.tmp 4] Go.Proofs.Tryz.func102 rfl rfl rfl (by kernel_rfl) (Nat.le_of_ble_eq_true rfl) ?_
   simp -implicitDefEqProofs (disch:=omega) [go_sem,e1]
   refine buildA ?_
   intro X h3 SX hX f3
   simp -implicitDefEqProofs (disch:=omega) [go_sem]
   refine appendB (vs:=[]) (ws:=ints b) SX rfl (RD.fr0 f3) (by rw [ints_len]) ints_one (by omega) (by omega) ?_
   intro A4 c4 h4 S4 f4 hA4
   have f24:Fr (fun _=>False) h h4:=f3.trans' f4 fun y hy hb=>by have:=(hX y hb).1; omega
   simp -implicitDefEqProofs (disch:=omega) [go_sem]
   refine build1 rfl rfl ?_
   simp -implicitDefEqProofs (disch:=omega) [go_sem]
   have f5:Fr (fun _=>False) h4 (h4.push (.cells #[.slice A4 b.length c4] 23)):=(Fr.refl _ _).push
   refine ⟨f24.trans f5,some ⟨h4.size,0,none⟩,1,_,rfl,⟨SlAt.new (vs:=[.slice A4 b.length c4]),rfl,fun y ⟨_,hh,e⟩=>?_,by simp [Value.oneCell'],fun i m hm=>?_⟩⟩
   · cases hh; rw [← e]; exact f24.size
   · have hi:i=0:=by have:=(List.getElem?_eq_some_iff.1 hm).1; simp [chsF] at this; omega
     subst hi
     simp [chsF] at hm
     subst hm
     refine ⟨A4,c4,rfl,S4.row.fr0 f5,fun y hy=>⟨by rw [push_size]; have:=S4.blk_lt hy; omega,fun ⟨_,h,e⟩=>?_,?_⟩⟩
     · cases h; have:=S4.blk_lt hy; simp at e; omega
     · rcases hA4 y hy with h | h
       · exact (hX y h).1
       · have:=f3.size; omega
 | succ d ih =>
   intro h D d0 b f0 RD hd
   have e1:¬ (b.length:Int)=(zs.length:Int):=by omega
   obtain ⟨z,hz⟩:∃ z,zs[b.length]?=some z:=⟨_,List.getElem?_eq_getElem (by omega)⟩
   have hz4:=F.le z (List.mem_of_getElem? hz)
   have hgd:zs.getD b.length 0=z:=by rw [List.getD_eq_getElem?_getD,hz]; rfl
   obtain ⟨bk,off,rfl,hc⟩:=R.get (by rw [ints_len,nts_len]; omega)
   have c00:=hc _ _ (ints_at (nts_at hz))
   refine calls_of 36 [.tmp 4] Go.Proofs.Tryz.func102 rfl rfl rfl (by kernel_rfl) (Nat.le_of_ble_eq_true rfl) ?_
   simp -implicitDefEqProofs (disch:=omega) [go_sem,e1]
   refine loopK (ChJ h zs (some ⟨bk,off,none⟩) c0 D d0 b d) (fun ρ _=>z+1-(intOf (ρ 6)+1).toNat) (by kernel_rfl) ?_ ?_
   · exact ⟨rfl,rfl,Fr.refl _ _,0,none,0,[],rfl,Nat.zero_le _,rfl,RowsC.nil⟩
   · rintro ρ h1 ⟨r0,r1,f1,j,Q,qc,vs,r6,hj,r5,RQ⟩
     rw [hgd] at hj
     have c01:=((f0.trans f1).cell (hcell_lt c00) fun h=>h).trans c00
     obtain ⟨K1,hK1⟩:∃ K1,K1=(List.range j).flatMap fun i:Nat=>chsF zs d (b++[(i:Int)-1]):=⟨_,rfl⟩
     rw [← hK1] at r5 RQ
     by_cases hjn:j<z+1
     · have hjz:(j:Int)-1<z:=by omega
       simp -implicitDefEqProofs (disch:=omega) [go_sem,r0,r1,r5,r6,c01,hjz]
       have hKl:K1.length≤5*5^4:=by
        have hle:∀ n,((List.range n).flatMap fun i:Nat=>chsF zs d (b++[(i:Int)-1])).length≤n*5^4:=fun n=>by
         induction n with
         | zero=>simp
         | succ n ihn =>
           rw [List.range_succ,List.flatMap_append,List.length_append,Nat.succ_mul]
           have h1:=chsF_len F.le d (b++[(n:Int)-1])
           have h2:5^d≤5^4:=Nat.pow_le_pow_right (by omega) (by omega)
           simp only [List.flatMap_cons,List.flatMap_nil,List.append_nil]
           omega
        have h1:=hle j
        have h2:j*5^4≤5*5^4:=Nat.mul_le_mul_right _ (by omega)
        rw [hK1]; omega
       refine buildA ?_
       intro Xa h3a SXa hXa f3a
       simp -implicitDefEqProofs (disch:=omega) [go_sem,r0,r1,r5,r6]
       refine appendB (vs:=[]) (ws:=ints b) SXa rfl ((RD.fr0 f1).fr0 f3a) (by rw [ints_len]) ints_one (by omega) (by omega) ?_
       intro A4a c4a h4a S4a f4a hA4a
       have f24a:Fr (fun _=>False) h1 h4a:=f3a.trans' f4a fun y hy hb=>by have:=(hXa y hb).1; omega
       have hA4'a:∀ y,blk A4a y→h1.size≤y:=fun y hy=>by
        rcases hA4a y hy with h | h
        · exact (hXa y h).1
        · have:=f3a.size; omega
       simp -implicitDefEqProofs (disch:=omega) [go_sem,r0,r1,r5,r6]
       refine build1 rfl rfl ?_
       have f5a:Fr (fun _=>False) h4a (h4a.push (.cells #[.int .i64 ((j:Int)-1)] 3)):=(Fr.refl _ _).push
       simp -implicitDefEqProofs (disch:=omega) [go_sem,r0,r1,r5,r6]
       refine appendB (vs:=ints b) (ws:=[.int .i64 ((j:Int)-1)]) (S4a.fr f5a fun _ _ h=>h) (by rw [ints_len]) (SlAt.new (vs:=[.int .i64 ((j:Int)-1)])).row rfl (by simp [Value.oneCell']) (by omega) (by omega) ?_
       intro A6a c6a h6a S6a f6a hA6a
       have f26a:Fr (fun _=>False) h1 h6a:=(f24a.trans f5a).trans' f6a fun y hy hb=>by have:=hA4'a y hb; omega
       have eba:ints b++[.int .i64 ((j:Int)-1)]=ints (b++[(j:Int)-1]):=by simp [ints]
       rw [eba] at S6a
       have ela:b.length+1=(b++[(j:Int)-1]).length:=by simp
       simp -implicitDefEqProofs (disch:=omega) [go_sem,r0,r1,r5,r6]
       rw [ela]
       refine useC (ih ((f0.trans f1).trans f26a) S6a.row (by rw [List.length_append,List.length_singleton]; omega)) ?_
       rintro _ h7 ⟨f7,Q2,qc2,vs2,rfl,RQ2⟩
       have f17:=f26a.trans f7
       obtain ⟨K2,hK2⟩:∃ K2,K2=chsF zs d (b++[(j:Int)-1]):=⟨_,rfl⟩
       have hK2l:K2.length≤5^4:=by
        rw [hK2]
        exact Nat.le_trans (chsF_len F.le d _) (Nat.pow_le_pow_right (by omega) (by omega))
       rw [← hK2] at RQ2 ⊢
       simp -implicitDefEqProofs (disch:=omega) [go_sem,r0,r1,r5,r6]
       have RQ7:RowsC h7 h.size Q qc K1 vs:=RQ.fr0 f17
       refine appendB (vs:=vs) (ws:=vs2) RQ7.S (by rw [RQ7.len]) RQ2.S.row (by rw [RQ2.len]) RQ2.one (by omega) (by omega) ?_
       intro A8 c8 h8 S8 f8 hA8
       simp -implicitDefEqProofs (disch:=omega) [go_sem,r0,r1,r5,r6]
       have zz:h.size≤h6a.size:=Nat.le_trans f1.size f26a.size
       have eK:(List.range (j+1)).flatMap (fun i:Nat=>chsF zs d (b++[(i:Int)-1]))=K1++K2:=by
        rw [List.range_succ,List.flatMap_append,hK1,hK2]; simp
       have RN:RowsC h8 h.size A8 c8 (K1++K2) (vs++vs2):=RowsC.append (h:=h6a) (h2:=h7) (RQ.fr0 f26a) f7.size RQ7 RQ2 S8 f8 hA8 zz
       have f18:Fr (fun _=>False) h h8:=(f1.trans f17).trans' f8 fun y hy hb=>by have:=RQ.own y hb; omega
       exact ⟨⟨r0,r1,f18,j+1,A8,c8,vs++vs2,congrArg (Value.int .i64) (by push_cast; omega),by rw [hgd]; omega,by rw [eK,List.length_append]; rfl,by rw [eK]; exact RN⟩,by omega⟩
     · obtain rfl:j=z+1:=by omega
       have hjz:¬ ((z+1:Nat):Int)-1<z:=by omega
       simp -implicitDefEqProofs (disch:=omega) [go_sem,r0,r1,r5,r6,c01,hjz]
       have eK:chsF zs (d+1) b=K1:=by rw [hK1,chsF,hgd]
       rw [eK]
       exact ⟨f1,Q,qc,vs,rfl,RQ⟩
end Xe
/- Layer 25's own functions: small,right. -/
namespace Xe
open Go Tp Go.Proofs Hq
set_option maxRecDepth 16000
set_option maxHeartbeats 4000000
structure Smz (zl:List Int) (zs:List Nat) (m q:Nat) (gs:Nat→List Int) (sc:Scr):Prop where
 eq:zl=nts zs
 F:Few zs
 n14:wsum zs≤14
 hm:m≤16
 hq:q≤6
 p:sc.picks.length≤20
 g:sc.signs.length≤20
 r:sc.res.length≤20
 d:sc.red.length≤20
 l:∀ i,i<m→(gs i).length≤6
def dbl:List Nat→Nat
 | []=>0
 | z::r=>2*z+1+dbl r
theorem dbl_snoc {l:List Nat} {z:Nat}:dbl (l++[z])=dbl l+(2*z+1):=by
 induction l with
 | nil=>simp [dbl]
 | cons a l ih=>simp only [List.cons_append,dbl,ih]; omega
theorem wsum_dbl {l:List Nat}:wsum l≤dbl l:=by
 induction l with
 | nil=>simp [wsum,dbl]
 | cons a l ih=>simp only [wsum,dbl,wid]; omega
theorem dbl_le {l:List Nat} (h:∀ z∈l,z≤4):dbl l≤9*l.length:=by
 induction l with
 | nil=>simp [dbl]
 | cons a l ih =>
   have h1:=h a List.mem_cons_self
   have h2:=ih fun z hz=>h z (List.mem_cons_of_mem _ hz)
   simp only [dbl,List.length_cons]; omega
section
variable {h:Heap}
theorem small25_ok {Z A B:Option Addr} {zc m c q d:Nat} {zl:List Int} (RZ:RowAt h Z (ints zl)) (hzl:zl.length<2^63) {gs:Nat→List Int} (R:Args2 h A m gs) {sc:Scr} {a:ScrA} (Ms:ScrM h sc a) (hq:q<2^63) :
   CallsH Tryz.prog 45 [.slice Z zl.length zc,.slice A m c,.agg (scrV sc a).toArray,.slice B q d] h fun r h'=>Fr (fun _=>False) h h'∧∃ b:Bool,r=.bool b∧(b=true→∃ zs,Smz zl zs m q gs sc):=by
 have hms:=R.small
 have l1:=Ms.lP
 have l2:=Ms.lG
 have l3:=Ms.lR
 have l4:=Ms.lD
 refine calls_of 89 [.tmp 8] Go.Proofs.Tryz.func45 rfl rfl rfl (by kernel_rfl) (Nat.le_of_ble_eq_true rfl) ?_
 unfold scrV
 simp -implicitDefEqProofs (disch:=omega) [go_sem]
 obtain ⟨h1,e1⟩:∃ h1,h1=h.push (.cells #[.slice a.P sc.picks.length a.pc,.slice a.G sc.signs.length a.gc,.slice a.R sc.res.length a.rc,.slice a.D sc.red.length a.dc,.int .i64 sc.steps] 56):=⟨_,rfl⟩
 have f1:Fr (fun _=>False) h h1:=by rw [e1]; exact (Fr.refl _ _).push
 have V1:ListB h1 h.size [.slice a.P sc.picks.length a.pc,.slice a.G sc.signs.length a.gc,.slice a.R sc.res.length a.rc,.slice a.D sc.red.length a.dc,.int .i64 sc.steps]:=by rw [e1]; exact ListB.new
 have b0:=V1.at' 0 _ rfl
 have b1:=V1.at' 1 _ rfl
 have b2:=V1.at' 2 _ rfl
 have b3:=V1.at' 3 _ rfl
 by_cases g1:4<zl.length
 · have g1':(4:Int)<zl.length:=by omega
   simp -implicitDefEqProofs (disch:=omega) [go_sem,g1']
   exact (Fr.refl _ _).push
 have g1':¬ (4:Int)<zl.length:=by omega
 by_cases g3:16<m
 · have g3':(16:Int)<m:=by omega
   simp -implicitDefEqProofs (disch:=omega) [go_sem,g1',g3']
   exact (Fr.refl _ _).push
 have g3':¬ (16:Int)<m:=by omega
 by_cases g4:6<q
 · have g4':(6:Int)<q:=by omega
   simp -implicitDefEqProofs (disch:=omega) [go_sem,g1',g3',g4']
   exact (Fr.refl _ _).push
 have g4':¬ (6:Int)<q:=by omega
 by_cases g5:20<sc.picks.length
 · have g5':(20:Int)<sc.picks.length:=by omega
   simp -implicitDefEqProofs (disch:=omega) [go_sem,g1',g3',g4',g5',← e1,b0]
   exact f1
 have g5':¬ (20:Int)<sc.picks.length:=by omega
 by_cases g6:20<sc.signs.length
 · have g6':(20:Int)<sc.signs.length:=by omega
   simp -implicitDefEqProofs (disch:=omega) [go_sem,g1',g3',g4',g5',g6',← e1,b0,b1]
   exact f1
 have g6':¬ (20:Int)<sc.signs.length:=by omega
 by_cases g7:20<sc.res.length
 · have g7':(20:Int)<sc.res.length:=by omega
   simp -implicitDefEqProofs (disch:=omega) [go_sem,g1',g3',g4',g5',g6',g7',← e1,b0,b1,b2]
   exact f1
 have g7':¬ (20:Int)<sc.res.length:=by omega
 by_cases g8:20<sc.red.length
 · have g8':(20:Int)<sc.red.length:=by omega
   simp -implicitDefEqProofs (disch:=omega) [go_sem,g1',g3',g4',g5',g6',g7',g8',← e1,b0,b1,b2,b3]
   exact f1
 have g8':¬ (20:Int)<sc.red.length:=by omega
 simp -implicitDefEqProofs (disch:=omega) [go_sem,g1',g3',g4',g5',g6',g7',g8',← e1,b0,b1,b2,b3]
 have R1:=R.fr f1
 have RZ1:=RZ.fr0 f1
 refine loopK (fun ρ h'=>(ρ 0=.slice Z zl.length zc∧ρ 1=.slice A m c∧h'=h1)∧∃ (i:Nat) (zs:List Nat),ρ 10=.int .i64 i∧i≤zl.length∧zl.take i=nts zs∧(∀ z∈zs,z≤4)∧ρ 9=.int .i64 (dbl zs:Nat)) (fun ρ _=>zl.length-(intOf (ρ 10)).toNat) (by kernel_rfl) ?_ ?_
 · exact ⟨⟨rfl,rfl,e1.symm⟩,0,[],rfl,Nat.zero_le _,rfl,fun z hz=>(nomatch hz),rfl⟩
 · rintro ρ h' ⟨⟨r0,r1,rfl⟩,i,zs,r10,hi,htk,hz4,r9⟩
   have hzl:zs.length=i:=by have:=congrArg List.length htk; rw [nts_len,List.length_take] at this; omega
   have hdl:=dbl_le hz4
   by_cases hin:i<zl.length
   · obtain ⟨x,hx⟩:=some_at hin
     obtain ⟨bk,off,rfl,hc⟩:=RZ1.get (by rw [ints_len]; omega)
     have c0:=hc _ _ (ints_at hx)
     by_cases hx0:x<0
     · simp -implicitDefEqProofs (disch:=omega) [go_sem,r0,r1,r9,r10,c0,hx0]
       exact f1
     · by_cases hx4:4<x
       · simp -implicitDefEqProofs (disch:=omega) [go_sem,r0,r1,r9,r10,c0,hx0,hx4]
         exact f1
       · obtain ⟨z,rfl⟩:∃ z:Nat,x=z:=⟨x.toNat,by omega⟩
         have en:(dbl zs:Nat)+2*(z:Int)+1=((dbl (zs++[z]):Nat):Int):=by rw [dbl_snoc]; push_cast; omega
         simp -implicitDefEqProofs (disch:=omega) [go_sem,r0,r1,r9,r10,c0,hx0,hx4,en]
         refine ⟨⟨i+1,by omega,by omega,zs++[z],?_,fun y hy=>?_,rfl⟩,by omega⟩
         · rw [List.take_add_one,hx,htk]; simp [nts]
         · rcases List.mem_append.1 hy with h | h
           · exact hz4 y h
           · rw [List.mem_singleton] at h; omega
   · obtain rfl:i=zl.length:=by omega
     rw [List.take_length] at htk
     simp -implicitDefEqProofs (disch:=omega) [go_sem,r0,r1,r9,r10]
     have hgo:h'.size≤h'.size:=Nat.le_refl _
     refine loopK (fun ρ h2=>(ρ 1=.slice A m c∧ρ 9=.int .i64 (dbl zs:Nat)∧h2=h')∧∃ i:Nat,ρ 11=.int .i64 i∧i≤m∧∀ j,j<i→(gs j).length≤6) (fun ρ _=>m-(intOf (ρ 11)).toNat) (by kernel_rfl) ?_ ?_
     · exact ⟨⟨r1,r9,rfl⟩,0,rfl,Nat.zero_le _,fun j h=>absurd h (Nat.not_lt_zero _)⟩
     · clear r0 r1 r9 r10 hgo
       rintro ρ h2 ⟨⟨r1,r9,rfl⟩,i,r11,hi,hj⟩
       by_cases hin:i<m
       · obtain ⟨bk,off,B',cB,rfl,e0,RB,hBl,hBr⟩:=R1.at' i hin
         by_cases hlen:6<(gs i).length
         · have hl':(6:Int)<(gs i).length:=by omega
           simp -implicitDefEqProofs (disch:=omega) [go_sem,r1,r9,r11,e0,hl']
           exact f1
         · have hl':¬ (6:Int)<(gs i).length:=by omega
           simp -implicitDefEqProofs (disch:=omega) [go_sem,r1,r9,r11,e0,hl']
           refine ⟨⟨i+1,by omega,by omega,fun j hj2=>?_⟩,by omega⟩
           by_cases e:j=i
           · subst e; omega
           · exact hj j (by omega)
       · obtain rfl:i=m:=by omega
         simp -implicitDefEqProofs (disch:=omega) [go_sem,r1,r9,r11]
         have hw:=wsum_dbl (l:=zs)
         exact ⟨f1,fun hle=>⟨zs,htk,⟨by omega,hz4⟩,by omega,by omega,by omega,by omega,by omega,by omega,by omega,hj⟩⟩
end
end Xe
/- Layer 25's own functions: right,any1. -/
namespace Xe
open Go Tp Go.Proofs Hq
set_option maxRecDepth 16000
set_option maxHeartbeats 4000000
theorem csOf_len {gs:Nat→List Int} {m:Nat}:(csOf gs m).length=m:=by simp [csOf]
theorem mem_csOf {gs:Nat→List Int} {m:Nat} {C:List Int}:C∈csOf gs m↔∃ i,i<m∧gs i=C:=by
 unfold csOf
 rw [List.mem_map]
 exact ⟨fun ⟨j,h,e⟩=>⟨j,List.mem_range.1 h,e⟩,fun ⟨j,h,e⟩=>⟨j,List.mem_range.2 h,e⟩⟩
theorem Args2.rowsA {h:Heap} {A:Option Addr} {m:Nat} {gs:Nat→List Int} (R:Args2 h A m gs):RowsA h A (csOf gs m):=fun i K hK=>by
 have hi:=(List.getElem?_eq_some_iff.1 hK).1
 rw [csOf_len] at hi
 obtain ⟨bk,off,B,c,e,e0,RB,_,_⟩:=R.at' i hi
 have:gs i=K:=by
  unfold csOf at hK
  rw [List.getElem?_map,List.getElem?_range hi] at hK
  exact Option.some.inj hK
 rw [← this]
 exact ⟨bk,off,B,c,e,e0,RB⟩
theorem chsF_mem {zs:List Nat}:∀ (d:Nat) (b ch:List Int),b.length+d=zs.length→(ch∈chsF zs d b↔ch.length=zs.length∧ch.take b.length=b∧∀ (p:Nat) z r,b.length≤p→zs[p]?=some z→ch[p]?=some r→-1≤r∧r<(z:Int)):=by
 intro d
 induction d with
 | zero =>
   intro b ch hd
   simp only [chsF,List.mem_singleton]
   constructor
   · rintro rfl
     exact ⟨by omega,List.take_length,fun p z r h1 h2 _=>by have:=(List.getElem?_eq_some_iff.1 h2).1; omega⟩
   · rintro ⟨h1,h2,_⟩
     rw [← h2,List.take_of_length_le (by omega)]
 | succ d ih =>
   intro b ch hd
   obtain ⟨z,hz⟩:∃ z,zs[b.length]?=some z:=⟨_,List.getElem?_eq_getElem (by omega)⟩
   have hgd:zs.getD b.length 0=z:=by rw [List.getD_eq_getElem?_getD,hz]; rfl
   rw [chsF,hgd,List.mem_flatMap]
   have hlb:∀ x:Int,(b++[x]).length=b.length+1:=fun x=>by simp
   constructor
   · rintro ⟨j,hj,hm⟩
     rw [List.mem_range] at hj
     obtain ⟨h1,h2,h3⟩:=(ih _ _ (by rw [hlb]; omega)).1 hm
     rw [hlb] at h2 h3
     have hat:ch[b.length]?=some ((j:Int)-1):=by
       have:(ch.take (b.length+1))[b.length]?=some ((j:Int)-1):=by rw [h2]; simp
       rw [List.getElem?_take_of_lt (by omega)] at this
       exact this
     refine ⟨h1,?_,fun p z' r hp hz' hr=>?_⟩
     · have:=congrArg (List.take b.length) h2
       rw [List.take_take,Nat.min_eq_left (by omega),List.take_left'] at this
       · exact this
       · rfl
     · by_cases e:p=b.length
       · subst e
         rw [hz] at hz'; cases hz'
         rw [hat] at hr; cases hr
         omega
       · exact h3 p z' r (by omega) hz' hr
   · rintro ⟨h1,h2,h3⟩
     obtain ⟨r,hr⟩:∃ r,ch[b.length]?=some r:=⟨_,List.getElem?_eq_getElem (by omega)⟩
     have hv:=h3 _ z r (Nat.le_refl _) hz hr
     refine ⟨(r+1).toNat,List.mem_range.2 (by omega),(ih _ _ (by rw [hlb]; omega)).2 ⟨h1,?_,fun p z' r' hp=>h3 p z' r' (by rw [hlb] at hp; omega)⟩⟩
     rw [hlb,List.take_add_one,hr,h2]
     simp
     omega
theorem chsF_val {zs:List Nat} {ch:List Int}:ch∈chsF zs zs.length []↔ValC zs ch:=by
 rw [chsF_mem _ _ _ (Nat.zero_add _)]
 exact ⟨fun ⟨h1,_,h3⟩=>⟨h1,fun p z r hz hr=>h3 p z r (Nat.zero_le _) hz hr⟩,fun V=>⟨V.len,rfl,fun p z r _ hz hr=>V.at' p z r hz hr⟩⟩
section
variable {h:Heap} {zs:List Nat} {Z A B:Option Addr} {zc m c q d:Nat} {gs:Nat→List Int} {am:List Int}
theorem right25_ok {h0:Heap} (F:Few zs) (RZ:RowAt h Z (ints (nts zs))) (R:Args2 h0 A m gs) (f:Fr (fun _=>False) h0 h) (RA:RowAt h B (ints am)) (hq:q=am.length) (hs:q<2^40) (hr:∀ x∈am,-9223372036854775808≤x∧x≤9223372036854775807) (hm:m<2^40) (hl:∀ i,i<m→(gs i).length<2^40) :
   CallsH Tryz.prog 47 [.slice Z zs.length zc,.slice A m c,.slice B q d] h fun r h'=>Fr (fun _=>False) h h'∧∃ b:Bool,r=.bool b∧(b=true↔(∀ i,i<m→goodC (wsum zs) (gs i)=true)∧goodC (wsum zs) am=true):=by
 have hsum:=F.sum
 refine calls_of 28 [.tmp 6] Go.Proofs.Tryz.func47 rfl rfl rfl (by kernel_rfl) (Nat.le_of_ble_eq_true rfl) ?_
 simp -implicitDefEqProofs (disch:=omega) [go_sem]
 refine useC (all13_ok F RZ) ?_
 rintro _ h2 ⟨f2,X,xc,rfl,SX,ownX⟩
 simp -implicitDefEqProofs (disch:=omega) [go_sem]
 refine loopK (fun ρ h'=>(ρ 1=.slice A m c∧ρ 2=.slice B q d∧ρ 7=.int .i64 (wsum zs:Nat)∧h'=h2)∧∃ i:Nat,ρ 8=.int .i64 i∧i≤m∧∀ j,j<i→goodC (wsum zs) (gs j)=true) (fun ρ _=>m-(intOf (ρ 8)).toNat) (by kernel_rfl) ?_ ?_
 · exact ⟨⟨rfl,rfl,rfl,rfl⟩,0,rfl,Nat.zero_le _,fun j h=>absurd h (Nat.not_lt_zero _)⟩
 · rintro ρ h' ⟨⟨r1,r2,r7,rfl⟩,i,r8,hi,hj⟩
   by_cases hin:i<m
   · obtain ⟨bk,off,B',cB,rfl,e0,RB,hBl,hBr⟩:=(R.fr (f.trans f2)).at' i hin
     have hli:=hl i hin
     simp -implicitDefEqProofs (disch:=omega) [go_sem,r1,r2,r7,r8,e0]
     refine useC (rgood12_ok RB rfl (by omega) (vars:=wsum zs) (by omega) hBr) ?_
     rintro _ h3 ⟨rfl,rfl⟩
     cases hg:goodC (wsum zs) (gs i) with
     | false =>
       simp -implicitDefEqProofs (disch:=omega) [go_sem,r1,r2,r7,r8]
       exact ⟨f2,fun hall=>by have:=hall i hin; rw [hg] at this; cases this⟩
     | true =>
       simp -implicitDefEqProofs (disch:=omega) [go_sem,r1,r2,r7,r8]
       refine ⟨⟨i+1,by omega,by omega,fun j hj2=>?_⟩,by omega⟩
       by_cases e:j=i
       · subst e; exact hg
       · exact hj j (by omega)
   · obtain rfl:i=m:=by omega
     simp -implicitDefEqProofs (disch:=omega) [go_sem,r1,r2,r7,r8]
     refine useC (rgood12_ok (RA.fr0 f2) hq hs (vars:=wsum zs) (by omega) hr) ?_
     rintro _ h3 ⟨rfl,rfl⟩
     simp -implicitDefEqProofs (disch:=omega) [go_sem]
     exact ⟨f2,fun _=>hj⟩
end
end Xe
/- Layer 25's own functions: any1. -/
namespace Xe
open Go Tp Go.Proofs Hq
set_option maxRecDepth 16000
set_option maxHeartbeats 4000000
def okT (Cs:List (List Int)) (ls:List Int) (bs:List Bool):Bool:=(Cs.all fun K=>holdB bs K)&&ls.all fun x=>decide (truB bs x=1)
def anyP (zs:List Nat) (Cs:List (List Int)) (ls:List Int):Prop:=∃ ch,ValC zs ch∧okT Cs ls (tru zs ch)=true
structure AnJ (h0:Heap) (zs:List Nat) (Z:Option Addr) (zc:Nat) (A:Option Addr) (m c:Nat) (B:Option Addr) (q d:Nat) (Q:Option Addr) (n qc:Nat) (ρ:Env) (h:Heap):Prop where
 r0:ρ 0=.slice Z zs.length zc
 r1:ρ 1=.slice A m c
 r2:ρ 2=.slice B q d
 r7:ρ 7=.slice Q n qc
 fr:Fr (fun _=>False) h0 h
structure AoJ (h5:Heap) (Ks:List (List Int)) (am:List Int) (bs:List Bool) (i:Nat) (X:Option Addr) (xc:Nat) (ρ:Env) (h:Heap):Prop where
 r8:ρ 8=.int .i64 i
 r9:ρ 9=.slice X bs.length xc
 he:h=h5
 ex:∃ k:Nat,ρ 11=.int .i64 k∧k≤am.length∧ρ 10=.bool ((Ks.all fun K=>holdB bs K)&&(am.take k).all fun x=>decide (truB bs x=1))
section
variable {h:Heap} {zs:List Nat} {Z A B:Option Addr} {zc m c q d:Nat} {Ks:List (List Int)} {am:List Int}
theorem any25_ok (F:Few zs) (RZ:RowAt h Z (ints (nts zs))) (R:RowsA h A Ks) (hm:m=Ks.length) (hms:m<2^40) (hK:∀ K∈Ks,K.length<2^40∧∀ x∈K,x.natAbs≤16777216) (RA:RowAt h B (ints am)) (hq:q=am.length) (hs:q<2^40) (hr:∀ x∈am,x.natAbs≤16777216) :
   CallsH Tryz.prog 53 [.slice Z zs.length zc,.slice A m c,.slice B q d] h fun r h'=>Fr (fun _=>False) h h'∧∃ b:Bool,r=.bool b∧(b=true↔anyP zs Ks am):=by
 have hsum:=F.sum
 have hlen:=F.len
 subst hq
 refine calls_of 46 [.tmp 6] Go.Proofs.Tryz.func53 rfl rfl rfl (by kernel_rfl) (Nat.le_of_ble_eq_true rfl) ?_
 simp -implicitDefEqProofs (disch:=omega) [go_sem]
 refine useC (choices13_ok F RZ zs.length (b:=[]) (Fr.refl _ _) RowAt.nil (Nat.zero_add _)) ?_
 rintro _ h2 ⟨f2,Q,qc,vs,rfl,RQ⟩
 obtain ⟨K,hKe⟩:∃ K,K=chsF zs zs.length []:=⟨_,rfl⟩
 have hKl:K.length≤5^4:=by
   rw [hKe]
   exact Nat.le_trans (chsF_len F.le _ _) (Nat.pow_le_pow_right (by omega) hlen)
 have hval:∀ ch,ch∈K↔ValC zs ch:=fun ch=>by rw [hKe]; exact chsF_val
 rw [← hKe] at RQ ⊢
 clear hKe
 simp -implicitDefEqProofs (disch:=omega) [go_sem]
 refine loopK (fun ρ h'=>AnJ h2 zs Z zc A m c B am.length d Q K.length qc ρ h'∧∃ i:Nat,ρ 8=.int .i64 i∧i≤K.length∧∀ (j:Nat) ch,j<i→K[j]?=some ch→okT Ks am (tru zs ch)=false) (fun ρ _=>K.length-(intOf (ρ 8)).toNat) (by kernel_rfl) ?_ ?_
 · exact ⟨⟨rfl,rfl,rfl,rfl,Fr.refl _ _⟩,0,rfl,Nat.zero_le _,fun j ch hj=>absurd hj (Nat.not_lt_zero _)⟩
 · rintro ρ h3 ⟨⟨r0,r1,r2,r7,f3⟩,i,r8,hi,hno⟩
   have f03:=f2.trans f3
   by_cases hin:i<K.length
   · obtain ⟨ch,hch⟩:∃ ch,K[i]?=some ch:=⟨_,List.getElem?_eq_getElem hin⟩
     have V:=(hval ch).1 (List.mem_of_getElem? hch)
     have RQ3:=RQ.fr0 f3
     obtain ⟨C,cc,g1,g2,g3⟩:=RQ3.at' i ch hch
     obtain ⟨bk,off,rfl,hc⟩:=RQ3.S.row.get (by rw [RQ3.len]; omega)
     have c0:=hc _ _ g1
     have hcl:=V.len
     have o8:=r8
     simp -implicitDefEqProofs (disch:=omega) [go_sem,r0,r1,r2,r7,r8,c0]
     refine useC (truths13_ok F (RZ.fr0 f03) g2 V) ?_
     rintro _ h4 ⟨f4,X,xc,rfl,SX,ownX⟩
     obtain ⟨bs,hbs⟩:∃ bs,bs=tru zs ch:=⟨_,rfl⟩
     have hbl:bs.length≤32:=by rw [hbs,tru_len]; exact hsum
     rw [← hbs] at SX ⊢
     simp -implicitDefEqProofs (disch:=omega) [go_sem,r0,r1,r2,r7,r8]
     refine useC (rall12_ok (R.fr0 (f03.trans f4)) hm hms hK SX.row rfl (by omega)) ?_
     rintro _ h5 ⟨rfl,rfl⟩
     simp -implicitDefEqProofs (disch:=omega) [go_sem,r0,r1,r2,r7,r8]
     refine loopK (fun ρ h'=>AnJ h2 zs Z zc A m c B am.length d (some ⟨bk,off,none⟩) K.length qc ρ h'∧AoJ h5 Ks am bs i X xc ρ h') (fun ρ _=>am.length-(intOf (ρ 11)).toNat) (by kernel_rfl) ?_ ?_
     · exact ⟨⟨r0,r1,r2,r7,f3.trans f4⟩,r8,rfl,rfl,0,rfl,Nat.zero_le _,by simp [put]⟩
     · clear r0 r1 r2 r7 r8
       rintro ρ h6 ⟨⟨r0,r1,r2,r7,f6⟩,r8,r9,rfl,k,r11,hk,r10⟩
       by_cases hkn:k<am.length
       · obtain ⟨x,hx⟩:=some_at hkn
         have hxr:=hr x (List.mem_of_getElem? hx)
         obtain ⟨bk3,off3,rfl,hc3⟩:=(RA.fr0 (f03.trans f4)).get (by rw [ints_len]; omega)
         have d0:=hc3 _ _ (ints_at hx)
         have et:(am.take (k+1)).all (fun x=>decide (truB bs x=1))=((am.take k).all (fun x=>decide (truB bs x=1))&&decide (truB bs x=1)):=by
           rw [List.take_add_one,hx,List.all_append]; simp
         obtain ⟨b0,hb0⟩:∃ b0,b0=((Ks.all fun K=>holdB bs K)&&(am.take k).all fun x=>decide (truB bs x=1)):=⟨_,rfl⟩
         have en:((Ks.all fun K=>holdB bs K)&&(am.take (k+1)).all fun x=>decide (truB bs x=1))=(b0&&decide (truB bs x=1)):=by rw [et,hb0,Bool.and_assoc]
         rw [← hb0] at r10
         cases b0 with
         | false =>
           simp -implicitDefEqProofs (disch:=omega) [go_sem,o8,r0,r1,r2,r7,r8,r9,r10,r11,d0]
           exact ⟨⟨⟨r0,r1,r2,r7,f6⟩,r8,r9,rfl,k+1,rfl,by omega,by rw [en]; rfl⟩,by omega⟩
         | true =>
           simp -implicitDefEqProofs (disch:=omega) [go_sem,o8,r0,r1,r2,r7,r8,r9,r10,r11,d0]
           refine useC (rtruth12_ok SX.row rfl (by omega) hxr) ?_
           rintro _ h7 ⟨rfl,rfl⟩
           simp -implicitDefEqProofs (disch:=omega) [go_sem,o8,r0,r1,r2,r7,r8,r9,r10,r11]
           exact ⟨⟨⟨r0,r1,r2,r7,f6⟩,r8,r9,rfl,k+1,rfl,by omega,by rw [en,Bool.true_and]; rfl⟩,by omega⟩
       · obtain rfl:k=am.length:=by omega
         rw [List.take_length] at r10
         have eo:((Ks.all fun K=>holdB bs K)&&am.all fun x=>decide (truB bs x=1))=okT Ks am bs:=rfl
         rw [eo] at r10
         cases ho:okT Ks am bs with
         | true =>
           rw [ho] at r10
           simp -implicitDefEqProofs (disch:=omega) [go_sem,o8,r0,r1,r2,r7,r8,r9,r10,r11]
           exact ⟨f2.trans f6,ch,V,by rw [← hbs]; exact ho⟩
         | false =>
           rw [ho] at r10
           simp -implicitDefEqProofs (disch:=omega) [go_sem,o8,r0,r1,r2,r7,r8,r9,r10,r11]
           refine ⟨⟨⟨r0,r1,r2,r7,f6⟩,i+1,by omega,by omega,fun j ch' hj hj2=>?_⟩,by omega⟩
           by_cases e:j=i
           · subst e
             rw [hch] at hj2; cases hj2
             rw [← hbs]; exact ho
           · exact hno j ch' (by omega) hj2
   · obtain rfl:i=K.length:=by omega
     simp -implicitDefEqProofs (disch:=omega) [go_sem,r0,r1,r2,r7,r8]
     refine ⟨f2.trans f3,fun ⟨ch,V,ho⟩=>?_⟩
     obtain ⟨j,hj⟩:=List.getElem?_of_mem ((hval ch).2 V)
     have:=hno j ch (List.getElem?_eq_some_iff.1 hj).1 hj
     rw [ho] at this; cases this
end
end Xe
/- Layer 25's own example. -/
namespace Xe
open Go Tp Go.Proofs Hq
set_option maxRecDepth 16000
set_option maxHeartbeats 4000000
theorem filter_le {α:Type} {p q:α→Bool} (hq:∀ x,q x=true→p x=true) (l:List α):(l.filter q).length≤(l.filter p).length:=by
 induction l with
 | nil=>simp
 | cons a l ih =>
   rw [List.filter_cons,List.filter_cons]
   by_cases h1:q a=true
   · rw [if_pos h1,if_pos (hq a h1)]; simp; exact ih
   · rw [if_neg h1]
     split
     · simp; omega
     · exact ih
theorem cnt_ex {K:List (List Int)} (H:KSem [2] [[1],[-2]] K):cntM 4 K≤4:=by
 classical
 have h4:((allB 4).filter fun bs=>decide (0<truB bs 1)&&decide (0<truB bs (-2))).length=4:=by decide
 unfold cntM
 have hh:∀ bs∈allB 4,bs.length=4:=by decide
 have e:(allB 4).filter (fun bs=>decide (∀ k∈K,SatM (MB bs) k))=(allB 4).filter fun bs=>decide (bs.length=4)&&decide (∀ k∈K,SatM (MB bs) k):=by
  refine List.filter_congr fun bs hb=>?_
  rw [decide_eq_true (hh bs hb),Bool.true_and]
 rw [e,← h4]
 refine filter_le (fun bs hb=>?_) _
 rw [Bool.and_eq_true,decide_eq_true_eq,decide_eq_true_eq] at hb
 have h1:=H.to _ (MB_mdl bs) hb.2
 have k1:=(MB_of (bs:=bs) (k:=[1]) fun x hx=>by rw [List.mem_singleton] at hx; rw [hx,hb.1]; decide).1 (h1 [1] (by simp))
 have k2:=(MB_of (bs:=bs) (k:=[-2]) fun x hx=>by rw [List.mem_singleton] at hx; rw [hx,hb.1]; decide).1 (h1 [-2] (by simp))
 simp only [holdB,List.any_cons,List.any_nil,Bool.or_false] at k1 k2
 rw [k1,k2]; rfl
theorem ch_ex {ch:List Int} (V:ValC [2] ch) (hs:∀ C∈[[1],[-2]],SatM (MB (tru [2] ch)) C):ch=[1]:=by
 have hl:ch.length=1:=V.len
 match ch,hl with
 | [r],_ =>
   have hv:=V.at' 0 2 r rfl rfl
   obtain ⟨x,hx,h1⟩:=hs [1] (by simp)
   obtain ⟨y,hy,h2⟩:=hs [-2] (by simp)
   rw [List.mem_singleton] at hx hy
   subst hx hy
   have e1:=(MB_tru (by decide)).1 h1
   have e2:=(MB_tru (by decide)).1 h2
   have a1:litA [2] 1 r=decide (0≤r):=by show (decide (0≤r)==true)=_; simp
   have a2:litA [2] (-2) r=!decide (r≤0):=by show (decide (r≤((0:Nat):Int))==false)=_; simp
   rw [show ([r]:List Int).getD (litAt [2] 1).p 0=r from rfl,a1] at e1
   rw [show ([r]:List Int).getD (litAt [2] (-2)).p 0=r from rfl,a2] at e2
   have g1:=of_decide_eq_true e1
   have g2:¬ r≤0:=by simpa using e2
   have:r=1:=by omega
   rw [this]
theorem val_ex:ValC [2] [1]:=⟨rfl,fun p z r hz hr=>by
 match p,hz,hr with
 | 0,hz,hr=>cases hz; cases hr; omega
 | p+1,hz,hr=>simp at hz⟩
theorem sat_ex:∀ C∈[[1],[-2]],SatM (MB (tru [2] [1])) C:=fun C hC=>by
 rcases List.mem_cons.1 hC with rfl | hC
 · exact ⟨1,by simp,(MB_tru (by decide)).2 (by decide)⟩
 · rw [List.mem_singleton] at hC
   subst hC
   exact ⟨-2,by simp,(MB_tru (by decide)).2 (by decide)⟩
section
variable {h:Heap}
theorem awake25:CallsH Tryz.prog 44 [] h fun r h'=>r=.bool true∧Fr (fun _=>False) h h':=by
 refine calls_of 37 [.tmp 0] Go.Proofs.Tryz.func44 rfl rfl rfl (by kernel_rfl) (Nat.le_of_ble_eq_true rfl) ?_
 simp -implicitDefEqProofs (disch:=omega) [go_sem]
 refine build1 rfl rfl ?_
 obtain ⟨h1,e1⟩:∃ h1,h1=h.push (.cells #[.int .i64 2] 3):=⟨_,rfl⟩
 have f1:Fr (fun _=>False) h h1:=by rw [e1]; exact (Fr.refl _ _).push
 have V1:ListB h1 h.size [.int .i64 2]:=by rw [e1]; exact ListB.new
 rw [← e1]
 simp -implicitDefEqProofs (disch:=omega) [go_sem]
 refine build1 rfl rfl ?_
 obtain ⟨h2,e2⟩:∃ h2,h2=h1.push (.cells #[.int .i64 1] 3):=⟨_,rfl⟩
 have f2:Fr (fun _=>False) h1 h2:=by rw [e2]; exact (Fr.refl _ _).push
 have V2:ListB h2 h1.size [.int .i64 1]:=by rw [e2]; exact ListB.new
 rw [← e2]
 simp -implicitDefEqProofs (disch:=omega) [go_sem]
 refine build1 rfl rfl ?_
 obtain ⟨h3,e3⟩:∃ h3,h3=h2.push (.cells #[.int .i64 (-2)] 3):=⟨_,rfl⟩
 have f3:Fr (fun _=>False) h2 h3:=by rw [e3]; exact (Fr.refl _ _).push
 have V3:ListB h3 h2.size [.int .i64 (-2)]:=by rw [e3]; exact ListB.new
 rw [← e3]
 simp -implicitDefEqProofs (disch:=omega) [go_sem]
 refine build2s ?_
 obtain ⟨h4,e4⟩:∃ h4,h4=h3.push (.cells #[.slice (some ⟨h1.size,0,none⟩) 1 1,.slice (some ⟨h2.size,0,none⟩) 1 1] 23):=⟨_,rfl⟩
 have f4:Fr (fun _=>False) h3 h4:=by rw [e4]; exact (Fr.refl _ _).push
 have V4:ListB h4 h3.size [.slice (some ⟨h1.size,0,none⟩) 1 1,.slice (some ⟨h2.size,0,none⟩) 1 1]:=by rw [e4]; exact ListB.new
 rw [← e4]
 simp -implicitDefEqProofs (disch:=omega) [go_sem]
 have f04:=((f1.trans f2).trans f3).trans f4
 have W1:=V1.fr ((f2.trans f3).trans f4) fun h=>h
 have W2:=V2.fr (f3.trans f4) fun h=>h
 have W3:=V3.fr f4 fun h=>h
 have rowOf:∀ {b:Nat} {x:Int},ListB h4 b [.int .i64 x]→RowAt h4 (some ⟨b,0,none⟩) (ints [x]):=fun {b x} W=>.inr ⟨b,0,rfl,fun i v hv=>by rw [Nat.zero_add]; exact W.at' i v hv⟩
 have F:Few [2]:=⟨by decide,by decide⟩
 have RG:Args2 h4 (some ⟨h3.size,0,none⟩) 2 (fun i=>if i=0 then [1] else [-2]):=⟨by omega,fun i hi=>by
   by_cases e:i=0
   · subst e
     exact ⟨h3.size,0,some ⟨h1.size,0,none⟩,1,rfl,V4.at' 0 _ rfl,rowOf W2,by simp,fun x hx=>by simp at hx; subst hx; omega⟩
   · obtain rfl:i=1:=by omega
     exact ⟨h3.size,0,some ⟨h2.size,0,none⟩,1,rfl,V4.at' 1 _ rfl,rowOf W3,by simp,fun x hx=>by simp at hx; subst hx; omega⟩⟩
 have hCs:csOf (fun i=>if i=0 then [1] else [-2]) 2=[[1],[-2]]:=rfl
 refine useC (lnew_ok (zs:=[2]) (c0:=1) (cA:=2) F (rowOf W1) RG (Fr.refl _ _) (by omega) fun i hi=>by split <;> simp) ?_
 rintro _ h5 ⟨f5,⟨⟨i,hi,hb⟩,_⟩ | ⟨hall,gb,c,K,rfl,IX,hlg,hln,hcs⟩⟩
 · exfalso
   match i,hi,hb with
   | 0,_,hb=>exact absurd hb (by decide)
   | 1,_,hb=>exact absurd hb (by decide)
 obtain ⟨O,I,hO'⟩:=IX (fun _=>False) fun _ h=>h.elim
 have hO:=fun y hy=>(hO' y hy).resolve_right id
 rw [hCs] at I
 simp -implicitDefEqProofs (disch:=omega) [go_sem]
 have Sc:ScrO O h5 (scr0 1000) scr0A:=⟨scr0M (by omega),fun h=>absurd rfl h,fun h=>absurd rfl h,fun h=>absurd rfl h,fun h=>absurd rfl h⟩
 have hl0:c.lg.length=0:=by rw [hlg]; rfl
 have hn0:c.ln.length=0:=by rw [hln]; rfl
 refine useC (esolve_ok (sc:=scr0 1000) (a:=scr0A) (am:=[]) (A:=none) (ac:=0) (D:=80) (M0:=4) (L1:=1000) (L2:=1000) (L3:=1000) I F Sc RowAt.nil (fun h=>absurd rfl h) rfl (by decide) (fun x hx=>(nomatch hx)) (by decide) (cnt_ex I.K) (by decide) ⟨by omega,by omega,by simp⟩ (by decide) (by decide) (by decide)) ?_
 rintro _ h6 ⟨O6,c6,pf6,K6,tot,tn,a6,I6,hz0,hz1,hz2,hz3,E⟩
 have f6:Fr (fun _=>False) h h6:=(f04.trans f5).trans' a6.fr fun y hy ho=>by have:=hO y ho; have:=f04.size; omega
 have hgood:(goodScr (scr0 1000)&&goodC (wsum [2]) [])=true:=by decide
 cases E with
 | bad hb=>rw [hgood] at hb; cases hb
 | @none CA ad cl q1 q2 q3 q4 q5 q6 q7 =>
   exact (q7 [1] val_ex sat_ex fun x hx=>(nomatch (q5 x hx))).elim
 | steps q1 q2 q3 q4 =>
   have q3':(tot:Int)=1000:=q3
   omega
 | @model B bc ch q1 q2 q3 q4 q5 q6 q7 =>
   obtain rfl:=ch_ex q5 q6
   simp -implicitDefEqProofs (disch:=omega) [go_sem,ext4]
   refine build1 rfl rfl ?_
   have f7:Fr (fun _=>False) h6 (h6.push (.cells #[.int .i64 1] 3)):=(Fr.refl _ _).push
   simp -implicitDefEqProofs (disch:=omega) [go_sem,ext4]
   refine useC (same12_ok (a:=[1]) (b:=[1]) (q4.row.fr0 f7) (SlAt.new (vs:=[.int .i64 1])).row rfl rfl (by decide) (by decide)) ?_
   rintro _ h8 ⟨rfl,rfl⟩
   simp -implicitDefEqProofs (disch:=omega) [go_sem,ext4]
   refine useC (evars_ok (I6.M.fr0 f7)) ?_
   rintro _ h9 ⟨rfl,rfl⟩
   have ew:((wsum [2]:Nat):Int)=4:=by decide
   simp -implicitDefEqProofs (disch:=omega) [go_sem,ext4,ew]
   exact f6.trans f7
end
end Xe
/- LazyTells,walked. -/
namespace Xe
open Go Tp Go.Proofs Hq
set_option maxRecDepth 16000
set_option maxHeartbeats 4000000
theorem needN_le14 {v R:Nat} (hv:v≤14) (hR:R≤20):needN v R≤5160960:=by
 unfold needN
 have h1:(v+1)*2^v≤15*16384:=Nat.mul_le_mul (by omega) (Nat.pow_le_pow_right (n:=2) (by omega) hv)
 have h2:R*((v+1)*2^v)≤20*(15*16384):=Nat.mul_le_mul hR h1
 omega
theorem room_of {c:CSt} {M0 D m:Nat} (hM:M0≤16384) (hD:D≤5160960) (hm:m≤16) (hlg:c.lg.length=0) (hln:c.ln.length=0) (hcs:c.s.cs.length≤m) :
  ∃ L1 L2 L3,Room c [] M0 D L1 L2 L3∧L1<2^40∧2*L2+L3<2^40∧(M0+1)*D<2^40:=by
 have h1:(M0+1)*(D+1)≤16385*5160961:=Nat.mul_le_mul (by omega) (by omega)
 have h2:(M0+1)*(2*D)≤16385*10321920:=Nat.mul_le_mul (by omega) (by omega)
 have h3:(M0+1)*D≤16385*5160960:=Nat.mul_le_mul (by omega) (by omega)
 exact ⟨m+(M0+1)*(D+1),(M0+1)*(2*D),(M0+1)*2,⟨by omega,by omega,by simp⟩,by omega,by omega,by omega⟩
theorem okT_of {zs:List Nat} {ch:List Int} {Cs:List (List Int)} {ls:List Int} (hC:∀ C∈Cs,goodC (wsum zs) C=true) (hl:∀ x∈ls,1≤x.natAbs∧x.natAbs≤wsum zs):okT Cs ls (tru zs ch)=true↔(∀ C∈Cs,SatM (MB (tru zs ch)) C)∧∀ x∈ls,MB (tru zs ch) x:=by
 unfold okT
 rw [Bool.and_eq_true,List.all_eq_true,List.all_eq_true]
 refine and_congr (forall_congr' fun C=>forall_congr' fun hCm=>(MB_of fun x hx=>by rw [tru_len]; exact goodC_mem (hC C hCm) hx).symm) (forall_congr' fun x=>forall_congr' fun hx=>?_)
 unfold MB
 rw [tru_len,if_pos (hl x hx),decide_eq_true_eq]
section
variable {h:Heap}
end
end Xe
/- Package lazy: Bound; an engine beside others' blocks. -/
namespace Xe
open Go Tp Go.Proofs Hq
set_option maxRecDepth 16000
set_option maxHeartbeats 4000000
theorem pw1024 {v:Nat} (hv:v≤10):1≤2^v∧2^v≤1024:=⟨Nat.one_le_two_pow,Nat.pow_le_pow_right (n:=2) (by omega) hv⟩
theorem shl_one {P:Program} {t:TypeId} {v:Nat} (hv:v≤10):cmpV P .shl t (.int .i64 1) (.int .i64 (v:Int))=some (.int .i64 ((2^v:Nat):Int)):=by
 obtain rfl | rfl | rfl | rfl | rfl | rfl | rfl | rfl | rfl | rfl | rfl:v=0∨v=1∨v=2∨v=3∨v=4∨v=5∨v=6∨v=7∨v=8∨v=9∨v=10:=by omega
 all_goals rfl
theorem bd_le10 {v R D:Nat} (hv:v≤10) (hR:R≤20) (hD:D≤20):(v+1)*(R+D+1)*3^v≤26640000:=by
 have h1:(v+1)*(R+D+1)≤11*41:=Nat.mul_le_mul (by omega) (by omega)
 have h2:3^v≤3^10:=Nat.pow_le_pow_right (by omega) hv
 exact Nat.le_trans (Nat.mul_le_mul h1 h2) (by decide)
def lbd (v R D:Nat):Nat:=(v+1)*(R+D+1)*3^v*(2^v+1)
theorem lbd_le {v R D:Nat} (hv:v≤10) (hR:R≤20) (hD:D≤20):lbd v R D≤27306000000:=by
 unfold lbd
 exact Nat.le_trans (Nat.mul_le_mul (bd_le10 hv hR hD) (Nat.add_le_add_right (pw1024 hv).2 1)) (by decide)
theorem lbound_ok {h:Heap} {sc:Scr} {a:ScrA} {v:Nat} (hv:v≤10) (hR:sc.res.length≤20) (hD:sc.red.length≤20) :
  CallsH Tryz.prog 55 [.int .i64 v,.agg (scrV sc a).toArray] h fun r h'=>r=.int .i64 (lbd v sc.res.length sc.red.length:Nat)∧Fr (fun _=>False) h h':=by
 have hm:max (v:Int) 0=(v:Int):=by omega
 obtain ⟨N,hN⟩:∃ N,N=(v+1)*(sc.res.length+sc.red.length+1):=⟨_,rfl⟩
 have hle:N*3^v≤26640000:=by rw [hN]; exact bd_le10 hv hR hD
 have hsh:=shl_one (P:=Tryz.prog) (t:=3) hv
 obtain ⟨p1,p2⟩:=pw1024 hv
 have hb:lbd v sc.res.length sc.red.length=N*3^v*(2^v+1):=by rw [hN]; rfl
 rw [hb]
 refine calls_of 26 [.tmp 4] Go.Proofs.Tryz.func55 rfl rfl rfl (by kernel_rfl) (Nat.le_of_ble_eq_true rfl) ?_
 unfold scrV
 simp -implicitDefEqProofs (disch:=omega) [go_sem]
 obtain ⟨h1,e1⟩:∃ h1,h1=h.push (.cells #[.slice a.P sc.picks.length a.pc,.slice a.G sc.signs.length a.gc,.slice a.R sc.res.length a.rc,.slice a.D sc.red.length a.dc,.int .i64 sc.steps] 56):=⟨_,rfl⟩
 have f1:Fr (fun _=>False) h h1:=by rw [e1]; exact (Fr.refl _ _).push
 have V1:ListB h1 h.size (scrV sc a):=by rw [e1]; exact ListB.new
 have ld1:=load5 V1
 rw [← e1]
 simp -implicitDefEqProofs (disch:=omega) [go_sem,ld1]
 refine useC (bound_ok (sc:=sc) (a:=a) (vars:=v) (N:=N) (by omega) (by omega) (by omega) hN (by omega)) ?_
 rintro _ h2 ⟨rfl,f2⟩
 obtain ⟨T,hT⟩:∃ T,T=N*3^v:=⟨_,rfl⟩
 obtain ⟨W,hW⟩:∃ W,W=2^v:=⟨_,rfl⟩
 rw [← hW] at hsh p1 p2
 rw [← hT] at hle
 rw [← hT,← hW]
 have hq:((1099511627776:Int)).tdiv ((W:Int)+1) ≥ 1000000000:=by
  rw [Int.tdiv_eq_ediv_of_nonneg (by omega)]
  exact Int.le_ediv_of_mul_le (by omega) (by omega)
 have hq2:((1099511627776:Int)).tdiv ((W:Int)+1)≤1099511627776:=by
  rw [Int.tdiv_eq_ediv_of_nonneg (by omega)]
  exact Int.ediv_le_self _ (by omega)
 obtain ⟨Q,hQ⟩:∃ Q,(1099511627776:Int).tdiv ((W:Int)+1)=Q:=⟨_,rfl⟩
 rw [hQ] at hq hq2
 have hml:T*(W+1)≤26640000*1025:=Nat.mul_le_mul hle (by omega)
 obtain ⟨U,hU⟩:∃ U,U=T*(W+1):=⟨_,rfl⟩
 have hmul:(T:Int)*((W:Int)+1)=(U:Int):=by rw [hU]; push_cast; rfl
 rw [← hU] at hml ⊢
 simp -implicitDefEqProofs (disch:=omega) [go_sem,hm,hsh,hQ,hmul]
 exact f1.trans f2
section
variable {h h':Heap} {O X:Nat→Prop} {gb:Nat} {zs:List Nat} {Cs:List (List Int)} {c:CSt} {pf:List (Int × List Int)} {K:List (List Int)} {st tn:Int}
theorem EngI.oth (I:EngI h O X gb zs Cs c pf K st tn) (f:Fr X h h'):EngI h' O X gb zs Cs c pf K st tn:=by
 obtain ⟨tb,cb,k,P,pc,vs,E⟩:=I.M.ex
 have a:ESt O O h h':=⟨fun _ h=>.inl h,f.mono fun y _ hy=>(E.XO y hy).1⟩
 exact ⟨⟨tb,cb,k,P,pc,vs,E.B.fr f fun hx=>(E.XO _ hx).2.2.1 rfl,E.C.frN f fun y hy=>(E.XO y hy).2.1,E.tab a,E.S.next a (E.S.S.fr f fun y hy hx=>(E.XO y hx).2.2.2 hy),E.kO,E.gO,E.kg,E.PO,fun y hy=>Nat.lt_of_lt_of_le (E.low y hy) f.size,E.XO⟩,I.S,I.HF,I.hv,I.K⟩
theorem EngI.fr0 (I:EngI h O X gb zs Cs c pf K st tn) (f:Fr (fun _=>False) h h'):EngI h' O X gb zs Cs c pf K st tn:=I.oth (f.mono fun _ _ h=>h.elim)
theorem EngI.shrink (I:EngI h O X gb zs Cs c pf K st tn):EngI h (fun y=>O y∧¬ X y) (fun _=>False) gb zs Cs c pf K st tn:=by
 obtain ⟨tb,cb,k,P,pc,vs,E⟩:=I.M.ex
 have hm:∀ y,y<h.size∧¬ O y→y<h.size∧¬ (O y∧¬ X y):=fun y hy=>⟨hy.1,fun ho=>hy.2 ho.1⟩
 exact ⟨⟨tb,cb,k,P,pc,vs,E.B,E.C,E.T.mono hm,⟨E.S.S,E.S.len,E.S.one,fun i kd c hi=>by
  obtain ⟨A,d,h1,h2,h3,h4⟩:=E.S.at' i kd c hi
  exact ⟨A,d,h1,h2,h3,fun y hy=>hm y (h4 y hy)⟩⟩,fun y hy=>⟨E.kO y hy,fun hx=>hy (E.XO y hx).2.1⟩,⟨E.gO,fun hx=>(E.XO _ hx).2.2.1 rfl⟩,E.kg,fun y hy=>⟨⟨(E.PO y hy).1,fun hx=>(E.XO y hx).2.2.2 hy⟩,(E.PO y hy).2⟩,fun y hy=>E.low y hy.1,fun _ h=>h.elim⟩,I.S,I.HF,I.hv,I.K⟩
theorem EngI.low (I:EngI h O X gb zs Cs c pf K st tn) {y:Nat} (hy:O y):y<h.size:=by
 obtain ⟨tb,cb,k,P,pc,vs,E⟩:=I.M.ex
 exact E.low y hy
end
end Xe
