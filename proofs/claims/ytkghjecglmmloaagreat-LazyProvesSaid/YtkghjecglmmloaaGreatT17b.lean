/- The walks through package trail. -/
import Derived.Test.YtkghjecglmmloaaGreatT16a
namespace Xe
open Go Tp Go.Proofs
set_option maxRecDepth 16000
theorem LV_le {l:List St} {m:Nat} (h:∀ s∈l,s.lv≤m) (v:Nat):-1≤LV l v∧LV l v≤m:=by
 unfold LV
 cases hf:find l v with
 | none=>simp only; omega
 | some k =>
   obtain ⟨s,hs,_,_⟩:=find_some hf
   have:=h s (List.mem_of_getElem? hs)
   simp only [hs]; omega
def varI (vars:Nat) (x:Int):Nat:=if 1≤x.natAbs∧x.natAbs≤vars then x.natAbs else 0
def pushE (vars:Nat) (l:List St) (x r:Int):Nat:=if varI vars x=0∨r < -1 then 1 else if (find l x.natAbs).isSome then 6 else 0
def trI (l:List St) (x:Int):Int:=if x∈lits l then 1 else if -x∈lits l then -1 else 0
structure TrailM (h:Heap) (b rb sb vars cl cr cs:Nat) (A:Option Addr) (l:List St) (level:Int):Prop where
 B:ListB h b [.slice A l.length cl,.slice (some ⟨rb,0,none⟩) (vars+1) cr,.slice (some ⟨sb,0,none⟩) (vars+1) cs,.int .i64 level]
 S:SlAt h A cl (ints (lits l))
 R:FnB h rb (vars+1) fun v=>.int .i64 (RS l v)
 P:FnB h sb (vars+1) fun v=>.complex .f64 (Fx.enc (LV l v)) (Fx.enc (PL l v))
 br:b≠rb
 bs:b≠sb
 rs:rb≠sb
 sep:∀ x,blk A x→x≠b∧x≠rb∧x≠sb
def tO (b rb sb:Nat) (A:Option Addr) (x:Nat):Prop:=x=b∨x=rb∨x=sb∨blk A x
section
variable {h:Heap} {b rb sb vars cl cr cs:Nat} {A:Option Addr} {l:List St} {level:Int}
theorem TrailM.fr (M:TrailM h b rb sb vars cl cr cs A l level) {S:Nat→Prop} {h':Heap} (f:Fr S h h') (hs:∀ x,tO b rb sb A x→¬ S x):TrailM h' b rb sb vars cl cr cs A l level where
 B:=M.B.fr f (hs _ (.inl rfl))
 S:=M.S.fr f fun x hx=>hs _ (.inr (.inr (.inr hx)))
 R:=M.R.fr f (hs _ (.inr (.inl rfl)))
 P:=M.P.fr f (hs _ (.inr (.inr (.inl rfl))))
 br:=M.br
 bs:=M.bs
 rs:=M.rs
 sep:=M.sep
theorem TrailM.low (M:TrailM h b rb sb vars cl cr cs A l level) {x:Nat} (hx:tO b rb sb A x):x<h.size:=by
 rcases hx with rfl | rfl | rfl | hx
 · exact M.B.lt
 · exact M.R.lt
 · exact M.P.lt
 · exact M.S.blk_lt hx
theorem TrailM.setLv (M:TrailM h b rb sb vars cl cr cs A l level) (n:Int):TrailM (hset h ⟨b,3,none⟩ (.int .i64 n)) b rb sb vars cl cr cs A l n where
 B:=M.B.set (i:=3) (.int .i64 n) (by simp)
 S:=M.S.keep (fun x hx=>hset_other (M.sep x hx).1) (by rw [hset_size]; exact Nat.le_refl _)
 R:=M.R.oth (Ne.symm M.br)
 P:=M.P.oth (Ne.symm M.bs)
 br:=M.br
 bs:=M.bs
 rs:=M.rs
 sep:=M.sep
theorem vars_m (M:TrailM h b rb sb vars cl cr cs A l level) (hv:vars≤16777216):CallsH Tryz.prog 87 [.pointer (some ⟨b,0,none⟩)] h fun r h'=>r=.int .i64 vars∧h'=h:=by
 have s2:=M.B.at' 2 _ rfl
 refine calls_of 9 [.tmp 2] Go.Proofs.Tryz.func87 rfl rfl rfl ?_
 simp -implicitDefEqProofs (disch:=omega) [go_sem,s2]
theorem variable_m (M:TrailM h b rb sb vars cl cr cs A l level) (hv:vars≤16777216) {x:Int} (h0:-9223372036854775808≤x) (h1:x≤9223372036854775807) :
   CallsH Tryz.prog 128 [.pointer (some ⟨b,0,none⟩),.int .i64 x] h fun r h'=>r=.int .i64 (varI vars x)∧h'=h:=by
 refine calls_of 19 [.tmp 4] Go.Proofs.Tryz.func128 rfl rfl rfl ?_
 by_cases hm:x=-9223372036854775808
 · subst hm
   have e:IntKind.i64.wrap 9223372036854775808=-9223372036854775808:=by decide
   have ev:varI vars (-9223372036854775808)=0:=if_neg (by simp; omega)
   simp -implicitDefEqProofs (disch:=omega) [go_sem,e,ev]
 · by_cases hz:1≤x.natAbs
   · simp -implicitDefEqProofs (disch:=omega) [go_sem]
     refine useC (vars_m M hv) ?_
     rintro _ h' ⟨rfl,rfl⟩
     by_cases hv2:x.natAbs≤vars
     · have ev:varI vars x=x.natAbs:=if_pos ⟨hz,hv2⟩
       simp -implicitDefEqProofs (disch:=omega) [go_sem,ev]
       omega
     · have ev:varI vars x=0:=if_neg (by omega)
       simp -implicitDefEqProofs (disch:=omega) [go_sem,ev]
   · have ev:varI vars x=0:=if_neg (by omega)
     simp -implicitDefEqProofs (disch:=omega) [go_sem,ev]
theorem push_m (M:TrailM h b rb sb vars cl cr cs A l level) (G:Good vars l) (hl:∀ s∈l,s.lv≤vars) (hv:vars≤16777216) {x r:Int} {n:Nat} (hn:level=n) (hn2:n≤vars+1)
   (h0:-9223372036854775808≤x) (h1:x≤9223372036854775807) :
   CallsH Tryz.prog 157 [.pointer (some ⟨b,0,none⟩),.int .i64 x,.int .i64 r] h fun e h'=>e=.int .i64 (pushE vars l x r:Nat)∧(pushE vars l x r≠0→h'=h) ∧
     (pushE vars l x r=0→varI vars x=x.natAbs∧1≤x.natAbs∧x.natAbs≤vars∧find l x.natAbs=none ∧
      ∃ A' cl',TrailM h' b rb sb vars cl' cr cs A' (l++[⟨x,r,n⟩]) n∧Fr (tO b rb sb A) h h'∧∀ y,blk A' y→blk A y∨h.size≤y):=by
 subst hn
 have s0:=M.B.at' 0 _ rfl
 have s1:=M.B.at' 1 _ rfl
 have s2:=M.B.at' 2 _ rfl
 have s3:=M.B.at' 3 _ rfl
 have hln:=G.len
 refine calls_of 62 [.tmp 6] Go.Proofs.Tryz.func157 rfl rfl rfl ?_
 simp -implicitDefEqProofs (disch:=omega) [go_sem]
 refine useC (variable_m M hv h0 h1) ?_
 rintro _ h' ⟨rfl,rfl⟩
 by_cases hv0:varI vars x=0
 · have ep:pushE vars l x r=1:=if_pos (.inl hv0)
   simp -implicitDefEqProofs (disch:=omega) [go_sem,hv0,ep]
 have hv1:varI vars x=x.natAbs∧1≤x.natAbs∧x.natAbs≤vars:=by
   unfold varI at hv0 ⊢
   split
   · rename_i h; exact ⟨rfl,h⟩
   · rename_i h; rw [if_neg h] at hv0; exact absurd rfl hv0
 obtain ⟨ev,hv2,hv3⟩:=hv1
 obtain ⟨v,hvv⟩:∃ v,v=x.natAbs:=⟨_,rfl⟩
 rw [← hvv] at ev hv2 hv3 ⊢
 rw [ev]
 by_cases hr:r < -1
 · have ep:pushE vars l x r=1:=if_pos (.inr hr)
   simp -implicitDefEqProofs (disch:=omega) [go_sem,ep]
 have c2:=M.P.at' v (by omega)
 have b1:=LV_le hl v
 have b2:=PL_lt l v
 cases hf:find l v with
 | some k =>
   have ep:pushE vars l x r=6:=by unfold pushE; rw [if_neg (by omega),← hvv,hf]; rfl
   have hp:¬ PL l v=-1:=by unfold PL; rw [hf]; simp only; omega
   simp -implicitDefEqProofs (disch:=omega) [go_sem,s2,c2,hp,ep]
 | none =>
   have ep:pushE vars l x r=0:=by unfold pushE; rw [if_neg (by omega),← hvv,hf]; rfl
   obtain ⟨hl1,hp1,hr1⟩:=none_of hf
   have c1:=M.R.at' v (by omega)
   have fR:=M.R.fz
   have fP:=M.P.fz
   have fB:=M.B.fz
   have n1:=M.br
   have n2:=M.bs
   have n3:=M.rs
   simp -implicitDefEqProofs (disch:=omega) [go_sem,s1,s2,c1,c2,hl1,hp1,fR,n1,n2,n3,Ne.symm n1,Ne.symm n2,Ne.symm n3]
   refine drawK [(0,0),(1,0),(2,0),(3,1),(4,0),(5,0),(6,0),(7,0),(8,1),(9,0),(10,0),(11,0),(12,0),(13,1),(14,0),(15,0),(16,0),(17,0),(18,3)] ?_
   simp -implicitDefEqProofs (disch:=omega) [go_sem,s0,s1,s2,s3,c1,c2,hl1,hp1,fR,fP,fB,n1,n2,n3,Ne.symm n1,Ne.symm n2,Ne.symm n3]
   refine build1 rfl rfl ?_
   simp -implicitDefEqProofs (disch:=omega) [go_sem]
   obtain ⟨h2,e2⟩:∃ h2,h2=hset (hset h' ⟨rb,v,none⟩ (.int .i64 r)) ⟨sb,v,none⟩ (.complex .f64 (Fx.enc n) (Fx.enc l.length)):=⟨_,rfl⟩
   have S2:SlAt h2 A (cl*1) (ints (lits l)):=by
     rw [e2,Nat.mul_one]
     exact M.S.keep (fun x hx=>(hset_other (M.sep x hx).2.2).trans (hset_other (M.sep x hx).2.1)) (by rw [hset_size,hset_size]; exact Nat.le_refl _)
   have R2:FnB h2 rb (vars+1) fun v=>.int .i64 (RS (l++[⟨x,r,n⟩]) v):=by
     rw [e2]
     refine ((M.R.set (.int .i64 r) (i:=v) (by omega)).oth n3).cong fun i hi=>?_
     rw [RS_push (by simp only; rw [← hvv]; exact hf),← hvv]
     split <;> rfl
   have P2:FnB h2 sb (vars+1) fun v=>.complex .f64 (Fx.enc (LV (l++[⟨x,r,n⟩]) v)) (Fx.enc (PL (l++[⟨x,r,n⟩]) v)):=by
     rw [e2]
     refine ((M.P.oth (Ne.symm n3)).set (.complex .f64 (Fx.enc n) (Fx.enc l.length)) (i:=v) (by omega)).cong fun i hi=>?_
     rw [LV_push (by simp only; rw [← hvv]; exact hf),PL_push (by simp only; rw [← hvv]; exact hf),← hvv]
     split <;> rfl
   have B2:=(M.B.oth (v:=.int .i64 r) (o:=v) n1).oth (v:=.complex .f64 (Fx.enc n) (Fx.enc l.length)) (o:=v) n2
   rw [← e2] at B2
   have f2:Fr (tO b rb sb A) h' h2:=by
     rw [e2]
     exact ((Fr.refl _ _).set (.inr (.inl rfl))).set (.inr (.inr (.inl rfl)))
   have f3:Fr (fun _=>False) h2 (h2.push (.cells #[.int .i64 x] 3)):=(Fr.refl _ _).push
   have z2:h2.size=h'.size:=by rw [e2,hset_size,hset_size]
   have W2:=(SlAt.new (h:=h2) (vs:=[.int .i64 x]) (e:=3)).row
   rw [z2] at W2
   have S3:=S2.fr f3 (fun _ _=>id)
   have B3:=B2.push (X:=.cells #[.int .i64 x] 3)
   have R3:=R2.push (X:=.cells #[.int .i64 x] 3)
   have P3:=P2.push (X:=.cells #[.int .i64 x] 3)
   rw [e2] at S3 W2
   refine appendN S3 (by rw [ints_len]; unfold lits; rw [List.length_map,Nat.mul_one]) W2 rfl (by omega) (by simp [Value.oneCell']) (by omega) (by omega) ?_
   rw [← e2]
   intro A' c' h4 S4 f4 hA
   have hn:∀ y,tO b rb sb A y→y<h'.size:=fun y hy=>M.low hy
   have hnb:¬ blk A b:=fun h=>(M.sep _ h).1 rfl
   have hnr:¬ blk A rb:=fun h=>(M.sep _ h).2.1 rfl
   have hns:¬ blk A sb:=fun h=>(M.sep _ h).2.2 rfl
   have B4:=B3.fr f4 hnb
   have R4:=R3.fr f4 hnr
   have P4:=P3.fr f4 hns
   have hA2:∀ y,blk A' y→blk A y∨h'.size≤y:=fun y hy=>(hA y hy).imp id fun h=>by rw [push_size,z2] at h; omega
   have hsep:∀ y,blk A' y→y≠b∧y≠rb∧y≠sb:=fun y hy=>by
     rcases hA2 y hy with h | h
     · exact M.sep y h
     · have:=hn b (.inl rfl); have:=hn rb (.inr (.inl rfl)); have:=hn sb (.inr (.inr (.inl rfl))); omega
   have s04:=B4.at' 0 _ rfl
   have fB4:=B4.fz
   simp -implicitDefEqProofs (disch:=omega) [go_sem,s04,fB4,ep]
   refine ⟨by omega,by omega,A',⟨c',?_,?_,R4.oth (Ne.symm n1),P4.oth (Ne.symm n2),n1,n2,n3,hsep⟩,?_,hA2⟩
   · have:=B4.set (i:=0) (.slice A' (l.length+1) c') (by simp)
     simpa using this
   · have e:ints (lits l)++[.int .i64 x]=ints (lits (l++[⟨x,r,n⟩])):=by simp [ints,lits]
     rw [Nat.mul_one,e] at S4
     exact S4.keep (fun y hy=>hset_other (hsep y hy).1) (by rw [hset_size]; exact Nat.le_refl _)
   · have f23:Fr (tO b rb sb A) h2 h4:=(f3.mono fun _ _ h=>h.elim).trans (f4.mono fun _ _ h=>.inr (.inr (.inr h)))
     exact (f2.trans f23).set (.inl rfl)
def lenAt (h:Heap) (b:Nat):Nat:=match hcell h ⟨b,0,none⟩ with
 | some (.slice _ n _)=>n
 | _=>0
theorem back_m (M:TrailM h b rb sb vars cl cr cs A l level) (G:Good vars l) (hv:vars≤16777216) (mono:l.Pairwise fun a b=>a.lv≤b.lv) {n:Int} {lv:Nat} (hlv:level=lv) (hlv2:lv≤vars) (hl:∀ s∈l,s.lv≤lv)
   (h0:-9223372036854775808≤n) (h1:n≤9223372036854775807) {k:Nat} (hk:k=if max n 0<lv then (max n 0).toNat else lv) :
   CallsH Tryz.prog 75 [.pointer (some ⟨b,0,none⟩),.int .i64 n] h fun r h'=>r=.int .i64 ((cutTo l k).length:Nat)∧TrailM h' b rb sb vars cl cr cs A (cutTo l k) k∧Fr (tO b rb sb A) h h':=by
 subst hlv
 have s0:=M.B.at' 0 _ rfl
 have s3:=M.B.at' 3 _ rfl
 have hln:=G.len
 refine calls_of 78 [.tmp 4] Go.Proofs.Tryz.func75 rfl rfl rfl ?_
 simp -implicitDefEqProofs (disch:=omega) [go_sem]
 refine scopeM 0 (fun ρ h'=>ρ 0=.pointer (some ⟨b,0,none⟩)∧ρ 1=.int .i64 k∧k<lv∧∃ m:Nat,m≤l.length∧TrailM h' b rb sb vars cl cr cs A (l.take m) k∧cutTo l k=cutTo (l.take m) k∧Fr (tO b rb sb A) h h')
   (fun _ h'=>lenAt h' b) rfl rfl (by kernel_rfl) ?_ ?_
 · by_cases hlt:max n 0<lv
   · rw [if_pos hlt] at hk
     have fB:=M.B.fz
     have hk2:max n 0=(k:Int):=by omega
     simp -implicitDefEqProofs (disch:=omega) [go_sem,s3,fB,hk2]
     refine ⟨by omega,l.length,by omega,?_,?_,(Fr.refl _ _).set (.inl rfl)⟩
     · rw [List.take_length]; exact M.setLv k
     · rw [List.take_length]
   · rw [if_neg hlt] at hk
     subst hk
     have hc:cutTo l k=l:=by
       unfold cutTo
       rw [List.filter_eq_self]
       intro s hs
       exact decide_eq_true (hl s hs)
     simp -implicitDefEqProofs (disch:=omega) [go_sem,s0,s3,hc]
     exact ⟨M,Fr.refl _ _⟩
 · rintro ρ h2 ⟨r0,r1,hklt,m,hm,M2,hcut,f2⟩
   clear s0
   have s0:=M2.B.at' 0 _ rfl
   have hlt:(l.take m).length=m:=by rw [List.length_take]; omega
   rw [hlt] at s0
   cases m with
   | zero =>
     rw [List.take_zero] at M2 hcut
     have hc:cutTo l k=[]:=by rw [hcut]; rfl
     simp -implicitDefEqProofs (disch:=omega) [go_sem,s0,r0,r1,hc]
     exact ⟨M2,f2⟩
   | succ m =>
     obtain ⟨s,hs⟩:∃ s,l[m]?=some s:=⟨_,List.getElem?_eq_getElem (by omega)⟩
     have htk:l.take (m+1)=l.take m++[s]:=by rw [List.take_add_one,hs]; rfl
     have G2:Good vars (l.take (m+1)):=G.sub (List.take_sublist _ _)
     have hs2:(l.take (m+1))[m]?=some s:=by rw [List.getElem?_take,if_pos (by omega)]; exact hs
     have hsm:=List.mem_of_getElem? hs
     have hrg:=G.rng s hsm
     have hcl2:=M2.S.len
     rw [ints_len,lits,List.length_map,hlt] at hcl2
     obtain ⟨bk,rfl,_,_,hcl⟩:=M2.S.base (by rw [ints_len]; unfold lits; rw [List.length_map,hlt]; omega)
     have cs0:=hcl m _ (ints_at (show (lits (l.take (m+1)))[m]?=some s.lit by unfold lits; rw [List.getElem?_map,hs2]; rfl))
     have ev:varI vars s.lit=s.lit.natAbs:=if_pos hrg
     simp -implicitDefEqProofs (disch:=omega) [go_sem,s0,r0,r1,cs0]
     refine useC (variable_m M2 hv (by omega) (by omega)) ?_
     rintro _ h3 ⟨rfl,rfl⟩
     have c2:=M2.P.at' s.lit.natAbs (by omega)
     rw [G2.lv hs2,G2.pl hs2] at c2
     have c1:=M2.R.at' s.lit.natAbs (by omega)
     have s1:=M2.B.at' 1 _ rfl
     have s2:=M2.B.at' 2 _ rfl
     have fR:=M2.R.fz
     have fP:=M2.P.fz
     have fB:=M2.B.fz
     have n1:=M2.br
     have n2:=M2.bs
     have n3:=M2.rs
     have hslv:=hl s hsm
     by_cases hgt:k<s.lv
     · simp -implicitDefEqProofs (disch:=omega) [go_sem,r0,r1,s1,s2,c1,c2,ev]
       refine drawK [(0,0),(1,0),(2,0),(3,1),(4,0),(5,0),(6,0),(7,0),(8,1),(9,0),(10,0),(11,3),(12,0),(13,3)] ?_
       simp -implicitDefEqProofs (disch:=omega) [go_sem,r0,r1,s0,s1,s2,c1,c2,ev,fR,fP,fB,n1,n2,n3,Ne.symm n1,Ne.symm n2,Ne.symm n3]
       have hfr:find (l.take m) s.lit.natAbs=none:=find_none' fun t ht=>by
         have:=G2.nd
         rw [htk,List.pairwise_append] at this
         exact this.2.2 t ht s (List.mem_singleton.2 rfl)
       have hlm:(l.take m).length=m:=by rw [List.length_take]; omega
       have hkeep:∀ x,blk (some ⟨bk,0,none⟩) x→x≠b∧x≠rb∧x≠sb:=M2.sep
       refine ⟨⟨hklt,m,by omega,⟨?_,?_,?_,?_,n1,n2,n3,hkeep⟩,?_,?_⟩,?_⟩
       · have B3:=((M2.B.oth (v:=.complex .f64 (Fx.enc (-1)) (Fx.enc (-1))) (o:=s.lit.natAbs) n2).oth (v:=.int .i64 (-1)) (o:=s.lit.natAbs) n1).set (i:=0) (.slice (some ⟨bk,0,none⟩) m cl) (by simp)
         rw [hlm]
         simpa using B3
       · have S3:=M2.S.take m
         have e:(ints (lits (l.take (m+1)))).take m=ints (lits (l.take m)):=by
           rw [htk]
           unfold lits ints
           rw [List.map_append,List.map_append]
           exact List.take_left' (by rw [List.length_map,List.length_map,hlm])
         rw [e] at S3
         exact S3.keep (fun y hy=>((hset_other (hkeep y hy).1).trans (hset_other (hkeep y hy).2.1)).trans (hset_other (hkeep y hy).2.2)) (by rw [hset_size,hset_size,hset_size]; exact Nat.le_refl _)
       · refine FnB.oth ?_ (Ne.symm n1)
         refine ((M2.R.oth n3).set (.int .i64 (-1)) (i:=s.lit.natAbs) (by omega)).cong fun i hi=>?_
         rw [htk,RS_push hfr]
         by_cases e:i=s.lit.natAbs
         · rw [if_pos e,e,(none_of hfr).2.2]
         · rw [if_neg e,if_neg e]
       · refine FnB.oth ?_ (Ne.symm n2)
         refine ((M2.P.set (.complex .f64 (Fx.enc (-1)) (Fx.enc (-1))) (i:=s.lit.natAbs) (by omega)).oth (Ne.symm n3)).cong fun i hi=>?_
         rw [htk,LV_push hfr,PL_push hfr]
         by_cases e:i=s.lit.natAbs
         · rw [if_pos e,e,(none_of hfr).2.1,(none_of hfr).1]
         · rw [if_neg e,if_neg e,if_neg e]
       · rw [hcut,htk]
         unfold cutTo
         rw [List.filter_append,List.filter_cons,if_neg (by rw [decide_eq_true_eq]; omega),List.filter_nil,List.append_nil]
       · exact ((f2.set (.inr (.inr (.inl rfl)))).set (.inr (.inl rfl))).set (.inl rfl)
       · have e1:lenAt h3 b=m+1:=by unfold lenAt; rw [s0]
         rw [e1]
         unfold lenAt
         simp -implicitDefEqProofs (disch:=omega) [go_sem,n1,n2,s0]
     · simp -implicitDefEqProofs (disch:=omega) [go_sem,r0,r1,s0,s1,s2,c1,c2,ev]
       have hc:cutTo l k=l.take (m+1):=by
         rw [hcut]
         unfold cutTo
         rw [List.filter_eq_self]
         intro x hx
         refine decide_eq_true ?_
         obtain ⟨j,hj,rfl⟩:=List.getElem_of_mem hx
         rw [hlt] at hj
         rw [List.getElem_take]
         obtain ⟨hm2,hme⟩:=List.getElem?_eq_some_iff.1 hs
         by_cases e:j=m
         · subst e; rw [hme]; omega
         · have:=List.pairwise_iff_getElem.1 mono j m (by omega) hm2 (by omega)
           rw [hme] at this; omega
       rw [hc]
       exact ⟨by rw [hlt]; rfl,M2,f2⟩
end
def var12 (x:Int):Nat:=if x.natAbs≤16777216 then x.natAbs else 0
section
variable {h:Heap} {A:Option Addr} {l:List St} {n c:Nat}
theorem var12_ok {x:Int} (h0:-9223372036854775808≤x) (h1:x≤9223372036854775807):CallsH Tryz.prog 23 [.int .i64 x] h fun r h'=>r=.int .i64 (var12 x:Nat)∧h'=h:=by
 refine calls_of 14 [.tmp 2] Go.Proofs.Tryz.func23 rfl rfl rfl ?_
 by_cases e1:x < -16777216
 · have ev:var12 x=0:=if_neg (by omega)
   simp -implicitDefEqProofs (disch:=omega) [go_sem,ev]
 · by_cases e2:16777216<x
   · have ev:var12 x=0:=if_neg (by omega)
     simp -implicitDefEqProofs (disch:=omega) [go_sem,ev]
   · have ev:var12 x=x.natAbs:=if_pos (by omega)
     by_cases e3:x<0
     · simp -implicitDefEqProofs (disch:=omega) [go_sem,ev]
       omega
     · simp -implicitDefEqProofs (disch:=omega) [go_sem,ev]
       omega
theorem same12_ok {B:Option Addr} {a b:List Int} {m c d:Nat} (R:RowAt h A (ints a)) (S:RowAt h B (ints b)) (hn:n=a.length) (hm:m=b.length) (hs1:n<2^40) (hs2:m<2^40) :
   CallsH Tryz.prog 27 [.slice A n c,.slice B m d] h fun r h'=>r=.bool (decide (a=b))∧h'=h:=by
 subst hn hm
 refine calls_of 26 [.tmp 4] Go.Proofs.Tryz.func27 rfl rfl rfl ?_
 by_cases hne:a.length=b.length
 · simp -implicitDefEqProofs (disch:=omega) [go_sem]
   refine loopK (fun ρ h'=>ρ 0=.slice A a.length c∧ρ 1=.slice B b.length d∧h'=h∧∃ i:Nat,ρ 5=.int .i64 i∧i≤a.length∧∀ j,j<i→a[j]?=b[j]?)
     (fun ρ _=>a.length-(intOf (ρ 5)).toNat) (by kernel_rfl) ?_ ?_
   · exact ⟨rfl,rfl,rfl,0,rfl,by omega,fun j hj=>by omega⟩
   · rintro ρ h' ⟨r0,r1,rfl,i,r5,hi,hj⟩
     by_cases hin:i<a.length
     · obtain ⟨bk,off,rfl,hc⟩:=R.get (by rw [ints_len]; omega)
       obtain ⟨bk2,off2,rfl,hc2⟩:=S.get (by rw [ints_len]; omega)
       obtain ⟨x,hx⟩:∃ x,a[i]?=some x:=⟨_,List.getElem?_eq_getElem hin⟩
       obtain ⟨y,hy⟩:∃ y,b[i]?=some y:=⟨_,List.getElem?_eq_getElem (by omega)⟩
       have c0:=hc _ _ (ints_at hx)
       have c1:=hc2 _ _ (ints_at hy)
       simp -implicitDefEqProofs (disch:=omega) [go_sem,r0,r1,r5]
       refine drawK [(0,0),(1,0),(2,0),(3,1),(4,0),(5,0),(6,0),(7,1),(8,0)] ?_
       by_cases e:x=y
       · simp -implicitDefEqProofs (disch:=omega) [go_sem,r0,r1,r5,c0,c1,e]
         refine ⟨⟨i+1,by omega,by omega,fun j hj2=>?_⟩,by omega⟩
         by_cases ej:j=i
         · subst ej; rw [hx,hy,e]
         · exact hj j (by omega)
       · have hab:¬ a=b:=fun h=>by subst h; rw [hx] at hy; cases hy; exact e rfl
         simp -implicitDefEqProofs (disch:=omega) [go_sem,r0,r1,r5,c0,c1,e,hab]
     · have hab:a=b:=by
         apply List.ext_getElem?
         intro j
         by_cases hj2:j<i
         · exact hj j hj2
         · rw [List.getElem?_eq_none (by omega),List.getElem?_eq_none (by omega)]
       simp -implicitDefEqProofs (disch:=omega) [go_sem,r0,r1,r5,hab]
 · have hab:¬ a=b:=fun h=>hne (by rw [h])
   have hne':¬ (a.length:Int)=b.length:=by omega
   simp -implicitDefEqProofs (disch:=omega) [go_sem,hab]
end
structure TrailOk (h:Heap) (b:Nat) (O:Nat→Prop) (vars:Nat) (l:List St) (level:Nat):Prop where
 ex:∃ rb sb cl cr cs A,TrailM h b rb sb vars cl cr cs A l level∧∀ x,O x↔tO b rb sb A x
 good:Good vars l
 lvs:Lvs l level
 hv:vars≤16777216
def pushL (vars:Nat) (l:List St) (x r:Int) (n:Nat):List St:=if pushE vars l x r=0 then l++[⟨x,r,n⟩] else l
def LVi (l:List St) (v:Int):Int:=if v<0 then -1 else LV l v.toNat
def PLi (l:List St) (v:Int):Int:=if v<0 then -1 else PL l v.toNat
def RSi (l:List St) (v:Int):Int:=if v<0 then -1 else RS l v.toNat
section
variable {h:Heap} {b vars level:Nat} {O:Nat→Prop} {l:List St}
theorem TrailOk.low (T:TrailOk h b O vars l level):∀ x,O x→x<h.size:=by
 obtain ⟨rb,sb,cl,cr,cs,A,M,hO⟩:=T.ex
 exact fun x hx=>M.low ((hO x).1 hx)
theorem TrailOk.fr (T:TrailOk h b O vars l level) {S:Nat→Prop} {h':Heap} (f:Fr S h h') (hs:∀ x,O x→¬ S x):TrailOk h' b O vars l level:=by
 obtain ⟨rb,sb,cl,cr,cs,A,M,hO⟩:=T.ex
 exact ⟨⟨rb,sb,cl,cr,cs,A,M.fr f fun x hx=>hs x ((hO x).2 hx),hO⟩,T.good,T.lvs,T.hv⟩
theorem TrailOk.fr0 (T:TrailOk h b O vars l level) {h':Heap} (f:Fr (fun _=>False) h h'):TrailOk h' b O vars l level:=T.fr f fun _ _=>id
theorem TrailOk.lvle (T:TrailOk h b O vars l level):level≤vars:=by have:=T.lvs.len; have:=T.good.len; omega
theorem TrailOk.len (T:TrailOk h b O vars l level):l.length≤vars:=T.good.len
theorem TrailOk.lv (T:TrailOk h b O vars l level):∀ s∈l,s.lv≤vars:=fun s hs=>Nat.le_trans (T.lvs.le s hs) T.lvle
theorem tvars_ok (T:TrailOk h b O vars l level):CallsH Tryz.prog 87 [.pointer (some ⟨b,0,none⟩)] h fun r h'=>r=.int .i64 vars∧h'=h:=by
 obtain ⟨rb,sb,cl,cr,cs,A,M,hO⟩:=T.ex
 exact vars_m M T.hv
theorem tlevel_ok (T:TrailOk h b O vars l level):CallsH Tryz.prog 74 [.pointer (some ⟨b,0,none⟩)] h fun r h'=>r=.int .i64 level∧h'=h:=by
 obtain ⟨rb,sb,cl,cr,cs,A,M,hO⟩:=T.ex
 have s3:=M.B.at' 3 _ rfl
 refine calls_of 7 [.tmp 2] Go.Proofs.Tryz.func74 rfl rfl rfl ?_
 simp -implicitDefEqProofs (disch:=omega) [go_sem,s3]
theorem tlits_ok (T:TrailOk h b O vars l level):CallsH Tryz.prog 21 [.pointer (some ⟨b,0,none⟩)] h fun r h' =>
  ∃ A' c',r=.slice A' l.length c'∧SlAt h' A' c' (ints (lits l))∧(∀ x,blk A' x→h.size≤x)∧Fr (fun _=>False) h h':=by
 obtain ⟨rb,sb,cl,cr,cs,A,M,hO⟩:=T.ex
 have s0:=M.B.at' 0 _ rfl
 have:=T.len
 have:=T.hv
 refine calls_of 8 [.tmp 2] Go.Proofs.Tryz.func21 rfl rfl rfl ?_
 simp -implicitDefEqProofs (disch:=omega) [go_sem,s0]
 refine useC (clone_ok (vs:=ints (lits l)) M.S.row (by rw [ints_len]; unfold lits; rw [List.length_map]) ints_one (by omega)) ?_
 rintro _ h' ⟨A',c',rfl,S,hA,f⟩
 simp -implicitDefEqProofs (disch:=omega) [go_sem]
 exact ⟨A',c',⟨rfl,rfl⟩,S,hA,f⟩
theorem tspot_ok (T:TrailOk h b O vars l level) {v:Int} (h0:-9223372036854775808≤v) (h1:v≤9223372036854775807) :
   CallsH Tryz.prog 73 [.pointer (some ⟨b,0,none⟩),.int .i64 v] h fun r h'=>r=.complex .f64 (Fx.enc (LVi l v)) (Fx.enc (PLi l v))∧h'=h:=by
 obtain ⟨rb,sb,cl,cr,cs,A,M,hO⟩:=T.ex
 have s2:=M.B.at' 2 _ rfl
 have hv:=T.hv
 have none_case:(v<1∨vars<v)→LVi l v=-1∧PLi l v=-1:=fun hvv=>by
   unfold LVi PLi
   by_cases e:v<0
   · rw [if_pos e,if_pos e]; exact ⟨rfl,rfl⟩
   · rw [if_neg e,if_neg e]
     have:find l v.toNat=none:=find_none' fun s hs=>by have:=T.good.rng s hs; omega
     exact ⟨(none_of this).1,(none_of this).2.1⟩
 refine calls_of 20 [.tmp 4] Go.Proofs.Tryz.func73 rfl rfl rfl ?_
 by_cases e1:v<1
 · obtain ⟨g1,g2⟩:=none_case (.inl e1)
   simp -implicitDefEqProofs (disch:=omega) [go_sem,g1,g2]
 · simp -implicitDefEqProofs (disch:=omega) [go_sem]
   refine useC (vars_m M T.hv) ?_
   rintro _ h' ⟨rfl,rfl⟩
   by_cases e2:vars<v
   · obtain ⟨g1,g2⟩:=none_case (.inr e2)
     simp -implicitDefEqProofs (disch:=omega) [go_sem,g1,g2]
   · have c2:=M.P.at' v.toNat (by omega)
     have g1:LVi l v=LV l v.toNat:=if_neg (by omega)
     have g2:PLi l v=PL l v.toNat:=if_neg (by omega)
     simp -implicitDefEqProofs (disch:=omega) [go_sem,s2,c2,g1,g2]
theorem LVi_b (T:TrailOk h b O vars l level) (v:Int):-1≤LVi l v∧LVi l v≤vars:=by
 unfold LVi
 split
 · omega
 · exact LV_le T.lv _
theorem PLi_b (T:TrailOk h b O vars l level) (v:Int):-1≤PLi l v∧PLi l v<l.length:=by
 unfold PLi
 split
 · omega
 · exact PL_lt _ _
theorem tlevelOf_ok (T:TrailOk h b O vars l level) {v:Int} (h0:-9223372036854775808≤v) (h1:v≤9223372036854775807) :
  CallsH Tryz.prog 22 [.pointer (some ⟨b,0,none⟩),.int .i64 v] h fun r h'=>r=.int .i64 (LVi l v)∧h'=h:=by
 have b1:=LVi_b T v
 have hv:=T.hv
 refine calls_of 10 [.tmp 4] Go.Proofs.Tryz.func22 rfl rfl rfl ?_
 simp -implicitDefEqProofs (disch:=omega) [go_sem]
 refine useC (tspot_ok T h0 h1) ?_
 rintro _ h' ⟨rfl,rfl⟩
 simp -implicitDefEqProofs (disch:=omega) [go_sem]
theorem tplace_ok (T:TrailOk h b O vars l level) {v:Int} (h0:-9223372036854775808≤v) (h1:v≤9223372036854775807) :
  CallsH Tryz.prog 120 [.pointer (some ⟨b,0,none⟩),.int .i64 v] h fun r h'=>r=.int .i64 (PLi l v)∧h'=h:=by
 have b1:=PLi_b T v
 have hv:=T.hv
 have hn:=T.len
 refine calls_of 10 [.tmp 4] Go.Proofs.Tryz.func120 rfl rfl rfl ?_
 simp -implicitDefEqProofs (disch:=omega) [go_sem]
 refine useC (tspot_ok T h0 h1) ?_
 rintro _ h' ⟨rfl,rfl⟩
 simp -implicitDefEqProofs (disch:=omega) [go_sem]
theorem treason_ok (T:TrailOk h b O vars l level) {v:Int} (h0:-9223372036854775808≤v) (h1:v≤9223372036854775807) :
   CallsH Tryz.prog 76 [.pointer (some ⟨b,0,none⟩),.int .i64 v] h fun r h'=>r=.int .i64 (RSi l v)∧h'=h:=by
 have b1:=LVi_b T v
 have b2:=PLi_b T v
 have hv:=T.hv
 have hn:=T.len
 obtain ⟨rb,sb,cl,cr,cs,A,M,hO⟩:=T.ex
 have s1:=M.B.at' 1 _ rfl
 refine calls_of 16 [.tmp 4] Go.Proofs.Tryz.func76 rfl rfl rfl ?_
 simp -implicitDefEqProofs (disch:=omega) [go_sem]
 refine useC (tspot_ok T h0 h1) ?_
 rintro _ h' ⟨rfl,rfl⟩
 by_cases hp:PLi l v=-1
 · have hb:LVi l v=-1∧RSi l v=-1:=by
    unfold LVi RSi
    unfold PLi at hp
    by_cases e:v<0
    · rw [if_pos e,if_pos e]; exact ⟨rfl,rfl⟩
    · rw [if_neg e] at hp ⊢
      rw [if_neg e]
      have:=none_of (PL_neg.1 (show PL l v.toNat<0 by omega))
      exact ⟨this.1,this.2.2⟩
   simp -implicitDefEqProofs (disch:=omega) [go_sem,hp,hb.1,hb.2]
 · have hvr:1≤v∧v≤vars:=by
    unfold PLi at hp
    by_cases e:v<0
    · rw [if_pos e] at hp; exact absurd rfl hp
    · rw [if_neg e] at hp
      cases hf:find l v.toNat with
      | none=>exact absurd (none_of hf).2.1 hp
      | some k =>
        obtain ⟨s,hs,hs2,_⟩:=find_some hf
        have:=T.good.rng s (List.mem_of_getElem? hs)
        omega
   have c1:=M.R.at' v.toNat (by omega)
   have hr:RSi l v=RS l v.toNat:=if_neg (by omega)
   simp -implicitDefEqProofs (disch:=omega) [go_sem,hp,s1,c1,hr]
theorem tr_at {vars:Nat} {l:List St} (G:Good vars l) {k:Nat} {s:St} (hs:l[k]?=some s) {x:Int} (hx:x.natAbs=s.lit.natAbs):trI l x=if s.lit=x then 1 else -1:=by
 have hm:=List.mem_of_getElem? hs
 have hr:=G.rng s hm
 have hu:∀ y∈lits l,y.natAbs=s.lit.natAbs→y=s.lit:=by
   intro y hy he
   obtain ⟨t,ht,rfl⟩:=List.mem_map.1 hy
   obtain ⟨j,hj⟩:=List.getElem?_of_mem ht
   have e1:=G.find hj
   have e2:=G.find hs
   rw [he,e2] at e1
   cases e1
   rw [hs] at hj; cases hj; rfl
 have hin:s.lit∈lits l:=List.mem_map.2 ⟨s,hm,rfl⟩
 unfold trI
 by_cases e:s.lit=x
 · subst e; rw [if_pos hin,if_pos rfl]
 · rw [if_neg e,if_neg (fun hx2=>e (hu x hx2 hx).symm)]
   have:-x=s.lit:=by omega
   rw [this,if_pos hin]
theorem tr_none {vars:Nat} {l:List St} {x:Int} (hf:find l x.natAbs=none):trI l x=0:=by
 have:∀ y,y.natAbs=x.natAbs→y∉lits l:=by
  intro y hy hm
  obtain ⟨t,ht,rfl⟩:=List.mem_map.1 hm
  obtain ⟨j,hj⟩:=List.getElem?_of_mem ht
  exact find_none hf hj hy
 unfold trI
 rw [if_neg (this x rfl),if_neg (this (-x) (by omega))]
theorem ttruth_ok (T:TrailOk h b O vars l level) {x:Int} (h0:-9223372036854775808≤x) (h1:x≤9223372036854775807) :
   CallsH Tryz.prog 113 [.pointer (some ⟨b,0,none⟩),.int .i64 x] h fun r h'=>r=.int .i64 (trI l x)∧h'=h:=by
 have hv:=T.hv
 have hn:=T.len
 have T':=T
 obtain ⟨rb,sb,cl,cr,cs,A,M,hO⟩:=T.ex
 have s0:=M.B.at' 0 _ rfl
 refine calls_of 26 [.tmp 4] Go.Proofs.Tryz.func113 rfl rfl rfl ?_
 simp -implicitDefEqProofs (disch:=omega) [go_sem]
 refine useC (variable_m M T.hv h0 h1) ?_
 rintro _ h' ⟨rfl,rfl⟩
 simp -implicitDefEqProofs (disch:=omega) [go_sem]
 have hvi:varI vars x≤vars:=by unfold varI; split <;> omega
 refine useC (tspot_ok T' (by omega) (by omega)) ?_
 rintro _ h' ⟨rfl,rfl⟩
 have b1:=LVi_b T' (varI vars x:Int)
 have b2:=PLi_b T' (varI vars x:Int)
 have g1:LVi l (varI vars x:Int)=LV l (varI vars x):=by unfold LVi; rw [if_neg (by omega),Int.toNat_natCast]
 have g2:PLi l (varI vars x:Int)=PL l (varI vars x):=by unfold PLi; rw [if_neg (by omega),Int.toNat_natCast]
 rw [g1] at b1 ⊢
 rw [g2] at b2 ⊢
 cases hf:find l (varI vars x) with
 | none =>
   obtain ⟨hl1,hp1,hr1⟩:=none_of hf
   have ht:trI l x=0:=by
    refine tr_none (vars:=vars) ?_
    unfold varI at hf
    split at hf
    · exact hf
    · exact find_none' fun s hs=>by have:=T.good.rng s hs; omega
   simp -implicitDefEqProofs (disch:=omega) [go_sem,hl1,hp1,ht]
 | some k =>
   obtain ⟨s,hs,hs2,hk⟩:=find_some hf
   have hrg:=T.good.rng s (List.mem_of_getElem? hs)
   have hx:varI vars x=x.natAbs:=by
    unfold varI
    split
    · rfl
    · rename_i e; unfold varI at hs2; rw [if_neg e] at hs2; omega
   have hpk:PL l (varI vars x)=k:=by unfold PL; rw [hf]
   have ht:=tr_at T.good hs (x:=x) (by omega)
   obtain ⟨bk,hA,_,_,hcl⟩:=M.S.base (by rw [ints_len]; unfold lits; rw [List.length_map]; omega)
   have cs0:=hcl k _ (ints_at (show (lits l)[k]?=some s.lit by unfold lits; rw [List.getElem?_map,hs]; rfl))
   by_cases e:s.lit=x
   · simp -implicitDefEqProofs (disch:=omega) [go_sem,hpk,s0,hA,cs0,ht,e]
   · simp -implicitDefEqProofs (disch:=omega) [go_sem,hpk,s0,hA,cs0,ht,e]
end
def idxF (p:Int→Bool) (l:List Int):Int:=match l.findIdx? p with
 | some i=>(i:Int)
 | none=>-1
theorem idxF_at {p:Int→Bool} {l:List Int} {i:Nat} {x:Int} (hx:l[i]?=some x) (hp:p x=true) (hj:∀ (j:Nat) y,j<i→l[j]?=some y→p y=false):idxF p l=i:=by
 unfold idxF
 obtain ⟨hk,rfl⟩:=List.getElem?_eq_some_iff.1 hx
 have:l.findIdx? p=some i:=by
  rw [List.findIdx?_eq_some_iff_getElem]
  exact ⟨hk,hp,fun j hj2=>by simp [hj j _ hj2 (List.getElem?_eq_getElem (by omega))]⟩
 rw [this]
theorem idxF_no {p:Int→Bool} {l:List Int} (hj:∀ (j:Nat) y,l[j]?=some y→p y=false):idxF p l=-1:=by
 unfold idxF
 have:l.findIdx? p=none:=by
  rw [List.findIdx?_eq_none_iff]
  intro x hx
  obtain ⟨j,h,rfl⟩:=List.getElem_of_mem hx
  exact hj j _ (List.getElem?_eq_getElem h)
 rw [this]
theorem idxF_any (p:Int→Bool) (l:List Int):decide (0≤idxF p l)=l.any p:=by
 unfold idxF
 cases h:l.findIdx? p with
 | some i =>
   obtain ⟨hk,hp,_⟩:=List.findIdx?_eq_some_iff_getElem.1 h
   rw [List.any_eq_true.2 ⟨l[i],List.getElem_mem hk,hp⟩]
   exact decide_eq_true (by simp only; omega)
 | none =>
   rw [List.findIdx?_eq_none_iff] at h
   rw [List.any_eq_false.2 (fun x hx=>by simp [h x hx])]
   rfl
section
variable {h:Heap} {A:Option Addr} {l:List Int} {n c fn:Nat} {cs:List Value}
theorem indexFunc_ok (R:RowAt h A (ints l)) (hn:n=l.length) (hs:n<2^40) (p:Int→Bool)
   (hf:∀ x∈l,CallsH Tryz.prog fn ([.int .i64 x]++cs) h fun r h'=>r=.bool (p x)∧h'=h) :
   CallsH Tryz.prog 160 [.slice A n c,.func (.func fn) #[] cs.toArray] h fun r h'=>r=.int .i64 (idxF p l)∧h'=h:=by
 subst hn
 refine calls_of 19 [.tmp 4] Go.Proofs.Tryz.func160 rfl rfl rfl ?_
 simp -implicitDefEqProofs (disch:=omega) [go_sem]
 refine loopK (fun ρ h'=>ρ 0=.slice A l.length c∧ρ 1=.func (.func fn) #[] cs.toArray∧ρ 7=.int .i64 l.length∧h'=h∧∃ i:Nat,ρ 8=.int .i64 i∧i≤l.length∧∀ (j:Nat) y,j<i→l[j]?=some y→p y=false)
   (fun ρ _=>l.length-(intOf (ρ 8)).toNat) (by kernel_rfl) ?_ ?_
 · exact ⟨rfl,rfl,rfl,rfl,0,rfl,by omega,fun j y hj=>by omega⟩
 · rintro ρ h' ⟨r0,r1,r7,rfl,i,r8,hi,hj⟩
   by_cases hin:i<l.length
   · obtain ⟨bk,off,rfl,hc⟩:=R.get (by rw [ints_len]; omega)
     obtain ⟨x,hx⟩:∃ x,l[i]?=some x:=⟨_,List.getElem?_eq_getElem hin⟩
     have c0:=hc _ _ (ints_at hx)
     simp -implicitDefEqProofs (disch:=omega) [go_sem,r0,r1,r7,r8,c0]
     refine useC (hf x (List.mem_of_getElem? hx)) ?_
     rintro _ h2 ⟨rfl,rfl⟩
     cases hp:p x with
     | true =>
       have e:=idxF_at hx hp hj
       simp -implicitDefEqProofs (disch:=omega) [go_sem,r0,r1,r7,r8,e]
     | false =>
       simp -implicitDefEqProofs (disch:=omega) [go_sem,r0,r1,r7,r8]
       refine ⟨⟨i+1,by omega,by omega,fun j y hj2 hy=>?_⟩,by omega⟩
       by_cases ej:j=i
       · subst ej; rw [hx] at hy; cases hy; exact hp
       · exact hj j y (by omega) hy
   · have e:idxF p l=-1:=idxF_no fun j y hy=>hj j y (by have:=(List.getElem?_eq_some_iff.1 hy).1; omega) hy
     simp -implicitDefEqProofs (disch:=omega) [go_sem,r0,r1,r7,r8,e]
theorem containsFunc_ok (R:RowAt h A (ints l)) (hn:n=l.length) (hs:n<2^40) (p:Int→Bool)
  (hf:∀ x∈l,CallsH Tryz.prog fn ([.int .i64 x]++cs) h fun r h'=>r=.bool (p x)∧h'=h) :
  CallsH Tryz.prog 111 [.slice A n c,.func (.func fn) #[] cs.toArray] h fun r h'=>r=.bool (l.any p)∧h'=h:=by
 refine calls_of 9 [.tmp 4] Go.Proofs.Tryz.func111 rfl rfl rfl ?_
 simp -implicitDefEqProofs (disch:=omega) [go_sem]
 refine useC (indexFunc_ok R hn hs p hf) ?_
 rintro _ h2 ⟨rfl,rfl⟩
 have e:=idxF_any p l
 simp -implicitDefEqProofs [go_sem,← e]
theorem index_ok (R:RowAt h A (ints l)) (hn:n=l.length) (hs:n<2^40) (x:Int) :
   CallsH Tryz.prog 159 [.slice A n c,.int .i64 x] h fun r h'=>r=.int .i64 (idxF (fun y=>decide (x=y)) l)∧h'=h:=by
 subst hn
 refine calls_of 19 [.tmp 4] Go.Proofs.Tryz.func159 rfl rfl rfl ?_
 simp -implicitDefEqProofs (disch:=omega) [go_sem]
 refine loopK (fun ρ h'=>ρ 0=.slice A l.length c∧ρ 1=.int .i64 x∧ρ 7=.int .i64 l.length∧h'=h∧∃ i:Nat,ρ 8=.int .i64 i∧i≤l.length∧∀ (j:Nat) y,j<i→l[j]?=some y→decide (x=y)=false)
   (fun ρ _=>l.length-(intOf (ρ 8)).toNat) (by kernel_rfl) ?_ ?_
 · exact ⟨rfl,rfl,rfl,rfl,0,rfl,by omega,fun j y hj=>by omega⟩
 · rintro ρ h' ⟨r0,r1,r7,rfl,i,r8,hi,hj⟩
   by_cases hin:i<l.length
   · obtain ⟨bk,off,rfl,hc⟩:=R.get (by rw [ints_len]; omega)
     obtain ⟨y,hy⟩:∃ x,l[i]?=some x:=⟨_,List.getElem?_eq_getElem hin⟩
     have c0:=hc _ _ (ints_at hy)
     by_cases e:x=y
     · have ei:=idxF_at (p:=fun y=>decide (x=y)) hy (decide_eq_true e) hj
       simp -implicitDefEqProofs (disch:=omega) [go_sem,r0,r1,r7,r8,c0,ei]
     · simp -implicitDefEqProofs (disch:=omega) [go_sem,r0,r1,r7,r8,c0,e]
       refine ⟨⟨i+1,by omega,by omega,fun j z hj2 hz=>?_⟩,by omega⟩
       by_cases ej:j=i
       · subst ej; rw [hy] at hz; cases hz; exact e
       · simpa using hj j z (by omega) hz
   · have e:idxF (fun y=>decide (x=y)) l=-1:=idxF_no fun j y hy=>hj j y (by have:=(List.getElem?_eq_some_iff.1 hy).1; omega) hy
     simp -implicitDefEqProofs (disch:=omega) [go_sem,r0,r1,r7,r8,e]
def cmpI (x y:Int):Int:=if x<y then -1 else if y<x then 1 else 0
theorem nan_ok (x:Int):CallsH Tryz.prog 206 [.int .i64 x] h fun r h'=>r=.bool false∧h'=h:=by
 refine calls_of 6 [.tmp 2] Go.Proofs.Tryz.func206 rfl rfl rfl ?_
 simp -implicitDefEqProofs (disch:=omega) [go_sem]
theorem compare_ok (x y:Int):CallsH Tryz.prog 156 [.int .i64 x,.int .i64 y] h fun r h'=>r=.int .i64 (cmpI x y)∧h'=h:=by
 refine calls_of 20 [.tmp 4] Go.Proofs.Tryz.func156 rfl rfl rfl ?_
 simp -implicitDefEqProofs (disch:=omega) [go_sem]
 refine useC (nan_ok x) ?_
 rintro _ h' ⟨rfl,rfl⟩
 simp -implicitDefEqProofs (disch:=omega) [go_sem]
 refine useC (nan_ok y) ?_
 rintro _ h2 ⟨rfl,rfl⟩
 unfold cmpI
 by_cases h1:x<y
 · simp -implicitDefEqProofs (disch:=omega) [go_sem,h1]
 · by_cases h3:y<x
   · simp -implicitDefEqProofs (disch:=omega) [go_sem,h1,h3]
   · simp -implicitDefEqProofs (disch:=omega) [go_sem,h1,h3]
theorem or_ok {x y:Int} (R:RowAt h A (ints [x,y])):CallsH Tryz.prog 155 [.slice A 2 c] h fun r h'=>r=.int .i64 (if x≠0 then x else y)∧h'=h:=by
 refine calls_of 18 [.tmp 2] Go.Proofs.Tryz.func155 rfl rfl rfl ?_
 obtain ⟨bk,off,rfl,hc⟩:=R.get (by rw [ints_len]; exact Nat.succ_pos 1)
 have c0:=hc 0 _ rfl
 have c1:=hc 1 _ rfl
 rw [Nat.add_zero] at c0
 simp -implicitDefEqProofs (disch:=omega) [go_sem]
 refine loopK (fun ρ h'=>ρ 3=.int .i64 0∧ρ 6=.slice (some ⟨bk,off,none⟩) 2 c∧ρ 7=.int .i64 2∧h'=h∧∃ i:Nat,ρ 8=.int .i64 i∧i≤2∧(1≤i→x=0)∧(2≤i→y=0))
   (fun ρ _=>2-(intOf (ρ 8)).toNat) (by kernel_rfl) ?_ ?_
 · exact ⟨rfl,rfl,rfl,rfl,0,rfl,by omega,by omega,by omega⟩
 · rintro ρ h' ⟨r3,r6,r7,rfl,i,r8,hi,hx,hy⟩
   have:i=0∨i=1∨i=2:=by omega
   rcases this with rfl | rfl | rfl
   · by_cases e:x=0
     · simp -implicitDefEqProofs (disch:=omega) [go_sem,r3,r6,r7,r8,c0,e]
       exact ⟨1,rfl,by omega,by omega⟩
     · simp -implicitDefEqProofs (disch:=omega) [go_sem,r3,r6,r7,r8,c0,e]
   · have hx0:=hx (by omega)
     by_cases e:y=0
     · simp -implicitDefEqProofs (disch:=omega) [go_sem,r3,r6,r7,r8,c1,e,hx0]
       exact ⟨2,rfl,by omega⟩
     · simp -implicitDefEqProofs (disch:=omega) [go_sem,r3,r6,r7,r8,c1,e,hx0]
   · have hx0:=hx (by omega)
     have hy0:=hy (by omega)
     simp -implicitDefEqProofs (disch:=omega) [go_sem,r3,r6,r7,r8,hx0,hy0]
def gt (L:List Int) (p:Nat):Int:=L.getD p 0
theorem gt_at {L:List Int} {p:Nat} (h:p<L.length):L[p]?=some (gt L p):=by unfold gt; rw [List.getD_eq_getElem?_getD,List.getElem?_eq_getElem h]; rfl
theorem gt_set {L:List Int} {i p:Nat} {v:Int} (hi:i<L.length):gt (L.set i v) p=if p=i then v else gt L p:=by
 unfold gt
 rw [List.getD_eq_getElem?_getD,List.getD_eq_getElem?_getD,List.getElem?_set]
 by_cases e:p=i
 · subst e; rw [if_pos rfl,if_pos hi,if_pos rfl]; rfl
 · rw [if_neg (Ne.symm e),if_neg e]
structure CmpOk (cf:Int→Int→Int) (ok:Int→Prop):Prop where
 le:∀ x y,ok x→ok y→cf x y<0→0≤cf y x
 tr:∀ x y z,ok x→ok y→ok z→0≤cf y x→0≤cf z y→0≤cf z x
end
end Xe
namespace Xe
def cN (l:List Int):Nat→List Int
 | 0=>[]
 | n+1=>if 0<n∧gt l n=gt l (n-1) then cN l n else cN l n++[gt l n]
theorem cN_dup {l:List Int} {n:Nat} (h0:0<n) (h:gt l n=gt l (n-1)):cN l (n+1)=cN l n:=if_pos ⟨h0,h⟩
theorem cN_new {l:List Int} {n:Nat} (h:n=0∨gt l n≠gt l (n-1)):cN l (n+1)=cN l n++[gt l n]:=if_neg (fun ⟨h1,h2⟩=>h.elim (fun h=>by omega) (fun h=>h h2))
theorem cN_le (l:List Int):∀ n,(cN l n).length≤n
 | 0=>Nat.le_refl _
 | n+1=>by
   have:=cN_le l n
   unfold cN; split
   · omega
   · rw [List.length_append]; simp; omega
theorem cN_lt {l:List Int} {k:Nat} (h0:0<k) (h:gt l k=gt l (k-1)):∀ n,k<n→(cN l n).length<n
 | 0,hn=>by omega
 | n+1,hn=>by
   by_cases e:n=k
   · subst e; rw [cN_dup h0 h]; have:=cN_le l n; omega
   · have:=cN_lt h0 h n (by omega)
     unfold cN; split
     · omega
     · rw [List.length_append]; simp; omega
theorem cN_take {l:List Int}:∀ n,n≤l.length→(∀ j,1≤j→j<n→gt l j≠gt l (j-1))→cN l n=l.take n
 | 0,_,_=>by simp [cN]
 | n+1,hn,h=>by
   rw [cN_new ((Nat.eq_zero_or_pos n).imp id fun e=>h n e (by omega)),cN_take n (by omega) (fun j h1 h2=>h j h1 (by omega)),List.take_add_one,gt_at (by omega)]
   rfl
def lexLt (x y:Int):Prop:=x.natAbs<y.natAbs∨(x.natAbs=y.natAbs∧x<y)
theorem cN_spec {l:List Int} (hs:∀ p q,p<q→q<l.length→¬ lexLt (gt l q) (gt l p)):∀ n,n≤l.length →
   (∀ x,x∈cN l n↔∃ j,j<n∧gt l j=x)∧(cN l n).Pairwise lexLt
 | 0,_=>⟨fun x=>by simp [cN],List.Pairwise.nil⟩
 | n+1,hn=>by
   obtain ⟨h1,h2⟩:=cN_spec hs n (by omega)
   by_cases e:0<n∧gt l n=gt l (n-1)
   · rw [cN_dup e.1 e.2]
     refine ⟨fun x=>?_,h2⟩
     rw [h1 x]
     constructor
     · exact fun ⟨j,hj,hx⟩=>⟨j,by omega,hx⟩
     · rintro ⟨j,hj,rfl⟩
       by_cases ej:j=n
       · exact ⟨n-1,by omega,by rw [ej,e.2]⟩
       · exact ⟨j,by omega,rfl⟩
   · have hnew:n=0∨gt l n≠gt l (n-1):=by
       rcases Nat.eq_zero_or_pos n with h | h
       · exact .inl h
       · exact .inr fun h3=>e ⟨h,h3⟩
     rw [cN_new hnew]
     refine ⟨fun x=>?_,?_⟩
     · rw [List.mem_append,List.mem_singleton,h1 x]
       constructor
       · rintro (⟨j,hj,hx⟩ | rfl)
         · exact ⟨j,by omega,hx⟩
         · exact ⟨n,by omega,rfl⟩
       · rintro ⟨j,hj,rfl⟩
         by_cases ej:j=n
         · exact .inr (by rw [ej])
         · exact .inl ⟨j,by omega,rfl⟩
     · rw [List.pairwise_append]
       refine ⟨h2,List.pairwise_singleton _ _,fun a ha b hb=>?_⟩
       rw [List.mem_singleton] at hb
       subst hb
       obtain ⟨j,hj,rfl⟩:=(h1 a).1 ha
       have hn0:n≠0:=by omega
       have hne:=hnew.resolve_left hn0
       have g1:=hs (n-1) n (by omega) (by omega)
       have g2:j=n-1∨¬ lexLt (gt l (n-1)) (gt l j):=by
         by_cases ej:j=n-1
         · exact .inl ej
         · exact .inr (hs j (n-1) (by omega) (by omega))
       unfold lexLt at *
       rcases g2 with rfl | g2 <;> omega
def okL (x:Int):Prop:=1≤x.natAbs∧x.natAbs≤16777216
instance:DecidablePred okL:=fun x=>by unfold okL; exact inferInstance
def Rise (l:List Int):Prop:=l.Pairwise fun a b=>a.natAbs<b.natAbs
theorem pairwise_adj {R:Int→Int→Prop} (tr:∀ a b c,R a b→R b c→R a c) {l:List Int} (h:∀ j,j+1<l.length→R (gt l j) (gt l (j+1))):l.Pairwise R:=by
 rw [List.pairwise_iff_getElem]
 have key:∀ d i,i+(d+1)<l.length→R (gt l i) (gt l (i+(d+1))):=by
  intro d
  induction d with
  | zero=>exact fun i hi=>h i hi
  | succ d ih=>exact fun i hi=>tr _ _ _ (ih i (by omega)) (h (i+(d+1)) (by omega))
 intro i j hi hj hij
 have:=key (j-i-1) i (by omega)
 rw [show i+(j-i-1+1)=j by omega] at this
 have e1:=gt_at hi
 have e2:=gt_at hj
 rw [List.getElem?_eq_getElem hi,Option.some.injEq] at e1
 rw [List.getElem?_eq_getElem hj,Option.some.injEq] at e2
 rw [e1,e2]; exact this
theorem rise_uniq:∀ {a b:List Int},Rise a→Rise b→(∀ x,x∈a↔x∈b)→a=b
 | [],[],_,_,_=>rfl
 | [],y::b,_,_,h=>absurd ((h y).2 (List.mem_cons_self ..)) List.not_mem_nil
 | x::a,[],_,_,h=>absurd ((h x).1 (List.mem_cons_self ..)) List.not_mem_nil
 | x::a,y::b,h1,h2,h=>by
   unfold Rise at h1 h2
   rw [List.pairwise_cons] at h1 h2
   have e:x=y:=by
     have hx:=(h x).1 (List.mem_cons_self ..)
     have hy:=(h y).2 (List.mem_cons_self ..)
     rw [List.mem_cons] at hx hy
     rcases hx with hx | hx
     · exact hx
     · rcases hy with hy | hy
       · exact hy.symm
       · have:=h1.1 y hy; have:=h2.1 x hx; omega
   subst e
   rw [rise_uniq h1.2 h2.2 fun z=>?_]
   have hz:=h z
   rw [List.mem_cons,List.mem_cons] at hz
   constructor
   · intro hm
     rcases hz.1 (.inr hm) with rfl | h
     · have:=h1.1 z hm; omega
     · exact h
   · intro hm
     rcases hz.2 (.inr hm) with rfl | h
     · have:=h2.1 z hm; omega
     · exact h
end Xe
namespace Xe
open Go Tp Go.Proofs
set_option maxRecDepth 16000
section
variable {h:Heap} {A:Option Addr} {l:List Int} {n c fn:Nat} {cs:List Value}
theorem zerosOf_all {z w:Value} {m:Nat} (hw:w∈(zerosOf #[z] m).toList):w=z:=by
 unfold zerosOf at hw
 rw [Array.toList_map,List.mem_map] at hw
 obtain ⟨i,_,rfl⟩:=hw
 simp [Nat.mod_one]
theorem clear_ints {bk off cap:Nat} {k:Heap→Prop} (hc:∀ j,j<n→(hcell h ⟨bk,off+j,none⟩).isSome=true) (hf:∀ j,hfrz h ⟨bk,j,none⟩=false)
   (hk:∀ h',(∀ x,x<off→hcell h' ⟨bk,x,none⟩=hcell h ⟨bk,x,none⟩)→(∀ x,(hcell h ⟨bk,x,none⟩).isSome=true→(hcell h' ⟨bk,x,none⟩).isSome=true)→(∀ x,hfrz h' ⟨bk,x,none⟩=false)→Fr (fun x=>x=bk) h h'→k h') :
   @clearK Tryz.prog 23 (.slice (some ⟨bk,off,none⟩) n cap) ⟨h⟩ ⟨k⟩:=by
 refine .inr ⟨3,1,8,.int .i64 0,_,n,cap,by kernel_rfl,rfl,?_⟩
 have hlen:(zerosOf (Value.int .i64 0).cells (n*1)).toList.length=n:=by simp [zerosOf]
 refine storeN_some (b:=bk) (fun w hw=>by rw [zerosOf_all hw]; rfl) (fun j hj=>by rw [hlen] at hj; rw [Nat.add_zero]; exact hc j hj) hf fun h' g1 g2 g3 g4=>?_
 rw [Nat.add_zero,hlen] at g2
 rw [Nat.add_zero] at g1
 refine hk h' (fun x hx=>g2 x (.inl hx)) (fun x hx=>?_) g3 g4
 by_cases hin:x<off∨off+n≤x
 · rw [g2 x hin]; exact hx
 · have hj:x-off<(zerosOf (Value.int .i64 0).cells (n*1)).toList.length:=by omega
   have:=g1 (x-off) _ (List.getElem?_eq_getElem hj)
   rw [show off+(x-off)=x by omega] at this
   rw [this]; rfl
theorem compact_ok {cap:Nat} (S:SlAt h A cap (ints l)) (hn:n=l.length) (hs:n<2^40) :
   CallsH Tryz.prog 84 [.slice A n cap] h fun r h'=>r=.slice A (cN l n).length cap∧SlAt h' A cap (ints (cN l n))∧Fr (blk A) h h':=by
 subst hn
 refine calls_of 61 [.tmp 2] Go.Proofs.Tryz.func84 rfl rfl rfl ?_
 by_cases h2:l.length<2
 · have e:cN l l.length=l:=by rw [cN_take _ (Nat.le_refl _) (fun j h1 h2=>by omega),List.take_length]
   simp -implicitDefEqProofs (disch:=omega) [go_sem,e]
   exact ⟨S,Fr.refl _ _⟩
 simp -implicitDefEqProofs (disch:=omega) [go_sem]
 obtain ⟨bk,rfl,hbk,hfz,hc⟩:=S.base (by rw [ints_len]; omega)
 have hcap:=S.len
 rw [ints_len] at hcap
 refine loopK (fun ρ h'=>ρ 0=.slice (some ⟨bk,0,none⟩) l.length cap∧h'=h∧∃ k:Nat,ρ 3=.int .i64 k∧1≤k∧k≤l.length∧∀ j,1≤j→j<k→gt l j≠gt l (j-1))
   (fun ρ _=>l.length-(intOf (ρ 3)).toNat) (by kernel_rfl) ?_ ?_
 · exact ⟨rfl,rfl,1,rfl,by omega,by omega,fun j h1 h2=>by omega⟩
 · rintro ρ h' ⟨r0,rfl,k,r3,hk1,hk2,hj⟩
   by_cases hkn:k=l.length
   · have e:cN l l.length=l:=by rw [cN_take _ (Nat.le_refl _) (fun j h1 h2=>hj j h1 (by omega)),List.take_length]
     simp -implicitDefEqProofs (disch:=omega) [go_sem,r0,r3,e]
     exact ⟨S,Fr.refl _ _⟩
   · have c0:=hc k _ (ints_at (gt_at (by omega)))
     have c1:=hc (k-1) _ (ints_at (gt_at (by omega)))
     have ek:((k:Int)-1).toNat=k-1:=by omega
     simp -implicitDefEqProofs (disch:=omega) [go_sem,r0,r3]
     refine drawK [(0,0),(1,0),(2,0),(3,1),(4,0),(5,0),(6,0),(7,0),(8,1),(9,0)] ?_
     by_cases hd:gt l k=gt l (k-1)
     · simp -implicitDefEqProofs (disch:=omega) [go_sem,r0,r3,c0,c1,ek,hd]
       refine loopK (fun ρ h2=>ρ 0=.slice (some ⟨bk,0,none⟩) l.length cap∧ρ 4=.slice (some ⟨bk,k,none⟩) (l.length-k) (cap-k)∧∃ (k2 i:Nat) (M:List Int),ρ 5=.int .i64 k2∧ρ 3=.int .i64 i∧1≤k2∧k+k2≤l.length ∧
           i=(cN l (k+k2)).length∧M.length=l.length∧(∀ j,j<i→gt M j=gt (cN l (k+k2)) j)∧(∀ j,k+k2-1≤j→gt M j=gt l j)∧SlAt h2 (some ⟨bk,0,none⟩) cap (ints M)∧Fr (blk (some ⟨bk,0,none⟩)) h' h2)
         (fun ρ _=>l.length-(intOf (ρ 5)).toNat) (by kernel_rfl) ?_ ?_
       · have e1:cN l k=l.take k:=cN_take _ hk2 hj
         have e2:cN l (k+1)=l.take k:=by rw [cN_dup (by omega) hd,e1]
         refine ⟨r0,rfl,1,k,l,rfl,r3,by omega,by omega,?_,rfl,fun j hj2=>?_,fun j _=>rfl,S,Fr.refl _ _⟩
         · rw [e2,List.length_take]; omega
         · rw [e2]
           unfold gt
           rw [List.getD_eq_getElem?_getD,List.getD_eq_getElem?_getD,List.getElem?_take,if_pos hj2]
       · clear r0 r3 c0 c1
         rintro ρ h3 ⟨r0,r4,k2,i,M,r5,r3,hk21,hk22,hi,hM,hA,hB,S3,f3⟩
         have hilt:=cN_lt (by omega) hd (k+k2) (by omega)
         obtain ⟨bk',hbk',_,hfz3,hc3⟩:=S3.base (by rw [ints_len]; omega)
         cases hbk'
         by_cases hend:k+k2=l.length
         · rw [hend] at hi hA hilt
           have hil:i<l.length:=by omega
           simp -implicitDefEqProofs (disch:=omega) [go_sem,r0,r3,r4,r5]
           refine clear_ints (n:=l.length-i) (fun j hj=>?_) hfz3 fun h4 g1 g2 g3 g4=>?_
           · rw [hc3 (i+j) _ (ints_at (gt_at (by omega)))]; rfl
           · simp -implicitDefEqProofs (disch:=omega) [go_sem,r0,r3,r4,r5]
             refine ⟨hi,⟨by rw [ints_len]; omega,.inr ⟨bk,rfl,Nat.lt_of_lt_of_le (S3.blk_lt ⟨_,rfl,rfl⟩) g4.size,g3,fun j hj=>?_,fun j v hv=>?_⟩⟩,f3.trans (g4.mono fun x _ hx=>⟨_,rfl,hx.symm⟩)⟩
             · refine g2 j ?_
               rcases S3.at' with ⟨h,_⟩ | ⟨bk2,h,_,_,hs3,_⟩
               · cases h
               · cases h; exact hs3 j hj
             · have hjl:=(List.getElem?_eq_some_iff.1 hv).1
               rw [ints_len,← hi] at hjl
               rw [g1 j hjl,hc3 j _ (ints_at (gt_at (by omega))),hA j hjl,← hv,ints_at (gt_at (by omega))]
         · have c0:=hc3 (k+k2) _ (ints_at (gt_at (by omega)))
           have c1:=hc3 (k+(k2-1)) _ (ints_at (gt_at (by omega)))
           rw [hB _ (by omega)] at c0
           rw [hB _ (by omega)] at c1
           have ek2:((k2:Int)-1).toNat=k2-1:=by omega
           have epp:k+k2-1=k+(k2-1):=by omega
           simp -implicitDefEqProofs (disch:=omega) [go_sem,r0,r3,r4,r5]
           refine drawK [(0,0),(1,0),(2,0),(3,1),(4,0),(5,0),(6,0),(7,0),(8,1),(9,0)] ?_
           by_cases hne:gt l (k+k2)=gt l (k+(k2-1))
           · simp -implicitDefEqProofs (disch:=omega) [go_sem,r0,r3,r4,r5,c0,c1,ek2,hne]
             have ed:cN l (k+(k2+1))=cN l (k+k2):=cN_dup (n:=k+k2) (by omega) (by rw [epp]; exact hne)
             refine ⟨⟨k2+1,by omega,i,rfl,by omega,by omega,by rw [ed]; exact hi,M,hM,fun j hj2=>by rw [ed]; exact hA j hj2,fun j hj2=>hB j (by omega),S3,f3⟩,by omega⟩
           · have ci:=hc3 i _ (ints_at (gt_at (by omega)))
             simp -implicitDefEqProofs (disch:=omega) [go_sem,r0,r3,r4,r5,c0,c1,ek2,hne,hfz3,ci]
             have ed:cN l (k+(k2+1))=cN l (k+k2)++[gt l (k+k2)]:=cN_new (n:=k+k2) (.inr (by rw [epp]; exact hne))
             have S4:=S3.set (i:=i) (by rw [ints_len]; omega) (.int .i64 (gt l (k+k2)))
             have e4:(ints M).set i (.int .i64 (gt l (k+k2)))=ints (M.set i (gt l (k+k2))):=by unfold ints; rw [List.map_set]
             rw [e4] at S4
             refine ⟨⟨k2+1,by omega,i+1,by omega,by omega,by omega,by rw [ed,List.length_append,← hi]; rfl,M.set i (gt l (k+k2)),by rw [List.length_set]; exact hM,fun j hj2=>?_,fun j hj2=>?_,S4,?_⟩,by omega⟩
             · rw [gt_set (by omega),ed]
               by_cases ej:j=i
               · subst ej
                 rw [if_pos rfl]
                 unfold gt
                 rw [List.getD_eq_getElem?_getD (l:=_++_),List.getElem?_append_right (by omega),hi]
                 simp
               · rw [if_neg ej,hA j (by omega)]
                 unfold gt
                 rw [List.getD_eq_getElem?_getD,List.getD_eq_getElem?_getD,List.getElem?_append_left (by omega)]
             · rw [gt_set (by omega),if_neg (by omega)]
               exact hB j (by omega)
             · exact f3.set (ad:=⟨bk,i,none⟩) ⟨⟨bk,0,none⟩,rfl,rfl⟩
     · simp -implicitDefEqProofs (disch:=omega) [go_sem,r0,r3,c0,c1,ek,hd]
       refine ⟨⟨k+1,by omega,by omega,by omega,fun j h1 h2=>?_⟩,by omega⟩
       by_cases e:j=k
       · subst e; exact hd
       · exact hj j h1 (by omega)
end
end Xe
