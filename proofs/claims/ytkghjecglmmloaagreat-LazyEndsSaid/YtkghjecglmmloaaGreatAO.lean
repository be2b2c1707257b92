/- The document's answer for layer 16, walked; a few of layer 12. -/
import Derived.Test.YtkghjecglmmloaaGreatT16b
namespace Xe
open Go Tp Go.Proofs
set_option maxRecDepth 16000
def var12 (x:Int):Nat:=if x.natAbs≤16777216 then x.natAbs else 0
section
variable {h:Heap} {A:Option Addr} {l:List St} {n c:Nat}
theorem var12_ok {x:Int} (h0:-9223372036854775808≤x) (h1:x≤9223372036854775807):CallsH Tryz.prog 23 [.int .i64 x] h fun r h'=>r=.int .i64 (var12 x:Nat)∧h'=h:=by
 refine calls_of 14 [.tmp 2] Go.Proofs.Tryz.func23 rfl rfl rfl (by kernel_rfl) (Nat.le_of_ble_eq_true rfl) ?_
 by_cases e1:x < -16777216
 · have ev:var12 x=0:=if_neg (by omega)
   simp -implicitDefEqProofs (disch:=omega) [go_sem,ev]
 · by_cases e2:16777216<x
   · have ev:var12 x=0:=if_neg (by omega)
     simp -implicitDefEqProofs (disch:=omega) [go_sem,ev]
   · have ev:var12 x=x.natAbs:=if_pos (by omega)
     by_cases e3:x<0
     · simp -implicitDefEqProofs (disch:=omega) [go_sem,ev]
       omega
     · simp -implicitDefEqProofs (disch:=omega) [go_sem,ev]
       omega
theorem same12_ok {B:Option Addr} {a b:List Int} {m c d:Nat} (R:RowAt h A (ints a)) (S:RowAt h B (ints b)) (hn:n=a.length) (hm:m=b.length) (hs1:n<2^40) (hs2:m<2^40) :
   CallsH Tryz.prog 27 [.slice A n c,.slice B m d] h fun r h'=>r=.bool (decide (a=b))∧h'=h:=by
 subst hn hm
 refine calls_of 26 [.tmp 4] Go.Proofs.Tryz.func27 rfl rfl rfl (by kernel_rfl) (Nat.le_of_ble_eq_true rfl) ?_
 by_cases hne:a.length=b.length
 · simp -implicitDefEqProofs (disch:=omega) [go_sem]
   refine loopK (fun ρ h'=>ρ 0=.slice A a.length c∧ρ 1=.slice B b.length d∧h'=h∧∃ i:Nat,ρ 5=.int .i64 i∧i≤a.length∧∀ j,j<i→a[j]?=b[j]?)
     (fun ρ _=>a.length-(intOf (ρ 5)).toNat) (by kernel_rfl) ?_ ?_
   · exact ⟨rfl,rfl,rfl,0,rfl,by omega,fun j hj=>by omega⟩
   · rintro ρ h' ⟨r0,r1,rfl,i,r5,hi,hj⟩
     by_cases hin:i<a.length
     · obtain ⟨bk,off,rfl,hc⟩:=R.get (by rw [ints_len]; omega)
       obtain ⟨bk2,off2,rfl,hc2⟩:=S.get (by rw [ints_len]; omega)
       obtain ⟨x,hx⟩:∃ x,a[i]?=some x:=⟨_,List.getElem?_eq_getElem hin⟩
       obtain ⟨y,hy⟩:∃ y,b[i]?=some y:=⟨_,List.getElem?_eq_getElem (by omega)⟩
       have c0:=hc _ _ (ints_at hx)
       have c1:=hc2 _ _ (ints_at hy)
       simp -implicitDefEqProofs (disch:=omega) [go_sem,r0,r1,r5]
       refine drawK [(0,0),(1,0),(2,0),(3,1),(4,0),(5,0),(6,0),(7,1),(8,0)] mixed (by kernel_rfl) ?_
       by_cases e:x=y
       · simp -implicitDefEqProofs (disch:=omega) [go_sem,r0,r1,r5,c0,c1,e]
         refine ⟨⟨i+1,by omega,by omega,fun j hj2=>?_⟩,by omega⟩
         by_cases ej:j=i
         · subst ej; rw [hx,hy,e]
         · exact hj j (by omega)
       · have hab:¬ a=b:=fun h=>by subst h; rw [hx] at hy; cases hy; exact e rfl
         simp -implicitDefEqProofs (disch:=omega) [go_sem,r0,r1,r5,c0,c1,e,hab]
     · have hab:a=b:=by
         apply List.ext_getElem?
         intro j
         by_cases hj2:j<i
         · exact hj j hj2
         · rw [List.getElem?_eq_none (by omega),List.getElem?_eq_none (by omega)]
       simp -implicitDefEqProofs (disch:=omega) [go_sem,r0,r1,r5,hab]
 · have hab:¬ a=b:=fun h=>hne (by rw [h])
   have hne':¬ (a.length:Int)=b.length:=by omega
   simp -implicitDefEqProofs (disch:=omega) [go_sem,hab]
end
end Xe
/- Package trail,as its users see it. -/
namespace Xe
open Go Tp Go.Proofs
set_option maxRecDepth 16000
structure TrailOk (h:Heap) (b:Nat) (O:Nat→Prop) (vars:Nat) (l:List St) (level:Nat):Prop where
 ex:∃ rb sb cl cr cs A,TrailM h b rb sb vars cl cr cs A l level∧∀ x,O x↔tO b rb sb A x
 good:Good vars l
 lvs:Lvs l level
 hv:vars≤16777216
def pushL (vars:Nat) (l:List St) (x r:Int) (n:Nat):List St:=if pushE vars l x r=0 then l++[⟨x,r,n⟩] else l
def LVi (l:List St) (v:Int):Int:=if v<0 then -1 else LV l v.toNat
def PLi (l:List St) (v:Int):Int:=if v<0 then -1 else PL l v.toNat
def RSi (l:List St) (v:Int):Int:=if v<0 then -1 else RS l v.toNat
section
variable {h:Heap} {b vars level:Nat} {O:Nat→Prop} {l:List St}
theorem TrailOk.low (T:TrailOk h b O vars l level):∀ x,O x→x<h.size:=by
 obtain ⟨rb,sb,cl,cr,cs,A,M,hO⟩:=T.ex
 exact fun x hx=>M.low ((hO x).1 hx)
theorem TrailOk.fr (T:TrailOk h b O vars l level) {S:Nat→Prop} {h':Heap} (f:Fr S h h') (hs:∀ x,O x→¬ S x):TrailOk h' b O vars l level:=by
 obtain ⟨rb,sb,cl,cr,cs,A,M,hO⟩:=T.ex
 exact ⟨⟨rb,sb,cl,cr,cs,A,M.fr f fun x hx=>hs x ((hO x).2 hx),hO⟩,T.good,T.lvs,T.hv⟩
theorem TrailOk.fr0 (T:TrailOk h b O vars l level) {h':Heap} (f:Fr (fun _=>False) h h'):TrailOk h' b O vars l level:=T.fr f fun _ _=>id
theorem TrailOk.lvle (T:TrailOk h b O vars l level):level≤vars:=by have:=T.lvs.len; have:=T.good.len; omega
theorem TrailOk.len (T:TrailOk h b O vars l level):l.length≤vars:=T.good.len
theorem TrailOk.lv (T:TrailOk h b O vars l level):∀ s∈l,s.lv≤vars:=fun s hs=>Nat.le_trans (T.lvs.le s hs) T.lvle
theorem tvars_ok (T:TrailOk h b O vars l level):CallsH Tryz.prog 87 [.pointer (some ⟨b,0,none⟩)] h fun r h'=>r=.int .i64 vars∧h'=h:=by
 obtain ⟨rb,sb,cl,cr,cs,A,M,hO⟩:=T.ex
 exact vars_m M T.hv
theorem tlevel_ok (T:TrailOk h b O vars l level):CallsH Tryz.prog 74 [.pointer (some ⟨b,0,none⟩)] h fun r h'=>r=.int .i64 level∧h'=h:=by
 obtain ⟨rb,sb,cl,cr,cs,A,M,hO⟩:=T.ex
 have s3:=M.B.at' 3 _ rfl
 refine calls_of 7 [.tmp 2] Go.Proofs.Tryz.func74 rfl rfl rfl (by kernel_rfl) (Nat.le_of_ble_eq_true rfl) ?_
 simp -implicitDefEqProofs (disch:=omega) [go_sem,s3]
theorem tlits_ok (T:TrailOk h b O vars l level):CallsH Tryz.prog 21 [.pointer (some ⟨b,0,none⟩)] h fun r h' =>
  ∃ A' c',r=.slice A' l.length c'∧SlAt h' A' c' (ints (lits l))∧(∀ x,blk A' x→h.size≤x)∧Fr (fun _=>False) h h':=by
 obtain ⟨rb,sb,cl,cr,cs,A,M,hO⟩:=T.ex
 have s0:=M.B.at' 0 _ rfl
 have:=T.len
 have:=T.hv
 refine calls_of 8 [.tmp 2] Go.Proofs.Tryz.func21 rfl rfl rfl (by kernel_rfl) (Nat.le_of_ble_eq_true rfl) ?_
 simp -implicitDefEqProofs (disch:=omega) [go_sem,s0]
 refine useC (clone_ok (vs:=ints (lits l)) M.S.row (by rw [ints_len]; unfold lits; rw [List.length_map]) ints_one (by omega)) ?_
 rintro _ h' ⟨A',c',rfl,S,hA,f⟩
 simp -implicitDefEqProofs (disch:=omega) [go_sem]
 exact ⟨A',c',⟨rfl,rfl⟩,S,hA,f⟩
theorem tspot_ok (T:TrailOk h b O vars l level) {v:Int} (h0:-9223372036854775808≤v) (h1:v≤9223372036854775807) :
   CallsH Tryz.prog 73 [.pointer (some ⟨b,0,none⟩),.int .i64 v] h fun r h'=>r=.complex .f64 (Fx.enc (LVi l v)) (Fx.enc (PLi l v))∧h'=h:=by
 obtain ⟨rb,sb,cl,cr,cs,A,M,hO⟩:=T.ex
 have s2:=M.B.at' 2 _ rfl
 have hv:=T.hv
 have none_case:(v<1∨vars<v)→LVi l v=-1∧PLi l v=-1:=fun hvv=>by
   unfold LVi PLi
   by_cases e:v<0
   · rw [if_pos e,if_pos e]; exact ⟨rfl,rfl⟩
   · rw [if_neg e,if_neg e]
     have:find l v.toNat=none:=find_none' fun s hs=>by have:=T.good.rng s hs; omega
     exact ⟨(none_of this).1,(none_of this).2.1⟩
 refine calls_of 20 [.tmp 4] Go.Proofs.Tryz.func73 rfl rfl rfl (by kernel_rfl) (Nat.le_of_ble_eq_true rfl) ?_
 by_cases e1:v<1
 · obtain ⟨g1,g2⟩:=none_case (.inl e1)
   simp -implicitDefEqProofs (disch:=omega) [go_sem,g1,g2]
 · simp -implicitDefEqProofs (disch:=omega) [go_sem]
   refine useC (vars_m M T.hv) ?_
   rintro _ h' ⟨rfl,rfl⟩
   by_cases e2:vars<v
   · obtain ⟨g1,g2⟩:=none_case (.inr e2)
     simp -implicitDefEqProofs (disch:=omega) [go_sem,g1,g2]
   · have c2:=M.P.at' v.toNat (by omega)
     have g1:LVi l v=LV l v.toNat:=if_neg (by omega)
     have g2:PLi l v=PL l v.toNat:=if_neg (by omega)
     simp -implicitDefEqProofs (disch:=omega) [go_sem,s2,c2,g1,g2]
theorem LVi_b (T:TrailOk h b O vars l level) (v:Int):-1≤LVi l v∧LVi l v≤vars:=by
 unfold LVi
 split
 · omega
 · exact LV_le T.lv _
theorem PLi_b (T:TrailOk h b O vars l level) (v:Int):-1≤PLi l v∧PLi l v<l.length:=by
 unfold PLi
 split
 · omega
 · exact PL_lt _ _
theorem tlevelOf_ok (T:TrailOk h b O vars l level) {v:Int} (h0:-9223372036854775808≤v) (h1:v≤9223372036854775807) :
  CallsH Tryz.prog 22 [.pointer (some ⟨b,0,none⟩),.int .i64 v] h fun r h'=>r=.int .i64 (LVi l v)∧h'=h:=by
 have b1:=LVi_b T v
 have hv:=T.hv
 refine calls_of 10 [.tmp 4] Go.Proofs.Tryz.func22 rfl rfl rfl (by kernel_rfl) (Nat.le_of_ble_eq_true rfl) ?_
 simp -implicitDefEqProofs (disch:=omega) [go_sem]
 refine useC (tspot_ok T h0 h1) ?_
 rintro _ h' ⟨rfl,rfl⟩
 simp -implicitDefEqProofs (disch:=omega) [go_sem]
theorem tplace_ok (T:TrailOk h b O vars l level) {v:Int} (h0:-9223372036854775808≤v) (h1:v≤9223372036854775807) :
  CallsH Tryz.prog 120 [.pointer (some ⟨b,0,none⟩),.int .i64 v] h fun r h'=>r=.int .i64 (PLi l v)∧h'=h:=by
 have b1:=PLi_b T v
 have hv:=T.hv
 have hn:=T.len
 refine calls_of 10 [.tmp 4] Go.Proofs.Tryz.func120 rfl rfl rfl (by kernel_rfl) (Nat.le_of_ble_eq_true rfl) ?_
 simp -implicitDefEqProofs (disch:=omega) [go_sem]
 refine useC (tspot_ok T h0 h1) ?_
 rintro _ h' ⟨rfl,rfl⟩
 simp -implicitDefEqProofs (disch:=omega) [go_sem]
theorem treason_ok (T:TrailOk h b O vars l level) {v:Int} (h0:-9223372036854775808≤v) (h1:v≤9223372036854775807) :
   CallsH Tryz.prog 76 [.pointer (some ⟨b,0,none⟩),.int .i64 v] h fun r h'=>r=.int .i64 (RSi l v)∧h'=h:=by
 have b1:=LVi_b T v
 have b2:=PLi_b T v
 have hv:=T.hv
 have hn:=T.len
 obtain ⟨rb,sb,cl,cr,cs,A,M,hO⟩:=T.ex
 have s1:=M.B.at' 1 _ rfl
 refine calls_of 16 [.tmp 4] Go.Proofs.Tryz.func76 rfl rfl rfl (by kernel_rfl) (Nat.le_of_ble_eq_true rfl) ?_
 simp -implicitDefEqProofs (disch:=omega) [go_sem]
 refine useC (tspot_ok T h0 h1) ?_
 rintro _ h' ⟨rfl,rfl⟩
 by_cases hp:PLi l v=-1
 · have hb:LVi l v=-1∧RSi l v=-1:=by
    unfold LVi RSi
    unfold PLi at hp
    by_cases e:v<0
    · rw [if_pos e,if_pos e]; exact ⟨rfl,rfl⟩
    · rw [if_neg e] at hp ⊢
      rw [if_neg e]
      have:=none_of (PL_neg.1 (show PL l v.toNat<0 by omega))
      exact ⟨this.1,this.2.2⟩
   simp -implicitDefEqProofs (disch:=omega) [go_sem,hp,hb.1,hb.2]
 · have hvr:1≤v∧v≤vars:=by
    unfold PLi at hp
    by_cases e:v<0
    · rw [if_pos e] at hp; exact absurd rfl hp
    · rw [if_neg e] at hp
      cases hf:find l v.toNat with
      | none=>exact absurd (none_of hf).2.1 hp
      | some k =>
        obtain ⟨s,hs,hs2,_⟩:=find_some hf
        have:=T.good.rng s (List.mem_of_getElem? hs)
        omega
   have c1:=M.R.at' v.toNat (by omega)
   have hr:RSi l v=RS l v.toNat:=if_neg (by omega)
   simp -implicitDefEqProofs (disch:=omega) [go_sem,hp,s1,c1,hr]
theorem tr_at {vars:Nat} {l:List St} (G:Good vars l) {k:Nat} {s:St} (hs:l[k]?=some s) {x:Int} (hx:x.natAbs=s.lit.natAbs):trI l x=if s.lit=x then 1 else -1:=by
 have hm:=List.mem_of_getElem? hs
 have hr:=G.rng s hm
 have hu:∀ y∈lits l,y.natAbs=s.lit.natAbs→y=s.lit:=by
   intro y hy he
   obtain ⟨t,ht,rfl⟩:=List.mem_map.1 hy
   obtain ⟨j,hj⟩:=List.getElem?_of_mem ht
   have e1:=G.find hj
   have e2:=G.find hs
   rw [he,e2] at e1
   cases e1
   rw [hs] at hj; cases hj; rfl
 have hin:s.lit∈lits l:=List.mem_map.2 ⟨s,hm,rfl⟩
 unfold trI
 by_cases e:s.lit=x
 · subst e; rw [if_pos hin,if_pos rfl]
 · rw [if_neg e,if_neg (fun hx2=>e (hu x hx2 hx).symm)]
   have:-x=s.lit:=by omega
   rw [this,if_pos hin]
theorem tr_none {vars:Nat} {l:List St} {x:Int} (hf:find l x.natAbs=none):trI l x=0:=by
 have:∀ y,y.natAbs=x.natAbs→y∉lits l:=by
  intro y hy hm
  obtain ⟨t,ht,rfl⟩:=List.mem_map.1 hm
  obtain ⟨j,hj⟩:=List.getElem?_of_mem ht
  exact find_none hf hj hy
 unfold trI
 rw [if_neg (this x rfl),if_neg (this (-x) (by omega))]
theorem ttruth_ok (T:TrailOk h b O vars l level) {x:Int} (h0:-9223372036854775808≤x) (h1:x≤9223372036854775807) :
   CallsH Tryz.prog 113 [.pointer (some ⟨b,0,none⟩),.int .i64 x] h fun r h'=>r=.int .i64 (trI l x)∧h'=h:=by
 have hv:=T.hv
 have hn:=T.len
 have T':=T
 obtain ⟨rb,sb,cl,cr,cs,A,M,hO⟩:=T.ex
 have s0:=M.B.at' 0 _ rfl
 refine calls_of 26 [.tmp 4] Go.Proofs.Tryz.func113 rfl rfl rfl (by kernel_rfl) (Nat.le_of_ble_eq_true rfl) ?_
 simp -implicitDefEqProofs (disch:=omega) [go_sem]
 refine useC (variable_m M T.hv h0 h1) ?_
 rintro _ h' ⟨rfl,rfl⟩
 simp -implicitDefEqProofs (disch:=omega) [go_sem]
 have hvi:varI vars x≤vars:=by unfold varI; split <;> omega
 refine useC (tspot_ok T' (by omega) (by omega)) ?_
 rintro _ h' ⟨rfl,rfl⟩
 have b1:=LVi_b T' (varI vars x:Int)
 have b2:=PLi_b T' (varI vars x:Int)
 have g1:LVi l (varI vars x:Int)=LV l (varI vars x):=by unfold LVi; rw [if_neg (by omega),Int.toNat_natCast]
 have g2:PLi l (varI vars x:Int)=PL l (varI vars x):=by unfold PLi; rw [if_neg (by omega),Int.toNat_natCast]
 rw [g1] at b1 ⊢
 rw [g2] at b2 ⊢
 cases hf:find l (varI vars x) with
 | none =>
   obtain ⟨hl1,hp1,hr1⟩:=none_of hf
   have ht:trI l x=0:=by
    refine tr_none (vars:=vars) ?_
    unfold varI at hf
    split at hf
    · exact hf
    · exact find_none' fun s hs=>by have:=T.good.rng s hs; omega
   simp -implicitDefEqProofs (disch:=omega) [go_sem,hl1,hp1,ht]
 | some k =>
   obtain ⟨s,hs,hs2,hk⟩:=find_some hf
   have hrg:=T.good.rng s (List.mem_of_getElem? hs)
   have hx:varI vars x=x.natAbs:=by
    unfold varI
    split
    · rfl
    · rename_i e; unfold varI at hs2; rw [if_neg e] at hs2; omega
   have hpk:PL l (varI vars x)=k:=by unfold PL; rw [hf]
   have ht:=tr_at T.good hs (x:=x) (by omega)
   obtain ⟨bk,hA,_,_,hcl⟩:=M.S.base (by rw [ints_len]; unfold lits; rw [List.length_map]; omega)
   have cs0:=hcl k _ (ints_at (show (lits l)[k]?=some s.lit by unfold lits; rw [List.getElem?_map,hs]; rfl))
   by_cases e:s.lit=x
   · simp -implicitDefEqProofs (disch:=omega) [go_sem,hpk,s0,hA,cs0,ht,e]
   · simp -implicitDefEqProofs (disch:=omega) [go_sem,hpk,s0,hA,cs0,ht,e]
end
end Xe
/- Go's library,walked: IndexFunc,ContainsFunc,Index,Compare,Or,the insertion sort,Compact. -/
namespace Xe
open Go Tp Go.Proofs
set_option maxRecDepth 16000
def idxF (p:Int→Bool) (l:List Int):Int:=match l.findIdx? p with
 | some i=>(i:Int)
 | none=>-1
theorem idxF_at {p:Int→Bool} {l:List Int} {i:Nat} {x:Int} (hx:l[i]?=some x) (hp:p x=true) (hj:∀ (j:Nat) y,j<i→l[j]?=some y→p y=false):idxF p l=i:=by
 unfold idxF
 obtain ⟨hk,rfl⟩:=List.getElem?_eq_some_iff.1 hx
 have:l.findIdx? p=some i:=by
  rw [List.findIdx?_eq_some_iff_getElem]
  exact ⟨hk,hp,fun j hj2=>by simp [hj j _ hj2 (List.getElem?_eq_getElem (by omega))]⟩
 rw [this]
theorem idxF_no {p:Int→Bool} {l:List Int} (hj:∀ (j:Nat) y,l[j]?=some y→p y=false):idxF p l=-1:=by
 unfold idxF
 have:l.findIdx? p=none:=by
  rw [List.findIdx?_eq_none_iff]
  intro x hx
  obtain ⟨j,h,rfl⟩:=List.getElem_of_mem hx
  exact hj j _ (List.getElem?_eq_getElem h)
 rw [this]
theorem idxF_any (p:Int→Bool) (l:List Int):decide (0≤idxF p l)=l.any p:=by
 unfold idxF
 cases h:l.findIdx? p with
 | some i =>
   obtain ⟨hk,hp,_⟩:=List.findIdx?_eq_some_iff_getElem.1 h
   rw [List.any_eq_true.2 ⟨l[i],List.getElem_mem hk,hp⟩]
   exact decide_eq_true (by simp only; omega)
 | none =>
   rw [List.findIdx?_eq_none_iff] at h
   rw [List.any_eq_false.2 (fun x hx=>by simp [h x hx])]
   rfl
section
variable {h:Heap} {A:Option Addr} {l:List Int} {n c fn:Nat} {cs:List Value}
theorem indexFunc_ok (R:RowAt h A (ints l)) (hn:n=l.length) (hs:n<2^40) (p:Int→Bool)
   (hf:∀ x∈l,CallsH Tryz.prog fn ([.int .i64 x]++cs) h fun r h'=>r=.bool (p x)∧h'=h) :
   CallsH Tryz.prog 160 [.slice A n c,.func (.func fn) #[] cs.toArray] h fun r h'=>r=.int .i64 (idxF p l)∧h'=h:=by
 subst hn
 refine calls_of 19 [.tmp 4] Go.Proofs.Tryz.func160 rfl rfl rfl (by kernel_rfl) (Nat.le_of_ble_eq_true rfl) ?_
 simp -implicitDefEqProofs (disch:=omega) [go_sem]
 refine loopK (fun ρ h'=>ρ 0=.slice A l.length c∧ρ 1=.func (.func fn) #[] cs.toArray∧ρ 7=.int .i64 l.length∧h'=h∧∃ i:Nat,ρ 8=.int .i64 i∧i≤l.length∧∀ (j:Nat) y,j<i→l[j]?=some y→p y=false)
   (fun ρ _=>l.length-(intOf (ρ 8)).toNat) (by kernel_rfl) ?_ ?_
 · exact ⟨rfl,rfl,rfl,rfl,0,rfl,by omega,fun j y hj=>by omega⟩
 · rintro ρ h' ⟨r0,r1,r7,rfl,i,r8,hi,hj⟩
   by_cases hin:i<l.length
   · obtain ⟨bk,off,rfl,hc⟩:=R.get (by rw [ints_len]; omega)
     obtain ⟨x,hx⟩:∃ x,l[i]?=some x:=⟨_,List.getElem?_eq_getElem hin⟩
     have c0:=hc _ _ (ints_at hx)
     simp -implicitDefEqProofs (disch:=omega) [go_sem,r0,r1,r7,r8,c0]
     refine useC (hf x (List.mem_of_getElem? hx)) ?_
     rintro _ h2 ⟨rfl,rfl⟩
     cases hp:p x with
     | true =>
       have e:=idxF_at hx hp hj
       simp -implicitDefEqProofs (disch:=omega) [go_sem,r0,r1,r7,r8,e]
     | false =>
       simp -implicitDefEqProofs (disch:=omega) [go_sem,r0,r1,r7,r8]
       refine ⟨⟨i+1,by omega,by omega,fun j y hj2 hy=>?_⟩,by omega⟩
       by_cases ej:j=i
       · subst ej; rw [hx] at hy; cases hy; exact hp
       · exact hj j y (by omega) hy
   · have e:idxF p l=-1:=idxF_no fun j y hy=>hj j y (by have:=(List.getElem?_eq_some_iff.1 hy).1; omega) hy
     simp -implicitDefEqProofs (disch:=omega) [go_sem,r0,r1,r7,r8,e]
theorem containsFunc_ok (R:RowAt h A (ints l)) (hn:n=l.length) (hs:n<2^40) (p:Int→Bool)
  (hf:∀ x∈l,CallsH Tryz.prog fn ([.int .i64 x]++cs) h fun r h'=>r=.bool (p x)∧h'=h) :
  CallsH Tryz.prog 111 [.slice A n c,.func (.func fn) #[] cs.toArray] h fun r h'=>r=.bool (l.any p)∧h'=h:=by
 refine calls_of 9 [.tmp 4] Go.Proofs.Tryz.func111 rfl rfl rfl (by kernel_rfl) (Nat.le_of_ble_eq_true rfl) ?_
 simp -implicitDefEqProofs (disch:=omega) [go_sem]
 refine useC (indexFunc_ok R hn hs p hf) ?_
 rintro _ h2 ⟨rfl,rfl⟩
 have e:=idxF_any p l
 simp -implicitDefEqProofs [go_sem,← e]
theorem index_ok (R:RowAt h A (ints l)) (hn:n=l.length) (hs:n<2^40) (x:Int) :
   CallsH Tryz.prog 159 [.slice A n c,.int .i64 x] h fun r h'=>r=.int .i64 (idxF (fun y=>decide (x=y)) l)∧h'=h:=by
 subst hn
 refine calls_of 19 [.tmp 4] Go.Proofs.Tryz.func159 rfl rfl rfl (by kernel_rfl) (Nat.le_of_ble_eq_true rfl) ?_
 simp -implicitDefEqProofs (disch:=omega) [go_sem]
 refine loopK (fun ρ h'=>ρ 0=.slice A l.length c∧ρ 1=.int .i64 x∧ρ 7=.int .i64 l.length∧h'=h∧∃ i:Nat,ρ 8=.int .i64 i∧i≤l.length∧∀ (j:Nat) y,j<i→l[j]?=some y→decide (x=y)=false)
   (fun ρ _=>l.length-(intOf (ρ 8)).toNat) (by kernel_rfl) ?_ ?_
 · exact ⟨rfl,rfl,rfl,rfl,0,rfl,by omega,fun j y hj=>by omega⟩
 · rintro ρ h' ⟨r0,r1,r7,rfl,i,r8,hi,hj⟩
   by_cases hin:i<l.length
   · obtain ⟨bk,off,rfl,hc⟩:=R.get (by rw [ints_len]; omega)
     obtain ⟨y,hy⟩:∃ x,l[i]?=some x:=⟨_,List.getElem?_eq_getElem hin⟩
     have c0:=hc _ _ (ints_at hy)
     by_cases e:x=y
     · have ei:=idxF_at (p:=fun y=>decide (x=y)) hy (decide_eq_true e) hj
       simp -implicitDefEqProofs (disch:=omega) [go_sem,r0,r1,r7,r8,c0,ei]
     · simp -implicitDefEqProofs (disch:=omega) [go_sem,r0,r1,r7,r8,c0,e]
       refine ⟨⟨i+1,by omega,by omega,fun j z hj2 hz=>?_⟩,by omega⟩
       by_cases ej:j=i
       · subst ej; rw [hy] at hz; cases hz; exact e
       · simpa using hj j z (by omega) hz
   · have e:idxF (fun y=>decide (x=y)) l=-1:=idxF_no fun j y hy=>hj j y (by have:=(List.getElem?_eq_some_iff.1 hy).1; omega) hy
     simp -implicitDefEqProofs (disch:=omega) [go_sem,r0,r1,r7,r8,e]
def cmpI (x y:Int):Int:=if x<y then -1 else if y<x then 1 else 0
theorem nan_ok (x:Int):CallsH Tryz.prog 206 [.int .i64 x] h fun r h'=>r=.bool false∧h'=h:=by
 refine calls_of 6 [.tmp 2] Go.Proofs.Tryz.func206 rfl rfl rfl (by kernel_rfl) (Nat.le_of_ble_eq_true rfl) ?_
 simp -implicitDefEqProofs (disch:=omega) [go_sem]
theorem compare_ok (x y:Int):CallsH Tryz.prog 156 [.int .i64 x,.int .i64 y] h fun r h'=>r=.int .i64 (cmpI x y)∧h'=h:=by
 refine calls_of 20 [.tmp 4] Go.Proofs.Tryz.func156 rfl rfl rfl (by kernel_rfl) (Nat.le_of_ble_eq_true rfl) ?_
 simp -implicitDefEqProofs (disch:=omega) [go_sem]
 refine useC (nan_ok x) ?_
 rintro _ h' ⟨rfl,rfl⟩
 simp -implicitDefEqProofs (disch:=omega) [go_sem]
 refine useC (nan_ok y) ?_
 rintro _ h2 ⟨rfl,rfl⟩
 unfold cmpI
 by_cases h1:x<y
 · simp -implicitDefEqProofs (disch:=omega) [go_sem,h1]
 · by_cases h3:y<x
   · simp -implicitDefEqProofs (disch:=omega) [go_sem,h1,h3]
   · simp -implicitDefEqProofs (disch:=omega) [go_sem,h1,h3]
theorem or_ok {x y:Int} (R:RowAt h A (ints [x,y])):CallsH Tryz.prog 155 [.slice A 2 c] h fun r h'=>r=.int .i64 (if x≠0 then x else y)∧h'=h:=by
 refine calls_of 18 [.tmp 2] Go.Proofs.Tryz.func155 rfl rfl rfl (by kernel_rfl) (Nat.le_of_ble_eq_true rfl) ?_
 obtain ⟨bk,off,rfl,hc⟩:=R.get (by rw [ints_len]; exact Nat.succ_pos 1)
 have c0:=hc 0 _ rfl
 have c1:=hc 1 _ rfl
 rw [Nat.add_zero] at c0
 simp -implicitDefEqProofs (disch:=omega) [go_sem]
 refine loopK (fun ρ h'=>ρ 3=.int .i64 0∧ρ 6=.slice (some ⟨bk,off,none⟩) 2 c∧ρ 7=.int .i64 2∧h'=h∧∃ i:Nat,ρ 8=.int .i64 i∧i≤2∧(1≤i→x=0)∧(2≤i→y=0))
   (fun ρ _=>2-(intOf (ρ 8)).toNat) (by kernel_rfl) ?_ ?_
 · exact ⟨rfl,rfl,rfl,rfl,0,rfl,by omega,by omega,by omega⟩
 · rintro ρ h' ⟨r3,r6,r7,rfl,i,r8,hi,hx,hy⟩
   have:i=0∨i=1∨i=2:=by omega
   rcases this with rfl | rfl | rfl
   · by_cases e:x=0
     · simp -implicitDefEqProofs (disch:=omega) [go_sem,r3,r6,r7,r8,c0,e]
       exact ⟨1,rfl,by omega,by omega⟩
     · simp -implicitDefEqProofs (disch:=omega) [go_sem,r3,r6,r7,r8,c0,e]
   · have hx0:=hx (by omega)
     by_cases e:y=0
     · simp -implicitDefEqProofs (disch:=omega) [go_sem,r3,r6,r7,r8,c1,e,hx0]
       exact ⟨2,rfl,by omega⟩
     · simp -implicitDefEqProofs (disch:=omega) [go_sem,r3,r6,r7,r8,c1,e,hx0]
   · have hx0:=hx (by omega)
     have hy0:=hy (by omega)
     simp -implicitDefEqProofs (disch:=omega) [go_sem,r3,r6,r7,r8,hx0,hy0]
def gt (L:List Int) (p:Nat):Int:=L.getD p 0
theorem gt_at {L:List Int} {p:Nat} (h:p<L.length):L[p]?=some (gt L p):=by unfold gt; rw [List.getD_eq_getElem?_getD,List.getElem?_eq_getElem h]; rfl
theorem gt_set {L:List Int} {i p:Nat} {v:Int} (hi:i<L.length):gt (L.set i v) p=if p=i then v else gt L p:=by
 unfold gt
 rw [List.getD_eq_getElem?_getD,List.getD_eq_getElem?_getD,List.getElem?_set]
 by_cases e:p=i
 · subst e; rw [if_pos rfl,if_pos hi,if_pos rfl]; rfl
 · rw [if_neg (Ne.symm e),if_neg e]
structure CmpOk (cf:Int→Int→Int) (ok:Int→Prop):Prop where
 le:∀ x y,ok x→ok y→cf x y<0→0≤cf y x
 tr:∀ x y z,ok x→ok y→ok z→0≤cf y x→0≤cf z y→0≤cf z x
end
end Xe
/- The plain law of cleaning a clause: sorted,each once. -/
namespace Xe
def cN (l:List Int):Nat→List Int
 | 0=>[]
 | n+1=>if 0<n∧gt l n=gt l (n-1) then cN l n else cN l n++[gt l n]
theorem cN_dup {l:List Int} {n:Nat} (h0:0<n) (h:gt l n=gt l (n-1)):cN l (n+1)=cN l n:=if_pos ⟨h0,h⟩
theorem cN_new {l:List Int} {n:Nat} (h:n=0∨gt l n≠gt l (n-1)):cN l (n+1)=cN l n++[gt l n]:=if_neg (fun ⟨h1,h2⟩=>h.elim (fun h=>by omega) (fun h=>h h2))
theorem cN_le (l:List Int):∀ n,(cN l n).length≤n
 | 0=>Nat.le_refl _
 | n+1=>by
   have:=cN_le l n
   unfold cN; split
   · omega
   · rw [List.length_append]; simp; omega
theorem cN_lt {l:List Int} {k:Nat} (h0:0<k) (h:gt l k=gt l (k-1)):∀ n,k<n→(cN l n).length<n
 | 0,hn=>by omega
 | n+1,hn=>by
   by_cases e:n=k
   · subst e; rw [cN_dup h0 h]; have:=cN_le l n; omega
   · have:=cN_lt h0 h n (by omega)
     unfold cN; split
     · omega
     · rw [List.length_append]; simp; omega
theorem cN_take {l:List Int}:∀ n,n≤l.length→(∀ j,1≤j→j<n→gt l j≠gt l (j-1))→cN l n=l.take n
 | 0,_,_=>by simp [cN]
 | n+1,hn,h=>by
   rw [cN_new ((Nat.eq_zero_or_pos n).imp id fun e=>h n e (by omega)),cN_take n (by omega) (fun j h1 h2=>h j h1 (by omega)),List.take_add_one,gt_at (by omega)]
   rfl
def lexLt (x y:Int):Prop:=x.natAbs<y.natAbs∨(x.natAbs=y.natAbs∧x<y)
theorem cN_spec {l:List Int} (hs:∀ p q,p<q→q<l.length→¬ lexLt (gt l q) (gt l p)):∀ n,n≤l.length →
   (∀ x,x∈cN l n↔∃ j,j<n∧gt l j=x)∧(cN l n).Pairwise lexLt
 | 0,_=>⟨fun x=>by simp [cN],List.Pairwise.nil⟩
 | n+1,hn=>by
   obtain ⟨h1,h2⟩:=cN_spec hs n (by omega)
   by_cases e:0<n∧gt l n=gt l (n-1)
   · rw [cN_dup e.1 e.2]
     refine ⟨fun x=>?_,h2⟩
     rw [h1 x]
     constructor
     · exact fun ⟨j,hj,hx⟩=>⟨j,by omega,hx⟩
     · rintro ⟨j,hj,rfl⟩
       by_cases ej:j=n
       · exact ⟨n-1,by omega,by rw [ej,e.2]⟩
       · exact ⟨j,by omega,rfl⟩
   · have hnew:n=0∨gt l n≠gt l (n-1):=by
       rcases Nat.eq_zero_or_pos n with h | h
       · exact .inl h
       · exact .inr fun h3=>e ⟨h,h3⟩
     rw [cN_new hnew]
     refine ⟨fun x=>?_,?_⟩
     · rw [List.mem_append,List.mem_singleton,h1 x]
       constructor
       · rintro (⟨j,hj,hx⟩ | rfl)
         · exact ⟨j,by omega,hx⟩
         · exact ⟨n,by omega,rfl⟩
       · rintro ⟨j,hj,rfl⟩
         by_cases ej:j=n
         · exact .inr (by rw [ej])
         · exact .inl ⟨j,by omega,rfl⟩
     · rw [List.pairwise_append]
       refine ⟨h2,List.pairwise_singleton _ _,fun a ha b hb=>?_⟩
       rw [List.mem_singleton] at hb
       subst hb
       obtain ⟨j,hj,rfl⟩:=(h1 a).1 ha
       have hn0:n≠0:=by omega
       have hne:=hnew.resolve_left hn0
       have g1:=hs (n-1) n (by omega) (by omega)
       have g2:j=n-1∨¬ lexLt (gt l (n-1)) (gt l j):=by
         by_cases ej:j=n-1
         · exact .inl ej
         · exact .inr (hs j (n-1) (by omega) (by omega))
       unfold lexLt at *
       rcases g2 with rfl | g2 <;> omega
def okL (x:Int):Prop:=1≤x.natAbs∧x.natAbs≤16777216
instance:DecidablePred okL:=fun x=>by unfold okL; exact inferInstance
def Rise (l:List Int):Prop:=l.Pairwise fun a b=>a.natAbs<b.natAbs
theorem pairwise_adj {R:Int→Int→Prop} (tr:∀ a b c,R a b→R b c→R a c) {l:List Int} (h:∀ j,j+1<l.length→R (gt l j) (gt l (j+1))):l.Pairwise R:=by
 rw [List.pairwise_iff_getElem]
 have key:∀ d i,i+(d+1)<l.length→R (gt l i) (gt l (i+(d+1))):=by
  intro d
  induction d with
  | zero=>exact fun i hi=>h i hi
  | succ d ih=>exact fun i hi=>tr _ _ _ (ih i (by omega)) (h (i+(d+1)) (by omega))
 intro i j hi hj hij
 have:=key (j-i-1) i (by omega)
 rw [show i+(j-i-1+1)=j by omega] at this
 have e1:=gt_at hi
 have e2:=gt_at hj
 rw [List.getElem?_eq_getElem hi,Option.some.injEq] at e1
 rw [List.getElem?_eq_getElem hj,Option.some.injEq] at e2
 rw [e1,e2]; exact this
theorem rise_uniq:∀ {a b:List Int},Rise a→Rise b→(∀ x,x∈a↔x∈b)→a=b
 | [],[],_,_,_=>rfl
 | [],y::b,_,_,h=>absurd ((h y).2 (List.mem_cons_self ..)) List.not_mem_nil
 | x::a,[],_,_,h=>absurd ((h x).1 (List.mem_cons_self ..)) List.not_mem_nil
 | x::a,y::b,h1,h2,h=>by
   unfold Rise at h1 h2
   rw [List.pairwise_cons] at h1 h2
   have e:x=y:=by
     have hx:=(h x).1 (List.mem_cons_self ..)
     have hy:=(h y).2 (List.mem_cons_self ..)
     rw [List.mem_cons] at hx hy
     rcases hx with hx | hx
     · exact hx
     · rcases hy with hy | hy
       · exact hy.symm
       · have:=h1.1 y hy; have:=h2.1 x hx; omega
   subst e
   rw [rise_uniq h1.2 h2.2 fun z=>?_]
   have hz:=h z
   rw [List.mem_cons,List.mem_cons] at hz
   constructor
   · intro hm
     rcases hz.1 (.inr hm) with rfl | h
     · have:=h1.1 z hm; omega
     · exact h
   · intro hm
     rcases hz.2 (.inr hm) with rfl | h
     · have:=h2.1 z hm; omega
     · exact h
end Xe
/- Go's library,walked: bits.Len,slices.SortFunc of a few,slices.Compact. -/
namespace Xe
open Go Tp Go.Proofs
set_option maxRecDepth 16000
section
variable {h:Heap} {A:Option Addr} {l:List Int} {n c fn:Nat} {cs:List Value}
theorem zerosOf_all {z w:Value} {m:Nat} (hw:w∈(zerosOf #[z] m).toList):w=z:=by
 unfold zerosOf at hw
 rw [Array.toList_map,List.mem_map] at hw
 obtain ⟨i,_,rfl⟩:=hw
 simp [Nat.mod_one]
theorem clear_ints {bk off cap:Nat} {k:Heap→Prop} (hc:∀ j,j<n→(hcell h ⟨bk,off+j,none⟩).isSome=true) (hf:∀ j,hfrz h ⟨bk,j,none⟩=false)
   (hk:∀ h',(∀ x,x<off→hcell h' ⟨bk,x,none⟩=hcell h ⟨bk,x,none⟩)→(∀ x,(hcell h ⟨bk,x,none⟩).isSome=true→(hcell h' ⟨bk,x,none⟩).isSome=true)→(∀ x,hfrz h' ⟨bk,x,none⟩=false)→Fr (fun x=>x=bk) h h'→k h') :
   @clearK Tryz.prog 23 (.slice (some ⟨bk,off,none⟩) n cap) ⟨h⟩ ⟨k⟩:=by
 refine .inr ⟨3,1,8,.int .i64 0,_,n,cap,by kernel_rfl,rfl,?_⟩
 have hlen:(zerosOf (Value.int .i64 0).cells (n*1)).toList.length=n:=by simp [zerosOf]
 refine storeN_some (b:=bk) (fun w hw=>by rw [zerosOf_all hw]; rfl) (fun j hj=>by rw [hlen] at hj; rw [Nat.add_zero]; exact hc j hj) hf fun h' g1 g2 g3 g4=>?_
 rw [Nat.add_zero,hlen] at g2
 rw [Nat.add_zero] at g1
 refine hk h' (fun x hx=>g2 x (.inl hx)) (fun x hx=>?_) g3 g4
 by_cases hin:x<off∨off+n≤x
 · rw [g2 x hin]; exact hx
 · have hj:x-off<(zerosOf (Value.int .i64 0).cells (n*1)).toList.length:=by omega
   have:=g1 (x-off) _ (List.getElem?_eq_getElem hj)
   rw [show off+(x-off)=x by omega] at this
   rw [this]; rfl
theorem compact_ok {cap:Nat} (S:SlAt h A cap (ints l)) (hn:n=l.length) (hs:n<2^40) :
   CallsH Tryz.prog 84 [.slice A n cap] h fun r h'=>r=.slice A (cN l n).length cap∧SlAt h' A cap (ints (cN l n))∧Fr (blk A) h h':=by
 subst hn
 refine calls_of 61 [.tmp 2] Go.Proofs.Tryz.func84 rfl rfl rfl (by kernel_rfl) (Nat.le_of_ble_eq_true rfl) ?_
 by_cases h2:l.length<2
 · have e:cN l l.length=l:=by rw [cN_take _ (Nat.le_refl _) (fun j h1 h2=>by omega),List.take_length]
   simp -implicitDefEqProofs (disch:=omega) [go_sem,e]
   exact ⟨S,Fr.refl _ _⟩
 simp -implicitDefEqProofs (disch:=omega) [go_sem]
 obtain ⟨bk,rfl,hbk,hfz,hc⟩:=S.base (by rw [ints_len]; omega)
 have hcap:=S.len
 rw [ints_len] at hcap
 refine loopK (fun ρ h'=>ρ 0=.slice (some ⟨bk,0,none⟩) l.length cap∧h'=h∧∃ k:Nat,ρ 3=.int .i64 k∧1≤k∧k≤l.length∧∀ j,1≤j→j<k→gt l j≠gt l (j-1))
   (fun ρ _=>l.length-(intOf (ρ 3)).toNat) (by kernel_rfl) ?_ ?_
 · exact ⟨rfl,rfl,1,rfl,by omega,by omega,fun j h1 h2=>by omega⟩
 · rintro ρ h' ⟨r0,rfl,k,r3,hk1,hk2,hj⟩
   by_cases hkn:k=l.length
   · have e:cN l l.length=l:=by rw [cN_take _ (Nat.le_refl _) (fun j h1 h2=>hj j h1 (by omega)),List.take_length]
     simp -implicitDefEqProofs (disch:=omega) [go_sem,r0,r3,e]
     exact ⟨S,Fr.refl _ _⟩
   · have c0:=hc k _ (ints_at (gt_at (by omega)))
     have c1:=hc (k-1) _ (ints_at (gt_at (by omega)))
     have ek:((k:Int)-1).toNat=k-1:=by omega
     simp -implicitDefEqProofs (disch:=omega) [go_sem,r0,r3]
     refine drawK [(0,0),(1,0),(2,0),(3,1),(4,0),(5,0),(6,0),(7,0),(8,1),(9,0)] mixed (by kernel_rfl) ?_
     by_cases hd:gt l k=gt l (k-1)
     · simp -implicitDefEqProofs (disch:=omega) [go_sem,r0,r3,c0,c1,ek,hd]
       refine loopK (fun ρ h2=>ρ 0=.slice (some ⟨bk,0,none⟩) l.length cap∧ρ 4=.slice (some ⟨bk,k,none⟩) (l.length-k) (cap-k)∧∃ (k2 i:Nat) (M:List Int),ρ 5=.int .i64 k2∧ρ 3=.int .i64 i∧1≤k2∧k+k2≤l.length ∧
           i=(cN l (k+k2)).length∧M.length=l.length∧(∀ j,j<i→gt M j=gt (cN l (k+k2)) j)∧(∀ j,k+k2-1≤j→gt M j=gt l j)∧SlAt h2 (some ⟨bk,0,none⟩) cap (ints M)∧Fr (blk (some ⟨bk,0,none⟩)) h' h2)
         (fun ρ _=>l.length-(intOf (ρ 5)).toNat) (by kernel_rfl) ?_ ?_
       · have e1:cN l k=l.take k:=cN_take _ hk2 hj
         have e2:cN l (k+1)=l.take k:=by rw [cN_dup (by omega) hd,e1]
         refine ⟨r0,rfl,1,k,l,rfl,r3,by omega,by omega,?_,rfl,fun j hj2=>?_,fun j _=>rfl,S,Fr.refl _ _⟩
         · rw [e2,List.length_take]; omega
         · rw [e2]
           unfold gt
           rw [List.getD_eq_getElem?_getD,List.getD_eq_getElem?_getD,List.getElem?_take,if_pos hj2]
       · clear r0 r3 c0 c1
         rintro ρ h3 ⟨r0,r4,k2,i,M,r5,r3,hk21,hk22,hi,hM,hA,hB,S3,f3⟩
         have hilt:=cN_lt (by omega) hd (k+k2) (by omega)
         obtain ⟨bk',hbk',_,hfz3,hc3⟩:=S3.base (by rw [ints_len]; omega)
         cases hbk'
         by_cases hend:k+k2=l.length
         · rw [hend] at hi hA hilt
           have hil:i<l.length:=by omega
           simp -implicitDefEqProofs (disch:=omega) [go_sem,r0,r3,r4,r5]
           refine clear_ints (n:=l.length-i) (fun j hj=>?_) hfz3 fun h4 g1 g2 g3 g4=>?_
           · rw [hc3 (i+j) _ (ints_at (gt_at (by omega)))]; rfl
           · simp -implicitDefEqProofs (disch:=omega) [go_sem,r0,r3,r4,r5]
             refine ⟨hi,⟨by rw [ints_len]; omega,.inr ⟨bk,rfl,Nat.lt_of_lt_of_le (S3.blk_lt ⟨_,rfl,rfl⟩) g4.size,g3,fun j hj=>?_,fun j v hv=>?_⟩⟩,f3.trans (g4.mono fun x _ hx=>⟨_,rfl,hx.symm⟩)⟩
             · refine g2 j ?_
               rcases S3.at' with ⟨h,_⟩ | ⟨bk2,h,_,_,hs3,_⟩
               · cases h
               · cases h; exact hs3 j hj
             · have hjl:=(List.getElem?_eq_some_iff.1 hv).1
               rw [ints_len,← hi] at hjl
               rw [g1 j hjl,hc3 j _ (ints_at (gt_at (by omega))),hA j hjl,← hv,ints_at (gt_at (by omega))]
         · have c0:=hc3 (k+k2) _ (ints_at (gt_at (by omega)))
           have c1:=hc3 (k+(k2-1)) _ (ints_at (gt_at (by omega)))
           rw [hB _ (by omega)] at c0
           rw [hB _ (by omega)] at c1
           have ek2:((k2:Int)-1).toNat=k2-1:=by omega
           have epp:k+k2-1=k+(k2-1):=by omega
           simp -implicitDefEqProofs (disch:=omega) [go_sem,r0,r3,r4,r5]
           refine drawK [(0,0),(1,0),(2,0),(3,1),(4,0),(5,0),(6,0),(7,0),(8,1),(9,0)] mixed (by kernel_rfl) ?_
           by_cases hne:gt l (k+k2)=gt l (k+(k2-1))
           · simp -implicitDefEqProofs (disch:=omega) [go_sem,r0,r3,r4,r5,c0,c1,ek2,hne]
             have ed:cN l (k+(k2+1))=cN l (k+k2):=cN_dup (n:=k+k2) (by omega) (by rw [epp]; exact hne)
             refine ⟨⟨k2+1,by omega,i,rfl,by omega,by omega,by rw [ed]; exact hi,M,hM,fun j hj2=>by rw [ed]; exact hA j hj2,fun j hj2=>hB j (by omega),S3,f3⟩,by omega⟩
           · have ci:=hc3 i _ (ints_at (gt_at (by omega)))
             simp -implicitDefEqProofs (disch:=omega) [go_sem,r0,r3,r4,r5,c0,c1,ek2,hne,hfz3,ci]
             have ed:cN l (k+(k2+1))=cN l (k+k2)++[gt l (k+k2)]:=cN_new (n:=k+k2) (.inr (by rw [epp]; exact hne))
             have S4:=S3.set (i:=i) (by rw [ints_len]; omega) (.int .i64 (gt l (k+k2)))
             have e4:(ints M).set i (.int .i64 (gt l (k+k2)))=ints (M.set i (gt l (k+k2))):=by unfold ints; rw [List.map_set]
             rw [e4] at S4
             refine ⟨⟨k2+1,by omega,i+1,by omega,by omega,by omega,by rw [ed,List.length_append,← hi]; rfl,M.set i (gt l (k+k2)),by rw [List.length_set]; exact hM,fun j hj2=>?_,fun j hj2=>?_,S4,?_⟩,by omega⟩
             · rw [gt_set (by omega),ed]
               by_cases ej:j=i
               · subst ej
                 rw [if_pos rfl]
                 unfold gt
                 rw [List.getD_eq_getElem?_getD (l:=_++_),List.getElem?_append_right (by omega),hi]
                 simp
               · rw [if_neg ej,hA j (by omega)]
                 unfold gt
                 rw [List.getD_eq_getElem?_getD,List.getD_eq_getElem?_getD,List.getElem?_append_left (by omega)]
             · rw [gt_set (by omega),if_neg (by omega)]
               exact hB j (by omega)
             · exact f3.set (ad:=⟨bk,i,none⟩) ⟨⟨bk,0,none⟩,rfl,rfl⟩
     · simp -implicitDefEqProofs (disch:=omega) [go_sem,r0,r3,c0,c1,ek,hd]
       refine ⟨⟨k+1,by omega,by omega,by omega,fun j h1 h2=>?_⟩,by omega⟩
       by_cases e:j=k
       · subst e; exact hd
       · exact hj j h1 (by omega)
end
end Xe
/- Package trail,as its users see it: what changes it. -/
namespace Xe
open Go Tp Go.Proofs
set_option maxRecDepth 16000
section
variable {h:Heap} {b vars level:Nat} {O:Nat→Prop} {l:List St}
theorem nx_of {b rb sb:Nat} {A A':Option Addr} {O:Nat→Prop} {h h':Heap} (hO:∀ x,O x↔tO b rb sb A x) (f:Fr (tO b rb sb A) h h') (hA:∀ y,blk A' y→blk A y∨h.size≤y):Nx O (tO b rb sb A') h h' :=
 ⟨f.mono fun x _ hx=>(hO x).2 hx,fun x hx=>by
  rcases hx with hx | hx | hx | hx
  · exact .inl ((hO x).2 (.inl hx))
  · exact .inl ((hO x).2 (.inr (.inl hx)))
  · exact .inl ((hO x).2 (.inr (.inr (.inl hx))))
  · exact (hA x hx).imp (fun h=>(hO x).2 (.inr (.inr (.inr h)))) id⟩
theorem TrailOk.of {rb sb cl cr cs:Nat} {A:Option Addr} (M:TrailM h b rb sb vars cl cr cs A l level) (G:Good vars l) (L:Lvs l level) (hv:vars≤16777216):TrailOk h b (tO b rb sb A) vars l level :=
 ⟨⟨_,_,_,_,_,_,M,fun _=>Iff.rfl⟩,G,L,hv⟩
theorem tpush_ok (T:TrailOk h b O vars l level) {x r:Int} (h0:-9223372036854775808≤x) (h1:x≤9223372036854775807) :
   CallsH Tryz.prog 157 [.pointer (some ⟨b,0,none⟩),.int .i64 x,.int .i64 r] h fun e h'=>e=.int .i64 (pushE vars l x r:Nat) ∧
    ∃ O',TrailOk h' b O' vars (pushL vars l x r level) level∧Nx O O' h h':=by
 have hlv:=T.lvle
 obtain ⟨rb,sb,cl,cr,cs,A,M,hO⟩:=T.ex
 refine (push_m M T.good T.lv T.hv rfl (by omega) h0 h1).mono ?_
 rintro _ h' ⟨rfl,g1,g2⟩
 refine ⟨rfl,?_⟩
 unfold pushL
 by_cases e:pushE vars l x r=0
 · obtain ⟨ev,v1,v2,hf,A',cl',M',f,hA⟩:=g2 e
   rw [if_pos e]
   exact ⟨_,⟨⟨_,_,_,_,_,_,M',fun _=>Iff.rfl⟩,T.good.push hf v1 v2,.push x r T.lvs,T.hv⟩,nx_of hO f hA⟩
 · rw [if_neg e,g1 e]
   exact ⟨O,T,Nx.refl _ _⟩
theorem tdecide_ok (T:TrailOk h b O vars l level) {x:Int} (h0:-9223372036854775808≤x) (h1:x≤9223372036854775807) :
   CallsH Tryz.prog 108 [.pointer (some ⟨b,0,none⟩),.int .i64 x] h fun e h'=>e=.int .i64 (pushE vars l x (-1):Nat) ∧
    ∃ O',TrailOk h' b O' vars (pushL vars l x (-1) (level+1)) (if pushE vars l x (-1)=0 then level+1 else level)∧Nx O O' h h':=by
 have hlv:=T.lvle
 have hv:=T.hv
 obtain ⟨rb,sb,cl,cr,cs,A,M,hO⟩:=T.ex
 have s3:=M.B.at' 3 _ rfl
 have fB:=M.B.fz
 refine calls_of 26 [.tmp 4] Go.Proofs.Tryz.func108 rfl rfl rfl (by kernel_rfl) (Nat.le_of_ble_eq_true rfl) ?_
 simp -implicitDefEqProofs (disch:=omega) [go_sem,s3,fB]
 have M1:=M.setLv ((level:Int)+1)
 have f1:Fr (tO b rb sb A) h (hset h ⟨b,3,none⟩ (.int .i64 ((level:Int)+1))):=(Fr.refl _ _).set (.inl rfl)
 refine useC (push_m (n:=level+1) M1 T.good T.lv T.hv (by omega) (by omega) h0 h1) ?_
 rintro _ h2 ⟨rfl,g1,g2⟩
 by_cases e:pushE vars l x (-1)=0
 · obtain ⟨ev,v1,v2,hf,A',cl',M',f,hA⟩:=g2 e
   simp -implicitDefEqProofs (disch:=omega) [go_sem,e]
   rw [show pushL vars l x (-1) (level+1)=l++[⟨x,-1,level+1⟩] from if_pos e]
   exact ⟨_,TrailOk.of M' (T.good.push hf v1 v2) (.dec x T.lvs) T.hv,nx_of hO (f1.trans f) fun y hy=>(hA y hy).imp id fun h=>by rwa [hset_size] at h⟩
 · have e1:=g1 e
   subst e1
   have e':¬ ((pushE vars l x (-1):Nat):Int)=0:=by omega
   have s32:=M1.B.at' 3 _ rfl
   have fB2:=M1.B.fz
   simp -implicitDefEqProofs (disch:=omega) [go_sem,e,e',s32,fB2,s3,fB]
   rw [show pushL vars l x (-1) (level+1)=l from if_neg e]
   exact ⟨_,TrailOk.of (M1.setLv level) T.good T.lvs T.hv,nx_of hO (f1.set (.inl rfl)) fun y hy=>.inl hy⟩
def backK (level:Nat) (n:Int):Nat:=if max n 0<level then (max n 0).toNat else level
theorem tback_ok (T:TrailOk h b O vars l level) {n:Int} (h0:-9223372036854775808≤n) (h1:n≤9223372036854775807) :
  CallsH Tryz.prog 75 [.pointer (some ⟨b,0,none⟩),.int .i64 n] h fun r h'=>r=.int .i64 ((cutTo l (backK level n)).length:Nat) ∧
   TrailOk h' b O vars (cutTo l (backK level n)) (backK level n)∧Nx O O h h':=by
 obtain ⟨rb,sb,cl,cr,cs,A,M,hO⟩:=T.ex
 have hk:backK level n≤level:=by unfold backK; split <;> omega
 refine (back_m M T.good T.hv T.lvs.mono rfl T.lvle T.lvs.le h0 h1 (k:=backK level n) rfl).mono ?_
 rintro _ h' ⟨rfl,M',f⟩
 exact ⟨rfl,⟨⟨_,_,_,_,_,_,M',hO⟩,T.good.sub List.filter_sublist,T.lvs.cut _ hk,T.hv⟩,⟨f.mono fun x _ hx=>(hO x).2 hx,fun x hx=>.inl hx⟩⟩
theorem tnew_ok {x:Int} (h0:-9223372036854775808≤x) (h1:x≤9223372036854775807) :
   CallsH Tryz.prog 106 [.int .i64 x] h fun r h'=>((x<0∨16777216<x)∧r=.pointer none∧h'=h) ∨
    (∃ vars b:Nat,x=vars∧vars≤16777216∧r=.pointer (some ⟨b,0,none⟩)∧∃ O,TrailOk h' b O vars [] 0∧Nx (fun _=>False) O h h'):=by
 refine calls_of 19 [.tmp 2] Go.Proofs.Tryz.func106 rfl rfl rfl (by kernel_rfl) (Nat.le_of_ble_eq_true rfl) ?_
 by_cases e1:x<0
 · simp -implicitDefEqProofs (disch:=omega) [go_sem,e1]
 by_cases e2:16777216<x
 · simp -implicitDefEqProofs (disch:=omega) [go_sem,e1,e2]
 obtain ⟨vars,rfl⟩:∃ n:Nat,x=n:=⟨x.toNat,by omega⟩
 simp -implicitDefEqProofs (disch:=omega) [go_sem]
 refine build1 rfl rfl ?_
 simp -implicitDefEqProofs (disch:=omega) [go_sem]
 have hw:IntKind.i64.wrap ((vars:Int)+1)=((vars+1:Nat):Int):=by rw [IntWalk.i64_in _ (by omega)]; omega
 have c1:=repeatI_ok (h:=h.push (.cells #[.int .i64 (-1)] 3)) (A:=some ⟨h.size,0,none⟩) (cap:=1) (n:=vars+1) (x:=-1) (SlAt.new (vs:=[.int .i64 (-1)])).row (by omega) (by omega)
 refine useC c1 ?_
 rintro _ h2 ⟨rfl,F2,f2⟩
 simp -implicitDefEqProofs (disch:=omega) [go_sem]
 refine build1 rfl rfl ?_
 simp -implicitDefEqProofs (disch:=omega) [go_sem]
 have c2:=repeatC_ok (h:=h2.push (.cells #[.complex .f64 (Fx.enc (-1)) (Fx.enc (-1))] 108)) (A:=some ⟨h2.size,0,none⟩) (cap:=1) (n:=vars+1) (re:=Fx.enc (-1)) (im:=Fx.enc (-1)) (SlAt.new (vs:=[.complex .f64 (Fx.enc (-1)) (Fx.enc (-1))])).row (by omega) (by omega)
 refine useC c2 ?_
 rintro _ h3 ⟨rfl,F3,f3⟩
 simp -implicitDefEqProofs (disch:=omega) [go_sem]
 rw [push_size] at F2 F3
 have z2:=f2.size
 have z3:=f3.size
 rw [push_size] at z2 z3
 have y2:=F2.lt
 have y3:=F3.lt
 have M:TrailM (h3.push (.cells #[.slice none 0 0,.slice (some ⟨h.size+1,0,none⟩) (vars+1) (vars+1),.slice (some ⟨h2.size+1,0,none⟩) (vars+1) (vars+1),.int .i64 0] 118)) h3.size (h.size+1) (h2.size+1) vars 0 (vars+1) (vars+1) none [] 0 :=
   ⟨ListB.new,SlAt.nil _,((F2.fr ((Fr.refl (fun _=>False) _).push.trans f3) id).push).cong fun i hi=>rfl,F3.push.cong fun i hi=>rfl,(by show h3.size≠h.size+1; omega),(by show h3.size≠h2.size+1; omega),(by show h.size+1≠h2.size+1; omega),fun x ⟨_,h,_⟩=>(nomatch h)⟩
 refine ⟨vars,rfl,by omega,_,TrailOk.of M (Good.nil _) .nil (by omega),⟨?_,fun x hx=>.inr ?_⟩⟩
 · exact (((Fr.refl _ _).push.trans f2).push.trans f3).push
 · rcases hx with rfl | rfl | rfl | ⟨_,h,_⟩
   · omega
   · omega
   · omega
   · cases h
end
end Xe
/- Trail's truths; the document's Push and Back. -/
namespace Xe
open Go Tp Go.Proofs
set_option maxRecDepth 16000
theorem appendO {h0 h:Heap} {e:TypeId} {sz bt:Nat} {z:Value} {A:Option Addr} {cap n:Nat} {vs ws:List Value} {k:Value→Heap→Prop} (S:SlAt h A (cap*sz) vs) (own:∀ x,blk A x→h0.size≤x) (fr:Fr (fun _=>False) h0 h)
   (hn:n*sz=vs.length) (hw:ws.length=sz) (hs:0<sz) (hone:∀ w∈ws,w.oneCell'=true) (hlen:(n+1)*bt≤2^47) (hlm:n+1<2^50)
   (hk:∀ A' cap' h',SlAt h' A' (cap'*sz) (vs++ws)→(∀ x,blk A' x→h0.size≤x)→Fr (fun _=>False) h0 h'→Fr (blk A) h h'→k (.slice A' (n+1) cap') h') :
   @appendK (some (e,sz,bt,z)) (.slice A n cap) (.slice (some ⟨h.size,0,none⟩) 1 1) ⟨h.push (.cells ws.toArray e)⟩ ⟨k⟩:=by
 have f1:Fr (fun _=>False) h (h.push (.cells ws.toArray e)):=(Fr.refl _ _).push
 refine appendN (S.fr f1 fun _ _=>id) hn (SlAt.new (vs:=ws) (e:=e)).row (by omega) hs hone hlen hlm ?_
 intro A' c' h' S' f hA
 have z:=fr.size
 refine hk A' c' h' S' (fun x hx=>?_) ?_ ((f1.mono fun _ _ h=>h.elim).trans f)
 · rcases hA x hx with h | h
   · exact own x h
   · rw [push_size] at h; omega
 · exact (fr.trans f1).trans' f fun x hx hb=>by have:=own x hb; omega
def truthsV (n:Nat) (l:List St):List Value:=(List.range n).map fun i=>.bool (decide (0<trI l ((i+1:Nat):Int)))
theorem truthsV_len (n:Nat) (l:List St):(truthsV n l).length=n:=by unfold truthsV; rw [List.length_map,List.length_range]
theorem truthsV_succ (n:Nat) (l:List St):truthsV (n+1) l=truthsV n l++[.bool (decide (0<trI l ((n+1:Nat):Int)))]:=by unfold truthsV; rw [List.range_succ,List.map_append]; rfl
section
variable {h:Heap} {b vars level:Nat} {O:Nat→Prop} {l:List St}
theorem ttruths_ok (T:TrailOk h b O vars l level):CallsH Tryz.prog 187 [.pointer (some ⟨b,0,none⟩)] h fun r h' =>
   ∃ A' c',r=.slice A' vars c'∧RowAt h' A' (truthsV vars l)∧(∀ x,blk A' x→h.size≤x)∧Fr (fun _=>False) h h':=by
 have hv:=T.hv
 refine calls_of 19 [.tmp 2] Go.Proofs.Tryz.func187 rfl rfl rfl (by kernel_rfl) (Nat.le_of_ble_eq_true rfl) ?_
 simp -implicitDefEqProofs (disch:=omega) [go_sem]
 refine loopK (fun ρ h'=>ρ 0=.pointer (some ⟨b,0,none⟩)∧∃ (i:Nat) (A:Option Addr) (c:Nat),ρ 4=.int .i64 ((i+1:Nat):Int)∧i≤vars∧ρ 3=.slice A i c∧SlAt h' A c (truthsV i l)∧(∀ x,blk A x→h.size≤x)∧Fr (fun _=>False) h h')
   (fun ρ _=>vars+1-(intOf (ρ 4)).toNat) (by kernel_rfl) ?_ ?_
 · exact ⟨rfl,0,none,0,rfl,by omega,rfl,SlAt.nil _,fun x ⟨_,h,_⟩=>(nomatch h),Fr.refl _ _⟩
 · rintro ρ h1 ⟨r0,i,A,c,r4,hi,r3,S,own,fr⟩
   have T1:=T.fr0 fr
   simp -implicitDefEqProofs (disch:=omega) [go_sem,r0,r4,r3]
   refine useC (tvars_ok T1) ?_
   rintro _ h2 ⟨rfl,rfl⟩
   by_cases hlt:i<vars
   · simp -implicitDefEqProofs (disch:=omega) [go_sem,r0,r4,r3]
     have ct:=ttruth_ok T1 (x:=((i+1:Nat):Int)) (by omega) (by omega)
     refine useC ct ?_
     rintro _ h3 ⟨rfl,rfl⟩
     simp -implicitDefEqProofs (disch:=omega) [go_sem,r0,r4,r3]
     refine build1 rfl rfl ?_
     simp -implicitDefEqProofs (disch:=omega) [go_sem,r0,r4,r3]
     refine appendO (cap:=c) (ws:=[.bool (decide (0<trI l ((i+1:Nat):Int)))]) (by rw [Nat.mul_one]; exact S) own fr (by rw [truthsV_len]; omega) rfl (by omega) (by simp [Value.oneCell']) (by omega) (by omega) ?_
     intro A' c' h4 S' own' fr' _
     rw [← truthsV_succ,Nat.mul_one] at S'
     simp -implicitDefEqProofs (disch:=omega) [go_sem,r0,r4,r3]
     exact ⟨⟨i+1,by omega,by omega,A',c',⟨rfl,rfl,rfl⟩,S',own',fr'⟩,by omega⟩
   · have e:i=vars:=by omega
     subst e
     simp -implicitDefEqProofs (disch:=omega) [go_sem,r0,r4,r3]
     exact ⟨S.row,own,fr⟩
end
end Xe
