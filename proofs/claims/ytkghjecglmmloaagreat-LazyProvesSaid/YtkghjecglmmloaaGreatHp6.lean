/- The walks through package heap, fourth part. -/
import Derived.Test.YtkghjecglmmloaaGreatHp3
namespace Xe.Hq
open Go Hp Go.Proofs
set_option maxRecDepth 16000
section
variable {h:Heap} {b kb lb pb vars n kc lc pc:Nat} {A:Option Addr} {act:Nat→Int} {l:Nat→Nat} {pl:Nat→Int}
def bumped (act:Nat→Int) (v:Nat) (by_:Int):Nat→Int:=upd act v (min (act v+by_) 1099511627776)
theorem bump_h (H:HeapAt h b kb lb pb vars n kc lc pc A act l pl) (W:Wf vars n l pl) (hact:Acts vars act) (O:Ord act n l) (x y:Int) :
  CallsH Tryz.prog 180 [.pointer (some ⟨b,0,none⟩),.int .i64 x,.int .i64 y] h fun r h'=>
    (∃ v:Nat,x=v∧r=.bool true∧1≤v∧v≤vars∧1≤y∧y≤1048576∧∃ l' pl',HeapAt h' b kb lb pb vars n kc lc pc A (bumped act v y) l' pl'∧Wf vars n l' pl'∧Ord (bumped act v y) n l'∧Acts vars (bumped act v y)∧(∀ u,In n l' u↔In n l u) ∧
       Fr (HB b kb lb pb) h h') ∨
    (¬ (1≤x∧x≤vars∧1≤y∧y≤1048576)∧r=.bool false∧h'=h):=by
 have hc0:=H.s0
 have hc2:=H.s2
 refine calls_of 63 [.tmp 6] Go.Proofs.Tryz.func180 rfl rfl rfl ?_
 simp -implicitDefEqProofs (disch:=omega) [go_sem]
 refine useC (there_h H x) ?_
 rintro _ h ⟨rfl,rfl⟩
 by_cases hv:1≤x∧x≤vars
 · obtain ⟨v,rfl⟩:∃ v:Nat,x=v:=⟨x.toNat,by omega⟩
   have c:=H.cp v (by omega)
   have hv1:(1:Int)≤v:=by omega
   have hv2:v≤vars:=by omega
   by_cases hy1:y<1
   · simp -implicitDefEqProofs (disch:=omega) [go_sem,hv1,hv2,hy1]
     omega
   · by_cases hy2:1048576<y
     · simp -implicitDefEqProofs (disch:=omega) [go_sem,hv1,hv2,hy1,hy2]
     · have f:=hact v hv2
       have k:=H.ck v hv2
       have hvv:=H.hv
       have H3:=H.setK hv2 (min (act v+y) 1099511627776)
       have A3:Acts vars (bumped act v y):=fun u hu=>by
         unfold bumped upd
         split
         · omega
         · exact hact u hu
       have hfr3:Fr (HB b kb lb pb) h (hset h ⟨kb,v,none⟩ (.complex .f64 (Fx.enc (min (act v+y) 1099511627776)) (Fx.enc (-(v:Int))))):=(Fr.refl _ _).set (.inr (.inl rfl))
       by_cases hp:0≤pl v
       · obtain ⟨i,hi,hpi,hli⟩:∃ i,i<n∧pl v=i∧l i=v:=by
          rcases W.fore v (by omega) hv2 with h | h
          · omega
          · exact h
         have U:Up (bumped act v y) n l i:=by
          have:=O.bump hi (fun a ha b hb e=>W.inj ha hb e) (x:=min (act v+y) 1099511627776) (by rw [hli]; omega)
          rw [hli] at this; exact this
         simp -implicitDefEqProofs (disch:=omega) [go_sem,hv1,hv2,hy1,hy2]
         refine drawK [(0,0),(1,0),(2,0),(3,1),(4,0),(5,0),(6,0),(7,0),(8,1),(9,0),(10,0),(11,1),(12,0),(13,0),(14,0),(15,0),(16,0),(17,0),(18,0),(19,0),(20,1),(21,0),(22,0),(23,1),(24,0),(25,0),(26,0),(27,3)] ?_
         simp -implicitDefEqProofs (disch:=omega) [go_sem,hv1,hv2,hc0,hc2,c,k,H.fk,H.bk,Ne.symm H.kp,hp]
         refine useC (rise_h H3 W A3 i hpi hi U) ?_
         rintro _ h5 ⟨rfl,l5,pl5,H5,W5,O5,hin5,hfr5⟩
         simp -implicitDefEqProofs (disch:=omega) [go_sem]
         exact ⟨v,rfl,by omega,hv2,by omega,by omega,l5,pl5,H5,W5,O5,A3,hin5,hfr3.trans (hfr5.mono fun x _ hx=>by unfold HB; omega)⟩
       · simp -implicitDefEqProofs (disch:=omega) [go_sem,hv1,hv2,hy1,hy2]
         refine drawK [(0,0),(1,0),(2,0),(3,1),(4,0),(5,0),(6,0),(7,0),(8,1),(9,0),(10,0),(11,1),(12,0),(13,0),(14,0),(15,0),(16,0),(17,0),(18,0),(19,0),(20,1),(21,0),(22,0),(23,1),(24,0),(25,0),(26,0),(27,3)] ?_
         simp -implicitDefEqProofs (disch:=omega) [go_sem,hv1,hv2,hc0,hc2,c,k,H.fk,H.bk,Ne.symm H.kp,hp]
         refine ⟨v,rfl,by omega,hv2,by omega,by omega,l,pl,H3,W,O.same fun i hi=>?_,A3,fun _=>Iff.rfl,hfr3⟩
         exact upd_other _ _ (fun e=>hp (by rw [← e,W.back i hi]; omega))
 · simp -implicitDefEqProofs (disch:=omega) [go_sem,hv]
   intro h1 h2 h3
   omega
def halved (act:Nat→Int) (j:Nat):Nat→Int:=fun v=>if v<j then act v / 2 else act v
theorem halved_0 (act:Nat→Int):halved act 0=act:=by funext v; unfold halved; rw [if_neg (by omega)]
theorem halved_at (act:Nat→Int) (j:Nat):halved act j j=act j:=by unfold halved; rw [if_neg (by omega)]
theorem halved_succ (act:Nat→Int) (j:Nat):halved act (j+1)=upd (halved act j) j (act j / 2):=by
 funext v
 unfold halved upd
 by_cases h:v=j
 · subst h; rw [if_pos (by omega),if_pos rfl]
 · rw [if_neg h]
   by_cases h2:v<j
   · simp only [h2,if_true,if_pos (by omega:v<j+1)]
   · simp only [h2,if_false,if_neg (by omega:¬ v<j+1)]
theorem halved_acts (hact:Acts vars act) (j:Nat):Acts vars (halved act j):=fun v hv=>by
 have:=hact v hv
 unfold halved
 split <;> omega
theorem decay_h (H:HeapAt h b kb lb pb vars n kc lc pc A act l pl) (W:Wf vars n l pl) (hact:Acts vars act) :
  CallsH Tryz.prog 182 [.pointer (some ⟨b,0,none⟩)] h fun r h'=>r=.tuple #[] ∧
    ∃ l' pl',HeapAt h' b kb lb pb vars n kc lc pc A (halved act (vars+1)) l' pl'∧Wf vars n l' pl'∧Ord (halved act (vars+1)) n l'∧(∀ u,In n l' u↔In n l u)∧Fr (HB b kb lb pb) h h':=by
 have hc0:=H.s0
 refine calls_of 45 [] Go.Proofs.Tryz.func182 rfl rfl rfl ?_
 simp -implicitDefEqProofs (disch:=omega) [go_sem,hc0]
 refine loopK (fun ρ h'=>ρ 0=.pointer (some ⟨b,0,none⟩)∧ρ 8=.int .i64 ((vars:Int)+1)∧∃ j:Nat,ρ 9=.int .i64 j∧j≤vars+1∧HeapAt h' b kb lb pb vars n kc lc pc A (halved act j) l pl∧Fr (HB b kb lb pb) h h')
   (fun ρ _=>vars+1-(intOf (ρ 9)).toNat) (by kernel_rfl) ?_ ?_
 · exact ⟨rfl,rfl,0,rfl,by omega,by rw [halved_0]; exact H,Fr.refl _ _⟩
 · rintro ρ h1 ⟨r0,r8,j,r9,hj,H1,hfr1⟩
   have hvv:=H1.hv
   by_cases hjn:j=vars+1
   · subst hjn
     have hc1:=H1.s1
     have hnn:=H1.hn
     simp -implicitDefEqProofs (disch:=omega) [go_sem,r0,r8,r9,hc1]
     refine loopK (fun ρ h'=>ρ 0=.pointer (some ⟨b,0,none⟩)∧∃ (i:Nat) (l':Nat→Nat) (pl':Nat→Int),ρ 3=.int .i64 ((i:Int)-1)∧i≤n∧HeapAt h' b kb lb pb vars n kc lc pc A (halved act (vars+1)) l' pl'∧Wf vars n l' pl' ∧
       OrdFrom (halved act (vars+1)) n l' i∧(∀ u,In n l' u↔In n l u)∧Fr (HB b kb lb pb) h h')
       (fun ρ _=>(intOf (ρ 3)+1).toNat) (by kernel_rfl) ?_ ?_
     · exact ⟨r0,n,l,pl,rfl,Nat.le_refl _,H1,W,OrdFrom.start _ _ _ _ (by omega),fun _=>Iff.rfl,hfr1⟩
     · rintro ρ h2 ⟨q0,i,l2,pl2,q3,hi,H2,W2,O2,hin2,hfr2⟩
       have hnn:=H2.hn
       by_cases hi0:i=0
       · subst hi0
         simp -implicitDefEqProofs (disch:=omega) [go_sem,q0,q3]
         exact ⟨l2,pl2,H2,W2,OrdFrom.zero.1 O2,hin2,hfr2⟩
       · obtain ⟨s,rfl⟩:∃ s,i=s+1:=⟨i-1,by omega⟩
         have es:((s+1:Nat):Int)-1=s:=by omega
         rw [es] at q3
         simp -implicitDefEqProofs (disch:=omega) [go_sem,q0,q3]
         refine useC (sink_h H2 W2 (halved_acts hact _) s s rfl (Nat.le_refl _) (by omega) (Down.start O2)) ?_
         rintro _ h3 ⟨rfl,l3,pl3,H3,W3,O3,hin3,hfr3⟩
         simp -implicitDefEqProofs (disch:=omega) [go_sem,q0,q3]
         exact ⟨s,rfl,by omega,l3,pl3,H3,W3,O3,fun u=>(hin3 u).trans (hin2 u),hfr2.trans (hfr3.mono fun x _ hx=>by unfold HB; omega)⟩
   · have hjl:(j:Int)<vars+1:=by omega
     have k:=H1.ck j (by omega)
     have hc1:=H1.s0
     rw [halved_at] at k
     have f:=hact j (by omega)
     have H2:=H1.setK (v:=j) (by omega) (act j / 2)
     rw [← halved_succ] at H2
     simp -implicitDefEqProofs (disch:=omega) [go_sem,r0,r8,r9,hjl]
     refine drawC [(0,0),(1,0),(2,0),(3,2),(4,0),(5,0),(6,0),(9,0),(10,0),(11,0),(12,2),(13,0),(14,0),(15,2),(16,0),(7,3),(8,0),(17,0),(18,0),(19,4)] (Eq h1) rfl ?_
     simp -implicitDefEqProofs (disch:=omega) [go_sem,r0,r8,r9,hjl,hc1,k]
     refine useC (half_h H1 (halved_acts hact _) j rfl (by omega)) ?_
     rintro _ h1 ⟨rfl,rfl⟩
     rw [halved_at]
     simp -implicitDefEqProofs (disch:=omega) [go_sem,r0,r8,r9,hc1,k,H1.fk]
     exact ⟨⟨j+1,by omega,by omega,H2,hfr1.set (.inr (.inl rfl))⟩,by omega⟩
end
structure HeapOk (h:Heap) (b:Nat) (O:Nat→Prop) (vars n:Nat) (act:Nat→Int) (S:Nat→Prop):Prop where
 ex:∃ kb lb pb kc lc pc A l pl,HeapAt h b kb lb pb vars n kc lc pc A act l pl∧Wf vars n l pl∧Ord act n l∧(∀ v,In n l v↔S v)∧(O b∧O kb∧O pb∧∀ x,blk A x→O x)
 acts:Acts vars act
 low:∀ x,O x→x<h.size
section
variable {h:Heap} {b vars n:Nat} {O:Nat→Prop} {act:Nat→Int} {S:Nat→Prop}
theorem HeapAt.fr {kb lb pb kc lc pc:Nat} {A:Option Addr} {l:Nat→Nat} {pl:Nat→Int} (H:HeapAt h b kb lb pb vars n kc lc pc A act l pl) {h':Heap} {T:Nat→Prop} (f:Fr T h h')
   (hb:¬ T b) (hk:¬ T kb) (hp:¬ T pb) (hA:∀ x,blk A x→¬ T x):∃ lb',HeapAt h' b kb lb' pb vars n kc lc pc A act l pl∧(blk A lb'∨h'.size≤lb'):=by
 obtain ⟨tb,tk,tp⟩:=H.lts
 have z:=f.size
 rcases H.hA0 with ⟨rfl,h0⟩ | rfl
 · refine ⟨h'.size,?_,.inr (Nat.le_refl _)⟩
   have hn0:=H.hnc
   exact { s0:=by rw [f.cell tb hb]; exact H.s0
           s1:=by rw [f.cell tb hb]; exact H.s1
           s2:=by rw [f.cell tb hb]; exact H.s2
           ck:=fun v hv=>by rw [f.cell tk hk]; exact H.ck v hv
           cl:=fun i hi=>by omega
           cp:=fun v hv=>by rw [f.cell tp hp]; exact H.cp v hv
           lr:=fun i hi=>by omega
           ll:=fun e=>(nomatch e)
           fb:=fun o=>by rw [f.frz tb hb]; exact H.fb o
           fk:=fun o=>by rw [f.frz tk hk]; exact H.fk o
           fl:=fun o=>hfrz_ge (Nat.le_refl _)
           fp:=fun o=>by rw [f.frz tp hp]; exact H.fp o
           bk:=H.bk
           bl:=by omega
           bp:=H.bp
           kl:=by omega
           kp:=H.kp
           lp:=by omega
           hA0:=.inl ⟨rfl,h0⟩
           hnc:=H.hnc
           hv:=H.hv
           hn:=H.hn }
 · have tl:=H.ll rfl
   have hl:=hA lb ⟨_,rfl,rfl⟩
   refine ⟨lb,?_,.inl ⟨_,rfl,rfl⟩⟩
   exact { s0:=by rw [f.cell tb hb]; exact H.s0
           s1:=by rw [f.cell tb hb]; exact H.s1
           s2:=by rw [f.cell tb hb]; exact H.s2
           ck:=fun v hv=>by rw [f.cell tk hk]; exact H.ck v hv
           cl:=fun i hi=>by rw [f.cell tl hl]; exact H.cl i hi
           cp:=fun v hv=>by rw [f.cell tp hp]; exact H.cp v hv
           lr:=fun i hi=>by rw [f.cell tl hl]; exact H.lr i hi
           ll:=fun e=>by omega
           fb:=fun o=>by rw [f.frz tb hb]; exact H.fb o
           fk:=fun o=>by rw [f.frz tk hk]; exact H.fk o
           fl:=fun o=>by rw [f.frz tl hl]; exact H.fl o
           fp:=fun o=>by rw [f.frz tp hp]; exact H.fp o
           bk:=H.bk
           bl:=H.bl
           bp:=H.bp
           kl:=H.kl
           kp:=H.kp
           lp:=H.lp
           hA0:=.inr rfl
           hnc:=H.hnc
           hv:=H.hv
           hn:=H.hn }
theorem HeapOk.fr (H:HeapOk h b O vars n act S) {h':Heap} {T:Nat→Prop} (f:Fr T h h') (hT:∀ x,O x→¬ T x):HeapOk h' b O vars n act S:=by
 obtain ⟨kb,lb,pb,kc,lc,pc,A,l,pl,H1,W,Od,hin,hb,hk,hp,hA⟩:=H.ex
 obtain ⟨lb',H2,_⟩:=H1.fr f (hT _ hb) (hT _ hk) (hT _ hp) (fun x hx=>hT _ (hA x hx))
 exact ⟨⟨kb,lb',pb,kc,lc,pc,A,l,pl,H2,W,Od,hin,hb,hk,hp,hA⟩,H.acts,fun x hx=>Nat.lt_of_lt_of_le (H.low x hx) f.size⟩
theorem HeapOk.own (H:HeapOk h b O vars n act S):∃ kb lb pb kc lc pc A l pl,HeapAt h b kb lb pb vars n kc lc pc A act l pl∧Wf vars n l pl∧Ord act n l∧(∀ v,In n l v↔S v)∧(O b∧O kb∧O pb∧∀ x,blk A x→O x)∧∀ x,x<h.size→HB b kb lb pb x→O x:=by
 obtain ⟨kb,lb,pb,kc,lc,pc,A,l,pl,H1,W,Od,hin,hb,hk,hp,hA⟩:=H.ex
 obtain ⟨lb',H2,h2⟩:=H1.fr (T:=fun _=>False) (Fr.refl _ _) id id id (fun _ _=>id)
 refine ⟨kb,lb',pb,kc,lc,pc,A,l,pl,H2,W,Od,hin,⟨hb,hk,hp,hA⟩,fun x hx h=>?_⟩
 rcases h with rfl | rfl | rfl | rfl
 · exact hb
 · exact hk
 · exact h2.elim (hA _) (fun h=>by omega)
 · exact hp
theorem HeapOk.vars_le (H:HeapOk h b O vars n act S):vars≤16777216:=by obtain ⟨_,_,_,_,_,_,_,_,_,H1,_⟩:=H.ex; exact H1.hv
theorem HeapOk.n_le (H:HeapOk h b O vars n act S):n≤vars:=by obtain ⟨_,_,_,_,_,_,_,_,_,H1,_⟩:=H.ex; exact H1.hn
theorem HeapOk.range (H:HeapOk h b O vars n act S) {v:Nat} (hv:S v):1≤v∧v≤vars:=by
 obtain ⟨_,_,_,_,_,_,_,_,_,H1,W,_,hin,_⟩:=H.ex
 obtain ⟨i,hi,rfl⟩:=(hin v).2 hv
 exact ⟨W.low i hi,W.high i hi⟩
theorem HeapOk.cong (H:HeapOk h b O vars n act S) {S':Nat→Prop} (e:∀ v,S v↔S' v):HeapOk h b O vars n act S':=by
 obtain ⟨kb,lb,pb,kc,lc,pc,A,l,pl,H1,W,Od,hin,r⟩:=H.ex
 exact ⟨⟨kb,lb,pb,kc,lc,pc,A,l,pl,H1,W,Od,fun v=>(hin v).trans (e v),r⟩,H.acts,H.low⟩
def Fst (act:Nat→Int) (S:Nat→Prop) (v:Nat):Prop:=S v∧∀ w,S w→¬ bef act w v
theorem Fst.uniq {v w:Nat} (h1:Fst act S v) (h2:Fst act S w):v=w:=by
 have a:=h1.2 w h2.1
 have b:=h2.2 v h1.1
 unfold bef at a b; omega
open Classical in
noncomputable def front (act:Nat→Int) (S:Nat→Prop) (vars:Nat):List Nat:=(List.range' 1 vars).filter fun v=>decide (S v∧∀ w,S w→act w≤act v)
theorem mem_front {v:Nat} (hS:∀ v,S v→1≤v∧v≤vars):v∈front act S vars↔S v∧∀ w,S w→act w≤act v:=by
 unfold front
 rw [List.mem_filter,List.mem_range'_1]
 simp only [decide_eq_true_eq]
 constructor
 · exact fun h=>h.2
 · exact fun h=>⟨by have:=hS v h.1; omega,h⟩
theorem front_nodup:(front act S vars).Nodup:=(List.nodup_range' (step:=1)).filter _
theorem front_lt:(front act S vars).Pairwise (·<·):=(List.pairwise_lt_range' (step:=1)).filter _
theorem front_fst (hS:∀ v,S v→1≤v∧v≤vars) {t:Nat} (ht:t<(front act S vars).length):Fst act (fun v=>S v∧v∉(front act S vars).take t) (front act S vars)[t]:=by
 have hm:=(mem_front hS).1 (List.getElem_mem ht)
 refine ⟨⟨hm.1,fun hi=>?_⟩,fun w hw hb=>?_⟩
 · obtain ⟨j,hj,e⟩:=List.mem_take_iff_getElem.1 hi
   have:=List.pairwise_iff_getElem.1 (front_lt (act:=act) (S:=S) (vars:=vars)) j t (by omega) ht (by omega)
   omega
 · have h1:=hm.2 w hw.1
   rcases hb with h2 | ⟨h2,h3⟩
   · omega
   · have hwm:w∈front act S vars:=(mem_front hS).2 ⟨hw.1,fun u hu=>by rw [h2]; exact hm.2 u hu⟩
     obtain ⟨j,hj,e⟩:=List.mem_iff_getElem.1 hwm
     have hjt:t≤j:=by
       rcases Nat.lt_or_ge j t with h | h
       · exact absurd (List.mem_take_iff_getElem.2 ⟨j,by omega,e⟩) hw.2
       · exact h
     rcases Nat.lt_or_eq_of_le hjt with h | h
     · have:=List.pairwise_iff_getElem.1 (front_lt (act:=act) (S:=S) (vars:=vars)) t j ht hj h
       omega
     · subst h; omega
theorem tieN_front {kb lb pb kc lc pc:Nat} {A:Option Addr} {l:Nat→Nat} {pl:Nat→Int} (W:Wf vars n l pl) (Od:Ord act n l) (hin:∀ v,In n l v↔S v):tieN act l n=(front act S vars).length:=by
 have hS:∀ v,S v→1≤v∧v≤vars:=fun v hv=>by
  obtain ⟨i,hi,rfl⟩:=(hin v).2 hv
  exact ⟨W.low i hi,W.high i hi⟩
 have htop:∀ i,i<n→act (l i)≤act (l 0):=fun i hi=>by
  have:=Od.first i hi
  unfold bef at this; omega
 have key:∀ v,v∈((List.range n).filter fun i=>decide (act (l i)=act (l 0))).map l↔v∈front act S vars:=by
  intro v
  rw [mem_front hS,List.mem_map]
  constructor
  · rintro ⟨i,hi,rfl⟩
    rw [List.mem_filter,List.mem_range,decide_eq_true_eq] at hi
    refine ⟨(hin _).1 ⟨i,hi.1,rfl⟩,fun w hw=>?_⟩
    obtain ⟨j,hj,rfl⟩:=(hin w).2 hw
    rw [hi.2]; exact htop j hj
  · rintro ⟨h1,h2⟩
    obtain ⟨i,hi,rfl⟩:=(hin v).2 h1
    refine ⟨i,?_,rfl⟩
    rw [List.mem_filter,List.mem_range,decide_eq_true_eq]
    have h3:=h2 (l 0) ((hin _).1 ⟨0,by omega,rfl⟩)
    have h4:=htop i hi
    exact ⟨hi,by omega⟩
 have nd:(((List.range n).filter fun i=>decide (act (l i)=act (l 0))).map l).Nodup :=
  nodup_map (List.nodup_range.filter _) fun x hx y hy e=>W.inj (List.mem_range.1 (List.mem_filter.1 hx).1) (List.mem_range.1 (List.mem_filter.1 hy).1) e
 have e1:=nodup_le nd (fun x hx=>(key x).1 hx)
 have e2:=nodup_le front_nodup (fun x hx=>(key x).2 hx)
 rw [List.length_map] at e1 e2
 unfold tieN
 omega
theorem ties_ok (H:HeapOk h b O vars n act S):CallsH Tryz.prog 232 [.pointer (some ⟨b,0,none⟩)] h fun r h'=>r=.int .i64 ((front act S vars).length:Nat)∧h'=h:=by
 obtain ⟨kb,lb,pb,kc,lc,pc,A,l,pl,H1,W,Od,hin,hO⟩:=H.ex
 rw [← tieN_front (kb:=0) (lb:=0) (pb:=0) (kc:=0) (lc:=0) (pc:=0) (A:=none) W Od hin]
 exact ties_h H1 W H.acts
theorem take_ok (H:HeapOk h b O vars (n+1) act S):CallsH Tryz.prog 233 [.pointer (some ⟨b,0,none⟩),.int .i64 0] h fun r h' =>
   ∃ v:Nat,r=.int .i64 v∧Fst act S v∧HeapOk h' b O vars n act (fun u=>S u∧u≠v)∧Fr O h h':=by
 obtain ⟨kb,lb,pb,kc,lc,pc,A,l,pl,H1,W,Od,hin,hO⟩:=H.ex
 refine (take_h H1 W H.acts Od).mono ?_
 rintro _ h' ⟨rfl,l',pl',H',W',O',hin',hfr⟩
 refine ⟨l 0,rfl,⟨(hin _).1 ⟨0,by omega,rfl⟩,fun w hw=>?_⟩,⟨⟨kb,lb,pb,kc,lc,pc,A,l',pl',H',W',O',fun v=>(hin' v).trans (by rw [hin v]),hO⟩,H.acts,fun x hx=>Nat.lt_of_lt_of_le (H.low x hx) hfr.size⟩,hfr.mono fun x _ hx=>?_⟩
 · obtain ⟨j,hj,rfl⟩:=(hin w).2 hw
   exact Od.first j hj
 · rcases hx with rfl | rfl | rfl | rfl
   · exact hO.1
   · exact hO.2.1
   · exact hO.2.2.2 _ ⟨_,H1.hA (by omega),rfl⟩
   · exact hO.2.2.1
theorem put_ok (H:HeapOk h b O vars n act S) (x:Int):CallsH Tryz.prog 132 [.pointer (some ⟨b,0,none⟩),.int .i64 x] h fun r h' =>
   (∃ v:Nat,x=v∧r=.bool true∧1≤v∧v≤vars∧¬ S v∧∃ O',HeapOk h' b O' vars (n+1) act (fun u=>S u∨u=v)∧Nx O O' h h') ∨
   ((¬ (1≤x∧x≤vars)∨S x.toNat)∧r=.bool false∧h'=h):=by
 obtain ⟨kb,lb,pb,kc,lc,pc,A,l,pl,H1,W,Od,hin,hO⟩:=H.ex
 refine (put_h H1 W H.acts Od x).mono ?_
 rintro r h' (⟨v,rfl,rfl,h1,h2,h3,lb',lc',A',l',pl',H',W',O',hin',hfr,hA⟩ | ⟨h1,rfl,rfl⟩)
 · refine .inl ⟨v,rfl,rfl,h1,h2,fun hs=>h3 ((hin v).2 hs),fun x=>(O x∨h.size≤x)∧x<h'.size,⟨⟨kb,lb',pb,kc,lc',pc,A',l',pl',H',W',O',fun u=>(hin' u).trans (by rw [hin u]),?_⟩,H.acts,fun x hx=>hx.2⟩,⟨hfr.mono fun x _ hx=>?_,fun x hx=>hx.1⟩⟩
   · obtain ⟨tb,tk,tp⟩:=H'.lts
     refine ⟨⟨.inl hO.1,tb⟩,⟨.inl hO.2.1,tk⟩,⟨.inl hO.2.2.1,tp⟩,fun x hx=>⟨(hA x hx).imp (hO.2.2.2 x) id,H'.sl.blk_lt hx⟩⟩
   · rcases hx with rfl | rfl | hx
     · exact hO.1
     · exact hO.2.2.1
     · exact hO.2.2.2 _ hx
 · exact .inr ⟨h1.imp id (hin _).1,rfl,rfl⟩
theorem bump_ok (H:HeapOk h b O vars n act S) (x y:Int):CallsH Tryz.prog 180 [.pointer (some ⟨b,0,none⟩),.int .i64 x,.int .i64 y] h fun r h' =>
  (∃ v:Nat,x=v∧r=.bool true∧1≤v∧v≤vars∧1≤y∧y≤1048576∧HeapOk h' b O vars n (bumped act v y) S∧Fr O h h') ∨
  (¬ (1≤x∧x≤vars∧1≤y∧y≤1048576)∧r=.bool false∧h'=h):=by
 obtain ⟨kb,lb,pb,kc,lc,pc,A,l,pl,H1,W,Od,hin,hO,hB⟩:=H.own
 refine (bump_h H1 W H.acts Od x y).mono ?_
 rintro r h' (⟨v,rfl,rfl,h1,h2,h3,h4,l',pl',H',W',O',A',hin',hfr⟩ | h1)
 · refine .inl ⟨v,rfl,rfl,h1,h2,h3,h4,⟨⟨kb,lb,pb,kc,lc,pc,A,l',pl',H',W',O',fun u=>(hin' u).trans (hin u),hO⟩,A',fun x hx=>Nat.lt_of_lt_of_le (H.low x hx) hfr.size⟩,hfr.mono hB⟩
 · exact .inr h1
theorem decay_ok (H:HeapOk h b O vars n act S):CallsH Tryz.prog 182 [.pointer (some ⟨b,0,none⟩)] h fun r h' =>
  r=.tuple #[]∧HeapOk h' b O vars n (halved act (vars+1)) S∧Fr O h h':=by
 obtain ⟨kb,lb,pb,kc,lc,pc,A,l,pl,H1,W,Od,hin,hO,hB⟩:=H.own
 refine (decay_h H1 W H.acts).mono ?_
 rintro r h' ⟨rfl,l',pl',H',W',O',hin',hfr⟩
 refine ⟨rfl,⟨⟨kb,lb,pb,kc,lc,pc,A,l',pl',H',W',O',fun u=>(hin' u).trans (hin u),hO⟩,halved_acts H.acts _,fun x hx=>Nat.lt_of_lt_of_le (H.low x hx) hfr.size⟩,hfr.mono hB⟩
end
def nums (l:List Nat):List Value:=l.map fun (v:Nat)=>.int .i64 (v:Int)
theorem nums_len (l:List Nat):(nums l).length=l.length:=List.length_map ..
theorem nums_at {l:List Nat} {i:Nat} (hi:i<l.length):(nums l)[i]?=some (.int .i64 (l[i]:Int)):=by simp [nums,hi]
theorem nums_put (l:List Nat) (v:Nat):nums l++[.int .i64 (v:Int)]=nums (l++[v]):=by simp [nums]
section
variable {h:Heap} {b vars n:Nat} {O:Nat→Prop} {act:Nat→Int} {S:Nat→Prop}
theorem tieN_pos {l:Nat→Nat} (hn:0<n):0<tieN act l n:=by
 unfold tieN
 exact List.length_pos_of_mem (a:=0) (List.mem_filter.2 ⟨List.mem_range.2 hn,by simp⟩)
theorem pop_ok (H:HeapOk h b O vars n act S) (x:Int):CallsH Tryz.prog 188 [.pointer (some ⟨b,0,none⟩),.int .i64 x] h fun r h' =>
   (n=0∧r=.tuple #[.int .i64 0,.bool false]∧h'=h) ∨
   (∃ v:Nat,r=.tuple #[.int .i64 v,.bool true]∧0<n∧(front act S vars)[(max x 0).toNat % (front act S vars).length]?=some v ∧
     ∃ O',HeapOk h' b O' vars (n-1) act (fun u=>S u∧u≠v)∧Nx O O' h h'):=by
 obtain ⟨kb,lb,pb,kc,lc,pc,A,l,pl,H1,W,Od,hin,hO⟩:=H.ex
 have hc1:=H1.s1
 refine calls_of 43 [.tmp 4,.tmp 5] Go.Proofs.Tryz.func188 rfl rfl rfl ?_
 by_cases hn0:n=0
 · subst hn0
   simp -implicitDefEqProofs (disch:=omega) [go_sem,hc1]
 · simp -implicitDefEqProofs (disch:=omega) [go_sem,hc1,hn0]
   refine useC (ties_ok H) ?_
   rintro _ h ⟨rfl,rfl⟩
   have hF0:0<(front act S vars).length:=by
     rw [← tieN_front (kb:=0) (lb:=0) (pb:=0) (kc:=0) (lc:=0) (pc:=0) (A:=none) W Od hin]
     exact tieN_pos (by omega)
   have hFn:(front act S vars).length≤n:=by
     rw [← tieN_front (kb:=0) (lb:=0) (pb:=0) (kc:=0) (lc:=0) (pc:=0) (A:=none) W Od hin]
     exact tieN_le _ _ _
   have hS:∀ v,S v→1≤v∧v≤vars:=fun v hv=>H.range hv
   obtain ⟨F,hF⟩:∃ F,F=front act S vars:=⟨_,rfl⟩
   rw [← hF] at hF0 hFn ⊢
   obtain ⟨p,hp⟩:∃ p:Nat,p=(max x 0).toNat % F.length:=⟨_,rfl⟩
   have hpl:p<F.length:=by rw [hp]; exact Nat.mod_lt _ hF0
   rw [← hp]
   have hvv:=H.vars_le
   have hnn:=H.n_le
   simp -implicitDefEqProofs (disch:=omega) [go_sem]
   have hrem:(max x 0) % (F.length:Int)=(p:Int):=by
     rw [hp]
     obtain ⟨u,hu⟩:∃ u:Nat,max x 0=(u:Int):=⟨(max x 0).toNat,by omega⟩
     rw [hu,Int.toNat_natCast]; omega
   refine loopK (fun ρ h'=>ρ 0=.pointer (some ⟨b,0,none⟩)∧∃ (t:Nat) (Aa:Option Addr) (ca:Nat),t≤p∧ρ 6=.slice Aa t ca∧ρ 7=.int .i64 ((p:Int)-t)∧SlAt h' Aa ca (nums (F.take t))∧(∀ x,blk Aa x→h.size≤x) ∧
     HeapOk h' b O vars (n-t) act (fun v=>S v∧v∉F.take t)∧Fr O h h') (fun ρ _=>(intOf (ρ 7)).toNat) (by kernel_rfl) ?_ ?_
   · exact ⟨rfl,0,none,0,by omega,rfl,congrArg (Value.int .i64) (by rw [hrem]; omega),SlAt.nil _,fun x ⟨a,h,_⟩=>(nomatch h),H.cong fun v=>by simp,Fr.refl _ _⟩
   · rintro ρ h1 ⟨r0,t,Aa,ca,htp,r6,r7,SA,hbA,HO,hfr⟩
     have hfst:=front_fst (act:=act) hS (t:=t) (by rw [← hF]; omega)
     simp only [← hF] at hfst
     have htl:(F.take t).length=t:=by rw [List.length_take]; omega
     obtain ⟨m,hm⟩:∃ m,n-t=m+1:=⟨n-t-1,by omega⟩
     rw [hm] at HO
     by_cases hlt:t<p
     · have hlt':(0:Int)<p-t:=by omega
       simp -implicitDefEqProofs (disch:=omega) [go_sem,r0,r6,r7,hlt,hlt']
       refine useC (take_ok HO) ?_
       rintro _ h2 ⟨v,rfl,hv,HO2,hfr2⟩
       have hve:=Fst.uniq hv hfst
       simp -implicitDefEqProofs (disch:=omega) [go_sem,r0,r6,r7]
       have SA2:=SA.fr hfr2 (fun x hx ho=>by have:=hbA x hx; have:=H.low x ho; omega)
       have SA3:=SA2.keep (h':=Array.push _ (.cells #[.int .i64 (v:Int)] 3 (0,0))) (fun x hx=>push_old (SA2.blk_lt hx)) (by rw [push_size]; omega)
       refine build1 rfl rfl ?_
       simp -implicitDefEqProofs (disch:=omega) [go_sem]
       refine append1 (v:=.int .i64 (v:Int)) SA3 (by rw [nums_len]; exact htl.symm) (by rw [hcell_push_new]; rfl) rfl (by omega) (by omega) ?_
       intro A' c' h3 S3 hfr3 hA3
       rw [nums_put] at S3
       have hz:=hfr.size
       have hz2:=hfr2.size
       have htk:F.take t++[v]=F.take (t+1):=by rw [hve]; exact (List.take_succ_eq_append_getElem (by omega)).symm
       rw [htk] at S3
       have HO3:=HO2.fr ((Fr.refl (blk Aa) h2).push.trans hfr3) (fun x hx hb=>by have:=hbA x hb; have:=H.low x hx; omega)
       simp -implicitDefEqProofs (disch:=omega) [go_sem,r0,r6,r7]
       refine ⟨⟨t+1,by omega,A',c',⟨rfl,rfl,rfl⟩,by omega,S3,fun x hx=>(hA3 x hx).elim (hbA x) (fun h=>by rw [push_size] at h; omega),?_,?_⟩,by omega⟩
       · have e:n-(t+1)=m:=by omega
         rw [e]
         refine HO3.cong fun u=>?_
         rw [← htk,List.mem_append,List.mem_singleton]
         constructor
         · exact fun ⟨⟨h1,h2⟩,h3⟩=>⟨h1,fun h=>h.elim h2 h3⟩
         · exact fun ⟨h1,h2⟩=>⟨⟨h1,fun h=>h2 (.inl h)⟩,fun h=>h2 (.inr h)⟩
       · exact (hfr.trans hfr2).trans' ((Fr.refl (blk Aa) h2).push.trans hfr3) (fun x hx hb=>by have:=hbA x hb; omega)
     · have hte:t=p:=by omega
       subst hte
       simp -implicitDefEqProofs (disch:=omega) [go_sem,r0,r6,r7,hlt]
       refine useC (take_ok HO) ?_
       rintro _ h2 ⟨v,rfl,hv,HO2,hfr2⟩
       have hve:=Fst.uniq hv hfst
       simp -implicitDefEqProofs (disch:=omega) [go_sem,r0,r6,r7]
       have hz:=hfr.size
       have hz2:=hfr2.size
       have SA2:=SA.fr hfr2 (fun x hx ho=>by have:=hbA x hx; have:=H.low x ho; omega)
       refine loopK (fun ρ h'=>ρ 0=.pointer (some ⟨b,0,none⟩)∧ρ 4=.int .i64 v∧ρ 32=.slice Aa t ca∧ρ 33=.int .i64 t∧∃ (i:Nat) (O':Nat→Prop),ρ 34=.int .i64 i∧i≤t ∧
         HeapOk h' b O' vars (m+i) act (fun u=>S u∧u≠v∧u∉(F.take t).drop i)∧Nx O O' h2 h') (fun ρ _=>t-(intOf (ρ 34)).toNat) (by kernel_rfl) ?_ ?_
       · refine ⟨r0,rfl,rfl,rfl,0,O,rfl,by omega,HO2.cong fun u=>?_,⟨Fr.refl _ _,fun x hx=>.inl hx⟩⟩
         simp only [List.drop_zero]
         exact ⟨fun h=>⟨h.1.1,h.2,h.1.2⟩,fun h=>⟨⟨h.1,h.2.2⟩,h.2.1⟩⟩
       · rintro ρ h3 ⟨q0,q4,q32,q33,i,O',q34,hit,HO3,nx⟩
         by_cases hi:i=t
         · subst hi
           simp -implicitDefEqProofs (disch:=omega) [go_sem,q0,q4,q32,q33,q34]
           refine ⟨v,rfl,by omega,?_,O',?_,?_⟩
           · rw [hve]
           · have e:n-1=m+i:=by omega
             rw [e]
             refine HO3.cong fun u=>?_
             rw [List.drop_of_length_le (by omega)]
             exact ⟨fun h=>⟨h.1,h.2.1⟩,fun h=>⟨h.1,h.2,List.not_mem_nil⟩⟩
           · exact Nx.trans (O':=O) ⟨hfr.trans hfr2,fun x hx=>.inl hx⟩ nx
         · have hil:(i:Int)<t:=by omega
           have hiF:i<F.length:=by omega
           have SA3:=SA2.fr nx.fr (fun x hx ho=>by have:=hbA x hx; have:=H.low x ho; omega)
           obtain ⟨bk,rfl,_,_,hcl⟩:=SA3.base (by rw [nums_len,htl]; omega)
           have ci:=hcl i _ (nums_at (by omega))
           rw [List.getElem_take] at ci
           obtain ⟨y,hy⟩:∃ y,y=F[i]:=⟨_,rfl⟩
           rw [← hy] at ci
           simp -implicitDefEqProofs (disch:=omega) [go_sem,q0,q4,q32,q33,q34,hil,ci]
           have hyS:=(mem_front hS).1 (show y∈front act S vars by rw [hy,← hF]; exact List.getElem_mem hiF)
           have hdr:(F.take t).drop i=y::(F.take t).drop (i+1):=by
             rw [List.drop_eq_getElem_cons (by omega),List.getElem_take,← hy]
           refine useC (put_ok HO3 y) ?_
           rintro _ h4 (⟨v',hv',rfl,_,_,_,O'',HO4,nx4⟩ | ⟨hbad,_,_⟩)
           · have hv'':v'=y:=by omega
             subst hv''
             simp -implicitDefEqProofs (disch:=omega) [go_sem,q0,q4,q32,q33,q34]
             refine ⟨⟨i+1,by omega,by omega,O'',?_,nx.trans nx4⟩,by omega⟩
             refine HO4.cong fun u=>?_
             rw [hdr,List.mem_cons]
             have hyd:v'∉(F.take t).drop (i+1):=by
               have hnd:=(front_nodup (act:=act) (S:=S) (vars:=vars))
               rw [← hF] at hnd
               have:=((hnd.sublist (List.take_sublist t F)).sublist (List.drop_sublist i _))
               rw [hdr,List.nodup_cons] at this
               exact this.1
             have hyv:v'≠v:=by
               rw [hy,hve]
               intro e
               have hlt:=front_lt (act:=act) (S:=S) (vars:=vars)
               rw [← hF] at hlt
               have:=List.pairwise_iff_getElem.1 hlt i t hiF (by omega) (by omega)
               omega
             constructor
             · rintro (⟨h1,h2,h3⟩ | rfl)
               · exact ⟨h1,h2,fun h=>h3 (.inr h)⟩
               · exact ⟨hyS.1,hyv,hyd⟩
             · rintro ⟨h1,h2,h3⟩
               by_cases e:u=v'
               · exact .inr e
               · exact .inl ⟨h1,h2,fun h=>h.elim e h3⟩
           · exfalso
             have:=hS y hyS.1
             rcases hbad with h | h
             · omega
             · rw [Int.toNat_natCast,hdr] at h
               exact h.2.2 (List.mem_cons_self ..)
theorem new_ok (x:Int):CallsH Tryz.prog 86 [.int .i64 x] h fun r h' =>
   (¬ (0≤x∧x≤16777216)∧r=.pointer none∧h'=h) ∨
   (∃ vars:Nat,x=vars∧vars≤16777216∧r=.pointer (some ⟨h.size,0,none⟩)∧∃ O,HeapOk h' h.size O vars vars (fun _=>0) (fun v=>1≤v∧v≤vars)∧Nx (fun _=>False) O h h'):=by
 refine calls_of 51 [.tmp 2] Go.Proofs.Tryz.func86 rfl rfl rfl ?_
 by_cases hx0:x<0
 · simp -implicitDefEqProofs (disch:=omega) [go_sem,hx0]
   omega
 by_cases hx1:16777216<x
 · simp -implicitDefEqProofs (disch:=omega) [go_sem,hx0,hx1]
 obtain ⟨vars,rfl⟩:∃ v:Nat,x=v:=⟨x.toNat,by omega⟩
 simp -implicitDefEqProofs (disch:=omega) [go_sem,hx0,hx1]
 refine loopK (fun ρ h'=>ρ 0=.int .i64 vars∧ρ 3=.pointer (some ⟨h.size,0,none⟩)∧ρ 15=.int .i64 ((vars:Int)+1)∧∃ (j:Nat) (A0 A2:Option Addr) (c0 c2:Nat),ρ 16=.int .i64 j∧j≤vars+1 ∧
   hcell h' ⟨h.size,0,none⟩=some (.slice A0 j c0)∧hcell h' ⟨h.size,1,none⟩=some (.slice none 0 0)∧hcell h' ⟨h.size,2,none⟩=some (.slice A2 j c2)∧(∀ o,hfrz h' ⟨h.size,o,none⟩=false) ∧
   SlAt h' A0 c0 ((List.range j).map fun (v:Nat)=>.complex .f64 (Fx.enc 0) (Fx.enc (-(v:Int))))∧SlAt h' A2 c2 ((List.range j).map fun (v:Nat)=>.int .i64 (-1)) ∧
   (∀ x,blk A0 x→h.size<x)∧(∀ x,blk A2 x→h.size<x)∧(∀ x,blk A0 x→¬ blk A2 x)∧Fr (fun _=>False) h h') (fun ρ _=>vars+1-(intOf (ρ 16)).toNat) (by kernel_rfl) ?_ ?_
 · refine ⟨rfl,rfl,rfl,0,none,none,0,0,rfl,by omega,by simp [hcell],by simp [hcell],by simp [hcell],fun o=>hfrz_push_new,SlAt.nil _,SlAt.nil _,fun x ⟨a,h,_⟩=>(nomatch h),fun x ⟨a,h,_⟩=>(nomatch h),fun x ⟨a,h,_⟩=>(nomatch h),(Fr.refl _ _).push⟩
 · rintro ρ h1 ⟨r0,r3,r15,j,A0,A2,c0,c2,r16,hj,k0,k1,k2,kf,S0,S2,b0,b2,b02,hfr⟩
   by_cases hjn:j=vars+1
   · subst hjn
     simp -implicitDefEqProofs (disch:=omega) [go_sem,r0,r3,r15,r16]
     have zz:=hcell_lt k0
     obtain ⟨kb,rfl,tk,fk,ck⟩:=S0.base (by simp)
     obtain ⟨pb,rfl,tp,fp,cp⟩:=S2.base (by simp)
     have ek:=b0 kb ⟨_,rfl,rfl⟩
     have ep:=b2 pb ⟨_,rfl,rfl⟩
     have ekp:kb≠pb:=fun e=>b02 kb ⟨_,rfl,rfl⟩ ⟨_,rfl,e.symm⟩
     have H1:HeapAt h1 h.size kb h1.size pb vars 0 c0 0 c2 none (fun _=>0) (fun _=>0) (fun _=>-1):={
       s0:=k0
       s1:=k1
       s2:=k2
       ck:=fun v hv=>ck v _ (by rw [List.getElem?_map,List.getElem?_range (by omega)]; rfl)
       cl:=fun i hi=>by omega
       cp:=fun v hv=>cp v _ (by rw [List.getElem?_map,List.getElem?_range (by omega)]; rfl)
       lr:=fun i hi=>by omega
       ll:=fun e=>(nomatch e)
       fb:=kf
       fk:=fk
       fl:=fun o=>hfrz_ge (Nat.le_refl _)
       fp:=fp
       bk:=by omega
       bl:=by omega
       bp:=by omega
       kl:=by omega
       kp:=ekp
       lp:=by omega
       hA0:=.inl ⟨rfl,rfl⟩
       hnc:=Nat.le_refl _
       hv:=by omega
       hn:=by omega }
     have HO:HeapOk h1 h.size (fun x=>x=h.size∨x=kb∨x=pb) vars 0 (fun _=>0) (fun _=>False) :=
       ⟨⟨kb,h1.size,pb,c0,0,c2,none,_,_,H1,⟨fun i hi=>by omega,fun i hi=>by omega,fun i hi=>by omega,fun v _ _=>.inl rfl⟩,fun j _ hj=>by omega,fun v=>⟨fun ⟨i,hi,_⟩=>by omega,False.elim⟩,.inl rfl,.inr (.inl rfl),.inr (.inr rfl),fun x ⟨a,h,_⟩=>(nomatch h)⟩,
         fun v hv=>⟨by omega,by omega⟩,fun x hx=>by omega⟩
     have nx0:Nx (fun _=>False) (fun x=>x=h.size∨x=kb∨x=pb) h h1:=⟨hfr,fun x hx=>.inr (by omega)⟩
     refine loopK (fun ρ h'=>ρ 0=.int .i64 vars∧ρ 3=.pointer (some ⟨h.size,0,none⟩)∧∃ (v:Nat) (O:Nat→Prop),ρ 5=.int .i64 ((v:Int)+1)∧v≤vars∧HeapOk h' h.size O vars v (fun _=>0) (fun u=>1≤u∧u≤v)∧Nx (fun _=>False) O h h')
       (fun ρ _=>vars+1-(intOf (ρ 5)).toNat) (by kernel_rfl) ?_ ?_
     · exact ⟨r0,r3,0,_,rfl,by omega,HO.cong fun v=>⟨False.elim,fun h=>by omega⟩,nx0⟩
     · rintro ρ h2 ⟨q0,q3,v,O,q5,hv,HO,nx⟩
       by_cases hvn:v=vars
       · subst hvn
         have hq:¬ ((v:Int)+1≤v):=by omega
         simp -implicitDefEqProofs (disch:=omega) [go_sem,q0,q3,q5,hq]
         exact ⟨v,rfl,by omega,O,HO,nx⟩
       · have hvl:(v:Int)+1≤vars:=by omega
         simp -implicitDefEqProofs (disch:=omega) [go_sem,q0,q3,q5,hvl]
         refine useC (put_ok HO _) ?_
         rintro _ h3 (⟨v',hv',rfl,_,_,_,O',HO',nx'⟩ | ⟨hbad,_,_⟩)
         · simp -implicitDefEqProofs (disch:=omega) [go_sem,q0,q3,q5]
           obtain rfl:v'=v+1:=by omega
           exact ⟨⟨v+1,by omega,by omega,O',HO'.cong fun u=>by omega,nx.trans nx'⟩,by omega⟩
         · exfalso
           rcases hbad with h | h
           · omega
           · omega
   · have hjl:(j:Int)<vars+1:=by omega
     simp -implicitDefEqProofs (disch:=omega) [go_sem,r0,r3,r15,r16,hjl,k0,k1,k2,kf]
     refine build1 rfl rfl ?_
     simp -implicitDefEqProofs (disch:=omega) [go_sem]
     have t1:h.size<h1.size:=hcell_lt k0
     have nb0:¬ blk A0 h.size:=fun hb=>by have:=b0 _ hb; omega
     have nb2:¬ blk A2 h.size:=fun hb=>by have:=b2 _ hb; omega
     have S0':=S0.keep (h':=Array.push _ (.cells #[.complex .f64 (Fx.enc 0) (Fx.enc (-(j:Int)))] 108 (0,0))) (fun x hx=>push_old (S0.blk_lt hx)) (by rw [push_size]; omega)
     refine append1 (v:=.complex .f64 (Fx.enc 0) (Fx.enc (-(j:Int)))) S0' (by simp) (by rw [hcell_push_new]; rfl) rfl (by omega) (by omega) ?_
     intro A0' c0' h2 T0 f2 own0
     rw [← List.map_singleton (f:=fun (v:Nat)=>Value.complex .f64 (Fx.enc 0) (Fx.enc (-(v:Int)))),← List.map_append,← List.range_succ] at T0
     have f12:=(Fr.refl (blk A0) h1).push.trans f2
     have g1:∀ o,hcell h2 ⟨h.size,o,none⟩=hcell h1 ⟨h.size,o,none⟩:=fun o=>f12.cell t1 nb0
     have g2:∀ o,hfrz h2 ⟨h.size,o,none⟩=hfrz h1 ⟨h.size,o,none⟩:=fun o=>f12.frz t1 nb0
     have own0':∀ x,blk A0' x→blk A0 x∨h1.size≤x:=fun x hx=>(own0 x hx).imp id (fun h=>by rw [push_size] at h; omega)
     have nb0':¬ blk A0' h.size:=fun hb=>(own0' _ hb).elim nb0 (by omega)
     have z2:=f12.size
     simp -implicitDefEqProofs (disch:=omega) [go_sem,g1,g2,k0,k1,k2,kf,r0,r3,r15,r16]
     refine build1 rfl rfl ?_
     simp -implicitDefEqProofs (disch:=omega) [go_sem]
     obtain ⟨hA,ehA⟩:∃ hA,hA=hset h2 ⟨h.size,0,none⟩ (.slice A0' (j+1) c0'):=⟨_,rfl⟩
     have fA:Fr (fun x=>blk A0 x∨x=h.size) h1 hA:=by rw [ehA]; exact (f12.mono fun x _ h=>.inl h).set (.inr rfl)
     have T2:SlAt hA A2 c2 _:=S2.fr fA (fun x hx hb=>hb.elim (fun h=>b02 x h hx) (fun h=>by subst h; exact nb2 hx))
     have T0A:SlAt hA A0' c0' _:=T0.fr (S:=fun x=>x=h.size) (by rw [ehA]; exact (Fr.refl _ _).set rfl) (fun x hx e=>by subst e; exact nb0' hx)
     rw [← ehA]
     have T2':=T2.keep (h':=Array.push _ (.cells #[.int .i64 (-1)] 3 (0,0))) (fun x hx=>push_old (T2.blk_lt hx)) (by rw [push_size]; omega)
     refine append1 (v:=.int .i64 (-1)) T2' (by simp) (by rw [show h2.size=hA.size by rw [ehA,hset_size],hcell_push_new]; rfl) rfl (by omega) (by omega) ?_
     intro A2' c2' h3 U2 f3 own2
     rw [← List.map_singleton (f:=fun (v:Nat)=>Value.int .i64 (-1)) (a:=j),← List.map_append,← List.range_succ] at U2
     have fA3:=(Fr.refl (blk A2) hA).push.trans f3
     have zA:hA.size=h2.size:=by rw [ehA,hset_size]
     have g3:∀ o,hcell h3 ⟨h.size,o,none⟩=hcell hA ⟨h.size,o,none⟩:=fun o=>fA3.cell (by omega) nb2
     have g4:∀ o,hfrz h3 ⟨h.size,o,none⟩=hfrz hA ⟨h.size,o,none⟩:=fun o=>fA3.frz (by omega) nb2
     have g5:hcell hA ⟨h.size,0,none⟩=some (.slice A0' (j+1) c0'):=by rw [ehA,hcell_hset,if_pos ⟨rfl,rfl⟩,g1,k0]; rfl
     have g6:hcell hA ⟨h.size,1,none⟩=some (.slice none 0 0):=by rw [ehA,hcell_hset,if_neg (fun e=>absurd e.2 (by decide)),g1,k1]
     have g7:hcell hA ⟨h.size,2,none⟩=some (.slice A2 j c2):=by rw [ehA,hcell_hset,if_neg (fun e=>absurd e.2 (by decide)),g1,k2]
     have g8:∀ o,hfrz hA ⟨h.size,o,none⟩=false:=fun o=>by rw [ehA,hfrz_hset,g2,kf]
     simp -implicitDefEqProofs (disch:=omega) [go_sem,g3,g4,g5,g6,g7,g8,r0,r3,r15,r16]
     have own2':∀ x,blk A2' x→blk A2 x∨h2.size≤x:=fun x hx=>(own2 x hx).imp id (fun h=>by rw [push_size] at h; omega)
     have d02:∀ x,blk A0' x→¬ blk A2 x:=fun x hx h2=>(own0' x hx).elim (fun h=>b02 x h h2) (fun h=>by have:=S2.blk_lt h2; omega)
     have T0B:=(T0A.fr fA3 d02).fr (S:=fun x=>x=h.size) ((Fr.refl _ _).set (ad:=⟨h.size,2,none⟩) (v:=.slice A2' (j+1) c2') rfl) (fun x hx e=>by subst e; exact nb0' hx)
     have nb2':¬ blk A2' h.size:=fun hb=>(own2' _ hb).elim nb2 (by omega)
     have U2B:=U2.fr (S:=fun x=>x=h.size) ((Fr.refl _ _).set (ad:=⟨h.size,2,none⟩) (v:=.slice A2' (j+1) c2') rfl) (fun x hx e=>by subst e; exact nb2' hx)
     refine ⟨⟨j+1,by omega,by omega,A0',A2',c0',⟨rfl,rfl,rfl⟩,c2',⟨rfl,rfl,rfl⟩,T0B,U2B,fun x hx=>(own0' x hx).elim (b0 x) (by omega),fun x hx=>(own2' x hx).elim (b2 x) (by omega),fun x hx h2=>?_,?_⟩,by omega⟩
     · exact (own2' x h2).elim (d02 x hx) (fun h=>by have:=T0.blk_lt hx; omega)
     · have e1:=hfr.trans' fA (fun x hx h=>by rcases h with h | h; have:=b0 x h; omega; omega)
       have e2:=e1.trans' fA3 (fun x hx h=>by have:=b2 x h; omega)
       exact e2.new (by simp)
end
end Xe.Hq
