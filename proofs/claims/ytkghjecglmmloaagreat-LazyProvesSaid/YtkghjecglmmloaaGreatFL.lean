/- The engine, fourth part: regions, code, loops, functions. -/
import Derived.KernelRfl
import Derived.Test.YtkghjecglmmloaaGreatEng3
import Derived.Laws.ComplexArith
import Derived.Laws.FloatBits
namespace Xe
open Go
def yieldX (ops:Array Oper) (ρ:Env) (j:Nat):Option Bool:=match (ops[j]?).bind (·.dst) with
 | some d=>match ρ d with | .bool b=>some b | _=>none
 | none=>none
def gX (ops:Array Oper) (ρ:Env) (g:Option (Nat × Bool)) (A B:Prop):Prop:=match g with
 | none=>A
 | some (j,want)=>if yieldX ops ρ j=some want then A else B
theorem wanted_eq (ops:Array Oper) (o:Oper) (a:Act):Region.wanted o (yielded ops a.tmps)=match o.guard with
   | none=>true
   | some (j,want)=>yieldX ops (env a) j==some want:=by
 unfold Region.wanted
 cases o.guard with
 | none=>rfl
 | some p =>
   obtain ⟨j,want⟩:=p
   have:yielded ops a.tmps j=yieldX ops (env a) j:=by
    unfold yielded yieldX env
    cases hd:(ops[j]?).bind (·.dst) with
    | none=>rfl
    | some d =>
      simp only [Option.bind_some,Array.getD_eq_getD_getElem?]
      cases ht:a.tmps[d]? with
      | none=>rfl
      | some v=>cases v <;> rfl
   simp only [this]
theorem gX_split {ops:Array Oper} {o:Oper} {a:Act} {A B:Prop} (h:gX ops (env a) o.guard A B) :
   (Region.wanted o (yielded ops a.tmps)=true∧A)∨(Region.wanted o (yielded ops a.tmps)=false∧B):=by
 rw [wanted_eq]
 unfold gX at h
 split at h
 · exact .inl ⟨rfl,h⟩
 · rename_i j want hg
   split at h
   · rename_i hy; exact .inl ⟨by rw [hy]; simp,h⟩
   · rename_i hy; exact .inr ⟨by simpa using hy,h⟩
def wpR (P:Program) (ops:Array Oper) (Q:Exit→Env→Heap→Prop):List Oper→Env→Heap→Prop
 | [],ρ,h=>Q .normal ρ h
 | o::rest,ρ,h=>gX ops ρ o.guard (stepX P ρ o.op h fun v h'=>wpR P ops Q rest (puto ρ o.dst v) h') (wpR P ops Q rest (puto ρ o.dst undef) h)
def okX (n:Nat) (w0:World) (Q:Exit→Env→Heap→Prop):Exit→Act→World→Prop
 | .panic _,_,_=>False
 | .outgrown,_,_=>False
 | e,a,w=>a.defers=[]∧a.tmps.size=n∧Like w0 w∧Q e (env a) w.heap
def SemX (P:Program) (n:Nat) (c:Code) (Q:Exit→Env→Heap→Prop) (ρ:Env) (h:Heap):Prop :=
 ∀ w0 a w,a.defers=[]→a.tmps.size=n→env a=ρ→w.heap=h→Like w0 w→c.wp P (okX n w0 Q) a w
def dstOk (n:Nat) (o:Oper):Bool:=match o.dst with | some d=>d<n | none=>true
theorem put_keeps {n:Nat} {a:Act} {d:Option Tmp} {v:Value} (h1:a.defers=[]) (h2:a.tmps.size=n):(a.put d v).defers=[]∧(a.put d v).tmps.size=n:=by
 cases d with
 | none=>exact ⟨h1,h2⟩
 | some d=>exact ⟨h1,by simp [Act.put,h2]⟩
theorem env_put' {n:Nat} {o:Oper} {a:Act} {v:Value} (hd:dstOk n o=true) (h2:a.tmps.size=n):env (a.put o.dst v)=puto (env a) o.dst v :=
 env_put fun x hx=>by rw [h2]; simpa [dstOk,hx] using hd
theorem wpR_sound {P:Program} {ops:Array Oper} {n:Nat} {Q:Exit→Env→Heap→Prop}:∀ (l:List Oper),(l.all (dstOk n))=true→∀ (w0:World) (a:Act) (w:World),
   a.defers=[]→a.tmps.size=n→Like w0 w→wpR P ops Q l (env a) w.heap→wpList P ops (okX n w0 Q) l a w
 | [],_,w0,a,w,h1,h2,h3,h=>⟨h1,h2,h3,h⟩
 | o::rest,hl,w0,a,w,h1,h2,h3,h=>by
   rw [List.all_cons,Bool.and_eq_true] at hl
   unfold wpList
   rcases gX_split h with ⟨hw,hs⟩ | ⟨hw,hs⟩
   · rw [if_pos hw]
     refine .inl (stepX_loud hs a w rfl rfl _ _ fun v w' hl' hk=>?_)
     have hp:=put_keeps (d:=o.dst) (v:=v) h1 h2
     refine wpR_sound rest hl.2 w0 _ w' hp.1 hp.2 (h3.trans hl') ?_
     rw [env_put' hl.1 h2]
     exact hk
   · rw [hw]
     simp only [Bool.false_eq_true,if_false]
     have hp:=put_keeps (d:=o.dst) (v:=undef) h1 h2
     refine wpR_sound rest hl.2 w0 _ w hp.1 hp.2 h3 ?_
     rw [env_put' hl.1 h2]
     exact hs
def seqX (P:Program) (ops:Array Oper) (Q:Exit→Env→Heap→Prop) (C:Heap→Prop):List (Nat × Nat)→Env→Heap→Prop
 | [],ρ,h=>Q .normal ρ h
 | (i,k)::rest,ρ,h=>match ops[i]? with
   | none=>False
   | some o=>gX ops ρ o.guard (match k with
    | 0=>runO (pv P ρ o.op) fun v=>seqX P ops Q C rest (puto ρ o.dst v) h
    | 1=>runO (lv P ρ o.op h) fun v=>seqX P ops Q C rest (puto ρ o.dst v) h
    | 2=>∃ v,(∀ h',C h'→lv P ρ o.op h'=some v)∧seqX P ops Q C rest (puto ρ o.dst v) h
    | 3=>stepX P ρ o.op h fun v h'=>C h'∧seqX P ops Q C rest (puto ρ o.dst v) h'
    | 4=>rest=[]∧stepX P ρ o.op h fun v h'=>Q .normal (puto ρ o.dst v) h'
    | _=>False) (seqX P ops Q C rest (puto ρ o.dst undef) h)
theorem seqX_sound {P:Program} {ops:Array Oper} {n:Nat} {Q Q':Exit→Env→Heap→Prop} {C:Heap→Prop} (hd:(ops.toList.all (dstOk n))=true) :
   ∀ (sc:List (Nat × Nat)) (w0:World) (a:Act) (w:World),a.defers=[]→a.tmps.size=n→Like w0 w→C w.heap→seqX P ops Q' C sc (env a) w.heap →
     seqW P ops (okX n w0 Q) (fun a w=>okX n w0 Q' .normal a w) (fun w=>C w.heap) sc a w
 | [],w0,a,w,h1,h2,h3,_,h=>⟨h1,h2,h3,h⟩
 | (i,k)::rest,w0,a,w,h1,h2,h3,hC,h=>by
   unfold seqX at h
   cases ho:ops[i]? with
   | none=>rw [ho] at h; exact h.elim
   | some o =>
     rw [ho] at h
     have hdo:dstOk n o=true:=by
       rw [List.all_eq_true] at hd
       exact hd o (Array.mem_toList_iff.2 (Array.mem_of_getElem? ho))
     refine ⟨o,ho,?_⟩
     have next:∀ v,seqX P ops Q' C rest (puto (env a) o.dst v) w.heap→seqW P ops (okX n w0 Q) (fun a w=>okX n w0 Q' .normal a w) (fun w=>C w.heap) rest (a.put o.dst v) w:=fun v hn=>by
       have hp:=put_keeps (d:=o.dst) (v:=v) h1 h2
       refine seqX_sound hd rest w0 _ w hp.1 hp.2 h3 hC ?_
       rw [env_put' hdo h2]
       exact hn
     rcases gX_split h with ⟨hw,hs⟩ | ⟨hw,hs⟩
     · rw [if_pos hw]
       match k,hs with
       | 0,hs =>
         obtain ⟨v,hv,hn⟩:=runO_elim hs
         refine ⟨v,fun w' _ _=>?_,next v hn⟩
         rw [eval_eq]; exact pv_run hv
       | 1,hs =>
         obtain ⟨v,hv,hn⟩:=runO_elim hs
         refine ⟨v,fun w' _ hh=>?_,next v hn⟩
         rw [eval_eq]; exact lv_run (by rw [hh rfl]; exact hv)
       | 2,hs =>
         obtain ⟨v,hv,hn⟩:=hs
         refine ⟨v,fun w' hor _=>?_,next v hn⟩
         rw [eval_eq]
         rcases hor with h | h | h
         · cases h
         · cases h.1
         · exact lv_run (hv _ h)
       | 3,hs =>
         rw [if_pos rfl]
         refine stepX_loud hs a w rfl rfl _ _ fun v w' hl' hk=>⟨hk.1,?_⟩
         have hp:=put_keeps (d:=o.dst) (v:=v) h1 h2
         refine seqX_sound hd rest w0 _ w' hp.1 hp.2 (h3.trans hl') hk.1 ?_
         rw [env_put' hdo h2]
         exact hk.2
       | 4,hs =>
         obtain ⟨hre,hs2⟩:=hs
         rw [if_neg (by decide),if_pos rfl,hre]
         refine stepX_loud hs2 a w rfl rfl _ _ fun v w' hl' hk=>?_
         have hp:=put_keeps (d:=o.dst) (v:=v) h1 h2
         refine ⟨hp.1,hp.2,h3.trans hl',?_⟩
         rw [env_put' hdo h2]
         exact hk
       | (k+5),hs=>exact hs.elim
     · rw [hw]
       simp only [Bool.false_eq_true,if_false]
       exact next undef hs
theorem okX_panic {n:Nat} {w0:World} {Q:Exit→Env→Heap→Prop}:∀ c a w,¬ okX n w0 Q (.panic c) a w:=fun _ _ _ h=>h
theorem draw_seq {P:Program} {n id:Nat} {ops:Array Oper} {Q:Exit→Env→Heap→Prop} {ρ:Env} {h:Heap} (sc:List (Nat × Nat)) (C:Heap→Prop) (hm:P.follows .mixedOrders=true)
  (hok:(sc.length==ops.size&&Region.noSelect ops&&chk .any ops (loudIn sc) sc (Array.replicate ops.size false))=true)
  (hd:(ops.toList.all (dstOk n))=true) (hC:C h) (hs:seqX P ops Q C sc ρ h):SemX P n (.region id ops true) Q ρ h:=by
 intro w0 a w h1 h2 h3 h4 h5
 subst h3 h4
 refine wp_region_seq sc hm hok okX_panic (fun w=>C w.heap) hC ?_
 exact seqX_sound hd sc w0 a _ h1 h2 (h5.trans ⟨rfl,rfl,rfl⟩) hC hs
def actX (P:Program) (ops:Array Oper) (i:Nat) (K:Env→Heap→Prop) (ρ:Env) (h:Heap):Prop:=match ops[i]? with
 | none=>False
 | some o=>gX ops ρ o.guard (stepX P ρ o.op h fun v h'=>K (puto ρ o.dst v) h') (K (puto ρ o.dst undef) h)
theorem actX_sound {P:Program} {ops:Array Oper} {n i:Nat} {Q:Exit→Env→Heap→Prop} {K:Env→Heap→Prop} {K':Act→World→Prop} {w0:World} (hd:(ops.toList.all (dstOk n))=true)
   (hK:∀ a w,a.defers=[]→a.tmps.size=n→Like w0 w→K (env a) w.heap→K' a w) {a:Act} {w:World} (h1:a.defers=[]) (h2:a.tmps.size=n) (h3:Like w0 w) (h:actX P ops i K (env a) w.heap) :
   actW P ops (okX n w0 Q) i K' a w:=by
 unfold actX at h
 cases ho:ops[i]? with
 | none=>rw [ho] at h; exact h.elim
 | some o =>
   rw [ho] at h
   have hdo:dstOk n o=true:=by
     rw [List.all_eq_true] at hd
     exact hd o (Array.mem_toList_iff.2 (Array.mem_of_getElem? ho))
   refine ⟨o,ho,?_⟩
   rcases gX_split h with ⟨hw,hs⟩ | ⟨hw,hs⟩
   · rw [if_pos hw]
     refine stepX_loud hs a w rfl rfl _ _ fun v w' hl' hk=>?_
     have hp:=put_keeps (d:=o.dst) (v:=v) h1 h2
     refine hK _ _ hp.1 hp.2 (h3.trans hl') ?_
     rw [env_put' hdo h2]
     exact hk
   · rw [hw]
     simp only [Bool.false_eq_true,if_false]
     have hp:=put_keeps (d:=o.dst) (v:=undef) h1 h2
     refine hK _ _ hp.1 hp.2 h3 ?_
     rw [env_put' hdo h2]
     exact hs
def thenX (next:Env→Heap→Prop) (Q:Exit→Env→Heap→Prop):Exit→Env→Heap→Prop
 | .normal,ρ,h=>next ρ h
 | e,ρ,h=>Q e ρ h
def blockX (id:Nat) (Q:Exit→Env→Heap→Prop):Exit→Env→Heap→Prop
 | .exit j,ρ,h=>if j=id then Q .normal ρ h else Q (.exit j) ρ h
 | e,ρ,h=>Q e ρ h
def condX (v:Value) (A B:Prop):Prop:=match v with
 | .bool true=>A
 | .bool false=>B
 | _=>False
def wpX (P:Program) (n:Nat):Code→(Exit→Env→Heap→Prop)→Env→Heap→Prop
 | .skip,Q,ρ,h=>Q .normal ρ h
 | .label _,Q,ρ,h=>Q .normal ρ h
 | .seq a b,Q,ρ,h=>wpX P n a (thenX (wpX P n b Q) Q) ρ h
 | .cond c a b,Q,ρ,h=>condX (ev ρ c) (wpX P n a Q ρ h) (wpX P n b Q ρ h)
 | .block id c,Q,ρ,h=>wpX P n c (blockX id Q) ρ h
 | .exit id,Q,ρ,h=>Q (.exit id) ρ h
 | .goto l,Q,ρ,h=>Q (.goto l) ρ h
 | .ret,Q,ρ,h=>Q .ret ρ h
 | .region _ ops false,Q,ρ,h=>wpR P ops Q ops.toList ρ h
 | .region id ops true,Q,ρ,h=>SemX P n (.region id ops true) Q ρ h
 | .loop c,Q,ρ,h=>SemX P n (.loop c) Q ρ h
 | .scope c,Q,ρ,h=>SemX P n (.scope c) Q ρ h
 | .rangeFunc ..,_,_,_=>False
 | .refuse _,_,_,_=>False
def okCode (n:Nat):Code→Bool
 | .seq a b=>okCode n a&&okCode n b
 | .cond _ a b=>okCode n a&&okCode n b
 | .block _ c=>okCode n c
 | .region _ ops _=>ops.toList.all (dstOk n)
 | .loop c=>okCode n c
 | .scope c=>okCode n c
 | _=>true
theorem okX_mono {n:Nat} {w0:World} {Q Q':Exit→Env→Heap→Prop} (h:∀ e ρ h,Q e ρ h→Q' e ρ h):∀ e a w,okX n w0 Q e a w→okX n w0 Q' e a w:=by
 intro e a w hx
 cases e <;> first | exact hx.elim | exact ⟨hx.1,hx.2.1,hx.2.2.1,h _ _ _ hx.2.2.2⟩
theorem wpX_sound {P:Program} {n:Nat}:∀ (c:Code),okCode n c=true→∀ (Q:Exit→Env→Heap→Prop) (ρ:Env) (h:Heap),wpX P n c Q ρ h→SemX P n c Q ρ h
 | .skip,_,Q,ρ,h,hx=>fun w0 a w h1 h2 h3 h4 h5=>wp_skip ⟨h1,h2,h5,by rw [h3,h4]; exact hx⟩
 | .label _,_,Q,ρ,h,hx=>fun w0 a w h1 h2 h3 h4 h5=>wp_label ⟨h1,h2,h5,by rw [h3,h4]; exact hx⟩
 | .seq x y,hok,Q,ρ,h,hx=>fun w0 a w h1 h2 h3 h4 h5=>by
   simp only [okCode,Bool.and_eq_true] at hok
   refine wp_seq (wp_mono (wpX_sound x hok.1 _ ρ h hx w0 a w h1 h2 h3 h4 h5) fun e a' w' hq=>?_)
   cases e with
   | normal=>exact wpX_sound y hok.2 Q _ _ hq.2.2.2 w0 a' w' hq.1 hq.2.1 rfl rfl hq.2.2.1
   | panic _=>exact hq.elim
   | outgrown=>exact hq.elim
   | exit _=>exact hq
   | goto _=>exact hq
   | ret=>exact hq
 | .cond c x y,hok,Q,ρ,h,hx=>fun w0 a w h1 h2 h3 h4 h5=>by
   simp only [okCode,Bool.and_eq_true] at hok
   unfold wpX condX at hx
   split at hx
   · rename_i hc
     exact wp_cond_true (by rw [eval_eq,h3]; exact hc) (wpX_sound x hok.1 Q ρ h hx w0 a w h1 h2 h3 h4 h5)
   · rename_i hc
     exact wp_cond_false (by rw [eval_eq,h3]; exact hc) (wpX_sound y hok.2 Q ρ h hx w0 a w h1 h2 h3 h4 h5)
   · exact hx.elim
 | .block id c,hok,Q,ρ,h,hx=>fun w0 a w h1 h2 h3 h4 h5=>by
   refine wp_block (wp_mono (wpX_sound c hok _ ρ h hx w0 a w h1 h2 h3 h4 h5) fun e a' w' hq=>?_)
   cases e with
   | exit j =>
     obtain ⟨q1,q2,q3,q4⟩:=hq
     simp only [blockX] at q4
     simp only [Exit.inBlock]
     split
     · rename_i e; rw [if_pos e] at q4; exact ⟨q1,q2,q3,q4⟩
     · rename_i e; rw [if_neg e] at q4; exact ⟨q1,q2,q3,q4⟩
   | panic _=>exact hq.elim
   | outgrown=>exact hq.elim
   | normal=>exact hq
   | goto _=>exact hq
   | ret=>exact hq
 | .exit id,_,Q,ρ,h,hx=>fun w0 a w h1 h2 h3 h4 h5=>wp_exit ⟨h1,h2,h5,by rw [h3,h4]; exact hx⟩
 | .goto l,_,Q,ρ,h,hx=>fun w0 a w h1 h2 h3 h4 h5=>wp_goto ⟨h1,h2,h5,by rw [h3,h4]; exact hx⟩
 | .ret,_,Q,ρ,h,hx=>fun w0 a w h1 h2 h3 h4 h5=>wp_ret ⟨h1,h2,h5,by rw [h3,h4]; exact hx⟩
 | .region _ ops false,hok,Q,ρ,h,hx=>fun w0 a w h1 h2 h3 h4 h5=>by
   subst h3 h4
   exact wp_region_list (wpR_sound _ hok w0 a w h1 h2 h5 hx)
 | .region _ ops true,_,Q,ρ,h,hx=>hx
 | .loop c,_,Q,ρ,h,hx=>hx
 | .scope c,_,Q,ρ,h,hx=>hx
 | .rangeFunc ..,_,_,_,_,hx=>hx.elim
 | .refuse _,_,_,_,_,hx=>hx.elim
theorem loop_inv {P:Program} {n:Nat} {c:Code} {Q:Exit→Env→Heap→Prop} {ρ:Env} {h:Heap} (I:Env→Heap→Prop) (μ:Env→Heap→Nat) (hok:okCode n c=true) (h0:I ρ h)
  (round:∀ ρ h,I ρ h→wpX P n c (thenX (fun ρ' h'=>I ρ' h'∧μ ρ' h'<μ ρ h) Q) ρ h):SemX P n (.loop c) Q ρ h:=by
 intro w0 a w h1 h2 h3 h4 h5
 refine wp_loop (fun a w=>a.defers=[]∧a.tmps.size=n∧Like w0 w∧I (env a) w.heap) (fun a w=>μ (env a) w.heap) ⟨h1,h2,h5,by rw [h3,h4]; exact h0⟩ ?_
 intro a w ⟨i1,i2,i3,i4⟩
 refine wp_mono (wpX_sound c hok _ _ _ (round _ _ i4) w0 a w i1 i2 rfl rfl i3) fun e a' w' hq=>?_
 cases e with
 | normal=>exact ⟨⟨hq.1,hq.2.1,hq.2.2.1,hq.2.2.2.1⟩,hq.2.2.2.2⟩
 | panic _=>exact hq.elim
 | outgrown=>exact hq.elim
 | exit _=>exact hq
 | goto _=>exact hq
 | ret=>exact hq
def jumpX (l:Nat) (J:Env→Heap→Prop) (Q:Exit→Env→Heap→Prop):Exit→Env→Heap→Prop
 | .goto l',ρ,h=>l'=l∧J ρ h
 | e,ρ,h=>Q e ρ h
theorem scope_jumps {P:Program} {n:Nat} {c rest:Code} {Q:Exit→Env→Heap→Prop} {ρ:Env} {h:Heap} (l:Nat) (J:Env→Heap→Prop) (μ:Env→Heap→Nat) (hf:findLabel c l=some rest)
   (hok:(okCode n c&&okCode n rest)=true) (first:wpX P n c (jumpX l J Q) ρ h)
   (pass:∀ ρ h,J ρ h→wpX P n rest (jumpX l (fun ρ' h'=>J ρ' h'∧μ ρ' h'<μ ρ h) Q) ρ h):SemX P n (.scope c) Q ρ h:=by
 rw [Bool.and_eq_true] at hok
 intro w0 a w h1 h2 h3 h4 h5
 refine wp_scope_jumps l (fun a w=>a.defers=[]∧a.tmps.size=n∧Like w0 w∧J (env a) w.heap) (fun a w=>μ (env a) w.heap) hf ?_ ?_
 · refine wp_mono (wpX_sound c hok.1 _ _ _ first w0 a w h1 h2 h3 h4 h5) fun e a' w' hq=>?_
   cases e with
   | goto l'=>exact ⟨hq.2.2.2.1,hq.1,hq.2.1,hq.2.2.1,hq.2.2.2.2⟩
   | panic _=>exact hq.elim
   | outgrown=>exact hq.elim
   | exit _=>exact hq
   | normal=>exact hq
   | ret=>exact hq
 · intro a w ⟨i1,i2,i3,i4⟩
   refine wp_mono (wpX_sound rest hok.2 _ _ _ (pass _ _ i4) w0 a w i1 i2 rfl rfl i3) fun e a' w' hq=>?_
   cases e with
   | goto l'=>exact ⟨hq.2.2.2.1,⟨hq.1,hq.2.1,hq.2.2.1,hq.2.2.2.2.1⟩,hq.2.2.2.2.2⟩
   | panic _=>exact hq.elim
   | outgrown=>exact hq.elim
   | exit _=>exact hq
   | normal=>exact hq
   | ret=>exact hq
theorem SemX.mono {P:Program} {n:Nat} {c:Code} {Q Q':Exit→Env→Heap→Prop} {ρ:Env} {h:Heap} (hs:SemX P n c Q ρ h) (hq:∀ e ρ h,Q e ρ h→Q' e ρ h):SemX P n c Q' ρ h :=
 fun w0 a w h1 h2 h3 h4 h5=>wp_mono (hs w0 a w h1 h2 h3 h4 h5) (okX_mono hq)
theorem scope_first {P:Program} {n:Nat} {c:Code} {Q:Exit→Env→Heap→Prop} {ρ:Env} {h:Heap} (l:Nat) (J:Env→Heap→Prop) (μ:Env→Heap→Nat)
   (hok:okCode n c=true) (h0:J ρ h)
   (pass:∀ ρ h,J ρ h→wpX P n c (jumpX l (fun ρ' h'=>J ρ' h'∧μ ρ' h'<μ ρ h) Q) ρ h):SemX P n (.scope (.seq (.label l) c)) Q ρ h:=by
 intro w0 a w h1 h2 h3 h4 h5
 have body:∀ a w,a.defers=[]→a.tmps.size=n→Like w0 w→J (env a) w.heap→∀ K:Exit→Act→World→Prop,
    (∀ e a' w',okX n w0 (jumpX l (fun ρ' h'=>J ρ' h'∧μ ρ' h'<μ (env a) w.heap) Q) e a' w'→K e a' w')→c.wp P K a w:=fun a w i1 i2 i3 i4 K hK =>
   wp_mono (wpX_sound c hok _ _ _ (pass _ _ i4) w0 a w i1 i2 rfl rfl i3) hK
 refine wp_scope_jumps (rest:=.seq .skip c) l (fun a w=>a.defers=[]∧a.tmps.size=n∧Like w0 w∧J (env a) w.heap) (fun a w=>μ (env a) w.heap) (by simp [findLabel]) ?_ ?_
 · refine wp_seq (wp_label ?_)
   refine body a w h1 h2 h5 (by rw [h3,h4]; exact h0) _ fun e a' w' hq=>?_
   cases e with
   | goto l'=>exact ⟨hq.2.2.2.1,hq.1,hq.2.1,hq.2.2.1,hq.2.2.2.2.1⟩
   | panic _=>exact hq.elim
   | outgrown=>exact hq.elim
   | exit _=>exact hq
   | normal=>exact hq
   | ret=>exact hq
 · intro a w ⟨i1,i2,i3,i4⟩
   refine wp_seq (wp_skip ?_)
   refine body a w i1 i2 i3 i4 _ fun e a' w' hq=>?_
   cases e with
   | goto l'=>exact ⟨hq.2.2.2.1,⟨hq.1,hq.2.1,hq.2.2.1,hq.2.2.2.2.1⟩,hq.2.2.2.2.2⟩
   | panic _=>exact hq.elim
   | outgrown=>exact hq.elim
   | exit _=>exact hq
   | normal=>exact hq
   | ret=>exact hq
def argE:List Value→Env
 | [],_=>undef
 | v::_,0=>v
 | _::l,n+1=>argE l n
theorem argE_eq:∀ (l:List Value) (t:Nat),argE l t=(l[t]?).getD undef
 | [],_=>by simp [argE]
 | v::_,0=>by simp [argE]
 | _::l,n+1=>by simp [argE,argE_eq l n]
def resV (P:Program) (ρ:Env) (h:Heap):ResultVar→Option Value
 | .tmp t=>some (ρ t)
 | .cell a t=>loadV (aggOf P t) (ρ a) h
def resX (P:Program) (rs:List ResultVar) (R:Value→Heap→Prop) (ρ:Env) (h:Heap):Prop:=match rs with
 | [r]=>runO (resV P ρ h r) fun v=>R v h
 | []=>R (.tuple #[]) h
 | [r,s]=>runO (resV P ρ h r) fun v=>runO (resV P ρ h s) fun u=>R (.tuple #[v,u]) h
 | [r,s,t]=>runO (resV P ρ h r) fun v=>runO (resV P ρ h s) fun u=>runO (resV P ρ h t) fun x=>R (.tuple #[v,u,x]) h
 | [r,s,t,q]=>runO (resV P ρ h r) fun v=>runO (resV P ρ h s) fun u=>runO (resV P ρ h t) fun x=>runO (resV P ρ h q) fun y=>R (.tuple #[v,u,x,y]) h
 | _=>False
def retX (P:Program) (rs:List ResultVar) (R:Value→Heap→Prop):Exit→Env→Heap→Prop
 | .normal,ρ,h=>resX P rs R ρ h
 | .ret,ρ,h=>resX P rs R ρ h
 | _,_,_=>False
def resS (tmps:Array Value):ResultVar→Sem Value
 | .tmp t=>pure (tmps.getD t undef)
 | .cell a t=>do loadVar t (← asAddr (tmps.getD a undef))
theorem results_eq (fn:Func) (tmps:Array Value):results fn tmps=(do
 let vs ← fn.results.mapM (resS tmps)
 pure (if h:vs.size=1 then vs[0] else .tuple vs)):=by
 unfold results
 congr 2
theorem resV_run {P:Program} {a:Act} {w:World} {r:ResultVar} {v:Value} (h:resV P (env a) w.heap r=some v):(resS a.tmps r).run P w=.ok v w:=by
 cases r with
 | tmp t=>simp only [resV,Option.some.injEq] at h; subst h; rfl
 | cell x t =>
   have h':loadV (aggOf P t) (env a x) w.heap=some v:=h
   have hr:=loadV_run (P:=P) (w:=w) h'
   have hp:∃ ad,env a x=.pointer (some ad):=by
    cases hx:env a x with
    | pointer ad =>
      cases ad with
      | none=>rw [hx] at h'; unfold loadV at h'; split at h' <;> simp_all
      | some ad=>exact ⟨ad,rfl⟩
    | _=>rw [hx] at h'; unfold loadV at h'; split at h' <;> simp_all
   obtain ⟨ad,had⟩:=hp
   have had':a.tmps.getD x undef=.pointer (some ad):=had
   rw [had] at hr
   simp only [Instr.loadAt,Instr.sureAddr,Sem.run_bind,Sem.run_pure,Result.andThen_ok] at hr
   simp only [resS,had',asAddr,Sem.run_bind,Sem.run_pure,Result.andThen_ok,hr]
theorem results_run {P:Program} {fn:Func} {a:Act} {w:World} {R:Value→Heap→Prop} (h:resX P fn.results.toList R (env a) w.heap) :
   ∃ v,(results fn a.tmps).run P w=.ok v w∧R v w.heap:=by
 obtain ⟨rs,hrs⟩:∃ rs,fn.results=⟨rs⟩:=⟨fn.results.toList,rfl⟩
 rw [hrs] at h
 rw [results_eq,hrs]
 unfold resX at h
 split at h
 · rename_i r e
   simp only at e
   subst e
   obtain ⟨v,hv,hR⟩:=runO_elim h
   exact ⟨v,by simp only [List.mapM_toArray,List.mapM_cons,List.mapM_nil,map_eq_pure_bind,bind_assoc,pure_bind,Sem.run_bind,resV_run hv,Result.andThen_ok,Sem.run_pure]; simp,hR⟩
 · rename_i e
   simp only at e
   subst e
   exact ⟨_,by simp only [List.mapM_toArray,List.mapM_nil,map_eq_pure_bind,pure_bind,Sem.run_pure]; simp,h⟩
 · rename_i r s e
   simp only at e
   subst e
   obtain ⟨v,hv,h⟩:=runO_elim h
   obtain ⟨u,hu,hR⟩:=runO_elim h
   exact ⟨_,by simp only [List.mapM_toArray,List.mapM_cons,List.mapM_nil,map_eq_pure_bind,bind_assoc,pure_bind,Sem.run_bind,resV_run hv,resV_run hu,Result.andThen_ok,Sem.run_pure]; simp,hR⟩
 · rename_i r s t e
   simp only at e
   subst e
   obtain ⟨v,hv,h⟩:=runO_elim h
   obtain ⟨u,hu,h⟩:=runO_elim h
   obtain ⟨x,hx,hR⟩:=runO_elim h
   exact ⟨_,by simp only [List.mapM_toArray,List.mapM_cons,List.mapM_nil,map_eq_pure_bind,bind_assoc,pure_bind,Sem.run_bind,resV_run hv,resV_run hu,resV_run hx,Result.andThen_ok,Sem.run_pure]; simp,hR⟩
 · rename_i r s t q e
   simp only at e
   subst e
   obtain ⟨v,hv,h⟩:=runO_elim h
   obtain ⟨u,hu,h⟩:=runO_elim h
   obtain ⟨x,hx,h⟩:=runO_elim h
   obtain ⟨y,hy,hR⟩:=runO_elim h
   exact ⟨_,by simp only [List.mapM_toArray,List.mapM_cons,List.mapM_nil,map_eq_pure_bind,bind_assoc,pure_bind,Sem.run_bind,resV_run hv,resV_run hu,resV_run hx,resV_run hy,Result.andThen_ok,Sem.run_pure]; simp,hR⟩
 · exact h.elim
theorem calls_of {P:Program} {f:FuncId} {fn:Func} {c:Code} {vs:List Value} {h:Heap} {R:Value→Heap→Prop} (n:Nat) (rs:List ResultVar) (hf:P.funcs[f]?=some fn) (hb:fn.body=some c)
  (hn : fn.ntmps = n) (hrs : fn.results.toList = rs) (hx : wpX P n c (retX P rs R) (argE vs) h) (hok : (okCode n c && !(fn.name == "runtime.NumGoroutine")) = true := by kernel_rfl) (hl : vs.length ≤ n := by exact Nat.le_of_ble_eq_true rfl) : CallsH P f vs h R := by
 subst hn hrs
 simp only [Bool.and_eq_true,Bool.not_eq_true'] at hok
 obtain ⟨h1,h3⟩:=hok
 have h2:=hl
 refine ⟨⟨fn,hf,by rw [hb]; rfl,h3⟩,fun w hw=>?_⟩
 refine calls_of_wp hf hb ?_
 have hsz:(vs.toArray++Array.replicate (fn.ntmps-vs.toArray.size) undef).size=fn.ntmps:=by simp; omega
 have henv:env { tmps:=vs.toArray++Array.replicate (fn.ntmps-vs.toArray.size) undef,defers:=[] }=argE vs:=by
  funext t
  rw [argE_eq]
  simp only [env,Array.getD_eq_getD_getElem?,Array.getElem?_append,List.size_toArray,List.getElem?_toArray]
  split
  · rfl
  · rename_i hge
    rw [List.getElem?_eq_none (by omega)]
    rw [Array.getElem?_replicate]
    split <;> rfl
 refine wp_mono (wpX_sound c h1 _ _ _ hx w _ w rfl hsz henv hw (Like.refl w)) fun e a' w' hq=>?_
 have fin:a'.defers=[]∧a'.tmps.size=fn.ntmps∧Like w w'∧resX P fn.results.toList R (env a') w'.heap →
    a'.defers=[]∧∃ v,(results fn a'.tmps).run P w'=.ok v w'∧∃ v_1,Ending.returned v=.returned v_1∧Like w w'∧R v_1 w'.heap:=fun ⟨q1,_,q3,q4⟩=>by
  obtain ⟨v,hv,hR⟩:=results_run q4
  exact ⟨q1,v,hv,v,rfl,q3,hR⟩
 cases e with
 | normal=>exact fin hq
 | ret=>exact fin hq
 | panic _=>exact hq.elim
 | outgrown=>exact hq.elim
 | exit _=>exact hq.2.2.2.elim
 | goto _=>exact hq.2.2.2.elim
end Xe
namespace Fx
open Go Ieee
def enc (n:Int):Nat:=FloatKind.f64.nearest n
theorem shl_eq (m k:Nat):m <<< k=m*2^k:=Nat.shiftLeft_eq m k
def Stands (d:Datum) (n:Int):Prop :=
 ∃ s m e,d=.number s m (-(e:Nat):Int)∧m=n.natAbs*2^e∧s=decide (n<0)
theorem cut_exact (way:Toward) (neg:Bool) (c drop:Nat):way.cut neg (c*2^drop) drop=c:=by
 by_cases hc:c=0
 · subst hc
   unfold Toward.cut
   simp
   cases way <;> simp
 · have hl:drop≤(c*2^drop).log2:=by
    rw [Nat.le_log2 (Nat.ne_of_gt (Nat.mul_pos (Nat.pos_of_ne_zero hc) (Nat.two_pow_pos _)))]
    exact Nat.le_mul_of_pos_left _ (Nat.pos_of_ne_zero hc)
   have hmin:min drop ((c*2^drop).log2+2)=drop:=by omega
   unfold Toward.cut
   simp only [hmin,shl_eq,Nat.one_mul]
   have hp:0<2^drop:=Nat.two_pow_pos _
   have h1:c*2^drop / 2^drop=c:=Nat.mul_div_cancel _ hp
   have h2:c*2^drop % 2^drop=0:=Nat.mul_mod_left _ _
   rw [h1,h2]
   cases way <;> simp <;> omega
theorem log2_mul_pow (c k:Nat) (hc:c≠0):(c*2^k).log2=c.log2+k:=by
 rw [Nat.log2_eq_iff (Nat.ne_of_gt (Nat.mul_pos (Nat.pos_of_ne_zero hc) (Nat.two_pow_pos _)))]
 have h:=(Nat.log2_eq_iff hc (k:=c.log2)).1 rfl
 refine ⟨?_,?_⟩
 · rw [Nat.pow_add]; exact Nat.mul_le_mul_right _ h.1
 · have:2^(c.log2+k+1)=2^(c.log2+1)*2^k:=by rw [← Nat.pow_add]; congr 1; omega
   rw [this]; exact Nat.mul_lt_mul_of_pos_right h.2 (Nat.two_pow_pos _)
theorem cut_whole (way:Toward) (neg:Bool) (n:Nat):way.cut neg n 0=n:=by
 have:=cut_exact way neg n 0
 simpa using this
def wordOf (neg:Bool) (c:Nat):Nat :=
 if c=0 then double.word neg 0 else double.word neg ((c.log2+1022)*2^52+c*2^(52-c.log2))
theorem log2_le_52 (c:Nat) (h:c<2^53) (hc:c≠0):c.log2≤52:=by
 have:=(Nat.log2_lt hc (k:=53)).2 h
 omega
theorem nearest_small (neg:Bool) (c e:Nat) (hc:c<2^53) :
   double.nearest neg (c*2^e) (-(e:Int))=wordOf neg c:=by
 unfold wordOf Format.nearest
 by_cases h0:c=0
 · subst h0; simp
 · have hL:=log2_le_52 c hc h0
   have hne:¬ c*2^e=0:=Nat.ne_of_gt (Nat.mul_pos (Nat.pos_of_ne_zero h0) (Nat.two_pow_pos _))
   rw [if_neg hne,if_neg h0]
   simp only [log2_mul_pow c e h0]
   have hfb:(double.fractionBits:Int)=52:=rfl
   have hlp:double.leastPlace=-1074:=by decide
   have hlast:max (-(e:Int)+((c.log2+e:Nat):Int)-(double.fractionBits:Int)) double.leastPlace=(c.log2:Int)-52:=by
    rw [hfb,hlp]; omega
   rw [hlast,hlp]
   have hk:Toward.even.cut neg ((c*2^e) <<< (-(e:Int)-((c.log2:Int)-52)).toNat) (((c.log2:Int)-52) - -(e:Int)).toNat=c*2^(52-c.log2):=by
    by_cases hcase:52-c.log2≤e
    · have h1:(-(e:Int)-((c.log2:Int)-52)).toNat=0:=by omega
      have h2:(((c.log2:Int)-52) - -(e:Int)).toNat=e-(52-c.log2):=by omega
      rw [h1,h2,shl_eq,Nat.pow_zero,Nat.mul_one]
      have:c*2^e=(c*2^(52-c.log2))*2^(e-(52-c.log2)):=by
       rw [Nat.mul_assoc,← Nat.pow_add]; congr 2; omega
      rw [this]; exact cut_exact _ _ _ _
    · have h1:(-(e:Int)-((c.log2:Int)-52)).toNat=(52-c.log2)-e:=by omega
      have h2:(((c.log2:Int)-52) - -(e:Int)).toNat=0:=by omega
      rw [h1,h2,shl_eq,cut_whole,Nat.mul_assoc,← Nat.pow_add]; congr 2; omega
   rw [hk]
   have ht:((c.log2:Int)-52 - -1074).toNat=c.log2+1022:=by omega
   have hb:double.binade=2^52:=rfl
   rw [ht,hb]
   congr 1
   apply Nat.min_eq_left
   have hi:double.infRung=2047*2^52:=by decide
   rw [hi]
   have h2:=(Nat.log2_eq_iff h0 (k:=c.log2)).1 rfl
   have:c*2^(52-c.log2)<2^(c.log2+1)*2^(52-c.log2):=Nat.mul_lt_mul_of_pos_right h2.2 (Nat.two_pow_pos _)
   rw [← Nat.pow_add,show c.log2+1+(52-c.log2)=53 by omega] at this
   omega
theorem read_word (neg:Bool) (c:Nat) (hc:c<2^53) :
   double.read (wordOf neg c)=if c=0 then .number neg 0 (-1074) else .number neg (c*2^(52-c.log2)) ((c.log2:Int)-52):=by
 unfold wordOf
 have hsw:double.signWeight=2^63:=rfl
 have hb:double.binade=2^52:=rfl
 have hi:double.infRung=2047*2^52:=by decide
 have hlp:double.leastPlace=-1074:=by decide
 by_cases h0:c=0
 · subst h0
   simp only [if_true]
   cases neg <;> decide +kernel
 · rw [if_neg h0,if_neg h0]
   have hL:=log2_le_52 c hc h0
   have h2:=(Nat.log2_eq_iff h0 (k:=c.log2)).1 rfl
   have hup:c*2^(52-c.log2)<2^53:=by
    have:c*2^(52-c.log2)<2^(c.log2+1)*2^(52-c.log2):=Nat.mul_lt_mul_of_pos_right h2.2 (Nat.two_pow_pos _)
    rwa [← Nat.pow_add,show c.log2+1+(52-c.log2)=53 by omega] at this
   have hlo:2^52≤c*2^(52-c.log2):=by
    have:2^c.log2*2^(52-c.log2)≤c*2^(52-c.log2):=Nat.mul_le_mul_right _ h2.1
    rwa [← Nat.pow_add,show c.log2+(52-c.log2)=52 by omega] at this
   generalize c*2^(52-c.log2)=M at *
   generalize c.log2=L at *
   unfold Format.read Format.word
   rw [hsw,hb,hi,hlp]
   have hr:(if neg=true then 2^63+((L+1022)*2^52+M) else (L+1022)*2^52+M) % 2^63=(L+1022)*2^52+M:=by
    cases neg <;> simp <;> omega
   have hn:((if neg=true then 2^63+((L+1022)*2^52+M) else (L+1022)*2^52+M) / 2^63 % 2==1)=neg:=by
    cases neg
    · simp; omega
    · simp; omega
   simp only [hr,hn]
   rw [if_neg (by omega),if_pos (by omega)]
   have hm:((L+1022)*2^52+M) % 2^52=M-2^52:=by omega
   have hd:((L+1022)*2^52+M) / 2^52=L+1023:=by omega
   rw [hm,hd]
   have e1:2^52+(M-2^52)=M:=by omega
   have e2:(-1074:Int)+((L+1023-1:Nat):Int)=(L:Int)-52:=by omega
   rw [e1,e2]
theorem enc_eq (n:Int) (h:n.natAbs<2^53):enc n=wordOf (decide (n<0)) n.natAbs:=by
 have:=nearest_small (decide (n<0)) n.natAbs 0 h
 simpa [enc,FloatKind.nearest,FloatKind.encode,FloatKind.format,Format.write] using this
theorem stands_word (s:Bool) (n:Int) (h:n.natAbs<2^53) (hs:s=decide (n<0)):Stands (double.read (wordOf s n.natAbs)) n:=by
 rw [read_word _ _ h]
 by_cases h0:n=0
 · subst h0
   obtain ⟨e,he⟩:∃ e:Nat,e=1074:=⟨_,rfl⟩
   refine ⟨s,0,e,?_,(Nat.zero_mul _).symm,hs⟩
   rw [he]; rfl
 · have hna:n.natAbs≠0:=by omega
   have hL:=log2_le_52 _ h hna
   rw [if_neg hna]
   refine ⟨s,_,52-n.natAbs.log2,?_,rfl,hs⟩
   congr 1; omega
theorem stands_enc (n:Int) (h:n.natAbs<2^53):Stands (double.read (enc n)) n:=by
 rw [enc_eq n h]; exact stands_word _ n h rfl
theorem signed_scaled (s:Bool) (n:Int) (e b:Nat) (hs:s=decide (n<0)) (hb:e≤b) :
   signed s (n.natAbs*2^e) (-(e:Int) - -(b:Int)).toNat=n*2^b:=by
 have h1:(-(e:Int) - -(b:Int)).toNat=b-e:=by omega
 have h2:(n.natAbs*2^e) <<< (b-e)=n.natAbs*2^b:=by
   rw [shl_eq,Nat.mul_assoc,← Nat.pow_add]; congr 2; omega
 unfold signed
 rw [h1,h2,hs]
 by_cases hn:n<0
 · simp only [hn,decide_true,if_true]
   rw [Int.natCast_mul,Int.ofNat_natAbs_of_nonpos (by omega),Int.neg_mul,Int.neg_neg]
   simp
 · simp only [hn,decide_false]
   rw [if_neg (by simp),Int.natCast_mul,Int.natAbs_of_nonneg (by omega)]
   simp
theorem order_stands {d1 d2:Datum} {a b:Int} (h1:Stands d1 a) (h2:Stands d2 b):d1.order d2=some (compare a b):=by
 obtain ⟨s,m,e,rfl,rfl,hs⟩:=h1
 obtain ⟨t,n,f,rfl,rfl,ht⟩:=h2
 unfold Datum.order
 simp only
 have hmin:min (-(e:Int)) (-(f:Int))=-((max e f:Nat):Int):=by omega
 rw [hmin,signed_scaled s a e _ hs (by omega),signed_scaled t b f _ ht (by omega)]
 congr 1
 have hp:(0:Int)<2^(max e f):=Int.pow_pos (by omega)
 simp only [compare,compareOfLessAndEq]
 have hlt:(a*2^(max e f)<b*2^(max e f))↔a<b:=⟨fun h=>Int.lt_of_mul_lt_mul_right h (by omega),fun h=>Int.mul_lt_mul_of_pos_right h hp⟩
 have heq:(a*2^(max e f)=b*2^(max e f))↔a=b:=⟨fun h=>Int.eq_of_mul_eq_mul_right (by omega) h,fun h=>by rw [h]⟩
 simp only [hlt,heq]
theorem sum_stands {d1 d2:Datum} {a b:Int} (h1:Stands d1 a) (h2:Stands d2 b) (hb:(a+b).natAbs<2^53) :
  (d1.sum d2).map double.write=some (wordOf (decide (a+b<0)) (a+b).natAbs):=by
 obtain ⟨s,m,e,rfl,rfl,hs⟩:=h1
 obtain ⟨t,n,f,rfl,rfl,ht⟩:=h2
 unfold Datum.sum
 simp only
 have hmin:min (-(e:Int)) (-(f:Int))=-((max e f:Nat):Int):=by omega
 rw [hmin,signed_scaled s a e _ hs (by omega),signed_scaled t b f _ ht (by omega),← Int.add_mul]
 have hp:(0:Int)<2^(max e f):=Int.pow_pos (by omega)
 have hz:((a+b)*2^(max e f)=0)↔a+b=0:=by
  rw [Int.mul_eq_zero]; constructor
  · rintro (h | h)
    · exact h
    · exact absurd h (Int.ne_of_gt hp)
  · exact .inl
 have hneg:((a+b)*2^(max e f)<0)↔a+b<0:=by
  have:=Int.mul_lt_mul_right (a:=2^max e f) (b:=a+b) (c:=0) hp
  rw [Int.zero_mul] at this; exact this
 have habs:((a+b)*2^(max e f)).natAbs=(a+b).natAbs*2^(max e f):=by
  rw [Int.natAbs_mul,Int.natAbs_pow]; rfl
 have hsign:(if a+b=0 then s&&t else decide (a+b<0))=decide (a+b<0):=by
  by_cases h0:a+b=0
  · rw [if_pos h0,hs,ht]
    rw [Bool.eq_iff_iff]; simp; omega
  · rw [if_neg h0]
 simp only [Option.map_some,Format.write,hz,hneg,habs,hsign]
 rw [nearest_small _ _ _ hb]
theorem int_stands {d:Datum} {n:Int} (h:Stands d n):d.toInt .zero=some n:=by
 obtain ⟨s,m,e,rfl,rfl,hs⟩:=h
 unfold Datum.toInt Datum.integral
 have h1:(-(e:Int)).toNat=0:=by omega
 have h2:(- -(e:Int)).toNat=e:=by omega
 simp only [h1,h2,Nat.shiftLeft_zero]
 rw [cut_exact]
 have:=signed_scaled s n 0 0 hs (by omega)
 simpa using this
theorem neg_stands {d:Datum} {n:Int} (h:Stands d n):d.neg=decide (n<0):=by
 obtain ⟨s,m,e,rfl,rfl,hs⟩:=h
 exact hs
def Fits (n:Int):Prop:=-9007199254740992<n∧n<9007199254740992
theorem Fits.abs {n:Int} (h:Fits n):n.natAbs<2^53:=by unfold Fits at h; omega
theorem order_enc {a b:Int} (ha:Fits a) (hb:Fits b):FloatKind.f64.format.order (enc a) (enc b)=some (compare a b) :=
 order_stands (stands_enc a ha.abs) (stands_enc b hb.abs)
theorem add_enc {a b:Int} (ha:Fits a) (hb:Fits b) (hab:Fits (a+b)):FloatKind.f64.format.add (enc a) (enc b)=some (enc (a+b)):=by
 rw [enc_eq (a+b) hab.abs]
 exact sum_stands (stands_enc a ha.abs) (stands_enc b hb.abs) hab.abs
theorem int_enc {a:Int} (ha:Fits a):(FloatKind.f64.decode (enc a)).toInt .zero=some a:=int_stands (stands_enc a ha.abs)
theorem neg_enc {a:Int} (ha:Fits a):(FloatKind.f64.decode (enc a)).neg=decide (a<0):=neg_stands (stands_enc a ha.abs)
end Fx
