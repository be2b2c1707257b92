/- The plain law of a binary heap over functions: no program in sight. -/
import Derived.Test.YtkghjecglmmloaaGreatSl2
namespace Hp
def upd {α:Type} (f:Nat→α) (i:Nat) (x:α):Nat→α:=fun j=>if j=i then x else f j
theorem upd_same {α:Type} (f:Nat→α) (i:Nat) (x:α):upd f i x i=x:=if_pos rfl
theorem upd_other {α:Type} (f:Nat→α) {i j:Nat} (x:α) (h:j≠i):upd f i x j=f j:=if_neg h
def bef (act:Nat→Int) (v w:Nat):Prop:=act v > act w∨(act v=act w∧v<w)
instance (act:Nat→Int) (v w:Nat):Decidable (bef act v w):=inferInstanceAs (Decidable (_∨_))
theorem bef_asymm {act:Nat→Int} {v w:Nat} (h:bef act v w):¬ bef act w v:=by unfold bef at *; omega
theorem bef_irr (act:Nat→Int) (v:Nat):¬ bef act v v:=by unfold bef; omega
theorem bef_trans {act:Nat→Int} {u v w:Nat} (h:bef act u v) (k:bef act v w):bef act u w:=by unfold bef at *; omega
theorem nbef_trans {act:Nat→Int} {u v w:Nat} (h:¬ bef act v u) (k:¬ bef act w v):¬ bef act w u:=by unfold bef at *; omega
theorem bef_nbef {act:Nat→Int} {u v w:Nat} (h:bef act u v) (k:¬ bef act w v):¬ bef act w u:=by unfold bef at *; omega
structure Wf (vars n:Nat) (l:Nat→Nat) (pl:Nat→Int):Prop where
 low:∀ i,i<n→1≤l i
 high:∀ i,i<n→l i≤vars
 back:∀ i,i<n→pl (l i)=i
 fore:∀ v,1≤v→v≤vars→pl v=-1∨∃ i,i<n∧pl v=i∧l i=v
theorem Wf.inj {vars n:Nat} {l:Nat→Nat} {pl:Nat→Int} (h:Wf vars n l pl) {i j:Nat} (hi:i<n) (hj:j<n) (e:l i=l j):i=j:=by
 have a:=h.back i hi
 have b:=h.back j hj
 rw [e] at a; omega
def swapL (l:Nat→Nat) (i k:Nat):Nat→Nat:=upd (upd l i (l k)) k (l i)
def swapP (l:Nat→Nat) (pl:Nat→Int) (i k:Nat):Nat→Int:=upd (upd pl (l k) i) (l i) k
theorem swapL_at (l:Nat→Nat) (i k j:Nat):swapL l i k j=if j=k then l i else if j=i then l k else l j:=rfl
theorem swapP_at (l:Nat→Nat) (pl:Nat→Int) (i k v:Nat):swapP l pl i k v=if v=l i then (k:Int) else if v=l k then (i:Int) else pl v:=rfl
theorem Wf.swap {vars n:Nat} {l:Nat→Nat} {pl:Nat→Int} (h:Wf vars n l pl) {i k:Nat} (hi:i<n) (hk:k<n) :
  Wf vars n (swapL l i k) (swapP l pl i k) where
 low j hj:=by rw [swapL_at]; split; exact h.low i hi; split; exact h.low k hk; exact h.low j hj
 high j hj:=by rw [swapL_at]; split; exact h.high i hi; split; exact h.high k hk; exact h.high j hj
 back j hj:=by
  rw [swapL_at,swapP_at]
  by_cases h1:j=k
  · rw [if_pos h1,if_pos rfl,h1]
  · rw [if_neg h1]
    by_cases h2:j=i
    · rw [if_pos h2]
      by_cases h3:l k=l i
      · have:=h.inj hk hi h3; omega
      · rw [if_neg h3,if_pos rfl,h2]
    · rw [if_neg h2,if_neg (fun e=>h2 (h.inj hj hi e)),if_neg (fun e=>h1 (h.inj hj hk e))]
      exact h.back j hj
 fore v h1 h2:=by
  rw [swapP_at]
  by_cases e1:v=l i
  · rw [if_pos e1]; exact .inr ⟨k,hk,rfl,by rw [swapL_at,if_pos rfl,e1]⟩
  · rw [if_neg e1]
    by_cases e2:v=l k
    · rw [if_pos e2]
      refine .inr ⟨i,hi,rfl,?_⟩
      rw [swapL_at]
      by_cases e3:i=k
      · rw [e3,← e2] at e1; exact absurd rfl e1
      · rw [if_neg e3,if_pos rfl,e2]
    · rw [if_neg e2]
      rcases h.fore v h1 h2 with h3 | ⟨j,hj,hp,hl⟩
      · exact .inl h3
      · refine .inr ⟨j,hj,hp,?_⟩
        rw [swapL_at,if_neg (fun e=>e2 (by rw [← hl,e])),if_neg (fun e=>e1 (by rw [← hl,e])),hl]
def In (n:Nat) (l:Nat→Nat) (v:Nat):Prop:=∃ i,i<n∧l i=v
theorem In.swap {n:Nat} {l:Nat→Nat} {i k v:Nat} (hi:i<n) (hk:k<n):In n (swapL l i k) v↔In n l v:=by
 constructor
 · rintro ⟨j,hj,rfl⟩
   rw [swapL_at]
   split
   · exact ⟨i,hi,rfl⟩
   · split
     · exact ⟨k,hk,rfl⟩
     · exact ⟨j,hj,rfl⟩
 · rintro ⟨j,hj,rfl⟩
   by_cases h1:j=i
   · exact ⟨k,hk,by rw [swapL_at,if_pos rfl,h1]⟩
   · by_cases h2:j=k
     · refine ⟨i,hi,?_⟩
       rw [swapL_at]
       by_cases h3:i=k
       · omega
       · rw [if_neg h3,if_pos rfl,h2]
     · exact ⟨j,hj,by rw [swapL_at,if_neg h2,if_neg h1]⟩
theorem Wf.in_iff {vars n:Nat} {l:Nat→Nat} {pl:Nat→Int} (h:Wf vars n l pl) {v:Nat} (h1:1≤v) (h2:v≤vars):In n l v↔0≤pl v:=by
 constructor
 · rintro ⟨i,hi,rfl⟩; rw [h.back i hi]; omega
 · intro h3
   rcases h.fore v h1 h2 with h4 | ⟨i,hi,_,hl⟩
   · omega
   · exact ⟨i,hi,hl⟩
def Ord (act:Nat→Int) (n:Nat) (l:Nat→Nat):Prop:=∀ j,0<j→j<n→¬ bef act (l j) (l ((j-1) / 2))
structure Up (act:Nat→Int) (n:Nat) (l:Nat→Nat) (i:Nat):Prop where
 other:∀ j,0<j→j<n→j≠i→¬ bef act (l j) (l ((j-1) / 2))
 under:∀ j,0<j→j<n→(j-1) / 2=i→0<i→¬ bef act (l j) (l ((i-1) / 2))
theorem Up.of_ord {act:Nat→Int} {n:Nat} {l:Nat→Nat} (h:Ord act n l) (i:Nat) (hi:i<n):Up act n l i where
 other j h0 hj _:=h j h0 hj
 under j h0 hj e hi0:=nbef_trans (h i hi0 hi) (by have:=h j h0 hj; rwa [e] at this)
theorem Up.done {act:Nat→Int} {n:Nat} {l:Nat→Nat} {i:Nat} (h:Up act n l i) (hd:0<i→¬ bef act (l i) (l ((i-1) / 2))):Ord act n l:=by
 intro j h0 hj
 by_cases e:j=i
 · subst e; exact hd h0
 · exact h.other j h0 hj e
theorem Up.step {act:Nat→Int} {n:Nat} {l:Nat→Nat} {i:Nat} (h:Up act n l i) (h0:0<i) (hi:i<n)
   (hb:bef act (l i) (l ((i-1) / 2))):Up act n (swapL l i ((i-1) / 2)) ((i-1) / 2):=by
 have hui:(i-1) / 2<i:=by omega
 generalize hu:(i-1) / 2=u at *
 refine ⟨?_,?_⟩
 · intro j j0 jn ju
   rw [swapL_at,swapL_at,if_neg ju]
   by_cases e:j=i
   · subst e
     rw [if_pos rfl,hu,if_pos rfl]
     exact bef_asymm hb
   · rw [if_neg e]
     by_cases e2:(j-1) / 2=u
     · rw [if_pos e2]
       have:=h.other j j0 jn e
       rw [e2] at this
       exact bef_nbef hb this
     · rw [if_neg e2]
       by_cases e3:(j-1) / 2=i
       · rw [if_pos e3]
         have:=h.under j j0 jn e3 h0
         rwa [hu] at this
       · rw [if_neg e3]; exact h.other j j0 jn e
 · intro j j0 jn e hu0
   rw [swapL_at,swapL_at]
   have hne:(u-1) / 2≠u:=by omega
   have hne2:(u-1) / 2≠i:=by omega
   rw [if_neg hne,if_neg hne2]
   by_cases e1:j=u
   · omega
   · rw [if_neg e1]
     have hpu:¬ bef act (l u) (l ((u-1) / 2)):=h.other u hu0 (by omega) (by omega)
     by_cases e2:j=i
     · rw [if_pos e2]; exact hpu
     · rw [if_neg e2]
       have:=h.other j j0 jn e2
       rw [e] at this
       exact nbef_trans hpu this
structure Down (act:Nat→Int) (n:Nat) (l:Nat→Nat) (s c:Nat):Prop where
 other:∀ j,0<j→j<n→s≤(j-1) / 2→(j-1) / 2≠c→¬ bef act (l j) (l ((j-1) / 2))
 under:∀ j,0<j→j<n→(j-1) / 2=c→0<c→s≤(c-1) / 2→¬ bef act (l j) (l ((c-1) / 2))
def OrdFrom (act:Nat→Int) (n:Nat) (l:Nat→Nat) (s:Nat):Prop:=∀ j,0<j→j<n→s≤(j-1) / 2→¬ bef act (l j) (l ((j-1) / 2))
theorem OrdFrom.zero {act:Nat→Int} {n:Nat} {l:Nat→Nat}:OrdFrom act n l 0↔Ord act n l :=
 ⟨fun h j j0 jn=>h j j0 jn (Nat.zero_le _),fun h j j0 jn _=>h j j0 jn⟩
theorem OrdFrom.start (act:Nat→Int) (n:Nat) (l:Nat→Nat) (s:Nat) (h:n≤s+1):OrdFrom act n l s:=by
 intro j j0 jn h1; omega
theorem Down.start {act:Nat→Int} {n:Nat} {l:Nat→Nat} {s:Nat} (h:OrdFrom act n l (s+1)):Down act n l s s where
 other j j0 jn h1 h2:=h j j0 jn (by omega)
 under j j0 jn h1 h2 h3:=by omega
theorem Down.done {act:Nat→Int} {n:Nat} {l:Nat→Nat} {s c:Nat} (h:Down act n l s c)
  (hd:∀ j,0<j→j<n→(j-1) / 2=c→¬ bef act (l j) (l c)):OrdFrom act n l s:=by
 intro j j0 jn h1
 by_cases e:(j-1) / 2=c
 · rw [e]; exact hd j j0 jn e
 · exact h.other j j0 jn h1 e
theorem Down.step {act:Nat→Int} {n:Nat} {l:Nat→Nat} {s c b:Nat} (h:Down act n l s c) (hsc:s≤c) (hb0:0<b) (hbn:b<n) (hbc:(b-1) / 2=c)
   (hb:bef act (l b) (l c)) (hbest:∀ j,0<j→j<n→(j-1) / 2=c→¬ bef act (l j) (l b)):Down act n (swapL l c b) s b:=by
 have hcb:c<b:=by omega
 refine ⟨?_,?_⟩
 · intro j j0 jn h1 h2
   rw [swapL_at,swapL_at]
   by_cases e:j=b
   · subst e
     rw [if_pos rfl,hbc,if_neg (by omega),if_pos rfl]
     exact bef_asymm hb
   · rw [if_neg e,if_neg h2]
     by_cases e2:j=c
     · rw [if_pos e2,if_neg (by omega)]
       by_cases hs:s≤(c-1) / 2
       · rw [e2]; exact h.under b hb0 hbn hbc (by omega) hs
       · rw [e2] at h1; omega
     · rw [if_neg e2]
       by_cases e3:(j-1) / 2=c
       · rw [if_pos e3]; exact hbest j j0 jn e3
       · rw [if_neg e3]; exact h.other j j0 jn h1 e3
 · intro j j0 jn h1 h2 h3
   rw [swapL_at,swapL_at,hbc]
   rw [if_neg (by omega:¬ c=b),if_pos rfl,if_neg (by omega:¬ j=b),if_neg (by omega:¬ j=c)]
   have:=h.other j j0 jn (by omega) (by omega)
   rwa [h1] at this
theorem Ord.first {act:Nat→Int} {n:Nat} {l:Nat→Nat} (h:Ord act n l):∀ j,j<n→¬ bef act (l j) (l 0):=by
 intro j
 induction j using Nat.strongRecOn with
 | _ j ih =>
   intro hj
   by_cases j0:j=0
   · subst j0; exact bef_irr _ _
   · exact nbef_trans (ih ((j-1) / 2) (by omega) (by omega)) (h j (by omega) hj)
theorem Wf.drop {vars n:Nat} {l:Nat→Nat} {pl:Nat→Int} (h:Wf vars (n+1) l pl):Wf vars n l (upd pl (l n) (-1)) where
 low i hi:=h.low i (by omega)
 high i hi:=h.high i (by omega)
 back i hi:=by
  rw [upd_other _ _ (fun e=>by have:=h.inj (by omega) (by omega) e; omega)]
  exact h.back i (by omega)
 fore v h1 h2:=by
  by_cases e:v=l n
  · rw [e,upd_same]; exact .inl rfl
  · rw [upd_other _ _ e]
    rcases h.fore v h1 h2 with h3 | ⟨i,hi,hp,hl⟩
    · exact .inl h3
    · refine .inr ⟨i,?_,hp,hl⟩
      by_cases e2:i=n
      · rw [e2] at hl; exact absurd hl.symm e
      · omega
theorem In.drop {vars n:Nat} {l:Nat→Nat} {pl:Nat→Int} (h:Wf vars (n+1) l pl) (v:Nat):In n l v↔In (n+1) l v∧v≠l n:=by
 constructor
 · rintro ⟨i,hi,rfl⟩
   exact ⟨⟨i,by omega,rfl⟩,fun e=>by have:=h.inj (by omega) (by omega) e; omega⟩
 · rintro ⟨⟨i,hi,rfl⟩,hne⟩
   refine ⟨i,?_,rfl⟩
   by_cases e:i=n
   · rw [e] at hne; exact absurd rfl hne
   · omega
theorem Wf.put {vars n:Nat} {l:Nat→Nat} {pl:Nat→Int} (h:Wf vars n l pl) {v:Nat} (h1:1≤v) (h2:v≤vars) (hv:pl v=-1) :
  Wf vars (n+1) (upd l n v) (upd pl v n) where
 low i hi:=by
  by_cases e:i=n
  · rw [e,upd_same]; exact h1
  · rw [upd_other _ _ e]; exact h.low i (by omega)
 high i hi:=by
  by_cases e:i=n
  · rw [e,upd_same]; exact h2
  · rw [upd_other _ _ e]; exact h.high i (by omega)
 back i hi:=by
  by_cases e:i=n
  · rw [e,upd_same,upd_same]
  · rw [upd_other _ _ e,upd_other _ _ (fun e2=>by have:=h.back i (by omega); rw [e2,hv] at this; omega)]
    exact h.back i (by omega)
 fore u u1 u2:=by
  by_cases e:u=v
  · rw [e,upd_same]; exact .inr ⟨n,by omega,rfl,upd_same _ _ _⟩
  · rw [upd_other _ _ e]
    rcases h.fore u u1 u2 with h3 | ⟨i,hi,hp,hl⟩
    · exact .inl h3
    · exact .inr ⟨i,by omega,hp,by rw [upd_other _ _ (by omega)]; exact hl⟩
theorem In.put {n:Nat} {l:Nat→Nat} {v:Nat} (u:Nat):In (n+1) (upd l n v) u↔In n l u∨u=v:=by
 constructor
 · rintro ⟨i,hi,rfl⟩
   by_cases e:i=n
   · rw [e,upd_same]; exact .inr rfl
   · rw [upd_other _ _ e]; exact .inl ⟨i,by omega,rfl⟩
 · rintro (⟨i,hi,rfl⟩ | rfl)
   · exact ⟨i,by omega,upd_other _ _ (by omega)⟩
   · exact ⟨n,by omega,upd_same _ _ _⟩
theorem Ord.put {act:Nat→Int} {n:Nat} {l:Nat→Nat} (h:Ord act n l) (v:Nat):Up act (n+1) (upd l n v) n where
 other j j0 jn e:=by
  rw [upd_other _ _ e,upd_other _ _ (by omega)]
  exact h j j0 (by omega)
 under j j0 jn e hn:=by omega
theorem Ord.take {act:Nat→Int} {n:Nat} {l:Nat→Nat} (h:Ord act (n+1) l):Down act n (swapL l 0 n) 0 0 where
 other j j0 jn _ e:=by
  rw [swapL_at,swapL_at,if_neg (by omega),if_neg (by omega),if_neg (by omega),if_neg e]
  exact h j j0 (by omega)
 under j j0 jn e hc:=by omega
theorem Ord.less {act:Nat→Int} {n:Nat} {l:Nat→Nat} (h:Ord act (n+1) l):Ord act n l:=fun j j0 jn=>h j j0 (by omega)
theorem Ord.bump {act:Nat→Int} {n:Nat} {l:Nat→Nat} (h:Ord act n l) {i:Nat} (hi:i<n) (hinj:∀ a,a<n→∀ b,b<n→l a=l b→a=b)
  {x:Int} (hx:act (l i)≤x):Up (upd act (l i) x) n l i where
 other j j0 jn e:=by
  have h0:=h j j0 jn
  have hj:l j≠l i:=fun e2=>e (hinj j jn i hi e2)
  unfold bef at *
  rw [upd_other _ _ hj]
  by_cases e2:(j-1) / 2=i
  · rw [e2] at h0 ⊢; rw [upd_same]; omega
  · rw [upd_other _ _ (fun e3=>e2 (hinj _ (by omega) i hi e3))]; exact h0
 under j j0 jn e i0:=by
  have h0:=h j j0 jn
  have h1:=h i i0 hi
  rw [e] at h0
  have h2:=nbef_trans h1 h0
  have hj:l j≠l i:=fun e2=>by have:=hinj j jn i hi e2; omega
  have hp:l ((i-1) / 2)≠l i:=fun e2=>by have:=hinj _ (by omega) i hi e2; omega
  unfold bef at *
  rw [upd_other _ _ hj,upd_other _ _ hp]; exact h2
theorem Ord.same {act act':Nat→Int} {n:Nat} {l:Nat→Nat} (h:Ord act n l) (he:∀ i,i<n→act' (l i)=act (l i)):Ord act' n l:=by
 intro j j0 jn
 have:=h j j0 jn
 unfold bef at *
 rw [he j jn,he _ (by omega)]; exact this
end Hp
/- The walks through package heap. -/
namespace Xe.Hq
open Go Hp Go.Proofs
structure HeapAt (h:Heap) (b kb lb pb vars n kc lc pc:Nat) (A:Option Addr) (act:Nat→Int) (l:Nat→Nat) (pl:Nat→Int):Prop where
 s0:hcell h ⟨b,0,none⟩=some (.slice (some ⟨kb,0,none⟩) (vars+1) kc)
 s1:hcell h ⟨b,1,none⟩=some (.slice A n lc)
 s2:hcell h ⟨b,2,none⟩=some (.slice (some ⟨pb,0,none⟩) (vars+1) pc)
 ck:∀ v,v≤vars→hcell h ⟨kb,v,none⟩=some (.complex .f64 (Fx.enc (act v)) (Fx.enc (-(v:Int))))
 cl:∀ i,i<n→hcell h ⟨lb,i,none⟩=some (.int .i64 (l i))
 cp:∀ v,v≤vars→hcell h ⟨pb,v,none⟩=some (.int .i64 (pl v))
 fb:∀ o,hfrz h ⟨b,o,none⟩=false
 fk:∀ o,hfrz h ⟨kb,o,none⟩=false
 fl:∀ o,hfrz h ⟨lb,o,none⟩=false
 fp:∀ o,hfrz h ⟨pb,o,none⟩=false
 bk:b≠kb
 bl:b≠lb
 bp:b≠pb
 kl:kb≠lb
 kp:kb≠pb
 lp:lb≠pb
 lr:∀ i,i<lc→(hcell h ⟨lb,i,none⟩).isSome=true
 ll:A=some ⟨lb,0,none⟩→lb<h.size
 hA0:(A=none∧lc=0)∨A=some ⟨lb,0,none⟩
 hnc:n≤lc
 hv:vars≤16777216
 hn:n≤vars
section
variable {h:Heap} {b kb lb pb vars n kc lc pc:Nat} {A:Option Addr} {act:Nat→Int} {l:Nat→Nat} {pl:Nat→Int}
theorem HeapAt.hA (H:HeapAt h b kb lb pb vars n kc lc pc A act l pl) (hn:0<n):A=some ⟨lb,0,none⟩:=by
 rcases H.hA0 with ⟨_,h⟩ | h
 · have:=H.hnc; omega
 · exact h
theorem HeapAt.setL (H:HeapAt h b kb lb pb vars n kc lc pc A act l pl) {i:Nat} (hi:i<n) (x:Nat):HeapAt (hset h ⟨lb,i,none⟩ (.int .i64 x)) b kb lb pb vars n kc lc pc A act (upd l i x) pl where
 s0:=by rw [hcell_hset,if_neg (fun e=>H.bl e.1)]; exact H.s0
 s1:=by rw [hcell_hset,if_neg (fun e=>H.bl e.1)]; exact H.s1
 s2:=by rw [hcell_hset,if_neg (fun e=>H.bl e.1)]; exact H.s2
 ck v hv:=by rw [hcell_hset,if_neg (fun e=>H.kl e.1)]; exact H.ck v hv
 cl j hj:=by
  rw [hcell_hset]
  by_cases e:j=i
  · subst e; rw [if_pos ⟨rfl,rfl⟩,H.cl j hj,upd_same]; rfl
  · rw [if_neg (fun h=>e h.2),upd_other _ _ e]; exact H.cl j hj
 cp v hv:=by rw [hcell_hset,if_neg (fun e=>H.lp e.1.symm)]; exact H.cp v hv
 fb o:=by rw [hfrz_hset]; exact H.fb o
 fk o:=by rw [hfrz_hset]; exact H.fk o
 fl o:=by rw [hfrz_hset]; exact H.fl o
 fp o:=by rw [hfrz_hset]; exact H.fp o
 bk:=H.bk
 bl:=H.bl
 bp:=H.bp
 kl:=H.kl
 kp:=H.kp
 lp:=H.lp
 ll e:=by rw [hset_size]; exact H.ll e
 hA0:=H.hA0
 hnc:=H.hnc
 lr j hj:=by
  rw [hcell_hset]
  split
  · rename_i e; rw [Option.isSome_map,← e.2,← e.1]; exact H.lr j hj
  · exact H.lr j hj
 hv:=H.hv
 hn:=H.hn
theorem HeapAt.setP (H:HeapAt h b kb lb pb vars n kc lc pc A act l pl) {v:Nat} (hv:v≤vars) (x:Int):HeapAt (hset h ⟨pb,v,none⟩ (.int .i64 x)) b kb lb pb vars n kc lc pc A act l (upd pl v x) where
 s0:=by rw [hcell_hset,if_neg (fun e=>H.bp e.1)]; exact H.s0
 s1:=by rw [hcell_hset,if_neg (fun e=>H.bp e.1)]; exact H.s1
 s2:=by rw [hcell_hset,if_neg (fun e=>H.bp e.1)]; exact H.s2
 ck v hv:=by rw [hcell_hset,if_neg (fun e=>H.kp e.1)]; exact H.ck v hv
 cl j hj:=by rw [hcell_hset,if_neg (fun e=>H.lp e.1)]; exact H.cl j hj
 cp j hj:=by
  rw [hcell_hset]
  by_cases e:j=v
  · subst e; rw [if_pos ⟨rfl,rfl⟩,H.cp j hj,upd_same]; rfl
  · rw [if_neg (fun h=>e h.2),upd_other _ _ e]; exact H.cp j hj
 fb o:=by rw [hfrz_hset]; exact H.fb o
 fk o:=by rw [hfrz_hset]; exact H.fk o
 fl o:=by rw [hfrz_hset]; exact H.fl o
 fp o:=by rw [hfrz_hset]; exact H.fp o
 bk:=H.bk
 bl:=H.bl
 bp:=H.bp
 kl:=H.kl
 kp:=H.kp
 lp:=H.lp
 ll e:=by rw [hset_size]; exact H.ll e
 hA0:=H.hA0
 hnc:=H.hnc
 lr j hj:=by
  rw [hcell_hset]
  split
  · rename_i e; rw [Option.isSome_map,← e.2,← e.1]; exact H.lr j hj
  · exact H.lr j hj
 hv:=H.hv
 hn:=H.hn
theorem HeapAt.setK (H:HeapAt h b kb lb pb vars n kc lc pc A act l pl) {v:Nat} (hv:v≤vars) (x:Int) :
  HeapAt (hset h ⟨kb,v,none⟩ (.complex .f64 (Fx.enc x) (Fx.enc (-(v:Int))))) b kb lb pb vars n kc lc pc A (upd act v x) l pl where
 s0:=by rw [hcell_hset,if_neg (fun e=>H.bk e.1)]; exact H.s0
 s1:=by rw [hcell_hset,if_neg (fun e=>H.bk e.1)]; exact H.s1
 s2:=by rw [hcell_hset,if_neg (fun e=>H.bk e.1)]; exact H.s2
 ck j hj:=by
  rw [hcell_hset]
  by_cases e:j=v
  · subst e; rw [if_pos ⟨rfl,rfl⟩,H.ck j hj,upd_same]; rfl
  · rw [if_neg (fun h=>e h.2),upd_other _ _ e]; exact H.ck j hj
 cl j hj:=by rw [hcell_hset,if_neg (fun e=>H.kl e.1.symm)]; exact H.cl j hj
 cp j hj:=by rw [hcell_hset,if_neg (fun e=>H.kp e.1.symm)]; exact H.cp j hj
 fb o:=by rw [hfrz_hset]; exact H.fb o
 fk o:=by rw [hfrz_hset]; exact H.fk o
 fl o:=by rw [hfrz_hset]; exact H.fl o
 fp o:=by rw [hfrz_hset]; exact H.fp o
 bk:=H.bk
 bl:=H.bl
 bp:=H.bp
 kl:=H.kl
 kp:=H.kp
 lp:=H.lp
 ll e:=by rw [hset_size]; exact H.ll e
 hA0:=H.hA0
 hnc:=H.hnc
 lr j hj:=by
  rw [hcell_hset]
  split
  · rename_i e; rw [Option.isSome_map,← e.2,← e.1]; exact H.lr j hj
  · exact H.lr j hj
 hv:=H.hv
 hn:=H.hn
theorem there_h (H:HeapAt h b kb lb pb vars n kc lc pc A act l pl) (v:Int) :
  CallsH Tryz.prog 177 [.pointer (some ⟨b,0,none⟩),.int .i64 v] h fun r h'=>r=.bool (decide (1≤v∧v≤vars))∧h'=h:=by
 have h0:=H.s0
 refine calls_of 16 [.tmp 4] Go.Proofs.Tryz.func177 rfl rfl rfl ?_
 by_cases hv:1≤v
 · simp -implicitDefEqProofs (disch:=omega) [go_sem,h0,hv]
   omega
 · simp -implicitDefEqProofs (disch:=omega) [go_sem,hv]
theorem ahead_h (H:HeapAt h b kb lb pb vars n kc lc pc A act l pl) (hact:∀ v,v≤vars→0≤act v∧act v≤1099511627776) {x y:Int} (v w:Nat) (hx:x=v) (hy:y=w) (hv:v≤vars) (hw:w≤vars) :
  CallsH Tryz.prog 222 [.pointer (some ⟨b,0,none⟩),.int .i64 x,.int .i64 y] h fun r h'=>r=.bool (decide (bef act v w))∧h'=h:=by
 have h0:=H.s0
 have k1:=H.ck v hv
 have k2:=H.ck w hw
 have fv:=hact v hv
 have fw:=hact w hw
 have hvv:=H.hv
 subst hx hy
 refine calls_of 42 [.tmp 6] Go.Proofs.Tryz.func222 rfl rfl rfl ?_
 simp -implicitDefEqProofs (disch:=omega) [go_sem]
 rcases (by omega:act w<act v∨(¬ act w<act v∧act v=act w)∨(¬ act w<act v∧¬ act v=act w)) with h1 | ⟨h1,h2⟩ | ⟨h1,h2⟩
 · refine drawK [(0,0),(1,0),(2,0),(3,1),(4,0),(5,0),(6,1),(7,0),(8,0),(9,0),(10,1),(11,0),(12,0),(13,1),(14,0),(15,0)] ?_
   simp -implicitDefEqProofs (disch:=omega) [go_sem,h0,k1,k2,h1]
   unfold bef; omega
 · refine drawK [(0,0),(1,0),(2,0),(3,1),(4,0),(5,0),(6,1),(7,0),(8,0),(9,0),(10,1),(11,0),(12,0),(13,1),(14,0),(15,0)] ?_
   simp -implicitDefEqProofs (disch:=omega) [go_sem,h0,k1,k2,h1,h2]
   unfold bef; omega
 · refine drawK [(0,0),(1,0),(2,0),(3,1),(4,0),(5,0),(6,1),(7,0),(8,0),(9,0),(10,1),(11,0),(12,0),(13,1),(14,0),(15,0)] ?_
   simp -implicitDefEqProofs (disch:=omega) [go_sem,h0,k1,k2,h1,h2]
   unfold bef; omega
theorem swap_h (H:HeapAt h b kb lb pb vars n kc lc pc A act l pl) (W:Wf vars n l pl) {x y:Int} (i k:Nat) (hx:x=i) (hy:y=k) (hi:i<n) (hk:k<n) :
  CallsH Tryz.prog 223 [.pointer (some ⟨b,0,none⟩),.int .i64 x,.int .i64 y] h fun r h'=>r=.tuple #[] ∧
    HeapAt h' b kb lb pb vars n kc lc pc A act (swapL l i k) (swapP l pl i k)∧Fr (fun x=>x=lb∨x=pb) h h':=by
 have h1:=H.s1
 have h2:=H.s2
 rw [H.hA (by omega)] at h1
 have hli:=W.high i hi
 have hlk:=W.high k hk
 have c1:=H.cl i hi
 have c2:=H.cl k hk
 have hlv:=H.hn
 have p1:=H.cp _ hli
 have p2:=H.cp _ hlk
 subst hx hy
 refine calls_of 58 [] Go.Proofs.Tryz.func223 rfl rfl rfl ?_
 simp -implicitDefEqProofs (disch:=omega) [go_sem]
 refine drawK [(0,0),(1,0),(2,0),(3,1),(4,0),(5,0),(6,0),(7,0),(8,1),(9,0),(10,0),(11,0),(12,0),(13,1),(14,0),(15,0),(16,1),(17,0),(18,0),(19,0),(20,1),(21,0),(22,0),(23,1),(24,0),(25,3),(26,0),(27,3)] ?_
 simp -implicitDefEqProofs (disch:=omega) [go_sem,h1,h2,c1,c2,H.fl,H.fp]
 by_cases hik:i=k
 · subst hik
   refine drawK [(0,0),(1,0),(2,0),(3,1),(4,0),(5,0),(6,0),(7,1),(8,0),(9,0),(10,1),(11,0),(12,0),(13,0),(14,1),(15,0),(16,0),(17,0),(18,1),(19,0),(20,0),(21,1),(22,0),(23,0),(24,0),(25,3),(26,0),(27,3)] ?_
   simp -implicitDefEqProofs (disch:=omega) [go_sem,h1,h2,c1,c2,H.fl,H.fp,H.bl,H.bp,H.lp,Ne.symm H.lp,p1,p2]
   exact ⟨(((H.setL hi _).setL hi _).setP hli _).setP hli _,((((Fr.refl _ _).set (.inl rfl)).set (.inl rfl)).set (.inr rfl)).set (.inr rfl)⟩
 · have hne:¬ l i=l k:=fun e=>hik (W.inj hi hk e)
   refine drawK [(0,0),(1,0),(2,0),(3,1),(4,0),(5,0),(6,0),(7,1),(8,0),(9,0),(10,1),(11,0),(12,0),(13,0),(14,1),(15,0),(16,0),(17,0),(18,1),(19,0),(20,0),(21,1),(22,0),(23,0),(24,0),(25,3),(26,0),(27,3)] ?_
   simp -implicitDefEqProofs (disch:=omega) [go_sem,h1,h2,c1,c2,H.fl,H.fp,H.bl,H.bp,H.lp,Ne.symm H.lp,p1,p2,hik,Ne.symm hik,hne]
   exact ⟨(((H.setL hi _).setL hk _).setP hlk _).setP hli _,((((Fr.refl _ _).set (.inl rfl)).set (.inl rfl)).set (.inr rfl)).set (.inr rfl)⟩
def Acts (vars:Nat) (act:Nat→Int):Prop:=∀ v,v≤vars→0≤act v∧act v≤1099511627776
theorem rise_h (H:HeapAt h b kb lb pb vars n kc lc pc A act l pl) (W:Wf vars n l pl) (hact:Acts vars act) {x:Int} (i:Nat) (hx:x=i) (hi:i<n) (U:Up act n l i) :
  CallsH Tryz.prog 178 [.pointer (some ⟨b,0,none⟩),.int .i64 x] h fun r h'=>r=.tuple #[] ∧
    ∃ l' pl',HeapAt h' b kb lb pb vars n kc lc pc A act l' pl'∧Wf vars n l' pl'∧Ord act n l'∧(∀ v,In n l' v↔In n l v)∧Fr (fun x=>x=lb∨x=pb) h h':=by
 subst hx
 refine calls_of 33 [] Go.Proofs.Tryz.func178 rfl rfl rfl ?_
 simp -implicitDefEqProofs (disch:=omega) [go_sem]
 refine scopeL 0 (fun ρ h'=>ρ 0=.pointer (some ⟨b,0,none⟩)∧∃ i l' pl',ρ 1=.int .i64 ((i:Nat):Int)∧i<n∧HeapAt h' b kb lb pb vars n kc lc pc A act l' pl'∧Wf vars n l' pl'∧Up act n l' i∧(∀ v,In n l' v↔In n l v) ∧
   Fr (fun x=>x=lb∨x=pb) h h') (fun ρ _=>(intOf (ρ 1)).toNat) (by kernel_rfl) ?_ ?_
 · exact ⟨rfl,i,l,pl,rfl,hi,H,W,U,fun _=>Iff.rfl,Fr.refl _ _⟩
 · rintro ρ h' ⟨r0,i,l',pl',r1,hi,H,W,U,hin,hfr⟩
   have hb1:=H.hv
   have hb2:=H.hn
   have h1:=H.s1
   rw [H.hA (by omega)] at h1
   by_cases hi0:i=0
   · subst hi0
     simp -implicitDefEqProofs (disch:=omega) [go_sem,r0,r1]
     refine drawK [(0,0),(1,0),(2,0),(3,0),(4,0),(5,0),(6,0),(7,1),(8,0),(9,0),(10,1),(11,0),(12,0),(13,0),(14,1),(15,0),(16,0),(17,1),(18,3),(19,0)] ?_
     simp -implicitDefEqProofs (disch:=omega) [go_sem,r0,r1]
     exact ⟨l',pl',H,W,U.done (by omega),hin,hfr⟩
   · obtain ⟨u,hu⟩:∃ u,u=(i-1) / 2:=⟨_,rfl⟩
     have eu:((i:Int)-1) / 2=(u:Int):=by omega
     have c1:=H.cl i hi
     have c2:=H.cl u (by omega)
     simp -implicitDefEqProofs (disch:=omega) [go_sem,r0,r1]
     refine drawK [(0,0),(1,0),(2,0),(3,0),(4,0),(5,0),(6,0),(7,1),(8,0),(9,0),(10,1),(11,0),(12,0),(13,0),(14,1),(15,0),(16,0),(17,1),(18,3),(19,0)] ?_
     simp -implicitDefEqProofs (disch:=omega) [go_sem,r0,r1,h1,c1,c2,eu,(by omega:0<i)]
     refine useC (ahead_h H hact (l' i) (l' u) rfl rfl (W.high _ hi) (W.high _ (by omega))) ?_
     rintro _ _ ⟨rfl,rfl⟩
     by_cases hbf:bef act (l' i) (l' u)
     · simp -implicitDefEqProofs (disch:=omega) [go_sem,r0,r1,hbf,eu]
       refine useC (swap_h H W i u rfl rfl hi (by omega)) ?_
       rintro _ h2 ⟨rfl,H2,hfr2⟩
       simp -implicitDefEqProofs (disch:=omega) [go_sem,r0,r1,eu]
       have U2:=U.step (by omega) hi (by rw [← hu]; exact hbf)
       rw [← hu] at U2
       exact ⟨⟨u,rfl,by omega,_,_,H2,W.swap hi (by omega),U2,fun v=>(In.swap hi (by omega)).trans (hin v),hfr.trans hfr2⟩,by omega⟩
     · simp -implicitDefEqProofs (disch:=omega) [go_sem,r0,r1,hbf,eu]
       exact ⟨l',pl',H,W,U.done (fun _=>by rw [← hu]; exact hbf),hin,hfr⟩
end
end Xe.Hq
namespace Xe.Hq
open Go Hp Go.Proofs
section
variable {h:Heap} {b kb lb pb vars n kc lc pc:Nat} {A:Option Addr} {act:Nat→Int} {l:Nat→Nat} {pl:Nat→Int}
structure Best (act:Nat→Int) (n:Nat) (l:Nat→Nat) (i j best:Nat):Prop where
 lt:best<n
 who:best=i∨(best=2*i+1∧1≤j)∨(best=2*i+2∧2≤j)
 none:∀ k,k<j→2*i+1+k<n→¬ bef act (l (2*i+1+k)) (l best)
 self:best≠i→bef act (l best) (l i)
theorem Best.start {i:Nat} (hi:i<n):Best act n l i 0 i:=⟨hi,.inl rfl,fun k hk=>by omega,fun h=>absurd rfl h⟩
theorem Best.skip {i j best:Nat} (B:Best act n l i j best) (hs:¬ (2*i+1+j<n∧bef act (l (2*i+1+j)) (l best))):Best act n l i (j+1) best :=
 ⟨B.lt,by rcases B.who with h | h | h <;> omega,fun k hk hn=>by
  by_cases e:k=j
  · subst e; exact fun hb=>hs ⟨hn,hb⟩
  · exact B.none k (by omega) hn,B.self⟩
theorem Best.take {i j best:Nat} (B:Best act n l i j best) (hj:j<2) (h1:2*i+1+j<n) (hb:bef act (l (2*i+1+j)) (l best)):Best act n l i (j+1) (2*i+1+j) :=
 ⟨h1,by omega,fun k hk hn=>by
  by_cases e:k=j
  · subst e; exact bef_irr _ _
  · exact bef_nbef hb (B.none k (by omega) hn),fun _=>by
  by_cases e:best=i
  · rw [e] at hb; exact hb
  · exact bef_trans hb (B.self e)⟩
theorem sink_h (H:HeapAt h b kb lb pb vars n kc lc pc A act l pl) (W:Wf vars n l pl) (hact:Acts vars act) {x:Int} (s i:Nat) (hx:x=i) (hs:s≤i) (hi:i<n) (D:Down act n l s i) :
  CallsH Tryz.prog 225 [.pointer (some ⟨b,0,none⟩),.int .i64 x] h fun r h'=>r=.tuple #[] ∧
    ∃ l' pl',HeapAt h' b kb lb pb vars n kc lc pc A act l' pl'∧Wf vars n l' pl'∧OrdFrom act n l' s∧(∀ v,In n l' v↔In n l v)∧Fr (fun x=>x=lb∨x=pb) h h':=by
 subst hx
 refine calls_of 53 [] Go.Proofs.Tryz.func225 rfl rfl rfl ?_
 simp -implicitDefEqProofs (disch:=omega) [go_sem]
 refine scopeL 0 (fun ρ h'=>ρ 0=.pointer (some ⟨b,0,none⟩)∧∃ i l' pl',ρ 1=.int .i64 ((i:Nat):Int)∧s≤i∧i<n∧HeapAt h' b kb lb pb vars n kc lc pc A act l' pl'∧Wf vars n l' pl'∧Down act n l' s i∧(∀ v,In n l' v↔In n l v) ∧
   Fr (fun x=>x=lb∨x=pb) h h') (fun ρ _=>n-(intOf (ρ 1)).toNat) (by kernel_rfl) ?_ ?_
 · exact ⟨rfl,i,l,pl,rfl,hs,hi,H,W,D,fun _=>Iff.rfl,Fr.refl _ _⟩
 · rintro ρ h' ⟨r0,i,l',pl',r1,hs,hi,H,W,D,hin,hfr⟩
   have hb1:=H.hv
   have hb2:=H.hn
   have h1:=H.s1
   rw [H.hA (by omega)] at h1
   simp -implicitDefEqProofs (disch:=omega) [go_sem,r0,r1]
   refine loopK (fun ρ' h2=>h2=h'∧ρ' 0=.pointer (some ⟨b,0,none⟩)∧ρ' 1=.int .i64 (i:Int)∧ρ' 14=.agg #[.int .i64 (2*(i:Int)+1),.int .i64 (2*(i:Int)+2)] ∧
     ∃ j best:Nat,ρ' 15=.int .i64 j∧ρ' 4=.int .i64 best∧j≤2∧Best act n l' i j best) (fun ρ' _=>2-(intOf (ρ' 15)).toNat) (by kernel_rfl) ?_ ?_
   · exact ⟨rfl,r0,r1,rfl,0,i,rfl,rfl,by omega,Best.start hi⟩
   · rintro ρ' _ ⟨rfl,q0,q1,q14,j,best,q15,q4,hj,B⟩
     have hbn:=B.lt
     by_cases hj2:j=2
     · subst hj2
       have hbest:∀ k,0<k→k<n→(k-1) / 2=i→¬ bef act (l' k) (l' best):=by
         intro k k0 kn ke
         have:=B.none (k-(2*i+1)) (by omega) (by omega)
         rwa [show 2*i+1+(k-(2*i+1))=k by omega] at this
       by_cases hbi:best=i
       · subst hbi
         simp -implicitDefEqProofs (disch:=omega) [go_sem,q0,q1,q14,q15,q4]
         exact ⟨l',pl',H,W,D.done hbest,hin,hfr⟩
       · have hq:¬ ((best:Int)=i):=by omega
         simp -implicitDefEqProofs (disch:=omega) [go_sem,q0,q1,q14,q15,q4,hq]
         refine useC (swap_h H W i best rfl rfl hi B.lt) ?_
         rintro _ h2 ⟨rfl,H2,hfr2⟩
         simp -implicitDefEqProofs (disch:=omega) [go_sem,r0,r1,q0,q1,q4]
         have hw:=B.who
         exact ⟨⟨best,rfl,by omega,B.lt,_,_,H2,W.swap hi B.lt,D.step hs (by omega) B.lt (by omega) (B.self hbi) hbest,fun v=>(In.swap hi B.lt).trans (hin v),hfr.trans hfr2⟩,by omega⟩
     · obtain ⟨k,hk⟩:∃ k,k=2*i+1+j:=⟨_,rfl⟩
       have hat:∀ p,([Value.int .i64 (2*(i:Int)+1),Value.int .i64 (2*(i:Int)+2)]:List Value)[j]'p=Value.int .i64 (k:Int):=by
         intro p
         rcases (by omega:j=0∨j=1) with rfl | rfl
         · simp [hk]
         · simp [hk]; omega
       have hj3:(j:Int)<2:=by omega
       have hj4:j<2:=by omega
       by_cases hkn:k<n
       · have hkn':(k:Int)<n:=by omega
         have c1:=H.cl k hkn
         have c2:=H.cl best hbn
         by_cases hbf:bef act (l' k) (l' best)
         · simp -implicitDefEqProofs (disch:=omega) [go_sem,q0,q1,q14,q15,q4,hj3,hat]
           refine drawK [(0,0),(1,0),(2,0),(3,0),(4,1),(5,0),(6,0),(7,0),(8,0),(9,0),(10,0),(11,0),(12,1),(13,0),(14,0),(15,1),(16,0),(17,0),(18,0),(19,1),(20,0),(21,0),(22,1),(23,3),(24,0)] ?_
           simp -implicitDefEqProofs (disch:=omega) [go_sem,q0,q1,q14,q15,q4,hkn,hkn',h1,c1,c2]
           refine useC (ahead_h H hact (l' k) (l' best) rfl rfl (W.high _ hkn) (W.high _ hbn)) ?_
           rintro _ _ ⟨rfl,rfl⟩
           simp -implicitDefEqProofs (disch:=omega) [go_sem,q0,q1,q14,q15,q4,hbf]
           exact ⟨⟨j+1,by omega,k,rfl,by omega,hk ▸ B.take hj4 (hk ▸ hkn) (hk ▸ hbf)⟩,by omega⟩
         · simp -implicitDefEqProofs (disch:=omega) [go_sem,q0,q1,q14,q15,q4,hj3,hat]
           refine drawK [(0,0),(1,0),(2,0),(3,0),(4,1),(5,0),(6,0),(7,0),(8,0),(9,0),(10,0),(11,0),(12,1),(13,0),(14,0),(15,1),(16,0),(17,0),(18,0),(19,1),(20,0),(21,0),(22,1),(23,3),(24,0)] ?_
           simp -implicitDefEqProofs (disch:=omega) [go_sem,q0,q1,q14,q15,q4,hkn,hkn',h1,c1,c2]
           refine useC (ahead_h H hact (l' k) (l' best) rfl rfl (W.high _ hkn) (W.high _ hbn)) ?_
           rintro _ _ ⟨rfl,rfl⟩
           simp -implicitDefEqProofs (disch:=omega) [go_sem,q0,q1,q14,q15,q4,hbf]
           exact ⟨⟨j+1,by omega,best,rfl,by omega,B.skip (fun e=>hbf (hk ▸ e.2))⟩,by omega⟩
       · have hkn':¬ (k:Int)<n:=by omega
         simp -implicitDefEqProofs (disch:=omega) [go_sem,q0,q1,q14,q15,q4,hj3,hat]
         refine drawK [(0,0),(1,0),(2,0),(3,0),(4,1),(5,0),(6,0),(7,0),(8,0),(9,0),(10,0),(11,0),(12,1),(13,0),(14,0),(15,1),(16,0),(17,0),(18,0),(19,1),(20,0),(21,0),(22,1),(23,3),(24,0)] ?_
         simp -implicitDefEqProofs (disch:=omega) [go_sem,q0,q1,q14,q15,q4,hkn,hkn',h1]
         exact ⟨⟨j+1,by omega,best,rfl,by omega,B.skip (fun e=>hkn (hk ▸ e.1))⟩,by omega⟩
end
end Xe.Hq
namespace Xe.Hq
open Go Hp Go.Proofs
set_option maxRecDepth 16000
section
variable {h:Heap} {b kb lb pb vars n kc lc pc:Nat} {A:Option Addr} {act:Nat→Int} {l:Nat→Nat} {pl:Nat→Int}
theorem half_h (H:HeapAt h b kb lb pb vars n kc lc pc A act l pl) (hact:Acts vars act) {x:Int} (v:Nat) (hx:x=v) (hv:v≤vars) :
  CallsH Tryz.prog 224 [.pointer (some ⟨b,0,none⟩),.int .i64 x] h fun r h'=>r=.int .i64 (act v / 2)∧h'=h:=by
 have h0:=H.s0
 have c:=H.ck v hv
 have hf:=hact v hv
 subst hx
 refine calls_of 15 [.tmp 4] Go.Proofs.Tryz.func224 rfl rfl rfl ?_
 simp -implicitDefEqProofs (disch:=omega) [go_sem,h0,c]
def tieN (act:Nat→Int) (l:Nat→Nat) (m:Nat):Nat:=((List.range m).filter fun i=>decide (act (l i)=act (l 0))).length
theorem tieN_succ (act:Nat→Int) (l:Nat→Nat) (m:Nat):tieN act l (m+1)=tieN act l m+if act (l m)=act (l 0) then 1 else 0:=by
 unfold tieN
 rw [List.range_succ,List.filter_append,List.length_append]
 by_cases h:act (l m)=act (l 0) <;> simp [h]
theorem tieN_le (act:Nat→Int) (l:Nat→Nat) (m:Nat):tieN act l m≤m:=by
 induction m with
 | zero=>exact Nat.le_refl _
 | succ m ih=>rw [tieN_succ]; split <;> omega
theorem ties_h (H:HeapAt h b kb lb pb vars n kc lc pc A act l pl) (W:Wf vars n l pl) (hact:Acts vars act) :
  CallsH Tryz.prog 232 [.pointer (some ⟨b,0,none⟩)] h fun r h'=>r=.int .i64 (tieN act l n:Nat)∧h'=h:=by
 have h0:=H.s0
 have h1:=H.s1
 refine calls_of 41 [.tmp 2] Go.Proofs.Tryz.func232 rfl rfl rfl ?_
 simp -implicitDefEqProofs (disch:=omega) [go_sem,h1]
 refine loopK (fun ρ h'=>h'=h∧ρ 0=.pointer (some ⟨b,0,none⟩)∧ρ 9=.slice A n lc∧ρ 10=.int .i64 n∧∃ i:Nat,ρ 11=.int .i64 i∧i≤n∧ρ 3=.int .i64 (tieN act l i)) (fun ρ _=>n-(intOf (ρ 11)).toNat) (by kernel_rfl) ?_ ?_
 · exact ⟨rfl,rfl,rfl,rfl,0,rfl,by omega,rfl⟩
 · rintro ρ _ ⟨rfl,r0,r9,r10,i,r11,hi,r3⟩
   by_cases hin:i=n
   · subst hin
     simp -implicitDefEqProofs (disch:=omega) [go_sem,r0,r9,r10,r11,r3]
   · have hin':(i:Int)<n:=by omega
     have hA:=H.hA (by omega)
     subst hA
     have c1:=H.cl i (by omega)
     have c2:=H.cl 0 (by omega)
     have w1:=W.high i (by omega)
     have w2:=W.high 0 (by omega)
     have k1:=H.ck _ w1
     have k2:=H.ck _ w2
     have f1:=hact _ w1
     have f2:=hact _ w2
     have hv:=H.hv
     have hn:=H.hn
     have ht:=tieN_le act l i
     by_cases he:act (l i)=act (l 0)
     · simp -implicitDefEqProofs (disch:=omega) [go_sem,r0,r9,r10,r11,r3,hin',c1]
       refine drawK [(0,0),(1,0),(2,0),(3,1),(4,0),(5,0),(6,1),(7,0),(8,0),(9,0),(10,0),(11,1),(12,0),(13,0),(14,0),(15,1),(16,0),(17,1),(18,0),(19,1),(20,0),(21,0)] ?_
       simp -implicitDefEqProofs (disch:=omega) [go_sem,r0,r9,r10,r11,r3,h0,h1,c1,c2,k1,k2,he]
       exact ⟨⟨i+1,by omega,by omega,by rw [tieN_succ,if_pos he]; omega⟩,by omega⟩
     · simp -implicitDefEqProofs (disch:=omega) [go_sem,r0,r9,r10,r11,r3,hin',c1]
       refine drawK [(0,0),(1,0),(2,0),(3,1),(4,0),(5,0),(6,1),(7,0),(8,0),(9,0),(10,0),(11,1),(12,0),(13,0),(14,0),(15,1),(16,0),(17,1),(18,0),(19,1),(20,0),(21,0)] ?_
       simp -implicitDefEqProofs (disch:=omega) [go_sem,r0,r9,r10,r11,r3,h0,h1,c1,c2,k1,k2,he]
       exact ⟨⟨i+1,by omega,by omega,by rw [tieN_succ,if_neg he]; omega⟩,by omega⟩
theorem HeapAt.less (H:HeapAt h b kb lb pb vars (n+1) kc lc pc A act l pl):HeapAt (hset h ⟨b,1,none⟩ (.slice A n lc)) b kb lb pb vars n kc lc pc A act l pl where
 s0:=by rw [hcell_hset,if_neg (fun e=>absurd e.2 (by decide))]; exact H.s0
 s1:=by rw [hcell_hset,if_pos ⟨rfl,rfl⟩,H.s1]; rfl
 s2:=by rw [hcell_hset,if_neg (fun e=>absurd e.2 (by decide))]; exact H.s2
 ck v hv:=by rw [hcell_hset,if_neg (fun e=>H.bk e.1.symm)]; exact H.ck v hv
 cl i hi:=by rw [hcell_hset,if_neg (fun e=>H.bl e.1.symm)]; exact H.cl i (by omega)
 cp v hv:=by rw [hcell_hset,if_neg (fun e=>H.bp e.1.symm)]; exact H.cp v hv
 lr i hi:=by rw [hcell_hset,if_neg (fun e=>H.bl e.1.symm)]; exact H.lr i hi
 fb o:=by rw [hfrz_hset]; exact H.fb o
 fk o:=by rw [hfrz_hset]; exact H.fk o
 fl o:=by rw [hfrz_hset]; exact H.fl o
 fp o:=by rw [hfrz_hset]; exact H.fp o
 bk:=H.bk
 bl:=H.bl
 bp:=H.bp
 kl:=H.kl
 kp:=H.kp
 lp:=H.lp
 ll e:=by rw [hset_size]; exact H.ll e
 hA0:=H.hA0
 hnc:=by have:=H.hnc; omega
 hv:=H.hv
 hn:=by have:=H.hn; omega
def HB (b kb lb pb:Nat) (x:Nat):Prop:=x=b∨x=kb∨x=lb∨x=pb
theorem take_h (H:HeapAt h b kb lb pb vars (n+1) kc lc pc A act l pl) (W:Wf vars (n+1) l pl) (hact:Acts vars act) (O:Ord act (n+1) l) :
  CallsH Tryz.prog 233 [.pointer (some ⟨b,0,none⟩),.int .i64 0] h fun r h'=>r=.int .i64 (l 0) ∧
    ∃ l' pl',HeapAt h' b kb lb pb vars n kc lc pc A act l' pl'∧Wf vars n l' pl'∧Ord act n l'∧(∀ v,In n l' v↔In (n+1) l v∧v≠l 0)∧Fr (HB b kb lb pb) h h':=by
 have h1:=H.s1
 have hA:=H.hA (by omega)
 subst hA
 have c0:=H.cl 0 (by omega)
 have hv:=H.hv
 have hn:=H.hn
 have hnc:=H.hnc
 refine calls_of 49 [.tmp 4] Go.Proofs.Tryz.func233 rfl rfl rfl ?_
 simp -implicitDefEqProofs (disch:=omega) [go_sem]
 refine drawK [(0,0),(1,0),(2,0),(3,1),(4,0),(5,0),(6,1),(7,0),(8,0),(9,0),(10,1),(11,0),(12,0),(13,0),(14,0)] ?_
 simp -implicitDefEqProofs (disch:=omega) [go_sem,h1,c0]
 refine useC (swap_h H W 0 n rfl rfl (by omega) (by omega)) ?_
 rintro _ h2 ⟨rfl,H2,hfr2⟩
 have W2:=W.swap (i:=0) (k:=n) (by omega) (by omega)
 have q1:=H2.s1
 have q2:=H2.s2
 have hl0:l 0=swapL l 0 n n:=by rw [swapL_at,if_pos rfl]
 have hlv:=W.high 0 (by omega)
 have hlv':(l 0:Int)≤vars:=by omega
 have p0:=H2.cp (l 0) hlv
 have g1:=H2.fb
 have g2:=H2.fp
 have H3:=(H2.less).setP hlv (-1)
 have W3:=W2.drop
 rw [← hl0] at W3
 have hfr3:Fr (HB b kb lb pb) h (hset (hset h2 ⟨b,1,none⟩ (.slice (some ⟨lb,0,none⟩) n lc)) ⟨pb,l 0,none⟩ (.int .i64 (-1))) :=
   ((hfr2.mono (fun x _ hx=>by unfold HB; omega)).set (.inl rfl)).set (.inr (.inr (.inr rfl)))
 have hin3:∀ v,In n (swapL l 0 n) v↔In (n+1) l v∧v≠l 0:=fun v=>by
   have e:=In.drop W2 v
   rw [← hl0] at e
   have e2:In (n+1) (swapL l 0 n) v↔In (n+1) l v:=In.swap (by omega) (by omega)
   exact e.trans ⟨fun h=>⟨e2.1 h.1,h.2⟩,fun h=>⟨e2.2 h.1,h.2⟩⟩
 by_cases h0:0<n
 · simp -implicitDefEqProofs (disch:=omega) [go_sem]
   refine drawK [(0,0),(1,0),(2,0),(3,0),(4,1),(5,0),(6,0),(7,0),(8,0),(9,1),(10,0),(11,0),(12,0),(13,0),(14,3),(15,0),(16,3)] ?_
   simp -implicitDefEqProofs (disch:=omega) [go_sem,q1,q2,p0,g1,g2,H.bp,Ne.symm H.bp,h0]
   refine useC (sink_h H3 W3 hact 0 0 rfl (by omega) h0 O.take) ?_
   rintro _ h4 ⟨rfl,l4,pl4,H4,W4,O4,hin4,hfr4⟩
   simp -implicitDefEqProofs (disch:=omega) [go_sem]
   refine useC (rise_h H4 W4 hact 0 rfl h0 (Up.of_ord (OrdFrom.zero.1 O4) 0 h0)) ?_
   rintro _ h5 ⟨rfl,l5,pl5,H5,W5,O5,hin5,hfr5⟩
   simp -implicitDefEqProofs (disch:=omega) [go_sem]
   exact ⟨l5,pl5,H5,W5,O5,fun v=>(hin5 v).trans ((hin4 v).trans (hin3 v)),(hfr3.trans (hfr4.mono fun x _ hx=>by unfold HB; omega)).trans (hfr5.mono fun x _ hx=>by unfold HB; omega)⟩
 · have hn0:n=0:=by omega
   simp -implicitDefEqProofs (disch:=omega) [go_sem]
   refine drawK [(0,0),(1,0),(2,0),(3,0),(4,1),(5,0),(6,0),(7,0),(8,0),(9,1),(10,0),(11,0),(12,0),(13,0),(14,3),(15,0),(16,3)] ?_
   simp -implicitDefEqProofs (disch:=omega) [go_sem,q1,q2,p0,g1,g2,H.bp,Ne.symm H.bp,h0]
   exact ⟨_,_,H3,W3,fun j j0 jn=>by omega,hin3,hfr3⟩
theorem nodup_le:∀ {a b:List Nat},a.Nodup→(∀ x,x∈a→x∈b)→a.length≤b.length
 | [],_,_,_=>Nat.zero_le _
 | y::a,b,hn,hs=>by
   have hy:=hs y (List.mem_cons_self ..)
   rw [List.nodup_cons] at hn
   have:=nodup_le (a:=a) (b:=b.erase y) hn.2 (fun x hx=>(List.mem_erase_of_ne (fun e=>hn.1 (by rw [← e]; exact hx))).2 (hs x (List.mem_cons_of_mem _ hx)))
   rw [List.length_erase_of_mem hy] at this
   have:=List.length_pos_of_mem hy
   simp only [List.length_cons]; omega
theorem nodup_map {f:Nat→Nat}:∀ {a:List Nat},a.Nodup→(∀ x,x∈a→∀ y,y∈a→f x=f y→x=y)→(a.map f).Nodup
 | [],_,_=>List.nodup_nil
 | x::a,hn,hi=>by
   rw [List.nodup_cons] at hn
   rw [List.map_cons,List.nodup_cons]
   refine ⟨fun hm=>?_,nodup_map hn.2 fun y hy z hz=>hi y (List.mem_cons_of_mem _ hy) z (List.mem_cons_of_mem _ hz)⟩
   obtain ⟨y,hy,e⟩:=List.mem_map.1 hm
   have:=hi y (List.mem_cons_of_mem _ hy) x (List.mem_cons_self ..) e
   exact hn.1 (this ▸ hy)
theorem Wf_le (W:Wf vars n l pl):n≤vars:=by
 have:=nodup_le (a:=(List.range n).map l) (b:=List.range' 1 vars) (nodup_map List.nodup_range fun x hx y hy e=>W.inj (List.mem_range.1 hx) (List.mem_range.1 hy) e)
  (fun x hx=>by
   obtain ⟨i,hi,rfl⟩:=List.mem_map.1 hx
   have h1:=W.low i (List.mem_range.1 hi)
   have h2:=W.high i (List.mem_range.1 hi)
   exact List.mem_range'_1.2 ⟨h1,by omega⟩)
 simpa using this
def intsH (l:Nat→Nat) (n:Nat):List Value:=(List.range n).map fun i=>.int .i64 (l i)
theorem intsH_len:(intsH l n).length=n:=by simp [intsH]
theorem intsH_at {i:Nat} (hi:i<n):(intsH l n)[i]?=some (.int .i64 (l i)):=by simp [intsH,hi]
theorem intsH_put (v:Nat):intsH l n++[.int .i64 (v:Int)]=intsH (upd l n v) (n+1):=by
 unfold intsH
 rw [List.range_succ,List.map_append,List.map_singleton,upd_same]
 congr 1
 apply List.map_congr_left
 intro i hi
 rw [upd_other _ _ (by have:=List.mem_range.1 hi; omega)]
theorem HeapAt.sl (H:HeapAt h b kb lb pb vars n kc lc pc A act l pl):SlAt h A lc (intsH l n):=by
 refine ⟨by rw [intsH_len]; exact H.hnc,?_⟩
 rcases H.hA0 with h1 | h1
 · exact .inl h1
 · by_cases hl:0<lc
   · have h0:=H.lr 0 hl
     obtain ⟨u,hu⟩:=Option.isSome_iff_exists.1 h0
     exact .inr ⟨lb,h1,hcell_lt hu,H.fl,H.lr,fun i v hv=>by
      have hi:=(List.getElem?_eq_some_iff.1 hv).1
      rw [intsH_len] at hi
      rw [intsH_at hi] at hv
      cases hv; exact H.cl i hi⟩
   · exact .inr ⟨lb,h1,H.ll h1,H.fl,H.lr,fun i v hv=>by
      have hi:=(List.getElem?_eq_some_iff.1 hv).1
      rw [intsH_len] at hi
      have:=H.hnc
      omega⟩
theorem HeapAt.blkA (H:HeapAt h b kb lb pb vars n kc lc pc A act l pl):¬ blk A b∧¬ blk A kb∧¬ blk A pb:=by
 have h1:=H.bl
 have h2:=H.kl
 have h3:=H.lp
 rcases H.hA0 with ⟨rfl,_⟩ | rfl
 · exact ⟨fun ⟨a,h,_⟩=>(nomatch h),fun ⟨a,h,_⟩=>(nomatch h),fun ⟨a,h,_⟩=>(nomatch h)⟩
 · exact ⟨fun ⟨a,h,e⟩=>by cases h; exact h1 e.symm,fun ⟨a,h,e⟩=>by cases h; exact h2 e.symm,fun ⟨a,h,e⟩=>by cases h; exact h3 e⟩
theorem HeapAt.lts (H:HeapAt h b kb lb pb vars n kc lc pc A act l pl):b<h.size∧kb<h.size∧pb<h.size :=
 ⟨hcell_lt H.s0,hcell_lt (H.ck 0 (by omega)),hcell_lt (H.cp 0 (by omega))⟩
theorem HeapAt.grow (H:HeapAt h b kb lb pb vars n kc lc pc A act l pl) {h':Heap} {A':Option Addr} {lc' v:Nat} (S:SlAt h' A' lc' (intsH (upd l n v) (n+1)))
  (hfr:Fr (blk A) h h') (hA:∀ x,blk A' x→blk A x∨h.size≤x) (hn:n+1≤vars) :
  ∃ lb',HeapAt (hset h' ⟨b,1,none⟩ (.slice A' (n+1:Nat) lc')) b kb lb' pb vars (n+1) kc lc' pc A' act (upd l n v) pl:=by
 obtain ⟨nb,nk,np⟩:=H.blkA
 obtain ⟨tb,tk,tp⟩:=H.lts
 rcases S.at' with ⟨_,h2⟩ | ⟨bk,rfl,h2,h3,h4,h5⟩
 · have:=S.len; rw [intsH_len] at this; omega
 have hbk:=hA bk ⟨_,rfl,rfl⟩
 have eb:b≠bk:=fun e=>by subst e; rcases hbk with h | h; exact nb h; omega
 have ek:kb≠bk:=fun e=>by subst e; rcases hbk with h | h; exact nk h; omega
 have ep:bk≠pb:=fun e=>by subst e; rcases hbk with h | h; exact np h; omega
 refine ⟨bk,?_⟩
 exact {
  s0:=by rw [hcell_hset,if_neg (fun e=>absurd e.2 (by decide)),hfr.cell tb nb]; exact H.s0
  s1:=by rw [hcell_hset,if_pos ⟨rfl,rfl⟩,hfr.cell tb nb,H.s1]; rfl
  s2:=by rw [hcell_hset,if_neg (fun e=>absurd e.2 (by decide)),hfr.cell tb nb]; exact H.s2
  ck:=fun v hv=>by rw [hcell_hset,if_neg (fun e=>H.bk e.1.symm),hfr.cell tk nk]; exact H.ck v hv
  cl:=fun i hi=>by rw [hcell_hset,if_neg (fun e=>eb e.1.symm)]; exact h5 i _ (intsH_at hi)
  cp:=fun v hv=>by rw [hcell_hset,if_neg (fun e=>H.bp e.1.symm),hfr.cell tp np]; exact H.cp v hv
  lr:=fun i hi=>by rw [hcell_hset,if_neg (fun e=>eb e.1.symm)]; exact h4 i hi
  ll:=fun _=>by rw [hset_size]; exact h2
  fb:=fun o=>by rw [hfrz_hset,hfr.frz tb nb]; exact H.fb o
  fk:=fun o=>by rw [hfrz_hset,hfr.frz tk nk]; exact H.fk o
  fl:=fun o=>by rw [hfrz_hset]; exact h3 o
  fp:=fun o=>by rw [hfrz_hset,hfr.frz tp np]; exact H.fp o
  bk:=H.bk
  bl:=eb
  bp:=H.bp
  kl:=ek
  kp:=H.kp
  lp:=ep
  hA0:=.inr rfl
  hnc:=by have:=S.len; rwa [intsH_len] at this
  hv:=H.hv
  hn:=hn }
theorem put_h (H:HeapAt h b kb lb pb vars n kc lc pc A act l pl) (W:Wf vars n l pl) (hact:Acts vars act) (O:Ord act n l) (x:Int) :
  CallsH Tryz.prog 132 [.pointer (some ⟨b,0,none⟩),.int .i64 x] h fun r h'=>
    (∃ v:Nat,x=v∧r=.bool true∧1≤v∧v≤vars∧¬ In n l v∧∃ lb' lc' A' l' pl',HeapAt h' b kb lb' pb vars (n+1) kc lc' pc A' act l' pl'∧Wf vars (n+1) l' pl'∧Ord act (n+1) l'∧(∀ u,In (n+1) l' u↔In n l u∨u=v) ∧
       Fr (fun x=>x=b∨x=pb∨blk A x) h h'∧(∀ x,blk A' x→blk A x∨h.size≤x)) ∨
    ((¬ (1≤x∧x≤vars)∨In n l x.toNat)∧r=.bool false∧h'=h):=by
 have h1:=H.s1
 have hc2:=H.s2
 refine calls_of 50 [.tmp 4] Go.Proofs.Tryz.func132 rfl rfl rfl ?_
 simp -implicitDefEqProofs (disch:=omega) [go_sem]
 refine useC (there_h H x) ?_
 rintro _ h ⟨rfl,rfl⟩
 by_cases hv:1≤x∧x≤vars
 · obtain ⟨v,rfl⟩:∃ v:Nat,x=v:=⟨x.toNat,by omega⟩
   have c:=H.cp v (by omega)
   have hv1:(1:Int)≤v:=by omega
   have hv2:v≤vars:=by omega
   by_cases hp:0≤pl v
   · simp -implicitDefEqProofs (disch:=omega) [go_sem,h1,hc2,c,hv1,hv2,hp]
     exact (W.in_iff (by omega) (by omega)).2 hp
   · simp -implicitDefEqProofs (disch:=omega) [go_sem,h1,hc2,c,hv1,hv2,hp]
     have hpv:pl v=-1:=by
       rcases W.fore v (by omega) hv2 with h | ⟨i,_,h,_⟩ <;> omega
     have hW:=W.put (by omega) hv2 hpv
     have hle:=Wf_le hW
     have hHv:=H.hv
     obtain ⟨nb,nk,np⟩:=H.blkA
     obtain ⟨tb,tk,tp⟩:=H.lts
     have S0:=H.sl
     have S1:=S0.keep (h':=Array.push _ (.cells #[.int .i64 (v:Int)] 3 (0,0))) (fun x hx=>push_old (S0.blk_lt hx)) (by rw [push_size]; omega)
     refine build1 rfl rfl ?_
     simp -implicitDefEqProofs (disch:=omega) [go_sem]
     refine append1 (v:=.int .i64 (v:Int)) S1 intsH_len.symm (by rw [hcell_push_new]; rfl) rfl (by omega) (by omega) ?_
     intro A' lc' h2 S2 hfr2 hA2
     rw [intsH_put] at S2
     have hfr1:=((Fr.refl (blk A) _).push (X:=.cells #[.int .i64 (v:Int)] 3 (0,0))).trans hfr2
     obtain ⟨lb',H3⟩:=H.grow S2 hfr1 (fun x hx=>(hA2 x hx).imp id (fun h=>by rw [push_size] at h; omega)) hle
     have H4:=H3.setP hv2 n
     have g1:∀ o,hcell h2 ⟨b,o,none⟩=hcell _ ⟨b,o,none⟩:=fun o=>hfr1.cell tb nb
     have g2:∀ o,hfrz h2 ⟨b,o,none⟩=hfrz _ ⟨b,o,none⟩:=fun o=>hfr1.frz tb nb
     have g3:∀ o,hcell h2 ⟨pb,o,none⟩=hcell _ ⟨pb,o,none⟩:=fun o=>hfr1.cell tp np
     have g4:∀ o,hfrz h2 ⟨pb,o,none⟩=hfrz _ ⟨pb,o,none⟩:=fun o=>hfr1.frz tp np
     simp -implicitDefEqProofs (disch:=omega) [go_sem,g1,g2,H.fb,h1]
     refine drawK [(0,0),(1,0),(2,0),(3,1),(4,0),(5,0),(6,0),(7,0),(8,1),(9,0),(10,0),(11,0),(12,3)] ?_
     simp -implicitDefEqProofs (disch:=omega) [go_sem,g1,g2,g3,g4,H.fb,H.fp,h1,hc2,c,H.bp,Ne.symm H.bp]
     refine useC (rise_h H4 hW hact n rfl (by omega) (O.put v)) ?_
     rintro _ h5 ⟨rfl,l5,pl5,H5,W5,O5,hin5,hfr5⟩
     simp -implicitDefEqProofs (disch:=omega) [go_sem]
     have hb:∀ x,x<h.size→(x=lb'∨x=pb)→(x=b∨x=pb∨blk A x):=fun x hx hh=>by
       rcases hh with rfl | rfl
       · have hA:=H3.hA (by omega)
         rcases hA2 x ⟨_,hA,rfl⟩ with h | h
         · exact .inr (.inr h)
         · rw [push_size] at h; omega
       · exact .inr (.inl rfl)
     refine ⟨v,rfl,by omega,hv2,fun hi=>hp ((W.in_iff (by omega) hv2).1 hi),lb',lc',A',l5,pl5,H5,W5,O5,fun u=>(hin5 u).trans (In.put u),?_,fun x hx=>(hA2 x hx).imp id (fun h=>by rw [push_size] at h; omega)⟩
     exact ((((hfr1.mono (fun x _ hx=>.inr (.inr hx))).set (.inl rfl)).set (.inr (.inl rfl))).trans' hfr5 hb)
 · simp -implicitDefEqProofs (disch:=omega) [go_sem,hv]
end
end Xe.Hq
