/- Package cdcl: a core's memory. -/
import Derived.Test.YtkghjecglmmloaaGreatBG
import Derived.Test.YtkghjecglmmloaaGreatHp6
import Derived.Test.YtkghjecglmmloaaGreatL20
namespace Xe
open Go Tp Go.Proofs Hq
set_option maxRecDepth 16000
inductive CT
 | base | heap | core | lrn | log | row
theorem recoC {α:Type} {c:Nat→Option α} {sz:Nat} (N:Nat→Prop) (t:α) (hN:∀ x,N x→c x=some t∨sz≤x) (low:∀ x u,c x=some u→x<sz) :
   ∃ c':Nat→Option α,(∀ x,N x→c' x=some t)∧(∀ x u,c x=some u→c' x=some u)∧(∀ x u,c' x=some u→c x=some u∨(N x∧sz≤x)):=by
 classical
 refine ⟨fun x=>if N x then some t else c x,fun x hx=>if_pos hx,fun x u hx=>?_,fun x u hx=>?_⟩
 · by_cases h:N x
   · rcases hN x h with h1 | h1
     · simp only [if_pos h]; rw [← h1,hx]
     · have:=low x u hx; omega
   · simp only [if_neg h]; exact hx
 · by_cases h:N x
   · rcases hN x h with h1 | h1
     · simp only [if_pos h] at hx; exact .inl (h1.trans hx)
     · exact .inr ⟨h,h1⟩
   · simp only [if_neg h] at hx; exact .inl hx
structure CSt where
 s:WS
 S:Nat→Prop
 ln:List Nat
 lg:List (List Int × Bool)
 st:Nat
structure LogR (h:Heap) (k:Nat→Option CT) (lg:List (List Int × Bool)) (vs:List Value):Prop where
 len:vs.length=lg.length*2
 one:∀ w∈vs,w.oneCell'=true
 at':∀ (i:Nat) c g,lg[i]?=some (c,g)→∃ A d,vs[i*2]?=some (.slice A c.length d)∧vs[i*2+1]?=some (.bool g)∧RowAt h A (ints c)∧∀ y,blk A y→k y=some .row
structure CoreB (h:Heap) (cb:Nat) (k:Nat→Option CT) (c:CSt) (bb hb:Nat) (p:BP) (O:Nat→Prop) (n:Nat) (act:Nat→Int) (LA:Option Addr) (lc:Nat) (GA:Option Addr) (gc:Nat) (vs:List Value):Prop where
 B:ListB h cb [.pointer (some ⟨bb,0,none⟩),.pointer (some ⟨hb,0,none⟩),.slice LA c.ln.length lc,.slice GA c.lg.length gc,.int .i64 (c.st:Int)]
 M:BaseM h bb p c.s
 H:HeapOk h hb O c.s.vars n act c.S
 L:SlAt h LA lc (ids c.ln)
 G:SlAt h GA (gc*2) vs
 R:LogR h k c.lg vs
 kB:∀ x t,p.c x=some t→k x=some .base
 kH:∀ x,O x→k x=some .heap
 kC:k cb=some .core
 kL:∀ x,blk LA x→k x=some .lrn
 kG:∀ x,blk GA x→k x=some .log
 low:∀ x t,k x=some t→x<h.size
structure CoreM (h:Heap) (cb:Nat) (k:Nat→Option CT) (c:CSt):Prop where
 ex:∃ bb hb p O n act LA lc GA gc vs,CoreB h cb k c bb hb p O n act LA lc GA gc vs
structure KSt (k k':Nat→Option CT) (h h':Heap):Prop where
 ext:∀ x t,k x=some t→k' x=some t
 own:∀ x t,k' x=some t→k x=some t∨h.size≤x
 fr:Fr (fun x=>k x≠none) h h'
section
variable {k k' k'':Nat→Option CT} {h h' h'':Heap}
theorem KSt.refl:KSt k k h h:=⟨fun _ _ h=>h,fun _ _ h=>.inl h,Fr.refl _ _⟩
theorem KSt.trans (a:KSt k k' h h') (b:KSt k' k'' h' h''):KSt k k'' h h'' where
 ext x t hx:=b.ext x t (a.ext x t hx)
 own x t hx:=(b.own x t hx).elim (a.own x t) fun h=>.inr (Nat.le_trans a.fr.size h)
 fr:=a.fr.trans' b.fr fun x hx hn=>by
  cases hc:k' x with
  | none=>exact absurd hc hn
  | some t=>exact (a.own x t hc).elim (fun h=>by rw [h]; exact fun h=>(nomatch h)) fun h=>by omega
theorem KSt.fr0 (f:Fr (fun _=>False) h h'):KSt k k h h':=⟨fun _ _ h=>h,fun _ _ h=>.inl h,f.mono fun _ _ h=>h.elim⟩
theorem KSt.free (a:KSt k k' h h') {x:Nat} (hx:k x=none) (hl:x<h.size):k' x=none:=by
 cases hc:k' x with
 | none=>rfl
 | some t=>exact (a.own x t hc).elim (fun h=>by rw [hx] at h; cases h) fun h=>by omega
theorem KSt.row (a:KSt k k' h h') {A:Option Addr} {vs:List Value} (R:RowAt h A vs) (hA:∀ y,blk A y→k y=none):RowAt h' A vs:=R.fr a.fr fun y hy h=>h (hA y hy)
theorem KSt.lb (a:KSt k k' h h') {b:Nat} {vs:List Value} (B:ListB h b vs) (hA:k b=none):ListB h' b vs:=B.fr a.fr fun h=>h hA
end
theorem LogR.fr {h:Heap} {k:Nat→Option CT} {lg:List (List Int × Bool)} {vs:List Value} (R:LogR h k lg vs) {S:Nat→Prop} {h':Heap} (f:Fr S h h') (hs:∀ x,S x→k x≠some .row) {k':Nat→Option CT} (ext:∀ x t,k x=some t→k' x=some t):LogR h' k' lg vs where
 len:=R.len
 one:=R.one
 at' i c g hi:=by
  obtain ⟨A,d,h1,h2,h3,h4⟩:=R.at' i c g hi
  exact ⟨A,d,h1,h2,h3.fr f fun x hx hsx=>hs x hsx (h4 x hx),fun y hy=>ext y _ (h4 y hy)⟩
section
variable {h:Heap} {cb:Nat} {k:Nat→Option CT} {c:CSt} {bb hb:Nat} {p:BP} {O:Nat→Prop} {n:Nat} {act:Nat→Int} {LA:Option Addr} {lc:Nat} {GA:Option Addr} {gc:Nat} {vs:List Value}
theorem CoreB.fr0 (C:CoreB h cb k c bb hb p O n act LA lc GA gc vs) {h':Heap} (f:Fr (fun _=>False) h h'):CoreB h' cb k c bb hb p O n act LA lc GA gc vs where
 B:=C.B.fr f fun h=>h
 M:=C.M.fr0 f
 H:=C.H.fr f fun _ _ h=>h
 L:=C.L.fr f fun _ _ h=>h
 G:=C.G.fr f fun _ _ h=>h
 R:=C.R.fr f (fun _ h=>h.elim) fun _ _ h=>h
 kB:=C.kB
 kH:=C.kH
 kC:=C.kC
 kL:=C.kL
 kG:=C.kG
 low x t hx:=Nat.lt_of_lt_of_le (C.low x t hx) f.size
theorem CoreM.fr0 (C:CoreM h cb k c) {h':Heap} (f:Fr (fun _=>False) h h'):CoreM h' cb k c:=by
 obtain ⟨bb,hb,p,O,n,act,LA,lc,GA,gc,vs,C⟩:=C.ex
 exact ⟨bb,hb,p,O,n,act,LA,lc,GA,gc,vs,C.fr0 f⟩
theorem CoreM.low (C:CoreM h cb k c):∀ x t,k x=some t→x<h.size:=by
 obtain ⟨bb,hb,p,O,n,act,LA,lc,GA,gc,vs,C⟩:=C.ex
 exact C.low
theorem CoreB.base (C:CoreB h cb k c bb hb p O n act LA lc GA gc vs) {h':Heap} {p':BP} {s':WS} (M':BaseM h' bb p' s') (st:Stp p p' h h') (hv:s'.vars=c.s.vars) :
  ∃ k',CoreB h' cb k' { c with s:=s' } bb hb p' O n act LA lc GA gc vs∧KSt k k' h h':=by
 obtain ⟨k',h1,h2,h3⟩:=recoC (c:=k) (sz:=h.size) (fun x=>p'.c x≠none) .base (fun x hx=>by
  cases hc:p'.c x with
  | none=>exact absurd hc hx
  | some t=>exact (st.own x t hc).imp_left fun h=>C.kB x t h) C.low
 have ne:∀ {x:Nat} {t:CT},k x=some t→t≠.base→¬ p.c x≠none:=fun {x t} hk ht hp=>by
  cases hc:p.c x with
  | none=>exact hp hc
  | some u=>have:=C.kB x u hc; rw [hk] at this; cases this; exact ht rfl
 refine ⟨k',{
  B:=C.B.fr st.fr (ne C.kC (fun h=>nomatch h))
  M:=M'
  H := by
    have:=C.H.fr st.fr fun x hx=>ne (C.kH x hx) (fun h=>nomatch h)
    rw [← hv] at this
    exact this
  L:=C.L.fr st.fr fun x hx=>ne (C.kL x hx) (fun h=>nomatch h)
  G:=C.G.fr st.fr fun x hx=>ne (C.kG x hx) (fun h=>nomatch h)
  R:=C.R.fr st.fr (fun x hx hr=>ne hr (fun h=>nomatch h) hx) h2
  kB:=fun x t hx=>h1 x (by rw [hx]; exact fun h=>nomatch h)
  kH:=fun x hx=>h2 x _ (C.kH x hx)
  kC:=h2 _ _ C.kC
  kL:=fun x hx=>h2 x _ (C.kL x hx)
  kG:=fun x hx=>h2 x _ (C.kG x hx)
  low:=fun x t hx=>by
    rcases h3 x t hx with h | ⟨h,_⟩
    · exact Nat.lt_of_lt_of_le (C.low x t h) st.fr.size
    · cases hc:p'.c x with
      | none=>exact absurd hc h
      | some u=>exact M'.low x u hc },h2,fun x t hx=>(h3 x t hx).imp_right fun h=>h.2,st.fr.mono fun x _ hx=>?_⟩
 cases hc:p.c x with
 | none=>exact absurd hc hx
 | some u=>rw [C.kB x u hc]; exact fun h=>nomatch h
theorem CoreB.heap (C:CoreB h cb k c bb hb p O n act LA lc GA gc vs) {h':Heap} {O':Nat→Prop} {n':Nat} {act':Nat→Int} {S':Nat→Prop} (H':HeapOk h' hb O' c.s.vars n' act' S') (nx:Nx O O' h h') :
  ∃ k',CoreB h' cb k' { c with S:=S' } bb hb p O' n' act' LA lc GA gc vs∧KSt k k' h h':=by
 obtain ⟨k',h1,h2,h3⟩:=recoC (c:=k) (sz:=h.size) O' .heap (fun x hx=>(nx.own x hx).imp_left (C.kH x)) C.low
 have ne:∀ {x:Nat} {t:CT},k x=some t→t≠.heap→¬ O x:=fun {x t} hk ht ho=>by
  have:=C.kH x ho; rw [hk] at this; cases this; exact ht rfl
 refine ⟨k',{
  B:=C.B.fr nx.fr (ne C.kC (fun h=>nomatch h))
  M := C.M.fr nx.fr fun x hx=>by
    cases hc:p.c x with
    | none=>rfl
    | some t=>exact absurd hx (ne (C.kB x t hc) (fun h=>nomatch h))
  H:=H'
  L:=C.L.fr nx.fr fun x hx=>ne (C.kL x hx) (fun h=>nomatch h)
  G:=C.G.fr nx.fr fun x hx=>ne (C.kG x hx) (fun h=>nomatch h)
  R:=C.R.fr nx.fr (fun x hx hr=>ne hr (fun h=>nomatch h) hx) h2
  kB:=fun x t hx=>h2 x _ (C.kB x t hx)
  kH:=h1
  kC:=h2 _ _ C.kC
  kL:=fun x hx=>h2 x _ (C.kL x hx)
  kG:=fun x hx=>h2 x _ (C.kG x hx)
  low:=fun x t hx=>by
    rcases h3 x t hx with h | ⟨h,_⟩
    · exact Nat.lt_of_lt_of_le (C.low x t h) nx.fr.size
    · exact H'.low x h },h2,fun x t hx=>(h3 x t hx).imp_right fun h=>h.2,nx.fr.mono fun x _ hx=>by rw [C.kH x hx]; exact fun h=>nomatch h⟩
theorem CoreB.steps (C:CoreB h cb k c bb hb p O n act LA lc GA gc vs) (st:Nat):CoreB (hset h ⟨cb,4,none⟩ (.int .i64 (st:Int))) cb k { c with st:=st } bb hb p O n act LA lc GA gc vs∧KSt k k h (hset h ⟨cb,4,none⟩ (.int .i64 (st:Int))):=by
 have f:Fr (fun x=>x=cb) h (hset h ⟨cb,4,none⟩ (.int .i64 (st:Int))):=(Fr.refl _ _).set rfl
 have ne:∀ {x:Nat} {t:CT},k x=some t→t≠.core→¬ x=cb:=fun {x t} hk ht e=>by
  subst e; have:=C.kC; rw [hk] at this; cases this; exact ht rfl
 refine ⟨{
  B := by
    have:=C.B.set (i:=4) (.int .i64 (st:Int)) (by simp)
    simpa using this
  M := C.M.fr f fun x hx=>by
    cases hc:p.c x with
    | none=>rfl
    | some t=>exact absurd hx (ne (C.kB x t hc) (fun h=>nomatch h))
  H:=C.H.fr f fun x hx=>ne (C.kH x hx) (fun h=>nomatch h)
  L:=C.L.fr f fun x hx=>ne (C.kL x hx) (fun h=>nomatch h)
  G:=C.G.fr f fun x hx=>ne (C.kG x hx) (fun h=>nomatch h)
  R:=C.R.fr f (fun x hx hr=>ne hr (fun h=>nomatch h) hx) fun _ _ h=>h
  kB:=C.kB
  kH:=C.kH
  kC:=C.kC
  kL:=C.kL
  kG:=C.kG
  low:=fun x t hx=>Nat.lt_of_lt_of_le (C.low x t hx) f.size },fun _ _ h=>h,fun _ _ h=>.inl h,f.mono fun x _ hx=>by rw [hx,C.kC]; exact fun h=>nomatch h⟩
theorem CoreB.lrn (C:CoreB h cb k c bb hb p O n act LA lc GA gc vs) {h2:Heap} {LA':Option Addr} {lc':Nat} {ln':List Nat} (f:Fr (blk LA) h h2) (S2:SlAt h2 LA' lc' (ids ln')) (hA:∀ y,blk LA' y→blk LA y∨h.size≤y) :
  ∃ k',CoreB (hset h2 ⟨cb,2,none⟩ (.slice LA' ln'.length lc')) cb k' { c with ln:=ln' } bb hb p O n act LA' lc' GA gc vs∧KSt k k' h (hset h2 ⟨cb,2,none⟩ (.slice LA' ln'.length lc')):=by
 obtain ⟨k',h1,h2',h3⟩:=recoC (c:=k) (sz:=h.size) (blk LA') .lrn (fun x hx=>(hA x hx).imp_left (C.kL x)) C.low
 have g:Fr (fun x=>k x=some .lrn∨x=cb) h (hset h2 ⟨cb,2,none⟩ (.slice LA' ln'.length lc')):=(f.mono fun x _ hx=>.inl (C.kL x hx)).set (.inr rfl)
 have ne:∀ {x:Nat} {t:CT},k x=some t→t≠.core→t≠.lrn→¬ (k x=some .lrn∨x=cb):=fun {x t} hk h1 h2 e=>by
  rcases e with e | e
  · rw [hk] at e; cases e; exact h2 rfl
  · subst e; have:=C.kC; rw [hk] at this; cases this; exact h1 rfl
 have ncb:∀ x,blk LA' x→x≠cb:=fun x hx e=>by
  subst e
  rcases hA _ hx with h | h
  · have:=C.kL _ h; rw [C.kC] at this; cases this
  · have:=C.low _ _ C.kC; omega
 refine ⟨k',{
  B := by
    have:=(C.B.fr f fun h=>by have:=C.kL _ h; rw [C.kC] at this; cases this).set (i:=2) (.slice LA' ln'.length lc') (by simp)
    simpa using this
  M := C.M.fr g fun x hx=>by
    cases hc:p.c x with
    | none=>rfl
    | some t=>exact absurd hx (ne (C.kB x t hc) (fun h=>nomatch h) (fun h=>nomatch h))
  H:=C.H.fr g fun x hx=>ne (C.kH x hx) (fun h=>nomatch h) (fun h=>nomatch h)
  L:=S2.keep (fun y hy=>hset_other (ncb y hy)) (by rw [hset_size]; exact Nat.le_refl _)
  G:=C.G.fr g fun x hx=>ne (C.kG x hx) (fun h=>nomatch h) (fun h=>nomatch h)
  R:=C.R.fr g (fun x hx hr=>ne hr (fun h=>nomatch h) (fun h=>nomatch h) hx) h2'
  kB:=fun x t hx=>h2' x _ (C.kB x t hx)
  kH:=fun x hx=>h2' x _ (C.kH x hx)
  kC:=h2' _ _ C.kC
  kL:=h1
  kG:=fun x hx=>h2' x _ (C.kG x hx)
  low:=fun x t hx=>by
    rcases h3 x t hx with h | ⟨h,_⟩
    · exact Nat.lt_of_lt_of_le (C.low x t h) g.size
    · rw [hset_size]; exact S2.blk_lt h },h2',fun x t hx=>(h3 x t hx).imp_right fun h=>h.2,g.mono fun x _ hx=>?_⟩
 rcases hx with hx | hx
 · rw [hx]; exact fun h=>nomatch h
 · rw [hx,C.kC]; exact fun h=>nomatch h
theorem CoreB.log (C:CoreB h cb k c bb hb p O n act LA lc GA gc vs) {h2:Heap} {GA' A:Option Addr} {gc' d:Nat} {cl:List Int} {g:Bool} (f:Fr (blk GA) h h2) (S2:SlAt h2 GA' (gc'*2) (vs++[.slice A cl.length d,.bool g])) (hA:∀ y,blk GA' y→blk GA y∨h.size≤y)
  (RA:RowAt h A (ints cl)) (hR:∀ y,blk A y→k y=none∧y<h.size) :
  ∃ k',CoreB (hset h2 ⟨cb,3,none⟩ (.slice GA' (c.lg.length+1) gc')) cb k' { c with lg:=c.lg++[(cl,g)] } bb hb p O n act LA lc GA' gc' (vs++[.slice A cl.length d,.bool g])∧(∀ x t,k x=some t→k' x=some t)∧(∀ x t,k' x=some t→k x=some t∨blk A x∨h.size≤x)∧Fr (fun x=>k x≠none) h (hset h2 ⟨cb,3,none⟩ (.slice GA' (c.lg.length+1) gc')):=by
 obtain ⟨k1,h1,h2',h3⟩:=recoC (c:=k) (sz:=h.size) (blk GA') .log (fun x hx=>(hA x hx).imp_left (C.kG x)) C.low
 classical
 obtain ⟨k',ek⟩:∃ k':Nat→Option CT,k'=fun x=>if blk A x then some .row else k1 x:=⟨_,rfl⟩
 have ext:∀ x t,k x=some t→k' x=some t:=fun x t hx=>by
  rw [ek]; simp only
  rw [if_neg fun h=>by have:=(hR x h).1; rw [hx] at this; cases this]
  exact h2' x t hx
 have own:∀ x t,k' x=some t→k x=some t∨blk A x∨h.size≤x:=fun x t hx=>by
  rw [ek] at hx; simp only at hx
  split at hx
  · exact .inr (.inl (by assumption))
  · exact (h3 x t hx).imp_right fun h=>.inr h.2
 have gf:Fr (fun x=>k x=some .log∨x=cb) h (hset h2 ⟨cb,3,none⟩ (.slice GA' (c.lg.length+1) gc')):=(f.mono fun x _ hx=>.inl (C.kG x hx)).set (.inr rfl)
 have ne:∀ {x:Nat} {t:CT},k x=some t→t≠.core→t≠.log→¬ (k x=some .log∨x=cb):=fun {x t} hk h1 h2 e=>by
  rcases e with e | e
  · rw [hk] at e; cases e; exact h2 rfl
  · subst e; have:=C.kC; rw [hk] at this; cases this; exact h1 rfl
 have ncb:∀ x,blk GA' x→x≠cb:=fun x hx e=>by
  subst e
  rcases hA _ hx with h | h
  · have:=C.kG _ h; rw [C.kC] at this; cases this
  · have:=C.low _ _ C.kC; omega
 have R1:=C.R.fr gf (fun x hx hr=>ne hr (fun h=>nomatch h) (fun h=>nomatch h) hx) ext
 refine ⟨k',{
  B := by
    have:=(C.B.fr f fun h=>by have:=C.kG _ h; rw [C.kC] at this; cases this).set (i:=3) (.slice GA' (c.lg.length+1) gc') (by simp)
    have e:(c.lg++[(cl,g)]).length=c.lg.length+1:=by rw [List.length_append]; rfl
    simp only [e]
    simpa using this
  M := C.M.fr gf fun x hx=>by
    cases hc:p.c x with
    | none=>rfl
    | some t=>exact absurd hx (ne (C.kB x t hc) (fun h=>nomatch h) (fun h=>nomatch h))
  H:=C.H.fr gf fun x hx=>ne (C.kH x hx) (fun h=>nomatch h) (fun h=>nomatch h)
  L:=C.L.fr gf fun x hx=>ne (C.kL x hx) (fun h=>nomatch h) (fun h=>nomatch h)
  G:=S2.keep (fun y hy=>hset_other (ncb y hy)) (by rw [hset_size]; exact Nat.le_refl _)
  R := {
    len:=by rw [List.length_append,List.length_append,R1.len]; simp only [List.length_cons,List.length_nil]; omega
    one:=fun w hw=>by
      rcases List.mem_append.1 hw with hw | hw
      · exact R1.one w hw
      · simp only [List.mem_cons,List.not_mem_nil,or_false] at hw
        rcases hw with rfl | rfl <;> rfl
    at':=fun i c' g' hi=>by
      have hlen:=R1.len
      by_cases hil:i<c.lg.length
      · rw [List.getElem?_append_left hil] at hi
        obtain ⟨A1,d1,g1,g2,g3,g4⟩:=R1.at' i c' g' hi
        exact ⟨A1,d1,by rw [List.getElem?_append_left (by omega)]; exact g1,by rw [List.getElem?_append_left (by omega)]; exact g2,g3,g4⟩
      · have h9:=(List.getElem?_eq_some_iff.1 hi).1
        rw [List.length_append] at h9
        simp only [List.length_singleton] at h9
        obtain rfl:i=c.lg.length:=by omega
        rw [List.getElem?_append_right (Nat.le_refl _),Nat.sub_self] at hi
        simp only [List.getElem?_cons_zero,Option.some.injEq,Prod.mk.injEq] at hi
        obtain ⟨rfl,rfl⟩:=hi
        refine ⟨A,d,by rw [List.getElem?_append_right (by omega),show c.lg.length*2-vs.length=0 by omega]; rfl,by rw [List.getElem?_append_right (by omega),show c.lg.length*2+1-vs.length=1 by omega]; rfl,RA.fr gf fun x hx hs=>?_,fun y hy=>by rw [ek]; exact if_pos hy⟩
        rcases hs with hs | hs
        · rw [(hR x hx).1] at hs; cases hs
        · have:=(hR x hx).1; rw [hs,C.kC] at this; cases this }
  kB:=fun x t hx=>ext x _ (C.kB x t hx)
  kH:=fun x hx=>ext x _ (C.kH x hx)
  kC:=ext _ _ C.kC
  kL:=fun x hx=>ext x _ (C.kL x hx)
  kG:=fun x hx=>by
    rw [ek]; simp only
    rw [if_neg fun h=>?_]
    · exact h1 x hx
    · have h5:=hR x h
      rcases hA x hx with h6 | h6
      · have:=C.kG x h6; rw [h5.1] at this; cases this
      · omega
  low:=fun x t hx=>by
    have hz:h.size≤h2.size:=f.size
    rw [hset_size]
    rw [ek] at hx; simp only at hx
    split at hx
    · rename_i hb; have:=(hR x hb).2; omega
    · rcases h3 x t hx with h | ⟨h,_⟩
      · have:=C.low x t h; omega
      · exact S2.blk_lt h },ext,own,gf.mono fun x _ hx=>?_⟩
 rcases hx with hx | hx
 · rw [hx]; exact fun h=>nomatch h
 · rw [hx,C.kC]; exact fun h=>nomatch h
end
end Xe
namespace Xe
open Go Tp Go.Proofs Hq
set_option maxRecDepth 16000
set_option maxHeartbeats 1000000
section
variable {h:Heap} {cb:Nat} {k:Nat→Option CT} {c:CSt}
theorem cvars_ok (C:CoreM h cb k c):CallsH Tryz.prog 33 [.pointer (some ⟨cb,0,none⟩)] h fun r h'=>r=.int .i64 (c.s.vars:Int)∧h'=h:=by
 obtain ⟨bb,hb,p,O,n,act,LA,lc,GA,gc,vs,C⟩:=C.ex
 have b0:=C.B.at' 0 _ rfl
 refine calls_of 9 [.tmp 2] Go.Proofs.Tryz.func33 rfl rfl rfl ?_
 simp -implicitDefEqProofs (disch:=omega) [go_sem,b0]
 refine useC (btrail_m C.M) ?_
 rintro _ h1 ⟨rfl,rfl⟩
 simp -implicitDefEqProofs (disch:=omega) [go_sem]
 refine useC (tvars_ok C.M.T) ?_
 rintro _ h1 ⟨rfl,rfl⟩
 simp -implicitDefEqProofs (disch:=omega) [go_sem]
theorem csteps_ok (C:CoreM h cb k c):CallsH Tryz.prog 37 [.pointer (some ⟨cb,0,none⟩)] h fun r h'=>r=.int .i64 (c.st:Int)∧h'=h:=by
 obtain ⟨bb,hb,p,O,n,act,LA,lc,GA,gc,vs,C⟩:=C.ex
 have b4:=C.B.at' 4 _ rfl
 refine calls_of 7 [.tmp 2] Go.Proofs.Tryz.func37 rfl rfl rfl ?_
 simp -implicitDefEqProofs (disch:=omega) [go_sem,b4]
def cst0 (vars:Nat):CSt:=⟨newW vars,fun v=>1≤v∧v≤vars,[],[],0⟩
theorem cnew_ok {x:Int} (h0:-9223372036854775808≤x) (h1:x≤9223372036854775807):CallsH Tryz.prog 31 [.int .i64 x] h fun r h' =>
  ((x<0∨1048576<x)∧r=.pointer none∧h'=h) ∨
    (∃ vars cb:Nat,x=vars∧vars≤1048576∧r=.pointer (some ⟨cb,0,none⟩)∧∃ k,CoreM h' cb k (cst0 vars)∧(∀ y t,k y=some t→h.size≤y)∧Fr (fun _=>False) h h'):=by
 refine calls_of 15 [.tmp 2] Go.Proofs.Tryz.func31 rfl rfl rfl ?_
 by_cases hx0:x<0
 · simp -implicitDefEqProofs (disch:=omega) [go_sem,hx0]
 by_cases hx1:1048576<x
 · simp -implicitDefEqProofs (disch:=omega) [go_sem,hx0,hx1]
 simp -implicitDefEqProofs (disch:=omega) [go_sem,hx0,hx1]
 refine useC (bnew_m (x:=x) (by omega) (by omega)) ?_
 rintro _ h2 (⟨hneg,_⟩ | ⟨vars,bb,rfl,hv,rfl,p,M,low,f2⟩)
 · omega
 simp -implicitDefEqProofs (disch:=omega) [go_sem]
 refine useC (new_ok (vars:Int)) ?_
 rintro _ h3 (⟨hneg,_⟩ | ⟨vars',e,_,rfl,O,H,nx⟩)
 · omega
 obtain rfl:vars=vars':=by omega
 simp -implicitDefEqProofs (disch:=omega) [go_sem]
 refine ⟨vars,rfl,by omega,?_⟩
 obtain ⟨h4,e4⟩:∃ h4,h4=h3.push (.cells #[.pointer (some ⟨bb,0,none⟩),.pointer (some ⟨h2.size,0,none⟩),.slice none 0 0,.slice none 0 0,.int .i64 0] 134):=⟨_,rfl⟩
 have f34:Fr (fun _=>False) h3 h4:=by rw [e4]; exact (Fr.refl _ _).push
 have B4:ListB h4 h3.size [.pointer (some ⟨bb,0,none⟩),.pointer (some ⟨h2.size,0,none⟩),.slice none 0 0,.slice none 0 0,.int .i64 0]:=by rw [e4]; exact ListB.new
 have z4:h4.size=h3.size+1:=by rw [e4,push_size]
 rw [← e4]
 have f23:Fr (fun _=>False) h2 h3:=nx.fr
 have hO:∀ x,O x→h2.size≤x∧x<h3.size:=fun x hx=>⟨(nx.own x hx).elim (fun h=>h.elim) id,H.low x hx⟩
 have hP:∀ x,p.c x≠none→x<h2.size:=fun x hx=>by
  cases hc:p.c x with
  | none=>exact absurd hc hx
  | some t=>exact M.low x t hc
 have z3:=f23.size
 have z2:=f2.size
 classical
 obtain ⟨k,ek⟩:∃ k:Nat→Option CT,k=fun x=>if p.c x≠none then some .base else if O x then some .heap else if x=h3.size then some .core else none:=⟨_,rfl⟩
 have kB:∀ x,p.c x≠none→k x=some .base:=fun x hx=>by rw [ek]; exact if_pos hx
 have kH:∀ x,O x→k x=some .heap:=fun x hx=>by
  rw [ek]; simp only
  rw [if_neg fun h=>by have:=hP x h; have:=hO x hx; omega,if_pos hx]
 have kC:k h3.size=some .core:=by
  rw [ek]; simp only
  rw [if_neg fun h=>by have:=hP _ h; omega,if_neg fun h=>by have:=hO _ h; omega,if_pos trivial]
 have kl:∀ x t,k x=some t→h.size≤x∧x<h4.size:=fun x t hx=>by
  rw [ek] at hx; simp only at hx
  split at hx
  · rename_i hp
    have:=hP x hp
    cases hc:p.c x with
    | none=>exact absurd hc hp
    | some u=>have:=low x u hc; exact ⟨by omega,by omega⟩
  · split at hx
    · rename_i ho; have:=hO x ho; exact ⟨by omega,by omega⟩
    · split at hx
      · rename_i he; exact ⟨by omega,by omega⟩
      · cases hx
 refine ⟨k,⟨bb,h2.size,p,O,vars,fun _=>0,none,0,none,0,[],{
  B:=B4
  M:=(M.fr0 f23).fr0 f34
  H:=H.fr f34 fun _ _ h=>h
  L:=SlAt.nil _
  G:=SlAt.nil _
  R:=⟨rfl,fun w hw=>(nomatch hw),fun i c g hi=>by simp [cst0] at hi⟩
  kB:=fun x t hx=>kB x (by rw [hx]; exact fun h=>nomatch h)
  kH:=kH
  kC:=kC
  kL:=fun x ⟨_,h,_⟩=>(nomatch h)
  kG:=fun x ⟨_,h,_⟩=>(nomatch h)
  low:=fun x t hx=>(kl x t hx).2 }⟩,fun y t hy=>(kl y t hy).1,f2.trans (f23.trans f34)⟩
def HFull (c:CSt):Prop:=∀ v,1≤v→v≤c.s.vars→trI c.s.l (v:Int)=0→c.S v
def backC' (s:WS) (lv:Int):WS:=if max lv 0<s.level then backS s (max lv 0).toNat else s
theorem cback_ok (C:CoreM h cb k c) (I:WInv c.s) {lv:Int} (h0:-9223372036854775808≤lv) (h1:lv≤9223372036854775807) :
   CallsH Tryz.prog 90 [.pointer (some ⟨cb,0,none⟩),.int .i64 lv] h fun _ h'=>∃ k' S',CoreM h' cb k' { c with s:=backC' c.s lv,S:=S' }∧KSt k k' h h'∧(HFull c→HFull { c with s:=backC' c.s lv,S:=S' }):=by
 obtain ⟨bb,hb,p,O,n,act,LA,lc,GA,gc,vs,C⟩:=C.ex
 have b0:=C.B.at' 0 _ rfl
 have hlen:=C.M.T.len
 have hvv:=C.M.T.hv
 refine calls_of 43 [] Go.Proofs.Tryz.func90 rfl rfl rfl ?_
 simp -implicitDefEqProofs (disch:=omega) [go_sem,b0]
 refine useC (btrail_m C.M) ?_
 rintro _ h2 ⟨rfl,rfl⟩
 simp -implicitDefEqProofs (disch:=omega) [go_sem]
 refine useC (tlits_ok C.M.T) ?_
 rintro _ h3 ⟨L,d,rfl,SL,ownL,f3⟩
 have C3:=C.fr0 f3
 have b03:=C3.B.at' 0 _ rfl
 simp -implicitDefEqProofs (disch:=omega) [go_sem,b03]
 refine useC (bback_m C3.M h0 h1) ?_
 rintro _ h4 ⟨p4,M4,st4⟩
 obtain ⟨k4,C4,ks4⟩:=C3.base M4 st4 (by split <;> rfl)
 have es':(if max lv 0<(c.s.level:Int) then backS c.s (max lv 0).toNat else c.s)=backC' c.s lv:=rfl
 rw [es'] at C4 M4
 obtain ⟨s',hs'⟩:∃ s',s'=backC' c.s lv:=⟨_,rfl⟩
 rw [← hs'] at C4 M4 ⊢
 have hv':s'.vars=c.s.vars:=by rw [hs']; unfold backC'; split <;> rfl
 have hl':s'.l=c.s.l.take s'.l.length:=by
   rw [hs']; unfold backC'
   split
   · exact cut_take I.lvs.mono _
   · rw [List.take_length]
 have b04:=C4.B.at' 0 _ rfl
 have hlen4:=M4.T.len
 have C4':=C4
 simp -implicitDefEqProofs (disch:=omega) [go_sem,b04]
 refine useC (btrail_m M4) ?_
 rintro _ h5 ⟨rfl,rfl⟩
 simp -implicitDefEqProofs (disch:=omega) [go_sem]
 refine useC (tlits_ok M4.T) ?_
 rintro _ h6 ⟨L6,d6,rfl,SL6,ownL6,f6⟩
 obtain ⟨m,hm⟩:∃ m,m=s'.l.length:=⟨_,rfl⟩
 have hml:m≤c.s.l.length:=by
   have:=congrArg List.length hl'
   rw [List.length_take] at this
   omega
 have ls:(lits c.s.l).length=c.s.l.length:=by unfold lits; rw [List.length_map]
 have nL:∀ y,blk L y→p.c y=none∧k y=none∧y<h3.size:=fun y hy=>by
   have h1:=ownL y hy
   have h2:=SL.blk_lt hy
   have hk:k y=none:=by
     cases hc:k y with
     | none=>rfl
     | some t=>have:=C.low y t hc; omega
   refine ⟨?_,hk,h2⟩
   cases hc:p.c y with
   | none=>rfl
   | some t=>have:=C.kB y t hc; rw [hk] at this; cases this
 have SL5:=SL.fr st4.fr fun y hy h=>h (nL y hy).1
 have SL6':=SL5.fr f6 fun _ _ h=>h
 obtain ⟨B',d',hsl,RB,hBB⟩:=slice_fromR (kd:=.i64) SL6' (j:=m) (by rw [ints_len,ls]; exact hml)
 rw [ints_len,ls] at hsl
 have hdr:(ints (lits c.s.l)).drop m=ints ((lits c.s.l).drop m):=by unfold ints; rw [List.map_drop]
 rw [hdr] at RB
 obtain ⟨tl,htl⟩:∃ tl,tl=(lits c.s.l).drop m:=⟨_,rfl⟩
 have htll:tl.length=c.s.l.length-m:=by rw [htl,List.length_drop,ls]
 rw [← htl] at RB
 have C6:=C4.fr0 f6
 have nB:∀ y,blk B' y→k4 y=none:=fun y hy=>by
   have:=nL y (hBB y hy)
   exact ks4.free this.2.1 this.2.2
 simp -implicitDefEqProofs (disch:=omega) [go_sem,← hm,hsl]
 rw [← htll]
 refine loopK (fun ρ h'=>ρ 0=.pointer (some ⟨cb,0,none⟩)∧ρ 27=.slice B' tl.length d'∧ρ 28=.int .i64 tl.length∧∃ (i:Nat) (k':Nat→Option CT) (S':Nat→Prop),ρ 29=.int .i64 i∧i≤tl.length∧CoreM h' cb k' { c with s:=s',S:=S' }∧KSt k4 k' h6 h'∧(∀ v,c.S v→S' v)∧(∀ (j:Nat) x,j<i→tl[j]?=some x→S' x.natAbs))
   (fun ρ _=>tl.length-(intOf (ρ 29)).toNat) (by kernel_rfl) ?_ ?_
 · exact ⟨rfl,rfl,rfl,0,k4,c.S,rfl,by omega,⟨_,_,_,_,_,_,_,_,_,_,_,C6⟩,KSt.refl,fun _ h=>h,fun j x hj=>by omega⟩
 · rintro ρ h7 ⟨r0,r27,r28,i,k7,S7,r29,hi,C7,ks7,hS7,hj7⟩
   obtain ⟨bb,hb,p,O,n,act,LA,lc,GA,gc,vs,C7⟩:=C7.ex
   by_cases hin:i<tl.length
   · obtain ⟨x,hx⟩:=some_at hin
     have R7:=ks7.row RB nB
     obtain ⟨bk,off,rfl,hc⟩:=R7.get (by rw [ints_len]; omega)
     have c0:=hc _ _ (ints_at hx)
     have b17:=C7.B.at' 1 _ rfl
     have hxm:x∈lits c.s.l:=List.mem_of_mem_drop (by rw [← htl]; exact List.mem_of_getElem? hx)
     obtain ⟨t,ht,rfl⟩:=List.mem_map.1 hxm
     have htr:=I.good.rng t ht
     have emx:max t.lit (-t.lit)=(t.lit.natAbs:Int):=by omega
     simp -implicitDefEqProofs (disch:=omega) [go_sem,r0,r27,r28,r29,c0,b17,emx]
     refine useC (put_ok C7.H (t.lit.natAbs:Int)) ?_
     rintro _ h8 (⟨v,hv,rfl,h1,h2,hns,O',H',nx⟩ | ⟨hor,rfl,rfl⟩)
     · obtain rfl:v=t.lit.natAbs:=by omega
       obtain ⟨k8,C8,ks8⟩:=C7.heap H' nx
       simp -implicitDefEqProofs (disch:=omega) [go_sem,r0,r27,r28,r29]
       refine ⟨⟨i+1,by omega,by omega,k8,_,⟨_,_,_,_,_,_,_,_,_,_,_,C8⟩,ks7.trans ks8,fun v hv=>.inl (hS7 v hv),fun j y hj hy=>?_⟩,by omega⟩
       by_cases e:j=i
       · subst e; rw [hx] at hy; cases hy; exact .inr rfl
       · exact .inl (hj7 j y (by omega) hy)
     · simp -implicitDefEqProofs (disch:=omega) [go_sem,r0,r27,r28,r29]
       refine ⟨⟨i+1,by omega,by omega,k7,S7,⟨_,_,_,_,_,_,_,_,_,_,_,C7⟩,ks7,hS7,fun j y hj hy=>?_⟩,by omega⟩
       by_cases e:j=i
       · subst e; rw [hx] at hy; cases hy
         rcases hor with h | h
         · exact absurd ⟨by omega,by show (t.lit.natAbs:Int)≤(s'.vars:Int); omega⟩ h
         · rwa [Int.toNat_natCast] at h
       · exact hj7 j y (by omega) hy
   · have ei:i=tl.length:=by omega
     subst ei
     simp -implicitDefEqProofs (disch:=omega) [go_sem,r0,r27,r28,r29]
     refine ⟨k7,S7,⟨_,_,_,_,_,_,_,_,_,_,_,C7⟩,(((KSt.fr0 f3).trans ks4).trans (KSt.fr0 f6)).trans ks7,fun hF v h1 h2 h0=>?_⟩
     have h0':trI s'.l (v:Int)=0:=h0
     have h2':v≤c.s.vars:=by rw [← hv']; exact h2
     rw [tr_zero,hl',← hm] at h0'
     have hsplit:∀ y,y∈lits c.s.l→y∈lits (c.s.l.take m)∨y∈tl:=fun y hy=>by
       rw [htl,← lits_take]
       have:y∈(lits c.s.l).take m++(lits c.s.l).drop m:=by rw [List.take_append_drop]; exact hy
       exact List.mem_append.1 this
     have hin7:∀ y∈tl,S7 y.natAbs:=fun y hy=>by
       obtain ⟨j,hj⟩:=List.getElem?_of_mem hy
       exact hj7 j y (List.getElem?_eq_some_iff.1 hj).1 hj
     by_cases ht0:trI c.s.l (v:Int)=0
     · exact hS7 v (hF v h1 h2' ht0)
     · show S7 v
       by_cases hp:(v:Int)∈lits c.s.l
       · have:=hin7 _ ((hsplit _ hp).resolve_left h0'.1)
         rwa [Int.natAbs_natCast] at this
       · by_cases hn:-(v:Int)∈lits c.s.l
         · have:=hin7 _ ((hsplit _ hn).resolve_left h0'.2)
           rwa [Int.natAbs_neg,Int.natAbs_natCast] at this
         · exact absurd (tr_zero.2 ⟨hp,hn⟩) ht0
end
end Xe
namespace Xe
open Go Tp Go.Proofs
set_option maxRecDepth 16000
set_option maxHeartbeats 1000000
structure Scr where
 picks:List Int
 signs:List Bool
 res:List Int
 red:List Int
 steps:Int
def rightL (l:List Int):Bool:=decide (l.length≤1000)&&!(l.any fun x=>decide (x<0)||decide (1048576<x))
def goodScr (s:Scr):Bool:=rightL s.picks&&rightL s.res&&rightL s.red&&decide (s.signs.length≤1000)&&decide (0≤s.steps)&&decide (s.steps≤1099511627776)
structure ScrA where
 P:Option Addr
 pc:Nat
 G:Option Addr
 gc:Nat
 R:Option Addr
 rc:Nat
 D:Option Addr
 dc:Nat
def scrV (s:Scr) (a:ScrA):List Value:=[.slice a.P s.picks.length a.pc,.slice a.G s.signs.length a.gc,.slice a.R s.res.length a.rc,.slice a.D s.red.length a.dc,.int .i64 s.steps]
structure ScrM (h:Heap) (s:Scr) (a:ScrA):Prop where
 P:RowAt h a.P (ints s.picks)
 G:RowAt h a.G (bools s.signs)
 R:RowAt h a.R (ints s.res)
 D:RowAt h a.D (ints s.red)
 lP:s.picks.length<2^63
 lG:s.signs.length<2^63
 lR:s.res.length<2^63
 lD:s.red.length<2^63
 rP:∀ x∈s.picks,-9223372036854775808≤x∧x≤9223372036854775807
 rR:∀ x∈s.res,-9223372036854775808≤x∧x≤9223372036854775807
 rD:∀ x∈s.red,-9223372036854775808≤x∧x≤9223372036854775807
 st:-9223372036854775808≤s.steps∧s.steps≤9223372036854775807
def blkS (a:ScrA) (y:Nat):Prop:=blk a.P y∨blk a.G y∨blk a.R y∨blk a.D y
theorem ScrM.fr {h h':Heap} {s:Scr} {a:ScrA} (M:ScrM h s a) {S:Nat→Prop} (f:Fr S h h') (hs:∀ y,blkS a y→¬ S y):ScrM h' s a where
 P:=M.P.fr f fun y hy=>hs y (.inl hy)
 G:=M.G.fr f fun y hy=>hs y (.inr (.inl hy))
 R:=M.R.fr f fun y hy=>hs y (.inr (.inr (.inl hy)))
 D:=M.D.fr f fun y hy=>hs y (.inr (.inr (.inr hy)))
 lP:=M.lP
 lG:=M.lG
 lR:=M.lR
 lD:=M.lD
 rP:=M.rP
 rR:=M.rR
 rD:=M.rD
 st:=M.st
theorem ScrM.fr0 {h h':Heap} {s:Scr} {a:ScrA} (M:ScrM h s a) (f:Fr (fun _=>False) h h'):ScrM h' s a:=M.fr f fun _ _ h=>h
section
variable {h:Heap} {A:Option Addr} {n c:Nat} {l:List Int}
theorem rightF_ok {x:Int}:CallsH Tryz.prog 179 ([.int .i64 x]++[]) h fun r h'=>r=.bool (decide (x<0)||decide (1048576<x))∧h'=h:=by
 refine calls_of 9 [.tmp 2] Go.Proofs.Tryz.func179 rfl rfl rfl ?_
 by_cases h0:x<0
 · simp -implicitDefEqProofs (disch:=omega) [go_sem,h0]
 · by_cases h1:1048576<x
   · simp -implicitDefEqProofs (disch:=omega) [go_sem,h0,h1]
   · simp -implicitDefEqProofs (disch:=omega) [go_sem,h0,h1]
theorem right_ok (R:RowAt h A (ints l)) (hn:n=l.length) (hs:n<2^63):CallsH Tryz.prog 133 [.slice A n c] h fun r h'=>r=.bool (rightL l)∧h'=h:=by
 subst hn
 refine calls_of 11 [.tmp 2] Go.Proofs.Tryz.func133 rfl rfl rfl ?_
 unfold rightL
 by_cases h1:l.length≤1000
 · have h1':(l.length:Int)≤1000:=by omega
   simp -implicitDefEqProofs (disch:=omega) [go_sem,h1,h1']
   have cc:=containsFunc_ok (cs:=[]) (c:=c) R rfl (by omega) (fun x=>decide (x<0)||decide (1048576<x)) (fun x hx=>rightF_ok)
   refine useC cc ?_
   rintro _ h2 ⟨rfl,rfl⟩
   simp -implicitDefEqProofs (disch:=omega) [go_sem,h1,h1']
 · have h1':¬ (l.length:Int)≤1000:=by omega
   simp -implicitDefEqProofs (disch:=omega) [go_sem,h1,h1']
theorem hgood_ok {s:Scr} {a:ScrA} (M:ScrM h s a):CallsH Tryz.prog 88 [.agg (scrV s a).toArray] h fun r h'=>r=.bool (goodScr s)∧Fr (fun _=>False) h h':=by
 have q1:=M.lP
 have q2:=M.lR
 have q3:=M.lD
 have q4:=M.lG
 have q5:=M.st
 refine calls_of 32 [.tmp 2] Go.Proofs.Tryz.func88 rfl rfl rfl ?_
 unfold scrV
 simp -implicitDefEqProofs (disch:=omega) [go_sem]
 obtain ⟨h1,e1⟩:∃ h1,h1=h.push (.cells #[.slice a.P s.picks.length a.pc,.slice a.G s.signs.length a.gc,.slice a.R s.res.length a.rc,.slice a.D s.red.length a.dc,.int .i64 s.steps] 56):=⟨_,rfl⟩
 have f1:Fr (fun _=>False) h h1:=by rw [e1]; exact (Fr.refl _ _).push
 have B1:ListB h1 h.size [.slice a.P s.picks.length a.pc,.slice a.G s.signs.length a.gc,.slice a.R s.res.length a.rc,.slice a.D s.red.length a.dc,.int .i64 s.steps]:=by rw [e1]; exact ListB.new
 have b0:=B1.at' 0 _ rfl
 have b1:=B1.at' 1 _ rfl
 have b2:=B1.at' 2 _ rfl
 have b3:=B1.at' 3 _ rfl
 have b4:=B1.at' 4 _ rfl
 have M1:=M.fr0 f1
 rw [← e1]
 refine useC (right_ok M1.P rfl q1) ?_
 rintro _ h2 ⟨rfl,rfl⟩
 unfold goodScr
 cases rightL s.picks with
 | false =>
   simp -implicitDefEqProofs (disch:=omega) [go_sem]
   exact f1
 | true =>
   simp -implicitDefEqProofs (disch:=omega) [go_sem,b2]
   refine useC (right_ok M1.R rfl q2) ?_
   rintro _ h2 ⟨rfl,rfl⟩
   cases rightL s.res with
   | false =>
     simp -implicitDefEqProofs (disch:=omega) [go_sem]
     exact f1
   | true =>
     simp -implicitDefEqProofs (disch:=omega) [go_sem,b3]
     refine useC (right_ok M1.D rfl q3) ?_
     rintro _ h2 ⟨rfl,rfl⟩
     cases rightL s.red with
     | false =>
       simp -implicitDefEqProofs (disch:=omega) [go_sem]
       exact f1
     | true =>
       by_cases g1:s.signs.length≤1000
       · have g1':(s.signs.length:Int)≤1000:=by omega
         by_cases g2:0≤s.steps
         · by_cases g3:s.steps≤1099511627776
           · simp -implicitDefEqProofs (disch:=omega) [go_sem,b1,b4,g1,g1',g2,g3]
             exact f1
           · simp -implicitDefEqProofs (disch:=omega) [go_sem,b1,b4,g1,g1',g2,g3]
             exact f1
         · simp -implicitDefEqProofs (disch:=omega) [go_sem,b1,b4,g1,g1',g2]
           exact f1
       · have g1':¬ (s.signs.length:Int)≤1000:=by omega
         simp -implicitDefEqProofs (disch:=omega) [go_sem,b1,b4,g1,g1']
         exact f1
theorem rgoodL20_ok (R:RowAt h A (ints l)) (hn:n=l.length) (hs:n<2^63):CallsH Tryz.prog 92 [.slice A n c] h fun r h'=>r=.bool (rightL l)∧h'=h:=by
 subst hn
 refine calls_of 25 [.tmp 2] Go.Proofs.Tryz.func92 rfl rfl rfl ?_
 unfold rightL
 by_cases h1:l.length≤1000
 · have h1':¬ (1000:Int)<(l.length:Int):=by omega
   simp -implicitDefEqProofs (disch:=omega) [go_sem,h1,h1']
   refine loopK (fun ρ h'=>ρ 0=.slice A l.length c∧h'=h∧∃ i:Nat,ρ 3=.int .i64 i∧i≤l.length∧∀ (j:Nat) x,j<i→l[j]?=some x→0≤x∧x≤1048576) (fun ρ _=>l.length-(intOf (ρ 3)).toNat) (by kernel_rfl) ?_ ?_
   · exact ⟨rfl,rfl,0,rfl,by omega,fun j x hj=>by omega⟩
   · rintro ρ h2 ⟨r0,rfl,i,r3,hi,hj⟩
     by_cases hin:i<l.length
     · obtain ⟨bk,off,rfl,hc⟩:=R.get (by rw [ints_len]; omega)
       obtain ⟨x,hx⟩:=some_at hin
       have c0:=hc _ _ (ints_at hx)
       by_cases x0:x<0
       · simp -implicitDefEqProofs (disch:=omega) [go_sem,r0,r3,c0,x0]
         exact ⟨x,List.mem_of_getElem? hx,by omega⟩
       · by_cases x1:1048576<x
         · simp -implicitDefEqProofs (disch:=omega) [go_sem,r0,r3,c0,x0,x1]
           exact ⟨x,List.mem_of_getElem? hx,by omega⟩
         · simp -implicitDefEqProofs (disch:=omega) [go_sem,r0,r3,c0,x0,x1]
           refine ⟨⟨i+1,by omega,by omega,fun j y hjl hy=>?_⟩,by omega⟩
           by_cases e:j=i
           · subst e; rw [hx] at hy; cases hy; omega
           · exact hj j y (by omega) hy
     · simp -implicitDefEqProofs (disch:=omega) [go_sem,r0,r3]
       intro x hx
       obtain ⟨j,hjx⟩:=List.getElem?_of_mem hx
       have:=hj j x (by have:=(List.getElem?_eq_some_iff.1 hjx).1; omega) hjx
       omega
 · have h1':(1000:Int)<(l.length:Int):=by omega
   simp -implicitDefEqProofs (disch:=omega) [go_sem,h1,h1']
theorem rgood20_ok {s:Scr} {a:ScrA} (M:ScrM h s a):CallsH Tryz.prog 35 [.agg (scrV s a).toArray] h fun r h'=>r=.bool (goodScr s)∧Fr (fun _=>False) h h':=by
 have q1:=M.lP
 have q2:=M.lR
 have q3:=M.lD
 have q4:=M.lG
 have q5:=M.st
 refine calls_of 32 [.tmp 2] Go.Proofs.Tryz.func35 rfl rfl rfl ?_
 unfold scrV
 simp -implicitDefEqProofs (disch:=omega) [go_sem]
 obtain ⟨h1,e1⟩:∃ h1,h1=h.push (.cells #[.slice a.P s.picks.length a.pc,.slice a.G s.signs.length a.gc,.slice a.R s.res.length a.rc,.slice a.D s.red.length a.dc,.int .i64 s.steps] 56):=⟨_,rfl⟩
 have f1:Fr (fun _=>False) h h1:=by rw [e1]; exact (Fr.refl _ _).push
 have B1:ListB h1 h.size [.slice a.P s.picks.length a.pc,.slice a.G s.signs.length a.gc,.slice a.R s.res.length a.rc,.slice a.D s.red.length a.dc,.int .i64 s.steps]:=by rw [e1]; exact ListB.new
 have b0:=B1.at' 0 _ rfl
 have b1:=B1.at' 1 _ rfl
 have b2:=B1.at' 2 _ rfl
 have b3:=B1.at' 3 _ rfl
 have b4:=B1.at' 4 _ rfl
 have M1:=M.fr0 f1
 rw [← e1]
 refine useC (rgoodL20_ok M1.P rfl q1) ?_
 rintro _ h2 ⟨rfl,rfl⟩
 unfold goodScr
 cases rightL s.picks with
 | false =>
   simp -implicitDefEqProofs (disch:=omega) [go_sem]
   exact f1
 | true =>
   simp -implicitDefEqProofs (disch:=omega) [go_sem,b2]
   refine useC (rgoodL20_ok M1.R rfl q2) ?_
   rintro _ h2 ⟨rfl,rfl⟩
   cases rightL s.res with
   | false =>
     simp -implicitDefEqProofs (disch:=omega) [go_sem]
     exact f1
   | true =>
     simp -implicitDefEqProofs (disch:=omega) [go_sem,b3]
     refine useC (rgoodL20_ok M1.D rfl q3) ?_
     rintro _ h2 ⟨rfl,rfl⟩
     cases rightL s.red with
     | false =>
       simp -implicitDefEqProofs (disch:=omega) [go_sem]
       exact f1
     | true =>
       by_cases g1:s.signs.length≤1000
       · have g1':(s.signs.length:Int)≤1000:=by omega
         by_cases g2:0≤s.steps
         · by_cases g3:s.steps≤1099511627776
           · simp -implicitDefEqProofs (disch:=omega) [go_sem,b1,b4,g1,g1',g2,g3]
             exact f1
           · simp -implicitDefEqProofs (disch:=omega) [go_sem,b1,b4,g1,g1',g2,g3]
             exact f1
         · simp -implicitDefEqProofs (disch:=omega) [go_sem,b1,b4,g1,g1',g2]
           exact f1
       · have g1':¬ (s.signs.length:Int)≤1000:=by omega
         simp -implicitDefEqProofs (disch:=omega) [go_sem,b1,b4,g1,g1']
         exact f1
theorem hat_ok (R:RowAt h A (ints l)) (hn:n=l.length) (hs:n<2^40) {i:Int} (h0:-9223372036854775808≤i) (h1:i≤9223372036854775807):CallsH Tryz.prog 189 [.slice A n c,.int .i64 i] h fun r h'=>(∃ x:Int,r=.int .i64 x)∧h'=h:=by
 subst hn
 refine calls_of 19 [.tmp 4] Go.Proofs.Tryz.func189 rfl rfl rfl ?_
 by_cases hi:i<0
 · simp -implicitDefEqProofs (disch:=omega) [go_sem,hi]
 · by_cases hl:l.length=0
   · have hl':(l.length:Int)=0:=by omega
     simp -implicitDefEqProofs (disch:=omega) [go_sem,hi,hl,hl']
   · have hl':¬ (l.length:Int)=0:=by omega
     simp -implicitDefEqProofs (disch:=omega) [go_sem,hi,hl,hl']
     obtain ⟨m,hm,hml⟩:∃ m:Nat,i % (l.length:Int)=m∧m<l.length:=⟨(i % (l.length:Int)).toNat,by have:=Int.emod_nonneg i (b:=(l.length:Int)) (by omega); omega,by have:=Int.emod_lt_of_pos i (b:=(l.length:Int)) (by omega); have:=Int.emod_nonneg i (b:=(l.length:Int)) (by omega); omega⟩
     rw [hm]
     obtain ⟨bk,off,rfl,hc⟩:=R.get (by rw [ints_len]; omega)
     obtain ⟨x,hx⟩:=some_at hml
     have c0:=hc _ _ (ints_at hx)
     simp -implicitDefEqProofs (disch:=omega) [go_sem,c0]
theorem hsign_ok {bs:List Bool} (R:RowAt h A (bools bs)) (hn:n=bs.length) (hs:n<2^40) {i:Int} (h0:-9223372036854775808≤i) (h1:i≤9223372036854775807):CallsH Tryz.prog 190 [.slice A n c,.int .i64 i] h fun r h'=>(∃ x:Bool,r=.bool x)∧h'=h:=by
 subst hn
 refine calls_of 21 [.tmp 4] Go.Proofs.Tryz.func190 rfl rfl rfl ?_
 by_cases hi:0≤i
 · by_cases hl:bs.length=0
   · have hl':¬ (0:Int)<(bs.length:Int):=by omega
     simp -implicitDefEqProofs (disch:=omega) [go_sem,hi,hl,hl']
   · have hl':(0:Int)<(bs.length:Int):=by omega
     have hl2:¬ (bs.length:Int)=0:=by omega
     obtain ⟨m,hm,hml⟩:∃ m:Nat,i % (bs.length:Int)=m∧m<bs.length:=⟨(i % (bs.length:Int)).toNat,by have:=Int.emod_nonneg i (b:=(bs.length:Int)) (by omega); omega,by have:=Int.emod_lt_of_pos i (b:=(bs.length:Int)) (by omega); have:=Int.emod_nonneg i (b:=(bs.length:Int)) (by omega); omega⟩
     obtain ⟨bk,off,rfl,hc⟩:=R.get (by rw [bools_len]; omega)
     have hx:=List.getElem?_eq_getElem hml
     have c0:=hc _ _ (bools_at hx)
     simp -implicitDefEqProofs (disch:=omega) [go_sem,hi,hl,hl',hl2,hm,c0]
 · simp -implicitDefEqProofs (disch:=omega) [go_sem,hi]
def dueP (l:List Int) (done since:Int):Bool:=decide (0≤done)&&match l[done.toNat]? with
 | some x=>decide (0<x)&&decide (x≤since)
 | none=>false
theorem dueP_lt {l:List Int} {done since:Int} (h:dueP l done since=true):0≤done∧done<l.length:=by
 unfold dueP at h
 rw [Bool.and_eq_true,decide_eq_true_eq] at h
 cases hc:l[done.toNat]? with
 | none=>rw [hc] at h; simp at h
 | some x=>have:=(List.getElem?_eq_some_iff.1 hc).1; omega
theorem hdue_ok (R:RowAt h A (ints l)) (hn:n=l.length) (hs:n<2^40) {i j:Int} (h0:-9223372036854775808≤i) (h1:i≤9223372036854775807) (h2:-9223372036854775808≤j) (h3:j≤9223372036854775807) :
   CallsH Tryz.prog 226 [.slice A n c,.int .i64 i,.int .i64 j] h fun r h'=>r=.bool (dueP l i j)∧h'=h:=by
 subst hn
 refine calls_of 30 [.tmp 6] Go.Proofs.Tryz.func226 rfl rfl rfl ?_
 unfold dueP
 by_cases hi:0≤i
 · obtain ⟨m,rfl⟩:∃ m:Nat,i=m:=⟨i.toNat,by omega⟩
   rw [Int.toNat_natCast]
   by_cases hl:m<l.length
   · have hl':(m:Int)<(l.length:Int):=by omega
     obtain ⟨bk,off,rfl,hc⟩:=R.get (by rw [ints_len]; omega)
     obtain ⟨x,hx⟩:=some_at hl
     have c0:=hc _ _ (ints_at hx)
     rw [hx]
     by_cases g1:0<x
     · by_cases g2:x≤j
       · simp -implicitDefEqProofs (disch:=omega) [go_sem,hi,hl',c0,g1,g2]
       · simp -implicitDefEqProofs (disch:=omega) [go_sem,hi,hl',c0,g1,g2]
     · simp -implicitDefEqProofs (disch:=omega) [go_sem,hi,hl',c0,g1]
   · have hl':¬ (m:Int)<(l.length:Int):=by omega
     rw [List.getElem?_eq_none (by omega)]
     simp -implicitDefEqProofs (disch:=omega) [go_sem,hi,hl']
 · simp -implicitDefEqProofs (disch:=omega) [go_sem,hi]
end
section
variable {h:Heap} {a b:Int}
theorem cst_1i:Value.complex .f64 0 4607182418800017408=.complex .f64 (Fx.enc 0) (Fx.enc 1):=by rw [enc_0,enc_1]
theorem cst_1f:Value.float .f64 4607182418800017408=.float .f64 (Fx.enc 1):=by rw [enc_1]
theorem count_one_ok (h0:0≤a) (h1:a<1125899906842624) (h2:0≤b) (h3:b<1125899906842624):CallsH Tryz.prog 181 [.complex .f64 (Fx.enc a) (Fx.enc b)] h fun r h'=>r=.complex .f64 (Fx.enc a) (Fx.enc (b+1))∧h'=h:=by
 refine calls_of 5 [.tmp 2] Go.Proofs.Tryz.func181 rfl rfl rfl ?_
 simp -implicitDefEqProofs (disch:=omega) [go_sem,cst_1i]
theorem count_next_ok (h0:0≤a) (h1:a<1125899906842624):CallsH Tryz.prog 184 [.complex .f64 (Fx.enc a) (Fx.enc b)] h fun r h'=>r=.complex .f64 (Fx.enc (a+1)) (Fx.enc 0)∧h'=h:=by
 refine calls_of 7 [.tmp 2] Go.Proofs.Tryz.func184 rfl rfl rfl ?_
 simp -implicitDefEqProofs (disch:=omega) [go_sem,cst_1f]
theorem count_due_ok {A:Option Addr} {n c:Nat} {l:List Int} (R:RowAt h A (ints l)) (hn:n=l.length) (hs:n<2^40) (h0:0≤a) (h1:a<1125899906842624) (h2:0≤b) (h3:b<1125899906842624) :
  CallsH Tryz.prog 183 [.complex .f64 (Fx.enc a) (Fx.enc b),.slice A n c] h fun r h'=>r=.bool (dueP l a b)∧h'=h:=by
 refine calls_of 13 [.tmp 4] Go.Proofs.Tryz.func183 rfl rfl rfl ?_
 simp -implicitDefEqProofs (disch:=omega) [go_sem]
 refine useC (hdue_ok R hn hs (i:=a) (j:=b) (by omega) (by omega) (by omega) (by omega)) ?_
 rintro _ h2 ⟨rfl,rfl⟩
 simp -implicitDefEqProofs (disch:=omega) [go_sem]
end
end Xe
namespace Xe
open Go Go.ChangeShapes Go.WideShapes Go.ChangeAt Go.RowKit Go.Proofs
section
variable {H:Type} {enc:TypeId × Value→H} {P:Program} {w:World} {sp:Nat→Bool} {held:Bool} {r:Reach} {b0:Nat} {t e:TypeId}
theorem open_boolsC {fuel:Nat} {cs0:List Value} {x0:DataW H × List MemPlace} (ht:P.underlying t=some (.slice e)) (he:P.underlying e=some .bool) (hc:P.cellsOf e=1) (hf:DataW.trod enc P w 0 sp held fuel t cs0=some x0) :
   ∃ A c,∃ l:List Bool,cs0=[.slice A l.length c]∧l.length<2^63∧RowAt w.heap A (bools l):=by
 obtain ⟨A,len,cap,rfl,hl,hel⟩:=open_sliceC ht hc (by omega) hf
 have key:∀ i,∃ y:Bool,i<len→∃ bk off,A=some ⟨bk,off,none⟩∧hcell w.heap ⟨bk,off+i,none⟩=some (.bool y):=fun i=>by
   by_cases hi:i<len
   · obtain ⟨bk,off,cs,fuel,x,rfl,hl,hcell,hx⟩:=hel i hi
     obtain ⟨y,rfl,_⟩:=DataW.trod_bool he hx
     have:=hcell 0 _ rfl
     simp only [Nat.mul_one,Nat.add_zero] at this
     exact ⟨y,fun _=>⟨bk,off,rfl,this⟩⟩
   · exact ⟨false,fun h=>absurd h hi⟩
 obtain ⟨f,hfk⟩:=Classical.axiomOfChoice key
 have hll:((List.range len).map f).length=len:=by rw [List.length_map,List.length_range]
 refine ⟨A,cap,(List.range len).map f,by rw [hll],by rw [hll]; exact hl,?_⟩
 by_cases h0:len=0
 · subst h0; exact .inl rfl
 · obtain ⟨bk,off,hA,_⟩:=hfk 0 (by omega)
   refine .inr ⟨bk,off,hA,fun i v hv=>?_⟩
   have hi:=(List.getElem?_eq_some_iff.1 hv).1
   rw [bools_len,hll] at hi
   rw [bools_at (show ((List.range len).map f)[i]?=some (f i) by rw [List.getElem?_map,List.getElem?_range hi]; rfl)] at hv
   cases hv
   obtain ⟨bk',off',hA',hc'⟩:=hfk i hi
   rw [hA] at hA'
   cases hA'
   exact hc'
theorem open_scr {ti tb qi qb:TypeId} {fs:Array Field} {f0 f1 f2 f3 f4:Field} {v:Value} {d:DataW H} {ps:List MemPlace}
   (ht:P.underlying t=some (.struct fs)) (hc:P.cellsOf t=5) (hfs:fs=#[f0,f1,f2,f3,f4]) (hi:P.underlying ti=some (.slice qi)∧P.cellsOf ti=1∧P.underlying qi=some (.int .i64)∧P.cellsOf qi=1) (hb:P.underlying tb=some (.slice qb)∧P.cellsOf tb=1∧P.underlying qb=some .bool∧P.cellsOf qb=1)
   (h0:f0.type=ti∧f0.offset=0) (h1:f1.type=tb∧f1.offset=1) (h2:f2.type=ti∧f2.offset=2) (h3:f3.type=ti∧f3.offset=3) (h4:f4.type=qi∧f4.offset=4)
   (hval:Value.okWide P w r b0 t v) (h:DataW.Trod enc P w 0 sp held t v d ps):∃ sc a,v=.agg (scrV sc a).toArray∧ScrM w.heap sc a:=by
 obtain ⟨cs,rfl,hs⟩:=okWide_struct ht hval
 obtain ⟨fuel,hx⟩:=h
 subst hfs
 obtain ⟨xs,n,_,_,hl,_,hf⟩:=DataW.trod_struct ht hx
 have hcs:(Value.agg cs).cells.toList=cs.toList:=rfl
 rw [hcs] at hf
 obtain ⟨l⟩:=cs
 rw [hc] at hs
 match l,hs with
 | [c0,c1,c2,c3,c4],_ =>
   have hxs:xs.length=5:=by assumption
   have g0:=hf 0 f0 rfl
   have g1:=hf 1 f1 rfl
   have g2:=hf 2 f2 rfl
   have g3:=hf 3 f3 rfl
   have g4:=hf 4 f4 rfl
   rw [h0.1,h0.2,hi.2.1,List.getElem?_eq_getElem (by omega)] at g0
   rw [h1.1,h1.2,hb.2.1,List.getElem?_eq_getElem (by omega)] at g1
   rw [h2.1,h2.2,hi.2.1,List.getElem?_eq_getElem (by omega)] at g2
   rw [h3.1,h3.2,hi.2.1,List.getElem?_eq_getElem (by omega)] at g3
   rw [h4.1,h4.2,hi.2.2.2,List.getElem?_eq_getElem (by omega)] at g4
   obtain ⟨A0,k0,l0,e0,m0,R0,b0⟩:=open_intsC hi.1 hi.2.2.1 hi.2.2.2 g0
   obtain ⟨A1,k1,l1,e1,m1,R1⟩:=open_boolsC hb.1 hb.2.2.1 hb.2.2.2 g1
   obtain ⟨A2,k2,l2,e2,m2,R2,b2⟩:=open_intsC hi.1 hi.2.2.1 hi.2.2.2 g2
   obtain ⟨A3,k3,l3,e3,m3,R3,b3⟩:=open_intsC hi.1 hi.2.2.1 hi.2.2.2 g3
   obtain ⟨y,e4,_,w4⟩:=DataW.trod_int hi.2.2.1 g4
   simp only [Lit.wf,Bool.and_eq_true,decide_eq_true_eq] at w4
   simp at e0 e1 e2 e3 e4
   subst e0 e1 e2 e3 e4
   exact ⟨⟨l0,l1,l2,l3,y⟩,⟨A0,k0,A1,k1,A2,k2,A3,k3⟩,rfl,⟨R0,R1,R2,R3,m0,m1,m2,m3,b0,b2,b3,w4⟩⟩
end
end Xe
