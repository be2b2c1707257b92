/- The engine, second part: loads, what acts, regions, code, calls. -/
import Derived.Test.YtkghjecglmmloaaGreatEng
namespace Xe
open Go
def loadN (h:Heap) (a:Addr) (i:Nat):Nat→Option (List Value)
 | 0=>some []
 | n+1=>(hcell h (a.add i)).bind fun v=>(loadN h a (i+1) n).map (v::·)
def loadV (g:Option (Option Nat)) (x:Value) (h:Heap):Option Value:=match g,x with
 | some none,.pointer (some a)=>hcell h a
 | some (some n),.pointer (some a)=>(loadN h a 0 n).map fun l=>.agg l.toArray
 | _,_=>none
section
variable {P:Program} {w:World}
theorem load_run {a:Addr} {v:Value} (h:hcell w.heap a=some v):(load a).run P w=.ok v w:=by
 have h':w.cell? a=some v:=h
 simp only [load,Sem.run,h']
theorem loadN_run {a:Addr}:∀ {n i:Nat} {l:List Value} (acc:Array Value),loadN w.heap a i n=some l→(loadCellsFrom a i n acc).run P w=.ok (acc++l.toArray) w
 | 0,i,l,acc,h=>by
   simp only [loadN,Option.some.injEq] at h
   subst h
   simp [loadCellsFrom]
 | n+1,i,l,acc,h=>by
   simp only [loadN,Option.bind_eq_some_iff,Option.map_eq_some_iff] at h
   obtain ⟨v,hv,r,hr,rfl⟩:=h
   simp [loadCellsFrom,load_run hv,loadN_run (acc.push v) hr]
theorem loadV_run {t:TypeId} {x v:Value} (h:loadV (aggOf P t) x w.heap=some v):(Instr.loadAt t x).run P w=.ok v w:=by
 cases hg:aggOf P t with
 | none=>rw [hg] at h; simp [loadV] at h
 | some g =>
   rw [hg] at h
   have hagg:(isAgg t).run P w=.ok g.isSome w∧∀ n,g=some n→szOf P t=some n:=by
     unfold aggOf at hg
     split at hg
     · rename_i hu
       simp only [Option.map_eq_some_iff] at hg
       obtain ⟨m,hm,rfl⟩:=hg
       exact ⟨by simp [isAgg,run_under hu],fun n hn=>by simp only [Option.some.injEq] at hn; rw [← hn]; exact hm⟩
     · rename_i hu
       simp only [Option.map_eq_some_iff] at hg
       obtain ⟨m,hm,rfl⟩:=hg
       exact ⟨by simp [isAgg,run_under hu],fun n hn=>by simp only [Option.some.injEq] at hn; rw [← hn]; exact hm⟩
     · rename_i d hd1 hd2 hu
       simp only [Option.some.injEq] at hg
       subst hg
       refine ⟨?_,by intro n hn; cases hn⟩
       simp only [isAgg,Sem.run_bind,run_under hu,Result.andThen_ok]
       cases d <;> simp_all
     · cases hg
   cases x with
   | pointer a =>
     cases a with
     | none=>cases g <;> simp [loadV] at h
     | some a =>
       cases g with
       | none =>
         simp only [loadV] at h
         have e1:=hagg.1
         simp only [Option.isSome_none] at e1
         have e2:=load_run (P:=P) h
         simp only [Instr.loadAt,Instr.sureAddr,loadVar,Sem.run_bind,Sem.run_pure,Result.andThen_ok,e1]
         exact e2
       | some n =>
         simp only [loadV,Option.map_eq_some_iff] at h
         obtain ⟨l,hl,rfl⟩:=h
         have e1:=hagg.1
         simp only [Option.isSome_some] at e1
         have e3:=loadN_run (P:=P) (w:=w) #[] hl
         simp [Instr.loadAt,Instr.sureAddr,loadVar,e1,run_cells (hagg.2 n rfl),loadCells,e3]
   | _=>cases g <;> simp [loadV] at h
end
def mapOf (h:Heap) (m:Value):Option (Nat × Array MapEntry × Nat):=match m with
 | .map (some r)=>(match h[r]? with
   | some (.map es c)=>some (r,es,c)
   | _=>none)
 | _=>none
def intKey (P:Program) (kt:TypeId):Bool:=match P.underlying kt with
 | some (.int .i64)=>true
 | _=>false
def keyI (v:Value):Option Int:=match v with
 | .int .i64 x=>some x
 | _=>none
def mapT (P:Program) (t:TypeId):Option (TypeId × TypeId):=match P.underlying t with
 | some (.map kt e)=>if intKey P kt=true then some (kt,e) else none
 | _=>none
def findI (es:Array MapEntry) (x:Int):Option (Option (Nat × Value)):=Instr.findNow (.int .i64) (.int .i64 x) es.toList 0
def lookV (P:Program) (t:TypeId) (m key:Value) (ok:Bool) (h:Heap):Option Value :=
 (mapT P t).bind fun p=>(zeroOf P p.2).bind fun z=>(mapOf h m).bind fun q=>(keyI key).bind fun x=>(findI q.2.1 x).map fun o =>
  if ok then .tuple #[(o.map (·.2)).getD z,.bool o.isSome] else (o.map (·.2)).getD z
theorem mapT_spec {P:Program} {t kt e:TypeId} (h:mapT P t=some (kt,e)):P.underlying t=some (.map kt e)∧P.underlying kt=some (.int .i64):=by
 unfold mapT at h
 split at h
 · rename_i kt' e' hu
   split at h
   · rename_i hk
     simp only [Option.some.injEq,Prod.mk.injEq] at h
     obtain ⟨rfl,rfl⟩:=h
     refine ⟨hu,?_⟩
     unfold intKey at hk
     split at hk
     · assumption
     · cases hk
   · cases h
 · cases h
theorem mapOf_spec {h:Heap} {m:Value} {r:Nat} {es:Array MapEntry} {c:Nat} (hm:mapOf h m=some (r,es,c)):m=.map (some r)∧h[r]?=some (.map es c):=by
 unfold mapOf at hm
 split at hm
 · split at hm
   · rename_i hr
     simp only [Option.some.injEq,Prod.mk.injEq] at hm
     obtain ⟨rfl,rfl,rfl⟩:=hm
     exact ⟨rfl,hr⟩
   · cases hm
 · cases hm
theorem keyI_spec {v:Value} {x:Int} (h:keyI v=some x):v=.int .i64 x:=by
 unfold keyI at h
 split at h
 · simp only [Option.some.injEq] at h; rw [h]
 · cases h
section
variable {P:Program} {w:World}
theorem checkKey_run {kt:TypeId} {b:Bool} {x:Int} (hk:P.underlying kt=some (.int .i64)):(Instr.checkKey b 10000 kt (.int .i64 x)).run P w=.ok () w:=by
 show (Instr.checkKey b (9999+1) kt (.int .i64 x)).run P w=.ok () w
 unfold Instr.checkKey
 simp [run_under hk]
theorem findKey_run {kt:TypeId} {es:Array MapEntry} {x:Int} {o:Option (Nat × Value)} (hk:P.underlying kt=some (.int .i64)) (hf:findI es x=some o) :
  (Instr.findKey kt (.int .i64 x) es.toList).run P w=.ok o w:=by
 unfold findI at hf
 unfold Instr.findKey
 simp [run_under hk,hf]
theorem getObj_run {r:Nat} {es:Array MapEntry} {c:Nat} (h:w.heap[r]?=some (.map es c)):(getObj r).run P w=.ok (.map es c) w:=by
 simp [getObj,Sem.run,h]
theorem lookV_run {t:TypeId} {m key v:Value} {ok:Bool} (h:lookV P t m key ok w.heap=some v):(Instr.lookup t m key ok).run P w=.ok v w:=by
 simp only [lookV,Option.bind_eq_some_iff,Option.map_eq_some_iff] at h
 obtain ⟨⟨kt,e⟩,h1,z,h2,⟨r,es,c⟩,h3,x,h4,o,h5,h6⟩:=h
 obtain ⟨hu,hk⟩:=mapT_spec h1
 obtain ⟨rfl,hr⟩:=mapOf_spec h3
 obtain rfl:=keyI_spec h4
 simp only at h2 h5
 unfold Instr.lookup
 cases o with
 | none=>simp [run_under hu,getObj_run hr,checkKey_run hk,findKey_run hk h5,run_zero h2,← h6]
 | some p=>obtain ⟨i,u⟩:=p; simp [run_under hu,getObj_run hr,checkKey_run hk,findKey_run hk h5,← h6]
end
def lv (P:Program) (ρ:Env) (o:Op) (h:Heap):Option Value:=match o with
 | .load t a=>loadV (aggOf P t) (ev ρ a) h
 | .lookup t m x ok=>lookV P t (ev ρ m) (ev ρ x) ok h
 | _=>none
theorem lv_run {P:Program} {ρ:Env} {o:Oper} {v:Value} {w:World} (h:lv P ρ o.op w.heap=some v):(execOp (ev ρ) o).run P w=.ok (.value v) w:=by
 obtain ⟨dst,op,ty,pos,after,guard⟩:=o
 simp only at h
 cases op
 case load t a=>simp only [execOp,Sem.run_bind,loadV_run h,Result.andThen_ok,Sem.run_pure]
 case lookup t m x ok=>simp only [execOp,Sem.run_bind,lookV_run h,Result.andThen_ok,Sem.run_pure]
 all_goals simp [lv] at h
def CallsH (P:Program) (f:FuncId) (vs:List Value) (h:Heap) (R:Value→Heap→Prop):Prop :=
 (∃ fn, P.funcs[f]? = some fn ∧ fn.body.isNone = false ∧ (fn.name == "runtime.NumGoroutine") = false) ∧
 ∀ w,w.heap=h→Calls P f vs.toArray w (fun e w'=>∃ v,e=.returned v∧Like w w'∧R v w'.heap)
theorem CallsH.mono {P:Program} {f:FuncId} {vs:List Value} {h:Heap} {R R':Value→Heap→Prop} (c:CallsH P f vs h R) (hr:∀ v h',R v h'→R' v h'):CallsH P f vs h R' :=
 ⟨c.1,fun w hw=>(c.2 w hw).mono fun _ _ ⟨v,he,hl,hR⟩=>⟨v,he,hl,hr _ _ hR⟩⟩
def invokeX (P:Program) (f:Value) (vs:List Value) (h:Heap) (k:Value→Heap→Prop):Prop:=match f with
 | .func (.func f) first captured=>CallsH P f (first.toList++vs++captured.toList) h k
 | _=>False
def storeN (h:Heap) (a:Addr) (i:Nat):List Value→(Heap→Prop)→Prop
 | [],k=>k h
 | v::rest,k=>v.oneCell'=true∧(hcell h (a.add i)).isSome=true∧hfrz h (a.add i)=false∧storeN (hset h (a.add i) v) a (i+1) rest k
def storeX (n:Option Nat) (x v:Value) (h:Heap) (k:Heap→Prop):Prop:=match n,x with
 | some n,.pointer (some a)=>v.cells.size=n∧storeN h a 0 v.cells.toList k
 | _,_=>False
def newX (cs:Array Value) (e:TypeId) (h:Heap) (k:Value→Heap→Prop):Prop :=
 k (.pointer (some ⟨h.size,0,none⟩)) (h.push (.cells cs e))
def allocX (z:Option Value) (e:TypeId) (h:Heap) (k:Value→Heap→Prop):Prop:=match z with
 | some z=>newX z.cells e h k
 | none=>False
def elemOfS (P:Program) (t:TypeId):Option (TypeId × Nat × Nat × Value):=match P.underlying t with
 | some (.slice e)=>(P.info? e).bind fun i=>i.zero.bind fun z=>if z.cells.size=i.size then some (e,i.size,i.bytes,z) else none
 | _=>none
def zerosOf (z:Array Value) (n:Nat):Array Value:=(Array.range n).map fun i=>z[i % z.size]!
def buildSliceX (el:Option (TypeId × Nat × Nat × Value)) (n:Nat) (parts:List (Nat × Value)) (h:Heap) (k:Value→Heap→Prop):Prop:=match el with
 | some (e,s,_,z)=>n*s≤2^24∧∃ cs,Instr.fill (fun i=>some (i*s,s)) (zerosOf z.cells (n*s)) parts=some cs∧k (.slice (some ⟨h.size,0,none⟩) n n) (h.push (.cells cs e))
 | none=>False
def makeSliceX (el:Option (TypeId × Nat × Nat × Value)) (l c:Value) (h:Heap) (k:Value→Heap→Prop):Prop:=match el,l,c with
 | some (e,s,b,z),.int _ l,.int _ c=>0≤l∧l≤c∧c≤9223372036854775807∧b*c≤2^48 ∧
  k (.slice (some ⟨h.size,0,none⟩) l.toNat c.toNat) (h.push (.cells (zerosOf z.cells (c.toNat*s)) e))
 | _,_,_=>False
def rowN (h:Heap) (a:Option Addr) (n:Nat):Option (List Value):=match a with
 | some a=>loadN h a 0 n
 | none=>some []
def appendX (el:Option (TypeId × Nat × Nat × Value)) (s x:Value) (h:Heap) (k:Value→Heap→Prop):Prop:=match el,s,x with
 | some (e,sz,b,_),.slice base len cap,.slice xb n _ =>
   ∃ new,rowN h xb (n*sz)=some new ∧
   (len+n≤cap→match base with
    | some a=>storeN h (a.add (len*sz)) 0 new (fun h'=>k (.slice base (len+n) cap) h')
    | none=>k (.slice none (len+n) cap) h) ∧
   (cap<len+n→(len+n)*b≤2^47∧len+n≤maxLen∧∃ old,rowN h base (len*sz)=some old∧∀ c rest,len+n≤c →
    rest.length=(c-(len+n))*sz→k (.slice (some ⟨h.size,0,none⟩) (len+n) c) (h.push (.cells (old++new++rest).toArray e)))
 | _,_,_=>False
def LoudSem (P:Program) (o:Oper) (ρ:Env) (h:Heap) (k:Value→Heap→Prop):Prop :=
 ∀ a w,env a=ρ→w.heap=h→∀ (K:Act→World→Prop) (Q:Exit→Act→World→Prop),
   (∀ v w',Like w w'→k v w'.heap→K (a.put o.dst v) w')→o.wp P a w K Q
theorem loud_value {P:Program} {o:Oper} {ρ:Env} {h:Heap} {k:Value→Heap→Prop}
  (hr:∀ w,w.heap=h→∃ v w',(execOp (ev ρ) o).run P w=.ok (.value v) w'∧Like w w'∧k v w'.heap):LoudSem P o ρ h k:=by
 intro a w ha hw K Q hK
 obtain ⟨v,w',h1,h2,h3⟩:=hr w hw
 unfold Oper.wp
 rw [eval_eq,ha,h1]
 exact hK v w' h2 h3
theorem loud_skip {P:Program} {o:Oper} {ρ:Env} {h:Heap} {k:Value→Heap→Prop}
  (hr:∀ w,w.heap=h→∃ w',(execOp (ev ρ) o).run P w=.ok .skip w'∧Like w w'∧k undef w'.heap):LoudSem P o ρ h k:=by
 intro a w ha hw K Q hK
 obtain ⟨w',h1,h2,h3⟩:=hr w hw
 unfold Oper.wp
 rw [eval_eq,ha,h1]
 exact hK undef w' h2 h3
theorem storeN_run {P:Program} {a:Addr}:∀ {vs:List Value} {i:Nat} {w:World} {k:Heap→Prop},storeN w.heap a i vs k →
   ∃ w',(storeCells a vs i).run P w=.ok () w'∧Like w w'∧k w'.heap
 | [],i,w,k,h=>⟨w,rfl,Like.refl w,h⟩
 | v::rest,i,w,k,h=>by
   obtain ⟨h1,h2,h3,h4⟩:=h
   obtain ⟨u,hu⟩:=Option.isSome_iff_exists.1 h2
   have hc:w.cell? (a.add i)=some u:=hu
   have hf:w.frozen? (a.add i)=false:=h3
   have hs:(store (a.add i) v).run P w=.ok () (w.setCell (a.add i) v):=by
    cases v <;> first
     | (simp [Value.oneCell'] at h1; done)
     | simp [store,Sem.run,hc,hf]
   obtain ⟨w',e1,e2,e3⟩:=storeN_run (P:=P) (w:=w.setCell (a.add i) v) (i:=i+1) (vs:=rest) (k:=k) h4
   refine ⟨w',?_,(⟨rfl,rfl,rfl⟩:Like w (w.setCell (a.add i) v)).trans e2,e3⟩
   simp [storeCells,hs,e1]
theorem storeX_loud {P:Program} {dst:Option Tmp} {t:TypeId} {a x:Operand} {ty:TypeId} {pos:String} {after:Array Edge} {guard:Option (Nat × Bool)}
   {ρ:Env} {h:Heap} {k:Value→Heap→Prop} (hx:storeX (szOf P t) (ev ρ a) (ev ρ x) h (k undef)):LoudSem P ⟨dst,.store t a x,ty,pos,after,guard⟩ ρ h k:=by
 refine loud_skip fun w hw=>?_
 unfold storeX at hx
 split at hx
 · rename_i n ad hn ha
   obtain ⟨h1,h2⟩:=hx
   subst hw
   obtain ⟨w',e1,e2,e3⟩:=storeN_run (P:=P) h2
   refine ⟨w',?_,e2,e3⟩
   simp [execOp,Instr.storeAt,Instr.sureAddr,ha,storeVar,run_cells hn,h1,e1]
 · exact hx.elim
theorem newRow_run {P:Program} {w:World} {e:TypeId} {cs:Array Value}:(newRow e cs).run P w=.ok ⟨w.heap.size,0,none⟩ { w with heap:=w.heap.push (.cells cs e) }:=by
 simp [newRow,newObj,Sem.run]
theorem allocX_loud {P:Program} {dst:Option Tmp} {e:TypeId} {ty:TypeId} {pos:String} {after:Array Edge} {guard:Option (Nat × Bool)}
   {ρ:Env} {h:Heap} {k:Value→Heap→Prop} (hx:allocX (zeroOf P e) e h k):LoudSem P ⟨dst,.alloc e,ty,pos,after,guard⟩ ρ h k:=by
 refine loud_value fun w hw=>?_
 unfold allocX at hx
 split at hx
 · rename_i z hz
   subst hw
   refine ⟨_,{ w with heap:=w.heap.push (.cells z.cells e) },?_,⟨rfl,rfl,rfl⟩,hx⟩
   simp [execOp,Instr.alloc,run_zero hz,newVar,newRow_run]
 · exact hx.elim
theorem boxX_loud {P:Program} {dst:Option Tmp} {e:TypeId} {x:Operand} {ty:TypeId} {pos:String} {after:Array Edge} {guard:Option (Nat × Bool)}
  {ρ:Env} {h:Heap} {k:Value→Heap→Prop} (hx:newX (ev ρ x).cells e h k):LoudSem P ⟨dst,.box e x,ty,pos,after,guard⟩ ρ h k:=by
 refine loud_value fun w hw=>?_
 subst hw
 refine ⟨_,{ w with heap:=w.heap.push (.cells (ev ρ x).cells e) },?_,⟨rfl,rfl,rfl⟩,hx⟩
 simp [execOp,Instr.box,newVar,newRow_run]
theorem elem_spec {P:Program} {t e:TypeId} {s b:Nat} {z:Value} (h:elemOfS P t=some (e,s,b,z)) :
   P.underlying t=some (.slice e)∧∃ i,P.info? e=some i∧i.size=s∧i.bytes=b∧i.zero=some z∧z.cells.size=s:=by
 unfold elemOfS at h
 split at h
 · rename_i e' hu
   simp only [Option.bind_eq_some_iff] at h
   obtain ⟨i,hi,z',hz,h⟩:=h
   split at h
   · rename_i hc
     simp only [Option.some.injEq,Prod.mk.injEq] at h
     obtain ⟨h1,h2,h3,h4⟩:=h
     subst h1 h4
     exact ⟨hu,i,hi,h2,h3,hz,hc.trans h2⟩
   · cases h
 · cases h
theorem buildSliceX_loud {P:Program} {dst:Option Tmp} {t:TypeId} {n:Nat} {ps:Array (Nat × Operand)} {ty:TypeId} {pos:String} {after:Array Edge} {guard:Option (Nat × Bool)}
   {ρ:Env} {h:Heap} {k:Value→Heap→Prop} (hx:buildSliceX (elemOfS P t) n (ps.toList.map fun p=>(p.1,ev ρ p.2)) h k):LoudSem P ⟨dst,.buildSlice t n ps,ty,pos,after,guard⟩ ρ h k:=by
 refine loud_value fun w hw=>?_
 unfold buildSliceX at hx
 split at hx
 · rename_i e s b z hel
   obtain ⟨hu,i,hi,h1,h2,hz,_⟩:=elem_spec hel
   obtain ⟨hle,cs,hf,hk⟩:=hx
   subst hw
   refine ⟨_,{ w with heap:=w.heap.push (.cells cs e) },?_,⟨rfl,rfl,rfl⟩,hk⟩
   have hsz:(Go.sizeOf e).run P w=.ok s w:=run_cells (by simp [szOf,hi,h1])
   have hng:¬ n*s > 2^24:=by omega
   by_cases h0:n*s=0
   · have hzz:(Array.map (fun x=>(#[]:Array Value)[x % (#[]:Array Value).size]!) (Array.range (n*s)))=zerosOf z.cells (n*s):=by simp [h0,zerosOf]
     simp only [execOp,Instr.buildSlice,Sem.run_bind,run_under hu,Result.andThen_ok,hsz,hng,if_false,if_pos h0,Sem.run_pure,hzz,Array.toList_map,hf,newRow_run]
   · have hzz:(Array.map (fun x=>z.cells[x % z.cells.size]!) (Array.range (n*s)))=zerosOf z.cells (n*s):=rfl
     simp only [execOp,Instr.buildSlice,Sem.run_bind,run_under hu,Result.andThen_ok,hsz,hng,if_false,if_neg h0,run_zero (show zeroOf P e=some z by simp [zeroOf,hi,hz]),Sem.run_pure,hzz,Array.toList_map,hf,newRow_run]
 · exact hx.elim
theorem askRoom_run {P:Program} {w:World} {n:Nat}:(askRoom n).run P w=.ok () w:=by
 unfold askRoom
 split <;> simp [mark,Sem.run]
theorem makeSliceX_loud {P:Program} {dst:Option Tmp} {t:TypeId} {l c:Operand} {ty:TypeId} {pos:String} {after:Array Edge} {guard:Option (Nat × Bool)}
   {ρ:Env} {h:Heap} {k:Value→Heap→Prop} (hx:makeSliceX (elemOfS P t) (ev ρ l) (ev ρ c) h k):LoudSem P ⟨dst,.makeSlice t l c,ty,pos,after,guard⟩ ρ h k:=by
 refine loud_value fun w hw=>?_
 unfold makeSliceX at hx
 split at hx
 · rename_i e s b z k1 L k2 C hel hl hc
   obtain ⟨hu,i,hi,h1,h2,hz,_⟩:=elem_spec hel
   obtain ⟨l0,lc,cm,hb,hk⟩:=hx
   subst hw
   refine ⟨_,{ w with heap:=w.heap.push (.cells (zerosOf z.cells (C.toNat*s)) e) },?_,⟨rfl,rfl,rfl⟩,hk⟩
   have e1:IntKind.i64.wrap L=L:=IntWalk.i64_in _ (by omega)
   have e2:IntKind.i64.wrap C=C:=IntWalk.i64_in _ (by omega)
   have hsz:(Go.sizeOf e).run P w=.ok s w:=run_cells (by simp [szOf,hi,h1])
   have hin:=run_info (P:=P) (w:=w) hi
   have hcond:(decide (C<0)||decide ((i.bytes:Int)*C > 2^48)||decide (L<0)||decide (L > C))=false:=by
     simp only [Bool.or_eq_false_iff,decide_eq_false_iff_not]
     have:(i.bytes:Int)*C≤2^48:=by rw [h2]; exact hb
     omega
   by_cases h0:C.toNat*s=0
   · have hzz:(Array.map (fun x=>(#[]:Array Value)[x % (#[]:Array Value).size]!) (Array.range (C.toNat*s)))=zerosOf z.cells (C.toNat*s):=by simp [h0,zerosOf]
     simp only [execOp,Instr.makeSlice,Sem.run_bind,run_under hu,Result.andThen_ok,hl,hc,asInt,asIntOf,Sem.run_pure,hin,e1,e2,hcond,Bool.false_eq_true,if_false,askRoom_run,hsz,if_pos h0,hzz,newRow_run]
   · have hzz:(Array.map (fun x=>z.cells[x % z.cells.size]!) (Array.range (C.toNat*s)))=zerosOf z.cells (C.toNat*s):=rfl
     simp only [execOp,Instr.makeSlice,Sem.run_bind,run_under hu,Result.andThen_ok,hl,hc,asInt,asIntOf,Sem.run_pure,hin,e1,e2,hcond,Bool.false_eq_true,if_false,askRoom_run,hsz,if_neg h0,run_zero (show zeroOf P e=some z by simp [zeroOf,hi,hz]),hzz,newRow_run]
 · exact hx.elim
def mapUpX (P:Program) (t:TypeId) (m key v:Value) (h:Heap) (k:Heap→Prop):Prop :=
 ∃ kt e r es c x o,mapT P t=some (kt,e)∧mapOf h m=some (r,es,c)∧keyI key=some x∧findI es x=some o∧(∀ i u,o=some (i,u)→(es[i]?).map (·.key)=some (.int .i64 x)) ∧
   k (h.setIfInBounds r (match o with
     | some (i,_)=>.map (es.modify i fun e=>{ e with key:=.int .i64 x,val:=v }) c
     | none=>.map (es.push { key:=.int .i64 x,val:=v,born:=c }) (c+1)))
def deleteX (P:Program) (t:TypeId) (m key:Value) (h:Heap) (k:Heap→Prop):Prop :=
 ∃ kt e r es c x o,mapT P t=some (kt,e)∧mapOf h m=some (r,es,c)∧keyI key=some x∧findI es x=some o ∧
   k (h.setIfInBounds r (match o with
     | some (i,_)=>.map (es.eraseIdxIfInBounds i) c
     | none=>.map es c))
def clearX (P:Program) (t:TypeId) (m:Value) (h:Heap) (k:Heap→Prop):Prop :=
 (∃ d r es c,P.underlying t=some d∧mapOf h m=some (r,es,c)∧k (h.setIfInBounds r (.map #[] c))) ∨
 (∃ e s b z a n cap,elemOfS P t=some (e,s,b,z)∧m=.slice (some a) n cap∧storeN h a 0 (zerosOf z.cells (n*s)).toList k)
section
variable {P:Program} {w:World}
theorem setObj_run {r:Nat} {Y:Obj} {es:Array MapEntry} {c:Nat} (h:w.heap[r]?=some (.map es c)):(setObj r Y).run P w=.ok () { w with heap:=w.heap.setIfInBounds r Y }:=by
 simp [setObj,Sem.run,h]
theorem mapUpX_run {t:TypeId} {m key v:Value} {k:Heap→Prop} (hx:mapUpX P t m key v w.heap k):∃ w',(Instr.mapUpdate t m key v).run P w=.ok () w'∧Like w w'∧k w'.heap:=by
 obtain ⟨kt,e,r,es,c,x,o,h1,h2,h3,h4,h5,h6⟩:=hx
 obtain ⟨hu,hk⟩:=mapT_spec h1
 obtain ⟨rfl,hr⟩:=mapOf_spec h2
 obtain rfl:=keyI_spec h3
 unfold Instr.mapUpdate
 cases o with
 | none=>exact ⟨{ w with heap:=w.heap.setIfInBounds r (.map (es.push { key:=.int .i64 x,val:=v,born:=c }) (c+1)) },by simp [run_under hu,getObj_run hr,checkKey_run hk,findKey_run hk h4,setObj_run hr],⟨rfl,rfl,rfl⟩,h6⟩
 | some p =>
   obtain ⟨i,u⟩:=p
   have h7:=h5 i u rfl
   have hks:(Instr.keyThatStays (((es[i]?).map (·.key)).getD (.int .i64 x)) (.int .i64 x)).run P w=.ok (.int .i64 x) w:=by
    rw [h7]
    unfold Instr.keyThatStays
    have:Instr.sameBits 10000 (.int .i64 x) (.int .i64 x)=true:=by
     show Instr.sameBits (9999+1) (.int .i64 x) (.int .i64 x)=true
     unfold Instr.sameBits; simp
    simp [this]
   refine ⟨{ w with heap:=w.heap.setIfInBounds r (.map (es.modify i fun e=>{ e with key:=.int .i64 x,val:=v }) c) },?_,⟨rfl,rfl,rfl⟩,h6⟩
   simp only [run_under hu,getObj_run hr,checkKey_run hk,findKey_run hk h4,setObj_run hr,Sem.run_bind,Result.andThen_ok,hks]
theorem deleteX_run {t ty:TypeId} {ts:Array TypeId} {m key:Value} {k:Heap→Prop} (ht:ts[0]?=some t) (hx:deleteX P t m key w.heap k) :
   ∃ w',(Builtin.delete_ ts ty #[m,key]).run P w=.ok (.tuple #[]) w'∧Like w w'∧k w'.heap:=by
 obtain ⟨kt,e,r,es,c,x,o,h1,h2,h3,h4,h6⟩:=hx
 obtain ⟨hu,hk⟩:=mapT_spec h1
 obtain ⟨rfl,hr⟩:=mapOf_spec h2
 obtain rfl:=keyI_spec h3
 unfold Builtin.delete_
 cases o with
 | none=>exact ⟨{ w with heap:=w.heap.setIfInBounds r (.map es c) },by simp [ht,run_under hu,getObj_run hr,checkKey_run hk,findKey_run hk h4,setObj_run hr],⟨rfl,rfl,rfl⟩,h6⟩
 | some p =>
   obtain ⟨i,u⟩:=p
   exact ⟨{ w with heap:=w.heap.setIfInBounds r (.map (es.eraseIdxIfInBounds i) c) },by simp [ht,run_under hu,getObj_run hr,checkKey_run hk,findKey_run hk h4,setObj_run hr],⟨rfl,rfl,rfl⟩,h6⟩
theorem clearX_run {t ty:TypeId} {ts:Array TypeId} {m:Value} {k:Heap→Prop} (ht:ts[0]?=some t) (hx:clearX P t m w.heap k) :
   ∃ w',(Builtin.clear_ ts ty #[m]).run P w=.ok (.tuple #[]) w'∧Like w w'∧k w'.heap:=by
 rcases hx with ⟨d,r,es,c,h1,h2,h6⟩ | ⟨e,s,b,z,a,n,cap,hel,rfl,hst⟩
 · obtain ⟨rfl,hr⟩:=mapOf_spec h2
   unfold Builtin.clear_
   exact ⟨{ w with heap:=w.heap.setIfInBounds r (.map #[] c) },by simp [ht,run_under h1,getObj_run hr,setObj_run hr],⟨rfl,rfl,rfl⟩,h6⟩
 · obtain ⟨hu,i,hi,h1,h2,hz,hzs⟩:=elem_spec hel
   unfold Builtin.clear_
   cases n with
   | zero =>
     have hk:k w.heap:=by
      have e0:(zerosOf z.cells (0*s)).toList=[]:=by simp [zerosOf]
      rw [e0] at hst; exact hst
     exact ⟨w,by simp [ht,run_under hu],Like.refl w,hk⟩
   | succ n =>
     obtain ⟨w',e1,e2,e3⟩:=storeN_run (P:=P) hst
     refine ⟨w',?_,e2,e3⟩
     have hzr:(zeroValue e).run P w=.ok z w:=run_zero (by simp [zeroOf,hi,hz])
     have e4:(Builtin.zeroCells z.cells (n+1)).toList=(zerosOf z.cells ((n+1)*s)).toList:=by unfold Builtin.zeroCells zerosOf; rw [hzs]
     rw [← e4] at e1
     simp [ht,run_under hu,hzr,e1]
end
def copyX (el:Option (TypeId × Nat × Nat × Value)) (d s:Value) (h:Heap) (k:Value→Heap→Prop):Prop:=match el,d,s with
 | some (_,sz,_,_),.slice base dl _,.slice sb sl _=>∃ new,rowN h sb (min sl dl*sz)=some new∧(match base with
   | some a=>storeN h a 0 new fun h'=>k (.int .i64 (min sl dl:Nat)) h'
   | none=>k (.int .i64 (min sl dl:Nat)) h)
 | _,_,_=>False
theorem firstCells_run {P:Program} {w:World} {sz n len cap:Nat} {a:Option Addr} {l:List Value} (h:rowN w.heap a (n*sz)=some l) :
   (Builtin.firstCells sz n (.slice a len cap)).run P w=.ok l.toArray w:=by
 cases a with
 | none=>simp only [rowN,Option.some.injEq] at h; subst h; simp [Builtin.firstCells]
 | some a =>
   have:=loadN_run (P:=P) (w:=w) #[] h
   simpa [Builtin.firstCells,loadCells] using this
theorem appendX_run {P:Program} {w:World} {t u ty:TypeId} {e':TypeId} {s x:Value} {k:Value→Heap→Prop} (hu2:P.underlying u=some (.slice e'))
   (hx:appendX (elemOfS P t) s x w.heap k):∃ v w',(Builtin.append_ #[t,u] ty #[s,x]).run P w=.ok v w'∧Like w w'∧k v w'.heap:=by
 unfold appendX at hx
 split at hx
 · rename_i e sz b z base len cap xb n xc hel
   obtain ⟨hu,i,hi,h1,h2,hz,hzs⟩:=elem_spec hel
   obtain ⟨new,hnew,hfit,hgrow⟩:=hx
   have hsz:∀ w:World,(Go.sizeOf e).run P w=.ok sz w:=fun w=>run_cells (by simp [szOf,hi,h1])
   have hin:∀ w:World,(typeInfo e).run P w=.ok i w:=fun w=>run_info hi
   have hzr:∀ w:World,(zeroValue e).run P w=.ok z w:=fun w=>run_zero (by simp [zeroOf,hi,hz])
   by_cases hr:len+n≤cap
   · have hk:=hfit hr
     cases base with
     | none =>
       refine ⟨.slice none (len+n) cap,w,?_,Like.refl w,hk⟩
       simp [Builtin.append_,run_under hu,run_under hu2,hsz,Builtin.lenOf,hr,firstCells_run hnew]
     | some a =>
       obtain ⟨w',e1,e2,e3⟩:=storeN_run (P:=P) hk
       refine ⟨.slice (some a) (len+n) cap,w',?_,e2,e3⟩
       simp [Builtin.append_,run_under hu,run_under hu2,hsz,Builtin.lenOf,hr,firstCells_run hnew,e1]
   · obtain ⟨hb,hm,old,hold,hk⟩:=hgrow (by omega)
     have hge:=grownCap_ge w (len+n) cap e
     have h63':¬ (9223372036854775807<((len:Int)+(n:Int))):=by unfold maxLen at hm; omega
     have h48':¬ (281474976710656<Builtin.nextslicecap (len+n) cap*i.bytes):=by
       have:=growslice_fits (need:=len+n) (old:=cap) (bytes:=b) (by omega) (by omega)
       rw [h2]; omega
     have hnew':=firstCells_run (P:=P) (w:=w.drew) (len:=n) (cap:=xc) (show rowN w.drew.heap xb (n*sz)=some new from hnew)
     have hold':=firstCells_run (P:=P) (w:=w.drew) (len:=len) (cap:=cap) (show rowN w.drew.heap base (len*sz)=some old from hold)
     refine ⟨.slice (some ⟨w.heap.size,0,none⟩) (len+n) (grownCap w (len+n) cap e),
       w.drew.alloc (.cells (old.toArray++new.toArray++Builtin.zeroCells z.cells (grownCap w (len+n) cap e-(len+n))) e),?_,⟨rfl,rfl,rfl⟩,?_⟩
     · simp [Builtin.append_,run_under hu,run_under hu2,hsz,hin,hzr,Builtin.lenOf,hr,h63',h48',Question.forced,hnew',hold',newRow,grownCap]
       congr 2
       apply Array.ext'
       simp [List.append_assoc]
     · have hl:(Builtin.zeroCells z.cells (grownCap w (len+n) cap e-(len+n))).toList.length=(grownCap w (len+n) cap e-(len+n))*z.cells.size:=by
        simp [Builtin.zeroCells]
       rw [hzs] at hl
       have:=hk _ _ hge hl
       have e1:(old++new++(Builtin.zeroCells z.cells (grownCap w (len+n) cap e-(len+n))).toList).toArray =
         old.toArray++new.toArray++Builtin.zeroCells z.cells (grownCap w (len+n) cap e-(len+n)):=by
        apply Array.ext'
        simp
       rw [e1] at this
       exact this
 · exact hx.elim
def appendZX (el:Option (TypeId × Nat × Nat × Value)) (s x:Value) (h:Heap) (k:Value→Heap→Prop):Prop:=match el,s,x with
 | some (e,sz,b,_),.slice none 0 0,.int .i64 m=>0<m∧m≤2^40∧0<sz∧b≤64∧∀ c rest,m.toNat≤c→rest.length=c*sz→k (.slice (some ⟨h.size,0,none⟩) m.toNat c) (h.push (.cells (List.toArray rest) e))
 | _,_,_=>False
def appSel (d:Option TypeDesc) (A B:Prop):Prop:=match d with
 | some (.slice _)=>A
 | some (.int _)=>B
 | _=>False
theorem appendZX_run {P:Program} {w:World} {t u ty:TypeId} {kd:IntKind} {s x:Value} {k:Value→Heap→Prop} (hu2:P.underlying u=some (.int kd))
   (hx:appendZX (elemOfS P t) s x w.heap k):∃ v w',(Builtin.append_ #[t,u] ty #[s,x]).run P w=.ok v w'∧Like w w'∧k v w'.heap:=by
 unfold appendZX at hx
 split at hx
 · rename_i e sz b z m hel
   obtain ⟨hu,i,hi,h1,h2,hz,hzs⟩:=elem_spec hel
   obtain ⟨h0,hm,hs,hb,hk⟩:=hx
   have hsz:∀ w:World,(Go.sizeOf e).run P w=.ok sz w:=fun w=>run_cells (by simp [szOf,hi,h1])
   have hin:∀ w:World,(typeInfo e).run P w=.ok i w:=fun w=>run_info hi
   have hzr:∀ w:World,(zeroValue e).run P w=.ok z w:=fun w=>run_zero (by simp [zeroOf,hi,hz])
   obtain ⟨n,rfl⟩:∃ n:Nat,m=n:=⟨m.toNat,by omega⟩
   have hw:IntKind.i64.wrap (n:Int)=n:=IntWalk.i64_in _ (by omega)
   have hn0:¬ (n:Int)<0:=by omega
   have hp:n*i.bytes≤2^46:=by
     rw [h2]
     calc n*b≤2^40*64:=Nat.mul_le_mul (by omega) hb
      _=2^46:=by decide
   have hby:¬ ((281474976710656:Int)<(n:Int)*(i.bytes:Int)):=by
     have:((n:Int)*(i.bytes:Int))=((n*i.bytes:Nat):Int):=by rw [Int.natCast_mul]
     rw [this]
     generalize n*i.bytes=q at hp ⊢
     omega
   have hr:¬ n≤0:=by omega
   have hge:=grownCap_ge w n 0 e
   have h63':¬ (9223372036854775807<(n:Int)):=by omega
   have h48':¬ (281474976710656<Builtin.nextslicecap n 0*i.bytes):=by
     have:=growslice_fits (need:=n) (old:=0) (bytes:=b) (by omega) (by have hp':=hp; rw [h2] at hp'; omega)
     rw [h2]; omega
   have hns:¬ n*sz=0:=by
     have:=Nat.mul_pos (show 0<n by omega) hs
     omega
   have hold':=firstCells_run (P:=P) (w:=w.drew) (sz:=sz) (n:=0) (a:=none) (len:=0) (cap:=0) (l:=[]) (by simp [rowN])
   refine ⟨.slice (some ⟨w.heap.size,0,none⟩) n (grownCap w n 0 e),
     w.drew.alloc (.cells (#[]++Builtin.zeroCells z.cells n++Builtin.zeroCells z.cells (grownCap w n 0 e-n)) e),?_,⟨rfl,rfl,rfl⟩,?_⟩
   · simp [Builtin.append_,run_under hu,run_under hu2,hsz,hin,hzr,hw,hn0,hby,hr,h63',h48',hns,Question.forced,hold',newRow,grownCap,asInt,asIntOf]
     all_goals omega
   · have hl:(#[]++Builtin.zeroCells z.cells n++Builtin.zeroCells z.cells (grownCap w n 0 e-n)).toList.length=grownCap w n 0 e*sz:=by
      simp [Builtin.zeroCells,hzs]
      rw [← Nat.add_mul]
      congr 1
      omega
     have:=hk _ _ (by simpa using hge) hl
     rw [Array.toArray_toList] at this
     exact this
 · exact hx.elim
theorem copyX_run {P:Program} {w:World} {t ty:TypeId} {ts:Array TypeId} {d s:Value} {k:Value→Heap→Prop} (ht:ts[0]?=some t) (hx:copyX (elemOfS P t) d s w.heap k) :
   ∃ v w',(Builtin.copy_ ts ty #[d,s]).run P w=.ok v w'∧Like w w'∧k v w'.heap:=by
 unfold copyX at hx
 split at hx
 · rename_i e sz b z base dl dc sb sl sc hel
   obtain ⟨hu,i,hi,h1,h2,hz,hzs⟩:=elem_spec hel
   obtain ⟨new,hnew,hk⟩:=hx
   have hsz:∀ w:World,(Go.sizeOf e).run P w=.ok sz w:=fun w=>run_cells (by simp [szOf,hi,h1])
   have hf:=firstCells_run (P:=P) (w:=w) (len:=sl) (cap:=sc) hnew
   have hmin:Nat.min sl dl=min sl dl:=rfl
   cases base with
   | none =>
     refine ⟨_,w,?_,Like.refl w,hk⟩
     simp [Builtin.copy_,ht,run_under hu,hsz,Builtin.lenOf,hmin,hf,goInt]
   | some a =>
     obtain ⟨w',e1,e2,e3⟩:=storeN_run (P:=P) hk
     refine ⟨_,w',?_,e2,e3⟩
     simp [Builtin.copy_,ht,run_under hu,hsz,Builtin.lenOf,hmin,hf,e1,goInt]
 · exact hx.elim
theorem runO_elim' {o:Option Value} {k:Value→Prop} (h:runO o k):∃ v,o=some v∧k v:=by
 cases o with
 | none=>exact h.elim
 | some v=>exact ⟨v,rfl,h⟩
def builtX (P:Program) (b:Builtin) (ts:List TypeId) (xs:List Value) (h:Heap) (k:Value→Heap→Prop):Prop:=match b,ts,xs with
 | .append,[t,u],[s,x]=>appSel (P.underlying u) (appendX (elemOfS P t) s x h k) (appendZX (elemOfS P t) s x h k)
 | .copy,t::_,[s,x]=>copyX (elemOfS P t) s x h k
 | .delete,t::_,[m,x]=>deleteX P t m x h fun h'=>k (.tuple #[]) h'
 | .clear,t::_,[m]=>clearX P t m h fun h'=>k (.tuple #[]) h'
 | b,ts,xs=>runO (builtV P b ts xs) fun v=>k v h
theorem builtX_loud {P:Program} {dst:Option Tmp} {b:Builtin} {xs:Array Operand} {ts:Array TypeId} {ty:TypeId} {pos:String} {after:Array Edge} {guard:Option (Nat × Bool)}
   {ρ:Env} {h:Heap} {k:Value→Heap→Prop} (hx:builtX P b ts.toList (xs.toList.map (ev ρ)) h k) :
   LoudSem P ⟨dst,.call { callee:=.builtin b,args:=xs,argTypes:=ts },ty,pos,after,guard⟩ ρ h k:=by
 refine loud_value fun w hw=>?_
 subst hw
 obtain ⟨ts⟩:=ts
 unfold builtX at hx
 split at hx
 · rename_i t u s x e1 e2
   simp only at e1
   subst e1
   have hx:∃ v w',(Builtin.append_ #[t,u] ty #[s,x]).run P w=.ok v w'∧Like w w'∧k v w'.heap:=by
    unfold appSel at hx
    split at hx
    · rename_i hu2; exact appendX_run (ty:=ty) hu2 hx
    · rename_i hu2; exact appendZX_run (ty:=ty) hu2 hx
    · exact hx.elim
   obtain ⟨v,w',r1,r2,r3⟩:=hx
   refine ⟨v,w',?_,r2,r3⟩
   have e3:xs.map (ev ρ)=#[s,x]:=by apply Array.ext'; rw [Array.toList_map,e2]
   simp only [execOp,resolve,invoke,builtin,Sem.run_bind,Sem.run_pure,Result.andThen_ok,e3,r1]
 · rename_i t ts' s x e1 e2
   simp only at e1
   subst e1
   obtain ⟨v,w',r1,r2,r3⟩:=copyX_run (ty:=ty) (ts:=⟨t::ts'⟩) rfl hx
   refine ⟨v,w',?_,r2,r3⟩
   have e3:xs.map (ev ρ)=#[s,x]:=by apply Array.ext'; rw [Array.toList_map,e2]
   simp only [execOp,resolve,invoke,builtin,Sem.run_bind,Sem.run_pure,Result.andThen_ok,e3,r1]
 · rename_i t ts' s x e1 e2
   simp only at e1
   subst e1
   obtain ⟨w',r1,r2,r3⟩:=deleteX_run (ty:=ty) (ts:=⟨t::ts'⟩) rfl hx
   refine ⟨_,w',?_,r2,r3⟩
   have e3:xs.map (ev ρ)=#[s,x]:=by apply Array.ext'; rw [Array.toList_map,e2]
   simp only [execOp,resolve,invoke,builtin,Sem.run_bind,Sem.run_pure,Result.andThen_ok,e3,r1]
 · rename_i t ts' s e1 e2
   simp only at e1
   subst e1
   obtain ⟨w',r1,r2,r3⟩:=clearX_run (ty:=ty) (ts:=⟨t::ts'⟩) rfl hx
   refine ⟨_,w',?_,r2,r3⟩
   have e3:xs.map (ev ρ)=#[s]:=by apply Array.ext'; rw [Array.toList_map,e2]
   simp only [execOp,resolve,invoke,builtin,Sem.run_bind,Sem.run_pure,Result.andThen_ok,e3,r1]
 · obtain ⟨v,hv,hk⟩:=runO_elim' hx
   refine ⟨v,w,?_,Like.refl w,hk⟩
   simp only [execOp,resolve,Sem.run_bind,Sem.run_pure,Result.andThen_ok,invoke]
   exact builtV_run (by rw [Array.toList_map]; exact hv)
theorem callFunc_run {P : Program} {w : World} {f : FuncId} {fn : Func} {args : Array Value} (hf : P.funcs[f]? = some fn) (hb : fn.body.isNone = false) (hn : (fn.name == "runtime.NumGoroutine") = false) :
  (callFunc f args).run P w=.ok (.enter f args) w:=by
 simp only [callFunc,program,Sem.run_bind,Sem.run,Result.andThen_ok,hf]
 rw [hn,hb]
 rfl
theorem invokeX_loud {P:Program} {dst:Option Tmp} {f:Operand} {xs:Array Operand} {ts:Array TypeId} {ty:TypeId} {pos:String} {after:Array Edge} {guard:Option (Nat × Bool)}
   {ρ:Env} {h:Heap} {k:Value→Heap→Prop} (hx:invokeX P (ev ρ f) (xs.toList.map (ev ρ)) h k) :
   LoudSem P ⟨dst,.call { callee:=.value f,args:=xs,argTypes:=ts },ty,pos,after,guard⟩ ρ h k:=by
 unfold invokeX at hx
 split at hx
 · rename_i g first captured hf
   obtain ⟨⟨fn,h1,h2,h3⟩,hc⟩:=hx
   intro a w ha hw K Q hK
   unfold Oper.wp
   rw [eval_eq,ha]
   have hr:(execOp (ev ρ) ⟨dst,.call { callee:=.value f,args:=xs,argTypes:=ts },ty,pos,after,guard⟩).run P w=.ok (.enter g (first.toList++xs.toList.map (ev ρ)++captured.toList).toArray) w:=by
    simp only [execOp,resolve,Sem.run_bind,hf,Deferred.ofValue,Sem.run_pure,Result.andThen_ok,invoke,callFunc_run h1 h2 h3]
    congr 2
    apply Array.ext'
    simp
   rw [hr]
   simp only [Oper.upon]
   refine (hc w hw).mono fun e w' ⟨v,he,hl,hR⟩=>?_
   subst he
   exact hK v w' hl hR
 · exact hx.elim
def rangeX (P:Program) (t:TypeId) (v:Value) (h:Heap) (k:Value→Heap→Prop):Prop:=match P.underlying t,v with
 | some (.map _ _),.map (some m)=>match h[m]? with
   | some (.map _ clock)=>k (.pointer (some ⟨h.size,0,none⟩)) (h.push (.mapIter (some m) clock #[] clock))
   | _=>False
 | _,_=>False
def nextX (v:Value) (h:Heap) (k:Value→Heap→Prop):Prop:=match v with
 | .pointer (some ⟨r,0,none⟩)=>match h[r]? with
   | some (.mapIter (some m) since seen last)=>match h[m]? with
     | some (.map es clock)=>(∀ x∈es,x.born<since)∧since≤last∧((es.filter fun e=>!seen.contains e.born).size=0→k (.tuple #[.bool false]) h) ∧
      ∀ e∈es,seen.contains e.born=false→k (.tuple #[.bool true,e.key,e.val]) (h.setIfInBounds r (.mapIter (some m) since (seen.push e.born) clock))
     | _=>False
   | _=>False
 | _=>False
def entryV (v:Value) (h:Heap):Option Value:=match v with
 | .pointer (some ⟨r,0,none⟩)=>match h[r]? with
   | some (.mapIter (some m) _ seen stepped)=>match h[m]?,seen.back? with
     | some (.map es clock),some stamp=>if clock=stepped then (es.find? (·.born==stamp)).map fun e=>.tuple #[e.key,e.val] else none
     | _,_=>none
   | _=>none
 | _=>none
theorem rangeX_run {P:Program} {w:World} {t:TypeId} {v:Value} {k:Value→Heap→Prop} (hx:rangeX P t v w.heap k):∃ v' w',(Instr.range t v).run P w=.ok v' w'∧Like w w'∧k v' w'.heap:=by
 unfold rangeX at hx
 split at hx
 · rename_i m hu
   split at hx
   · rename_i es clock hm
     refine ⟨_,{ w with heap:=w.heap.push (.mapIter (some m) clock #[] clock) },?_,⟨rfl,rfl,rfl⟩,hx⟩
     simp [Instr.range,run_under hu,getObj,newObj,Sem.run,hm]
   · exact hx.elim
 · exact hx.elim
theorem nextX_run {P:Program} {w:World} {t:TypeId} {v:Value} {k:Value→Heap→Prop} (hx:nextX v w.heap k):∃ v' w',(Instr.next v false t).run P w=.ok v' w'∧Like w w'∧k v' w'.heap:=by
 unfold nextX at hx
 split at hx
 · rename_i r
   split at hx
   · rename_i m since seen last hr
     split at hx
     · rename_i es clock hm
       obtain ⟨hold,hsc,h0,h1⟩:=hx
       have ht:(!seen.isEmpty&&!es.isEmpty&&es.all (fun x=>decide (x.born ≥ last)))=false:=by
         by_cases he:es.isEmpty=true
         · simp [he]
         · have hne:0<es.size:=by
            have:es.size≠0:=fun h=>he (by simp [Array.isEmpty,h])
            omega
           have hb:=hold es[0] (by simp)
           have:es.all (fun x=>decide (x.born ≥ last))=false:=by
            rw [Array.all_eq_false]
            exact ⟨0,hne,by simp; omega⟩
           simp [this]
       simp only [Instr.next,getObj,Sem.run_bind,Sem.run,hr,hm,Result.andThen,ht,Bool.false_eq_true,if_false]
       obtain ⟨L,hL⟩:∃ L,L=es.filter fun e=>!seen.contains e.born:=⟨_,rfl⟩
       rw [← hL] at h0 ⊢
       have hmem:∀ x∈L,x∈es∧seen.contains x.born=false:=fun x hx=>by rw [hL] at hx; simpa using hx
       have e1:L.filter (fun x=>decide (x.born<since))=L:=Array.filter_eq_self.2 (fun x hx=>by simpa using hold x (hmem x hx).1)
       have e2:L.filter (fun x=>decide (x.born ≥ since))=#[]:=by
         rw [Array.filter_eq_empty_iff]
         intro x hx
         have:=hold x (hmem x hx).1
         simp; omega
       simp only [e1,e2,Array.append_empty]
       by_cases hz:L.size=0
       · have:L=#[]:=Array.eq_empty_of_size_eq_zero hz
         subst this
         refine ⟨_,w,?_,Like.refl w,h0 hz⟩
         simp [choose,Sem.run,Question.forced]
       · have hne:L.isEmpty=false:=by simp [Array.isEmpty,hz]
         simp only [hne,Bool.false_eq_true,if_false,Array.empty_append,Array.size_map]
         have hch:∃ (j:Nat) (w1:World),j<L.size∧w1.heap=w.heap∧Like w w1∧(choose (Question.mapNext L.size)).run P w=.ok j w1:=by
           by_cases hf:L.size≤1
           · exact ⟨0,w,by omega,rfl,Like.refl w,by simp [choose,Sem.run,Question.forced,hf]⟩
           · exact ⟨w.tape w.drawn (Question.mapNext L.size) % L.size,{ w with drawn:=w.drawn+1 },Nat.mod_lt _ (by omega),rfl,⟨rfl,rfl,rfl⟩,by
             simp only [choose,Sem.run,Question.forced,decide_eq_true_eq,hf,if_false,Question.cut]⟩
         obtain ⟨j,w1,hj,hal,hlk,hrun⟩:=hch
         have hm':=hmem L[j] (by simp)
         refine ⟨.tuple #[.bool true,L[j].key,L[j].val],{ w1 with heap:=w1.heap.setIfInBounds r (.mapIter (some m) since (seen.push L[j].born) clock) },?_,⟨hlk.os,hlk.tape,hlk.output⟩,?_⟩
         · have hr1:w1.heap[r]?=some (.mapIter (some m) since seen last):=by rw [hal]; exact hr
           simp only [hrun,Array.getElem?_map,Array.getElem?_eq_getElem hj,Option.map_some,Sem.run_bind,setObj,Sem.run,hr1,Result.andThen]
           rfl
         · show k _ (w1.heap.setIfInBounds r _)
           rw [hal]
           exact h1 _ hm'.1 hm'.2
     · exact hx.elim
   · exact hx.elim
 · exact hx.elim
theorem entryV_run {P:Program} {w:World} {v v':Value} (hx:entryV v w.heap=some v'):(Instr.entry v).run P w=.ok v' w:=by
 unfold entryV at hx
 split at hx
 · rename_i r
   split at hx
   · rename_i m since seen stepped hr
     split at hx
     · rename_i es clock stamp hm hs
       split at hx
       · rename_i hc
         subst hc
         obtain ⟨e,he,rfl⟩:=Option.map_eq_some_iff.1 hx
         simp only [Instr.entry,getObj,Sem.run_bind,Sem.run,hr,hm,hs,Result.andThen,bne_self_eq_false,Bool.false_eq_true,if_false,he]
         rfl
       · cases hx
     · cases hx
   · cases hx
 · cases hx
def makeMapX (h:Heap) (k:Value→Heap→Prop):Prop:=k (.map (some h.size)) (h.push (.map #[] 0))
def stepX (P:Program) (ρ:Env) (o:Op) (h:Heap) (k:Value→Heap→Prop):Prop:=match o with
 | .lookup t m x ok=>runO (lookV P t (ev ρ m) (ev ρ x) ok h) fun v=>k v h
 | .mapUpdate t m x y=>mapUpX P t (ev ρ m) (ev ρ x) (ev ρ y) h (k undef)
 | .makeMap _ none=>makeMapX h k
 | .range t m=>rangeX P t (ev ρ m) h k
 | .next x false=>nextX (ev ρ x) h k
 | .entry x=>runO (entryV (ev ρ x) h) fun v=>k v h
 | .load t a=>runO (loadV (aggOf P t) (ev ρ a) h) fun v=>k v h
 | .store t a x=>storeX (szOf P t) (ev ρ a) (ev ρ x) h (k undef)
 | .alloc e=>allocX (zeroOf P e) e h k
 | .box e x=>newX (ev ρ x).cells e h k
 | .buildSlice t n ps=>buildSliceX (elemOfS P t) n (ps.toList.map fun p=>(p.1,ev ρ p.2)) h k
 | .makeSlice t l c=>makeSliceX (elemOfS P t) (ev ρ l) (ev ρ c) h k
 | .call { callee:=.value f,args,.. }=>invokeX P (ev ρ f) (args.toList.map (ev ρ)) h k
 | .call { callee:=.builtin b,args,argTypes }=>builtX P b argTypes.toList (args.toList.map (ev ρ)) h k
 | o=>runO (pv P ρ o) fun v=>k v h
theorem runO_elim {o:Option Value} {k:Value→Prop} (h:runO o k):∃ v,o=some v∧k v:=by
 cases o with
 | none=>exact h.elim
 | some v=>exact ⟨v,rfl,h⟩
theorem stepX_loud {P:Program} {o:Oper} {ρ:Env} {h:Heap} {k:Value→Heap→Prop} (hx:stepX P ρ o.op h k):LoudSem P o ρ h k:=by
 obtain ⟨dst,op,ty,pos,after,guard⟩:=o
 simp only at hx
 have pure_case:runO (pv P ρ op) (fun v=>k v h)→LoudSem P ⟨dst,op,ty,pos,after,guard⟩ ρ h k:=fun hp=>by
   obtain ⟨v,hv,hk⟩:=runO_elim hp
   exact loud_value fun w hw=>⟨v,w,pv_run hv,Like.refl w,by rw [hw]; exact hk⟩
 unfold stepX at hx
 split at hx
 · obtain ⟨v,hv,hk⟩:=runO_elim hx
   refine loud_value fun w hw=>⟨v,w,?_,Like.refl w,by rw [hw]; exact hk⟩
   exact lv_run (o:=⟨dst,.lookup _ _ _ _,ty,pos,after,guard⟩) (by rw [hw]; exact hv)
 · refine loud_skip fun w hw=>?_
   subst hw
   obtain ⟨w',e1,e2,e3⟩:=mapUpX_run (P:=P) hx
   exact ⟨w',by simp [execOp,e1],e2,e3⟩
 · refine loud_value fun w hw=>?_
   subst hw
   refine ⟨_,{ w with heap:=w.heap.push (.map #[] 0) },?_,⟨rfl,rfl,rfl⟩,hx⟩
   simp [execOp,Instr.makeMap,newObj,Sem.run]
 · refine loud_value fun w hw=>?_
   subst hw
   obtain ⟨v,w',e1,e2,e3⟩:=rangeX_run (P:=P) hx
   exact ⟨v,w',by simp [execOp,e1],e2,e3⟩
 · refine loud_value fun w hw=>?_
   subst hw
   obtain ⟨v,w',e1,e2,e3⟩:=nextX_run (P:=P) (t:=ty) hx
   exact ⟨v,w',by simp [execOp,e1],e2,e3⟩
 · obtain ⟨v,hv,hk⟩:=runO_elim hx
   refine loud_value fun w hw=>⟨v,w,?_,Like.refl w,by rw [hw]; exact hk⟩
   have:=entryV_run (P:=P) (w:=w) (by rw [hw]; exact hv)
   simp [execOp,this]
 · obtain ⟨v,hv,hk⟩:=runO_elim hx
   refine loud_value fun w hw=>⟨v,w,?_,Like.refl w,by rw [hw]; exact hk⟩
   exact lv_run (o:=⟨dst,.load _ _,ty,pos,after,guard⟩) (by rw [hw]; exact hv)
 · exact storeX_loud hx
 · exact allocX_loud hx
 · exact boxX_loud hx
 · exact buildSliceX_loud hx
 · exact makeSliceX_loud hx
 · exact invokeX_loud hx
 · exact builtX_loud hx
 · exact pure_case hx
end Xe
