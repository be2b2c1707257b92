/- Closed facts on the types of this seat's program, printed by a program of mine (types.py); each is checked by evaluation. -/
import Derived.Test.YtkghjecglmmloaaGreatProg
import Derived.Test.YtkghjecglmmloaaGreatEng5
import Derived.KernelRfl
import Derived.Test.YtkghjecglmmloaaGreatRows
import Derived.WalkKit
import Derived.ProofKit
import Derived.OpenShut
import Derived.Carry
namespace Xe
open Go Go.Proofs
@[go_sem] theorem sz3:szOf Tryz.prog 3=some 1:=by kernel_rfl
@[go_sem] theorem ag3:aggOf Tryz.prog 3=some none:=by kernel_rfl
@[go_sem] theorem ze3:zeroOf Tryz.prog 3=some (.int .i64 0):=by kernel_rfl
@[go_sem] theorem sz4:szOf Tryz.prog 4=some 1:=by kernel_rfl
@[go_sem] theorem ag4:aggOf Tryz.prog 4=some none:=by kernel_rfl
@[go_sem] theorem sz22:szOf Tryz.prog 22=some 1:=by kernel_rfl
@[go_sem] theorem ag22:aggOf Tryz.prog 22=some none:=by kernel_rfl
@[go_sem] theorem el22:elOf Tryz.prog 22=some (1,none):=by kernel_rfl
@[go_sem] theorem es22:elemOfS Tryz.prog 22=some (23,1,24,.slice none 0 0):=by kernel_rfl
@[go_sem] theorem sz23:szOf Tryz.prog 23=some 1:=by kernel_rfl
@[go_sem] theorem ag23:aggOf Tryz.prog 23=some none:=by kernel_rfl
@[go_sem] theorem el23:elOf Tryz.prog 23=some (1,none):=by kernel_rfl
@[go_sem] theorem es23:elemOfS Tryz.prog 23=some (3,1,8,.int .i64 0):=by kernel_rfl
@[go_sem] theorem ag26:aggOf Tryz.prog 26=some none:=by kernel_rfl
@[go_sem] theorem ag38:aggOf Tryz.prog 38=some none:=by kernel_rfl
@[go_sem] theorem el38:elOf Tryz.prog 38=some (1,none):=by kernel_rfl
@[go_sem] theorem es38:elemOfS Tryz.prog 38=some (4,1,1,.bool false):=by kernel_rfl
@[go_sem] theorem ag41:aggOf Tryz.prog 41=some none:=by kernel_rfl
@[go_sem] theorem ag56:aggOf Tryz.prog 56=some (some 5):=by kernel_rfl
@[go_sem] theorem bu56 (ps:List (Nat × Value)):Tryz.prog.built 56 ps=fillA [(0,1),(1,1),(2,1),(3,1),(4,1)] [.slice none 0 0,.slice none 0 0,.slice none 0 0,.slice none 0 0,.int .i64 0] ps:=by kernel_rfl
@[go_sem] theorem of56_0:offOf Tryz.prog 56 0=some 0:=by kernel_rfl
@[go_sem] theorem of56_1:offOf Tryz.prog 56 1=some 1:=by kernel_rfl
@[go_sem] theorem of56_2:offOf Tryz.prog 56 2=some 2:=by kernel_rfl
@[go_sem] theorem of56_3:offOf Tryz.prog 56 3=some 3:=by kernel_rfl
@[go_sem] theorem of56_4:offOf Tryz.prog 56 4=some 4:=by kernel_rfl
@[go_sem] theorem ag58:aggOf Tryz.prog 58=some none:=by kernel_rfl
@[go_sem] theorem sz71:szOf Tryz.prog 71=some 1:=by kernel_rfl
@[go_sem] theorem ag71:aggOf Tryz.prog 71=some none:=by kernel_rfl
@[go_sem] theorem el71:elOf Tryz.prog 71=some (2,none):=by kernel_rfl
@[go_sem] theorem es71:elemOfS Tryz.prog 71=some (74,2,32,.agg #[.slice none 0 0,.bool false]):=by kernel_rfl
@[go_sem] theorem sz74:szOf Tryz.prog 74=some 2:=by kernel_rfl
@[go_sem] theorem ag74:aggOf Tryz.prog 74=some (some 2):=by kernel_rfl
@[go_sem] theorem ze74:zeroOf Tryz.prog 74=some (.agg #[.slice none 0 0,.bool false]):=by kernel_rfl
@[go_sem] theorem bu74 (ps:List (Nat × Value)):Tryz.prog.built 74 ps=fillA [(0,1),(1,1)] [.slice none 0 0,.bool false] ps:=by kernel_rfl
@[go_sem] theorem of74_0:offOf Tryz.prog 74 0=some 0:=by kernel_rfl
@[go_sem] theorem of74_1:offOf Tryz.prog 74 1=some 1:=by kernel_rfl
@[go_sem] theorem el83:elOf Tryz.prog 83=some (3,none):=by kernel_rfl
@[go_sem] theorem es83:elemOfS Tryz.prog 83=some (150,3,24,.agg #[.int .i64 0,.int .i64 0,.int .i64 0]):=by kernel_rfl
@[go_sem] theorem sz86:szOf Tryz.prog 86=some 1:=by kernel_rfl
@[go_sem] theorem ag86:aggOf Tryz.prog 86=some none:=by kernel_rfl
@[go_sem] theorem el86:elOf Tryz.prog 86=some (2,none):=by kernel_rfl
@[go_sem] theorem es86:elemOfS Tryz.prog 86=some (153,2,32,.agg #[.int .i64 0,.slice none 0 0]):=by kernel_rfl
@[go_sem] theorem sz95:szOf Tryz.prog 95=some 1:=by kernel_rfl
@[go_sem] theorem ag95:aggOf Tryz.prog 95=some none:=by kernel_rfl
@[go_sem] theorem ze95:zeroOf Tryz.prog 95=some (.pointer none):=by kernel_rfl
@[go_sem] theorem bu100 (ps:List (Nat × Value)):Tryz.prog.built 100 ps=fillA [(0,1),(1,1),(2,1),(3,1)] [.pointer none,.pointer none,.slice none 0 0,.slice none 0 0] ps:=by kernel_rfl
@[go_sem] theorem of100_0:offOf Tryz.prog 100 0=some 0:=by kernel_rfl
@[go_sem] theorem of100_1:offOf Tryz.prog 100 1=some 1:=by kernel_rfl
@[go_sem] theorem of100_2:offOf Tryz.prog 100 2=some 2:=by kernel_rfl
@[go_sem] theorem of100_3:offOf Tryz.prog 100 3=some 3:=by kernel_rfl
@[go_sem] theorem sz101:szOf Tryz.prog 101=some 1:=by kernel_rfl
@[go_sem] theorem ag101:aggOf Tryz.prog 101=some none:=by kernel_rfl
@[go_sem] theorem el101:elOf Tryz.prog 101=some (1,none):=by kernel_rfl
@[go_sem] theorem es101:elemOfS Tryz.prog 101=some (105,1,8,.pointer none):=by kernel_rfl
@[go_sem] theorem ag102:aggOf Tryz.prog 102=some none:=by kernel_rfl
@[go_sem] theorem bu104 (ps:List (Nat × Value)):Tryz.prog.built 104 ps=fillA [(0,1),(1,1),(2,1),(3,1),(4,1)] [.pointer none,.slice none 0 0,.map none,.slice none 0 0,.int .i64 0] ps:=by kernel_rfl
@[go_sem] theorem of104_0:offOf Tryz.prog 104 0=some 0:=by kernel_rfl
@[go_sem] theorem of104_1:offOf Tryz.prog 104 1=some 1:=by kernel_rfl
@[go_sem] theorem of104_2:offOf Tryz.prog 104 2=some 2:=by kernel_rfl
@[go_sem] theorem of104_3:offOf Tryz.prog 104 3=some 3:=by kernel_rfl
@[go_sem] theorem of104_4:offOf Tryz.prog 104 4=some 4:=by kernel_rfl
@[go_sem] theorem ag105:aggOf Tryz.prog 105=some none:=by kernel_rfl
@[go_sem] theorem sz108:szOf Tryz.prog 108=some 1:=by kernel_rfl
@[go_sem] theorem ag108:aggOf Tryz.prog 108=some none:=by kernel_rfl
@[go_sem] theorem bu110 (ps:List (Nat × Value)):Tryz.prog.built 110 ps=fillA [(0,1),(1,1),(2,1)] [.slice none 0 0,.complex .f64 0 0,.bool false] ps:=by kernel_rfl
@[go_sem] theorem of110_0:offOf Tryz.prog 110 0=some 0:=by kernel_rfl
@[go_sem] theorem of110_1:offOf Tryz.prog 110 1=some 1:=by kernel_rfl
@[go_sem] theorem of110_2:offOf Tryz.prog 110 2=some 2:=by kernel_rfl
@[go_sem] theorem sz116:szOf Tryz.prog 116=some 1:=by kernel_rfl
@[go_sem] theorem ag116:aggOf Tryz.prog 116=some none:=by kernel_rfl
@[go_sem] theorem el116:elOf Tryz.prog 116=some (1,none):=by kernel_rfl
@[go_sem] theorem es116:elemOfS Tryz.prog 116=some (108,1,16,.complex .f64 0 0):=by kernel_rfl
@[go_sem] theorem bu118 (ps:List (Nat × Value)):Tryz.prog.built 118 ps=fillA [(0,1),(1,1),(2,1),(3,1)] [.slice none 0 0,.slice none 0 0,.slice none 0 0,.int .i64 0] ps:=by kernel_rfl
@[go_sem] theorem of118_0:offOf Tryz.prog 118 0=some 0:=by kernel_rfl
@[go_sem] theorem of118_1:offOf Tryz.prog 118 1=some 1:=by kernel_rfl
@[go_sem] theorem of118_2:offOf Tryz.prog 118 2=some 2:=by kernel_rfl
@[go_sem] theorem of118_3:offOf Tryz.prog 118 3=some 3:=by kernel_rfl
@[go_sem] theorem ag131:aggOf Tryz.prog 131=some none:=by kernel_rfl
@[go_sem] theorem bu134 (ps:List (Nat × Value)):Tryz.prog.built 134 ps=fillA [(0,1),(1,1),(2,1),(3,1),(4,1)] [.pointer none,.pointer none,.slice none 0 0,.slice none 0 0,.int .i64 0] ps:=by kernel_rfl
@[go_sem] theorem of134_0:offOf Tryz.prog 134 0=some 0:=by kernel_rfl
@[go_sem] theorem of134_1:offOf Tryz.prog 134 1=some 1:=by kernel_rfl
@[go_sem] theorem of134_2:offOf Tryz.prog 134 2=some 2:=by kernel_rfl
@[go_sem] theorem of134_3:offOf Tryz.prog 134 3=some 3:=by kernel_rfl
@[go_sem] theorem of134_4:offOf Tryz.prog 134 4=some 4:=by kernel_rfl
@[go_sem] theorem ag135:aggOf Tryz.prog 135=some none:=by kernel_rfl
@[go_sem] theorem sz136:szOf Tryz.prog 136=some 1:=by kernel_rfl
@[go_sem] theorem ag136:aggOf Tryz.prog 136=some none:=by kernel_rfl
@[go_sem] theorem bu138 (ps:List (Nat × Value)):Tryz.prog.built 138 ps=fillA [(0,1),(1,5),(6,1),(7,1),(8,1),(9,1),(10,1)] [.pointer none,.slice none 0 0,.slice none 0 0,.slice none 0 0,.slice none 0 0,.int .i64 0,.slice none 0 0,.complex .f64 0 0,.complex .f64 0 0,.int .i64 0,.int .i64 0] ps:=by kernel_rfl
@[go_sem] theorem of138_0:offOf Tryz.prog 138 0=some 0:=by kernel_rfl
@[go_sem] theorem of138_1:offOf Tryz.prog 138 1=some 1:=by kernel_rfl
@[go_sem] theorem of138_2:offOf Tryz.prog 138 2=some 6:=by kernel_rfl
@[go_sem] theorem of138_3:offOf Tryz.prog 138 3=some 7:=by kernel_rfl
@[go_sem] theorem of138_4:offOf Tryz.prog 138 4=some 8:=by kernel_rfl
@[go_sem] theorem of138_5:offOf Tryz.prog 138 5=some 9:=by kernel_rfl
@[go_sem] theorem of138_6:offOf Tryz.prog 138 6=some 10:=by kernel_rfl
@[go_sem] theorem ag141:aggOf Tryz.prog 141=some none:=by kernel_rfl
@[go_sem] theorem bu144 (ps:List (Nat × Value)):Tryz.prog.built 144 ps=fillA [(0,1),(1,1),(2,1),(3,1),(4,1)] [.pointer none,.pointer none,.slice none 0 0,.int .i64 0,.complex .f64 0 0] ps:=by kernel_rfl
@[go_sem] theorem of144_0:offOf Tryz.prog 144 0=some 0:=by kernel_rfl
@[go_sem] theorem of144_1:offOf Tryz.prog 144 1=some 1:=by kernel_rfl
@[go_sem] theorem of144_2:offOf Tryz.prog 144 2=some 2:=by kernel_rfl
@[go_sem] theorem of144_3:offOf Tryz.prog 144 3=some 3:=by kernel_rfl
@[go_sem] theorem of144_4:offOf Tryz.prog 144 4=some 4:=by kernel_rfl
@[go_sem] theorem sz150:szOf Tryz.prog 150=some 3:=by kernel_rfl
@[go_sem] theorem ag150:aggOf Tryz.prog 150=some (some 3):=by kernel_rfl
@[go_sem] theorem ze150:zeroOf Tryz.prog 150=some (.agg #[.int .i64 0,.int .i64 0,.int .i64 0]):=by kernel_rfl
@[go_sem] theorem bu150 (ps:List (Nat × Value)):Tryz.prog.built 150 ps=fillA [(0,1),(1,1),(2,1)] [.int .i64 0,.int .i64 0,.int .i64 0] ps:=by kernel_rfl
@[go_sem] theorem of150_0:offOf Tryz.prog 150 0=some 0:=by kernel_rfl
@[go_sem] theorem of150_1:offOf Tryz.prog 150 1=some 1:=by kernel_rfl
@[go_sem] theorem of150_2:offOf Tryz.prog 150 2=some 2:=by kernel_rfl
@[go_sem] theorem sz153:szOf Tryz.prog 153=some 2:=by kernel_rfl
@[go_sem] theorem ag153:aggOf Tryz.prog 153=some (some 2):=by kernel_rfl
@[go_sem] theorem ze153:zeroOf Tryz.prog 153=some (.agg #[.int .i64 0,.slice none 0 0]):=by kernel_rfl
@[go_sem] theorem bu153 (ps:List (Nat × Value)):Tryz.prog.built 153 ps=fillA [(0,1),(1,1)] [.int .i64 0,.slice none 0 0] ps:=by kernel_rfl
@[go_sem] theorem of153_0:offOf Tryz.prog 153 0=some 0:=by kernel_rfl
@[go_sem] theorem of153_1:offOf Tryz.prog 153 1=some 1:=by kernel_rfl
@[go_sem] theorem bu156 (ps:List (Nat × Value)):Tryz.prog.built 156 ps=fillA [(0,1)] [.slice none 0 0] ps:=by kernel_rfl
@[go_sem] theorem of156_0:offOf Tryz.prog 156 0=some 0:=by kernel_rfl
@[go_sem] theorem bu173 (ps:List (Nat × Value)):Tryz.prog.built 173 ps=fillA [(0,1),(1,1),(2,1)] [.slice none 0 0,.slice none 0 0,.slice none 0 0] ps:=by kernel_rfl
@[go_sem] theorem of173_0:offOf Tryz.prog 173 0=some 0:=by kernel_rfl
@[go_sem] theorem of173_1:offOf Tryz.prog 173 1=some 1:=by kernel_rfl
@[go_sem] theorem of173_2:offOf Tryz.prog 173 2=some 2:=by kernel_rfl
@[go_sem] theorem bu177 (ps:List (Nat × Value)):Tryz.prog.built 177 ps=fillA [(0,1),(1,1),(2,1)] [.slice none 0 0,.slice none 0 0,.int .i64 0] ps:=by kernel_rfl
@[go_sem] theorem of177_0:offOf Tryz.prog 177 0=some 0:=by kernel_rfl
@[go_sem] theorem of177_1:offOf Tryz.prog 177 1=some 1:=by kernel_rfl
@[go_sem] theorem of177_2:offOf Tryz.prog 177 2=some 2:=by kernel_rfl
@[go_sem] theorem bu188 (ps:List (Nat × Value)):Tryz.prog.built 188 ps=Instr.fill (fun i=>some (i*1,1)) #[.int .i64 0,.int .i64 0] ps:=by kernel_rfl
@[go_sem] theorem ix188:ixOf Tryz.prog 188=some (2,1,none):=by kernel_rfl
@[go_sem] theorem bu207 (ps:List (Nat × Value)):Tryz.prog.built 207 ps=fillA [(0,1),(1,1)] [.pointer none,.slice none 0 0] ps:=by kernel_rfl
@[go_sem] theorem of207_0:offOf Tryz.prog 207 0=some 0:=by kernel_rfl
@[go_sem] theorem of207_1:offOf Tryz.prog 207 1=some 1:=by kernel_rfl
@[go_sem] theorem sz223:szOf Tryz.prog 223=some 1:=by kernel_rfl
@[go_sem] theorem ag223:aggOf Tryz.prog 223=some none:=by kernel_rfl
@[go_sem] theorem ze223:zeroOf Tryz.prog 223=some (.int .u64 0):=by kernel_rfl
end Xe
namespace Xe
open Go
structure Fr (S:Nat→Prop) (h h':Heap):Prop where
 size:h.size≤h'.size
 same:∀ x,x<h.size→¬ S x→h'[x]?=h[x]?
theorem Fr.refl (S:Nat→Prop) (h:Heap):Fr S h h:=⟨Nat.le_refl _,fun _ _ _=>rfl⟩
theorem Fr.trans {S:Nat→Prop} {a b c:Heap} (h1:Fr S a b) (h2:Fr S b c):Fr S a c :=
 ⟨Nat.le_trans h1.size h2.size,fun x hx hs=>(h2.same x (Nat.lt_of_lt_of_le hx h1.size) hs).trans (h1.same x hx hs)⟩
theorem Fr.mono {S T:Nat→Prop} {a b:Heap} (h:Fr S a b) (hst:∀ x,x<a.size→S x→T x):Fr T a b:=⟨h.size,fun x hx hs=>h.same x hx (fun k=>hs (hst x hx k))⟩
theorem Fr.set {S:Nat→Prop} {a b:Heap} (h:Fr S a b) {ad:Addr} {v:Value} (hs:S ad.block):Fr S a (hset b ad v) :=
 ⟨by rw [hset_size]; exact h.size,fun x hx hn=>(hset_other (fun e=>hn (by rw [e]; exact hs))).trans (h.same x hx hn)⟩
theorem Fr.new {S:Nat→Prop} {a b:Heap} (h:Fr S a b) {ad:Addr} {v:Value} (hs:a.size≤ad.block):Fr S a (hset b ad v) :=
 ⟨by rw [hset_size]; exact h.size,fun x hx hn=>(hset_other (by omega)).trans (h.same x hx hn)⟩
theorem Fr.push {S:Nat→Prop} {a b:Heap} (h:Fr S a b) {X:Obj}:Fr S a (b.push X) :=
 ⟨by rw [push_size]; exact Nat.le_succ_of_le h.size,fun x hx hn=>(push_old (Nat.lt_of_lt_of_le hx h.size)).trans (h.same x hx hn)⟩
theorem Fr.trans' {S T:Nat→Prop} {a b c:Heap} (h1:Fr S a b) (h2:Fr T b c) (hst:∀ x,x<a.size→T x→S x):Fr S a c :=
 ⟨Nat.le_trans h1.size h2.size,fun x hx hs=>(h2.same x (Nat.lt_of_lt_of_le hx h1.size) (fun k=>hs (hst x hx k))).trans (h1.same x hx hs)⟩
theorem Fr.cell {S:Nat→Prop} {a b:Heap} (h:Fr S a b) {x o:Nat} (hx:x<a.size) (hs:¬ S x):hcell b ⟨x,o,none⟩=hcell a ⟨x,o,none⟩:=by
 unfold hcell; rw [h.same x hx hs]
theorem Fr.frz {S:Nat→Prop} {a b:Heap} (h:Fr S a b) {x o:Nat} (hx:x<a.size) (hs:¬ S x):hfrz b ⟨x,o,none⟩=hfrz a ⟨x,o,none⟩:=by
 unfold hfrz; rw [h.same x hx hs]
theorem hcell_lt {h:Heap} {x o:Nat} {v:Value} (hc:hcell h ⟨x,o,none⟩=some v):x<h.size:=by
 unfold hcell at hc
 by_cases hx:x<h.size
 · exact hx
 · simp [Array.getElem?_eq_none (Nat.le_of_not_lt hx)] at hc
theorem hfrz_ge {h:Heap} {x o:Nat} (hx:h.size≤x):hfrz h ⟨x,o,none⟩=false:=by
 unfold hfrz; simp [Array.getElem?_eq_none hx]
theorem add_0 (a:Addr):a.add 0=a:=by unfold Addr.add; simp
@[go_sem] theorem slice_to {m len cap:Nat} {A:Option Addr} {kd:IntKind} {i:Int} (h0:0≤i) (h1:i≤cap):sliceV (some (m,none)) (.slice A len cap) none (some (.int kd i))=some (.slice A i.toNat cap):=by
  unfold sliceV boundV
  simp only [Option.bind_some,if_pos (And.intro h0 h1),Option.map_some]
  by_cases hc:cap=0
  · simp [hc]
  · simp only [hc,if_false]
    cases A <;> simp [add_0]
def blk (A:Option Addr) (x:Nat):Prop:=∃ a,A=some a∧a.block=x
structure SlAt (h:Heap) (A:Option Addr) (cap:Nat) (vs:List Value):Prop where
 len:vs.length≤cap
 at':(A=none∧cap=0)∨∃ bk,A=some ⟨bk,0,none⟩∧bk<h.size∧(∀ i,hfrz h ⟨bk,i,none⟩=false)∧(∀ i,i<cap→(hcell h ⟨bk,i,none⟩).isSome=true)∧∀ i v,vs[i]?=some v→hcell h ⟨bk,i,none⟩=some v
theorem SlAt.nil (h:Heap):SlAt h none 0 []:=⟨Nat.le_refl _,.inl ⟨rfl,rfl⟩⟩
theorem SlAt.blk_lt {h:Heap} {A:Option Addr} {cap:Nat} {vs:List Value} (S:SlAt h A cap vs) {x:Nat} (hx:blk A x):x<h.size:=by
 obtain ⟨a,rfl,rfl⟩:=hx
 rcases S.at' with ⟨h1,_⟩ | ⟨bk,h1,h2,_⟩
 · cases h1
 · cases h1; exact h2
theorem SlAt.base {h:Heap} {A:Option Addr} {cap:Nat} {vs:List Value} (S:SlAt h A cap vs) (hv:0<vs.length) :
  ∃ bk,A=some ⟨bk,0,none⟩∧bk<h.size∧(∀ i,hfrz h ⟨bk,i,none⟩=false)∧∀ i v,vs[i]?=some v→hcell h ⟨bk,i,none⟩=some v:=by
 rcases S.at' with ⟨_,h2⟩ | ⟨bk,h1,h2,h3,_,h4⟩
 · have:=S.len; omega
 · exact ⟨bk,h1,h2,h3,h4⟩
theorem SlAt.keep {h h':Heap} {A:Option Addr} {cap:Nat} {vs:List Value} (S:SlAt h A cap vs) (hk:∀ x,blk A x→h'[x]?=h[x]?) (hz:h.size≤h'.size):SlAt h' A cap vs:=by
 refine ⟨S.len,?_⟩
 rcases S.at' with h1 | ⟨bk,h1,h2,h3,h4,h5⟩
 · exact .inl h1
 · have e:=hk bk ⟨_,h1,rfl⟩
   refine .inr ⟨bk,h1,Nat.lt_of_lt_of_le h2 hz,fun i=>?_,fun i hi=>?_,fun i v hv=>?_⟩
   · rw [← h3 i]; unfold hfrz; rw [e]
   · rw [← h4 i hi]; unfold hcell; rw [e]
   · rw [← h5 i v hv]; unfold hcell; rw [e]
theorem SlAt.fr {S:Nat→Prop} {h h':Heap} {A:Option Addr} {cap:Nat} {vs:List Value} (L:SlAt h A cap vs) (f:Fr S h h') (hn:∀ x,blk A x→¬ S x):SlAt h' A cap vs :=
 L.keep (fun x hx=>f.same x (L.blk_lt hx) (hn x hx)) f.size
theorem SlAt.set {h:Heap} {bk cap:Nat} {vs:List Value} (S:SlAt h (some ⟨bk,0,none⟩) cap vs) {i:Nat} (hi:i<vs.length) (v:Value):SlAt (hset h ⟨bk,i,none⟩ v) (some ⟨bk,0,none⟩) cap (vs.set i v):=by
 refine ⟨by rw [List.length_set]; exact S.len,?_⟩
 rcases S.at' with ⟨h1,_⟩ | ⟨b',h1,h2,h3,h4,h5⟩
 · cases h1
 · cases h1
   refine .inr ⟨bk,rfl,by rw [hset_size]; exact h2,fun j=>by rw [hfrz_hset]; exact h3 j,fun j hj=>?_,fun j x hx=>?_⟩
   · rw [hcell_hset]
     have:=S.len
     by_cases e:j=i
     · rw [if_pos ⟨rfl,e⟩,Option.isSome_map]; exact h4 i (by omega)
     · rw [if_neg (fun h=>e h.2)]; exact h4 j hj
   · rw [hcell_hset]
     rw [List.getElem?_set] at hx
     by_cases e:j=i
     · subst e
       rw [if_pos rfl,if_pos hi] at hx
       rw [if_pos ⟨rfl,rfl⟩,h5 j _ (List.getElem?_eq_getElem hi)]
       exact hx
     · rw [if_neg (Ne.symm e)] at hx
       rw [if_neg (fun h=>e h.2)]; exact h5 j x hx
theorem SlAt.take {h:Heap} {A:Option Addr} {cap:Nat} {vs:List Value} (S:SlAt h A cap vs) (n:Nat):SlAt h A cap (vs.take n):=by
 refine ⟨by rw [List.length_take]; have:=S.len; omega,?_⟩
 rcases S.at' with h1 | ⟨bk,h1,h2,h3,h4,h5⟩
 · exact .inl h1
 · refine .inr ⟨bk,h1,h2,h3,h4,fun i v hv=>?_⟩
   rw [List.getElem?_take] at hv
   split at hv
   · exact h5 i v hv
   · cases hv
theorem build1 {e:TypeId} {b:Nat} {z v:Value} {h:Heap} {k:Value→Heap→Prop} (hv:v.cells=#[v]) (hz:z.cells.size=1)
   (hk:k (.slice (some ⟨h.size,0,none⟩) 1 1) (h.push (.cells #[v] e))):@buildSliceK (some (e,1,b,z)) 1 [(0,v)] ⟨h⟩ ⟨k⟩:=by
 refine ⟨by omega,#[v],?_,hk⟩
 have hc:(zerosOf z.cells (1*1)).size=1:=by simp [zerosOf]
 simp [Instr.fill,hv,hc]
 apply Array.ext
 · simp [hc]
 · intro i h1 h2
   have:i=0:=by simp at h2; omega
   subst this
   simp
theorem append1 {e:TypeId} {b:Nat} {z v:Value} {h:Heap} {A:Option Addr} {cap n xb:Nat} {vs:List Value} {k:Value→Heap→Prop} (S:SlAt h A cap vs) (hn:n=vs.length)
   (hx:hcell h ⟨xb,0,none⟩=some v) (hone:v.oneCell'=true) (hlen:(n+1)*b≤2^47) (hlm:n<2^50)
   (hk:∀ A' cap' h',SlAt h' A' cap' (vs++[v])→Fr (blk A) h h'→(∀ x,blk A' x→blk A x∨h.size≤x)→k (.slice A' (n+1) cap') h') :
   @appendK (some (e,1,b,z)) (.slice A n cap) (.slice (some ⟨xb,0,none⟩) 1 1) ⟨h⟩ ⟨k⟩:=by
 subst hn
 change appendX (some (e,1,b,z)) (.slice A vs.length cap) (.slice (some ⟨xb,0,none⟩) 1 1) h k
 have hrow:rowN h (some ⟨xb,0,none⟩) (1*1)=some [v]:=by
   cases v <;> first
     | (simp [Value.oneCell'] at hone; done)
     | simp [rowN,loadN,add_n,hx]
 have hold:rowN h A (vs.length*1)=some vs:=by
   rcases S.at' with ⟨h1,h2⟩ | ⟨bk,h1,h2,h3,h4,h5⟩
   · have:=S.len
     have hz:vs=[]:=List.eq_nil_of_length_eq_zero (by omega)
     subst hz; subst h1; rfl
   · subst h1
     simp only [rowN,Nat.mul_one]
     suffices hs:∀ (l:List Value) (i:Nat),(∀ j x,l[j]?=some x→hcell h ⟨bk,i+j,none⟩=some x)→loadN h ⟨bk,0,none⟩ i l.length=some l from
       hs vs 0 (by intro j x hj; rw [Nat.zero_add]; exact h5 j x hj)
     intro l
     induction l with
     | nil=>intro i _; rfl
     | cons y l ih =>
       intro i hi
       have h0:=hi 0 y rfl
       have h1:=ih (i+1) (by intro j x hj; have:=hi (j+1) x hj; rwa [show i+1+j=i+(j+1) by omega])
       simp only [Nat.add_zero] at h0
       simp [loadN,add_n,h0,h1]
 refine ⟨[v],hrow,?_,?_⟩
 · intro hc
   rcases S.at' with ⟨h1,h2⟩ | ⟨bk,h1,h2,h3,h4,h5⟩
   · omega
   · subst h1
     have hs:=h4 vs.length (by omega)
     refine ⟨hone,?_,?_,?_⟩
     · simpa [add_n] using hs
     · simpa [add_n] using h3 vs.length
     · have e:(Addr.add (Addr.add ⟨bk,0,none⟩ (vs.length*1)) 0)=⟨bk,vs.length,none⟩:=by simp [add_n]
       rw [e]
       refine hk _ _ _ ⟨by rw [List.length_append]; simpa using hc,.inr ⟨bk,rfl,by rw [hset_size]; exact h2,fun j=>by rw [hfrz_hset]; exact h3 j,fun j hj=>?_,fun j x hx=>?_⟩⟩ ((Fr.refl _ _).set ⟨_,rfl,rfl⟩) (fun x hx=>.inl hx)
       · rw [hcell_hset]
         by_cases e:j=vs.length
         · rw [if_pos ⟨rfl,e⟩,Option.isSome_map]; exact hs
         · rw [if_neg (fun h=>e h.2)]; exact h4 j hj
       · rw [hcell_hset]
         by_cases e:j=vs.length
         · subst e
           rw [if_pos ⟨rfl,rfl⟩]
           rw [List.getElem?_append_right (Nat.le_refl _)] at hx
           simp only [Nat.sub_self,List.getElem?_cons_zero,Option.some.injEq] at hx
           subst hx
           obtain ⟨u,hu⟩:=Option.isSome_iff_exists.1 hs
           rw [hu]; rfl
         · rw [if_neg (fun h=>e h.2)]
           by_cases e2:j<vs.length
           · rw [List.getElem?_append_left e2] at hx; exact h5 j x hx
           · rw [List.getElem?_append_right (by omega),List.getElem?_eq_none (by simp; omega)] at hx; cases hx
 · intro hc
   refine ⟨hlen,by unfold maxLen; omega,vs,hold,fun c rest hc2 hr=>?_⟩
   refine hk _ _ _ ⟨by rw [List.length_append]; simpa using hc2,.inr ⟨h.size,rfl,by rw [push_size]; omega,fun j=>hfrz_push_new,fun j hj=>?_,fun j x hx=>?_⟩⟩ ((Fr.refl _ _).push) (fun x hx=>.inr ?_)
   · rw [hcell_push_new]
     simp only [List.getElem?_toArray]
     rw [List.getElem?_eq_getElem (by simp; omega)]; rfl
   · rw [hcell_push_new]
     simp only [List.getElem?_toArray]
     rw [List.getElem?_append_left (by simpa using (List.getElem?_eq_some_iff.1 hx).1)]
     exact hx
   · obtain ⟨a,ha,hx⟩:=hx
     cases ha; simp at hx; omega
structure Nx (O O':Nat→Prop) (h h':Heap):Prop where
 fr:Fr O h h'
 own:∀ x,O' x→O x∨h.size≤x
theorem Nx.trans {O O' O'':Nat→Prop} {a b c:Heap} (h1:Nx O O' a b) (h2:Nx O' O'' b c):Nx O O'' a c where
 fr:=h1.fr.trans' h2.fr fun x hx h=>(h1.own x h).elim id fun h=>by omega
 own x h:=(h2.own x h).elim (h1.own x) fun h=>.inr (Nat.le_trans h1.fr.size h)
theorem Nx.refl (O:Nat→Prop) (h:Heap):Nx O O h h:=⟨Fr.refl _ _,fun _ hx=>.inl hx⟩
end Xe
namespace Xe
open Go Go.ChangeShapes Go.WideShapes Go.ChangeAt Go.RowKit
theorem CallsH.below {P:Program} {f:FuncId} {vs:List Value} {w:World} (c:CallsH P f vs w.heap fun r h'=>r=.bool true∧Fr (fun _=>False) w.heap h') :
  Calls P f vs.toArray w fun e w'=>e=.returned (.bool true)∧Below w.heap.size w w' :=
 (c.2 w rfl).mono fun e w' ⟨v,he,hl,hv,hf⟩=>⟨by rw [he,hv],⟨hl.os,hl.tape,hl.output,hf.size,fun k hk=>hf.same k hk id⟩⟩
theorem args_stay {H:Type} {enc:TypeId × Value→H} {P:Program} {W W':World} (hl:laidOutB P=true) (hb:Below W.heap.size W W') :
   ∀ {ts:List TypeId} {vs:List Value} {ds:List (DataW H)} {ps:List MemPlace},(ts.all fun t=>P.readableRec t&&decide (t<P.types.size))=true→(∀ x∈ps,x.block<W.heap.size) →
     DataW.TrodAll enc P W 0 (fun _=>true) true ts vs ds ps→DataW.TrodAll enc P W' 0 (fun b=>decide (b<W.heap.size)) true ts vs ds ps
 | [],_,_,_,_,_,h=>by
   obtain ⟨rfl,rfl,rfl⟩:=trodAll_nil h
   exact trodAll_mk0
 | t::ts,_,_,_,hr,hlt,h=>by
   obtain ⟨v,vs,d,ds,p,q,rfl,rfl,rfl,h1,h2⟩:=trodAll_cons h
   rw [List.all_cons,Bool.and_eq_true,Bool.and_eq_true,decide_eq_true_eq] at hr
   exact ⟨p,q,Below.trod hl hr.1.1 hr.1.2 h1 hb (fun x hx=>hlt x (List.mem_append_left _ hx)),args_stay hl hb hr.2 (fun x hx=>hlt x (List.mem_append_right _ hx)) h2,rfl⟩
theorem law_post {H:Type} {enc:TypeId × Value→H} {P:Program} {f:Func} {s:ChangeSpec} {W W':World} {args:Array Value} {ds gs:List (DataW H)} {before:List MemPlace} {t:TypeId}
   (hW:DataW.Whole enc P f.params.toList s.vars false W args.toList ds gs before) (hv:s.vars=[]) (hb:Below W.heap.size W W') (hl:laidOutB P=true)
   (hr:(f.params.toList.all fun t=>P.readableRec t&&decide (t<P.types.size))=true) (ht:f.resultTypes=#[t]) (hu:P.underlying t=some .bool)
   (h1:(s.fn H (ds++gs)).results=[.lit (.bool true)]) (h2:(s.fn H (ds++gs)).args=ds) (h3:(s.fn H (ds++gs)).vars=[]) :
   s.post enc P f false true false false W args (.bool true) W':=by
 have hW':=hW
 obtain ⟨p,q,hA,hV,rfl,hfz,hnd⟩:=hW
 have hlt:=hW'.lt
 refine ⟨ds,gs,p++q,[],p,[],hW',?_,?_,?_,hb.frame _,(fun h=>nomatch h)⟩
 · rw [h1,ht]
   exact trodAll_cons_mk (shut_bool hu true) trodAll_mk0
 · rw [h2]
   exact args_stay hl hb hr (fun x hx=>hlt x (List.mem_append_left _ hx)) hA
 · rw [h3,hv]; rfl
section
variable {H:Type} {enc:TypeId × Value→H} {P:Program} {w:World} {sp:Nat→Bool} {held:Bool} {r:Reach} {b0:Nat} {t e:TypeId}
theorem open_slice {n:Nat} {v:Value} {d:DataW H} {ps:List MemPlace} (ht:P.underlying t=some (.slice e)) (hc:P.cellsOf e=n) (hn:0<n) (hval:Value.okWide P w r b0 t v) (h:DataW.Trod enc P w 0 sp held t v d ps) :
   ∃ A len cap,v=.slice A len cap∧len<2^63∧∀ i,i<len→∃ bk off cs fuel x,A=some ⟨bk,off,none⟩∧cs.length=n∧(∀ j u,cs[j]?=some u→hcell w.heap ⟨bk,off+i*n+j,none⟩=some u) ∧
     DataW.trod enc P w 0 sp held fuel e cs=some x:=by
 obtain ⟨a,len,cap,rfl⟩:=okWide_slice ht hval
 obtain ⟨fuel,hf⟩:=h
 refine ⟨a,len,cap,rfl,?_⟩
 rcases DataW.trod_slice ht hf with ⟨hcs,_⟩ | ⟨a',len',cap',elems,rest,m,_,hcs,_,_,hl,hm,hlen,hel,_,_⟩
 · simp [Value.cells] at hcs
   obtain ⟨_,rfl,_⟩:=hcs
   exact ⟨by decide,fun i hi=>by omega⟩
 · simp [Value.cells] at hcs
   obtain ⟨rfl,rfl,rfl⟩:=hcs
   have hm2:cap≤2^63-1:=hm
   refine ⟨by omega,fun i hi=>?_⟩
   have h1:=hel i hi
   rw [List.getElem?_eq_getElem (by omega),Option.bind_eq_some_iff] at h1
   obtain ⟨cs,h2,h3⟩:=h1
   rw [hc] at h2
   obtain ⟨_,hl2,hcell⟩:=World.cells?_some h2
   have hspot:a'.spot=none:=by
     have g1:=hel 0 (by omega)
     rw [List.getElem?_eq_getElem (by omega),Option.bind_eq_some_iff] at g1
     obtain ⟨cs0,g2,_⟩:=g1
     rw [hc] at g2
     obtain ⟨_,gl,gcell⟩:=World.cells?_some g2
     have h0:=gcell 0 hn
     rw [List.getElem?_eq_getElem (by omega),Nat.zero_mul,add_0,add_0] at h0
     unfold World.cell? at h0
     split at h0
     · split at h0
       · cases h0
       · rename_i hns
         simpa using hns
     · cases h0
   obtain ⟨bk,off,spot⟩:=a'
   simp only at hspot
   subst hspot
   refine ⟨bk,off,cs,m,_,rfl,hl2,fun j u hj=>?_,h3⟩
   have hj':=(List.getElem?_eq_some_iff.1 hj).1
   have h4:=hcell j (by omega)
   rw [add_n,add_n] at h4
   exact h4.trans hj
end
end Xe
namespace Xe
open Go
theorem runO_mono {o:Option Value} {k k':Value→Prop} (hk:∀ v,k v→k' v) (h:runO o k):runO o k':=by
 cases o with
 | none=>exact h
 | some v=>exact hk v h
theorem storeN_mono {a:Addr}:∀ {vs:List Value} {i:Nat} {h:Heap} {k k':Heap→Prop},(∀ h,k h→k' h)→storeN h a i vs k→storeN h a i vs k'
 | [],_,_,_,_,hk,h=>hk _ h
 | _::_,_,_,_,_,hk,⟨h1,h2,h3,h4⟩=>⟨h1,h2,h3,storeN_mono hk h4⟩
theorem appendX_mono {el:Option (TypeId × Nat × Nat × Value)} {s x:Value} {h:Heap} {k k':Value→Heap→Prop} (hk:∀ v h,k v h→k' v h) (hx:appendX el s x h k):appendX el s x h k':=by
 unfold appendX at hx ⊢
 split at hx
 · obtain ⟨new,h1,h2,h3⟩:=hx
   refine ⟨new,h1,fun hl=>?_,fun hl=>?_⟩
   · have:=h2 hl
     split at this
     · exact storeN_mono (fun h=>hk _ h) this
     · exact hk _ _ this
   · obtain ⟨g1,g2,old,g3,g4⟩:=h3 hl
     exact ⟨g1,g2,old,g3,fun c rest hc hr=>hk _ _ (g4 c rest hc hr)⟩
 · exact hx.elim
theorem appendZX_mono {el:Option (TypeId × Nat × Nat × Value)} {s x:Value} {h:Heap} {k k':Value→Heap→Prop} (hk:∀ v h,k v h→k' v h) (hx:appendZX el s x h k):appendZX el s x h k':=by
 unfold appendZX at hx ⊢
 split at hx
 · obtain ⟨h0,hm,hs,hb,g⟩:=hx
   exact ⟨h0,hm,hs,hb,fun c rest hc hr=>hk _ _ (g c rest hc hr)⟩
 · exact hx.elim
theorem appSel_mono {d:Option TypeDesc} {A B A' B':Prop} (h1:A→A') (h2:B→B') (h:appSel d A B):appSel d A' B':=by
 unfold appSel at h ⊢
 split at h
 · exact h1 h
 · exact h2 h
 · exact h
theorem copyX_mono {el:Option (TypeId × Nat × Nat × Value)} {s x:Value} {h:Heap} {k k':Value→Heap→Prop} (hk:∀ v h,k v h→k' v h) (hx:copyX el s x h k):copyX el s x h k':=by
 unfold copyX at hx ⊢
 split at hx
 · obtain ⟨new,h1,h2⟩:=hx
   refine ⟨new,h1,?_⟩
   split at h2
   · exact storeN_mono (fun h=>hk _ h) h2
   · exact hk _ _ h2
 · exact hx.elim
theorem stepX_mono {P:Program} {ρ:Env} {o:Op} {h:Heap} {k k':Value→Heap→Prop} (hk:∀ v h,k v h→k' v h) (hx:stepX P ρ o h k):stepX P ρ o h k':=by
 unfold stepX at hx ⊢
 split at hx
 · exact runO_mono (fun v=>hk v _) hx
 · obtain ⟨kt,e,r,es,c,x,o,h1,h2,h3,h4,h5,h6⟩:=hx
   exact ⟨kt,e,r,es,c,x,o,h1,h2,h3,h4,h5,hk _ _ h6⟩
 · exact hk _ _ hx
 · unfold rangeX at hx ⊢
   split at hx
   · split at hx
     · exact hk _ _ hx
     · exact hx
   · exact hx
 · unfold nextX at hx ⊢
   split at hx
   · split at hx
     · split at hx
       · obtain ⟨h1,h2,h3,h4⟩:=hx
         exact ⟨h1,h2,fun h=>hk _ _ (h3 h),fun e he hs=>hk _ _ (h4 e he hs)⟩
       · exact hx
     · exact hx
   · exact hx
 · exact runO_mono (fun v=>hk v _) hx
 · exact runO_mono (fun v=>hk v _) hx
 · unfold storeX at hx ⊢
   split at hx
   · exact ⟨hx.1,storeN_mono (fun h=>hk _ h) hx.2⟩
   · exact hx
 · unfold allocX newX at hx ⊢
   split at hx
   · exact hk _ _ hx
   · exact hx
 · exact hk _ _ hx
 · unfold buildSliceX at hx ⊢
   split at hx
   · obtain ⟨h1,cs,h2,h3⟩:=hx
     exact ⟨h1,cs,h2,hk _ _ h3⟩
   · exact hx
 · unfold makeSliceX at hx ⊢
   split at hx
   · obtain ⟨h1,h2,h3,h4,h5⟩:=hx
     exact ⟨h1,h2,h3,h4,hk _ _ h5⟩
   · exact hx
 · unfold invokeX at hx ⊢
   split at hx
   · exact hx.mono hk
   · exact hx
 · unfold builtX at hx ⊢
   split at hx
   · exact appSel_mono (appendX_mono hk) (appendZX_mono hk) hx
   · exact copyX_mono hk hx
   · obtain ⟨kt,e,r,es,c,x,o,h1,h2,h3,h4,h6⟩:=hx
     exact ⟨kt,e,r,es,c,x,o,h1,h2,h3,h4,hk _ _ h6⟩
   · rcases hx with ⟨d,r,es,c,h1,h2,h6⟩ | ⟨e,s,b,z,a,n,cap,hel,hm,hst⟩
     · exact .inl ⟨d,r,es,c,h1,h2,hk _ _ h6⟩
     · exact .inr ⟨e,s,b,z,a,n,cap,hel,hm,storeN_mono (fun h=>hk _ h) hst⟩
   · exact runO_mono (fun v=>hk v _) hx
 · exact runO_mono (fun v=>hk v _) hx
theorem gX_mono {ops:Array Oper} {ρ:Env} {g:Option (Nat × Bool)} {A B A' B':Prop} (h1:A→A') (h2:B→B') (h:gX ops ρ g A B):gX ops ρ g A' B':=by
 unfold gX at h ⊢
 split at h
 · exact h1 h
 · split at h
   · rename_i hc; rw [if_pos hc]; exact h1 h
   · rename_i hc; rw [if_neg hc]; exact h2 h
theorem wpR_mono {P:Program} {ops:Array Oper} {Q Q':Exit→Env→Heap→Prop} (hq:∀ e ρ h,Q e ρ h→Q' e ρ h):∀ {l:List Oper} {ρ:Env} {h:Heap},wpR P ops Q l ρ h→wpR P ops Q' l ρ h
 | [],_,_,hh=>hq _ _ _ hh
 | _::_,_,_,hh=>gX_mono (fun hx=>stepX_mono (fun _ _=>wpR_mono hq) hx) (wpR_mono hq) hh
theorem wpX_mono {P:Program} {n:Nat}:∀ (c:Code) {Q Q':Exit→Env→Heap→Prop} {ρ:Env} {h:Heap},(∀ e ρ h,Q e ρ h→Q' e ρ h)→wpX P n c Q ρ h→wpX P n c Q' ρ h:=by
 intro c
 induction c with
 | seq a b iha ihb =>
   intro Q Q' ρ h hq hw
   refine iha (fun e ρ h he=>?_) hw
   cases e <;> first | exact ihb hq he | exact hq _ _ _ he
 | cond c a b iha ihb =>
   intro Q Q' ρ h hq hw
   unfold wpX at hw ⊢
   unfold condX at hw ⊢
   split at hw
   · exact iha hq hw
   · exact ihb hq hw
   · exact hw
 | block id c ih =>
   intro Q Q' ρ h hq hw
   refine ih (fun e ρ h he=>?_) hw
   unfold blockX at he ⊢
   split at he
   · split at he
     · rename_i hc; simp only [hc,if_true]; exact hq _ _ _ he
     · rename_i hc; simp only [hc,if_false]; exact hq _ _ _ he
   · exact hq _ _ _ he
 | region id ops d =>
   intro Q Q' ρ h hq hw
   cases d with
   | false=>exact wpR_mono hq hw
   | true=>exact SemX.mono hw hq
 | loop c ih=>exact fun hq hw=>SemX.mono hw hq
 | scope c ih=>exact fun hq hw=>SemX.mono hw hq
 | rangeFunc=>exact fun _ hw=>hw
 | refuse=>exact fun _ hw=>hw
 | _=>exact fun hq hw=>hq _ _ _ hw
theorem cut {P:Program} {n:Nat} {c:Code} {K:Env→Heap→Prop} {Q:Exit→Env→Heap→Prop} {ρ:Env} {h:Heap} (M:Env→Heap→Prop)
  (h1:wpX P n c (thenX M Q) ρ h) (h2:∀ ρ h,M ρ h→K ρ h):wpX P n c (thenX K Q) ρ h :=
 wpX_mono c (fun e ρ h he=>by cases e <;> first | exact h2 _ _ he | exact he) h1
def BlockK (P:Program) (n:Nat) (id:Nat) [c:Kp Code] [Q:Kp (Exit→Env→Heap→Prop)] [ρ:Kp Env] [h:Kp Heap]:Prop:=wpX P n (.block id c.f) Q.f ρ.f h.f
theorem stop_block {P:Program} {n id:Nat} {c:Code} {Q:Exit→Env→Heap→Prop} {ρ:Env} {h:Heap}:wpX P n (.block id c) Q ρ h=@BlockK P n id ⟨c⟩ ⟨Q⟩ ⟨ρ⟩ ⟨h⟩:=rfl
theorem cutK {P:Program} {n id:Nat} {c:Code} {K:Env→Heap→Prop} {Q:Exit→Env→Heap→Prop} {ρ:Env} {h:Heap} (M:Env→Heap→Prop)
 (h1:wpX P n (.block id c) (thenX M Q) ρ h) (h2:∀ ρ h,M ρ h→K ρ h):@BlockK P n id ⟨c⟩ ⟨thenX K Q⟩ ⟨ρ⟩ ⟨h⟩:=cut M h1 h2
theorem condCut {P:Program} {n:Nat} {v:Value} {a b:Code} {K:Env→Heap→Prop} {Q:Exit→Env→Heap→Prop} {ρ:Env} {h:Heap} (M:Env→Heap→Prop)
  (h1:@condK v ⟨wpX P n a (thenX M Q) ρ h⟩ ⟨wpX P n b (thenX M Q) ρ h⟩) (h2:∀ ρ h,M ρ h→K ρ h):@condK v ⟨wpX P n a (thenX K Q) ρ h⟩ ⟨wpX P n b (thenX K Q) ρ h⟩:=by
 unfold condK condX at *
 split at h1
 · exact cut M h1 h2
 · exact cut M h1 h2
 · exact h1
theorem float2 {P:Program} {ops:Array Oper} {Q:Exit→Env→Heap→Prop} {C:Heap→Prop} {rest:List (Nat × Nat)} {ρ:Env} {h:Heap} {d:Nat} {op:Op} {ty:TypeId} {pos:String} {after:Array Edge} (v:Value)
  (hl:∀ h',C h'→lv P ρ op h'=some v) (hn:seqX P ops Q C rest (put ρ d v) h):@seqY ⟨P,ops,Q,C,rest,ρ,h⟩ 2 (some ⟨some d,op,ty,pos,after,none⟩):=by
 rw [seqY_2]; exact ⟨v,hl,hn⟩
theorem float2g {P:Program} {ops:Array Oper} {Q:Exit→Env→Heap→Prop} {C:Heap→Prop} {rest:List (Nat × Nat)} {ρ:Env} {h:Heap} {d j:Nat} {want:Bool} {op:Op} {ty:TypeId} {pos:String} {after:Array Edge} (v:Value)
  (hg:yieldX ops ρ j=some want) (hl:∀ h',C h'→lv P ρ op h'=some v) (hn:seqX P ops Q C rest (put ρ d v) h):@seqY ⟨P,ops,Q,C,rest,ρ,h⟩ 2 (some ⟨some d,op,ty,pos,after,some (j,want)⟩):=by
 rw [seqY_2]
 show gX ops ρ (some (j,want)) _ _
 unfold gX
 simp only [hg,if_true]
 exact ⟨v,hl,hn⟩
def splitL:Code→Nat→Option (Code × Code)
 | .seq (.label l') b,l=>if l'=l then some (.skip,b) else (splitL b l).map fun p=>(.seq (.label l') p.1,p.2)
 | .seq a b,l=>(splitL b l).map fun p=>(.seq a p.1,p.2)
 | _,_=>none
theorem splitL_wp {P:Program} {n l:Nat} {K:Env→Heap→Prop} {Q:Exit→Env→Heap→Prop} (y:Code) (hK:∀ ρ h,K ρ h→wpX P n y Q ρ h):∀ (c x:Code) (ρ:Env) (h:Heap),splitL c l=some (x,y) →
   wpX P n x (thenX K Q) ρ h→wpX P n c Q ρ h:=by
 have step:∀ (a b x:Code) (ρ:Env) (h:Heap),(∀ ρ h,wpX P n x (thenX K Q) ρ h→wpX P n b Q ρ h)→wpX P n (.seq a x) (thenX K Q) ρ h→wpX P n (.seq a b) Q ρ h:=by
   intro a b x ρ h hb hw
   refine wpX_mono a (fun e ρ h he=>?_) hw
   cases e <;> first | exact hb _ _ he | exact he
 intro c
 induction c with
 | seq a b iha ihb =>
   intro x ρ h hs hw
   have gen:(splitL b l).map (fun p=>(Code.seq a p.1,p.2))=some (x,y)→wpX P n (.seq a b) Q ρ h:=by
     intro hm
     obtain ⟨⟨x',y'⟩,h1,h2⟩:=Option.map_eq_some_iff.1 hm
     simp only [Prod.mk.injEq] at h2
     obtain ⟨rfl,rfl⟩:=h2
     exact step a b x' ρ h (fun ρ h=>ihb x' ρ h h1) hw
   cases a <;> first
     | exact gen hs
     | skip
   rename_i l'
   unfold splitL at hs
   split at hs
   · simp only [Option.some.injEq,Prod.mk.injEq] at hs
     obtain ⟨rfl,rfl⟩:=hs
     exact hK _ _ hw
   · exact gen hs
 | _=>intro x ρ h hs; simp [splitL] at hs
theorem scopeM {P:Program} {n:Nat} {c x y:Code} {Q:Exit→Env→Heap→Prop} {ρ:Env} {h:Heap} (l:Nat) (J:Env→Heap→Prop) (μ:Env→Heap→Nat) (hs:splitL c l=some (x,y)) (hf:findLabel c l=some (.seq .skip y))
  (hok:(okCode n c&&okCode n y)=true) (first:wpX P n x (thenX J (jumpX l J Q)) ρ h)
  (pass:∀ ρ h,J ρ h→wpX P n y (jumpX l (fun ρ' h'=>J ρ' h'∧μ ρ' h'<μ ρ h) Q) ρ h):@SemK P n ⟨.scope c⟩ ⟨Q⟩ ⟨ρ⟩ ⟨h⟩:=by
 refine scopeK (rest:=.seq .skip y) l J μ hf (by simpa [okCode] using hok) ?_ fun ρ h hJ=>pass ρ h hJ
 refine splitL_wp y (fun ρ h hJ=>?_) c x ρ h hs first
 refine wpX_mono y (fun e ρ h he=>?_) (pass ρ h hJ)
 cases e <;> first | exact ⟨he.1,he.2.1⟩ | exact he
structure ListB (h:Heap) (b:Nat) (vs:List Value):Prop where
 at':∀ i v,vs[i]?=some v→hcell h ⟨b,i,none⟩=some v
 fz:∀ o,hfrz h ⟨b,o,none⟩=false
 lt:b<h.size
structure FnB (h:Heap) (b n:Nat) (f:Nat→Value):Prop where
 at':∀ i,i<n→hcell h ⟨b,i,none⟩=some (f i)
 fz:∀ o,hfrz h ⟨b,o,none⟩=false
 lt:b<h.size
section
variable {h h':Heap} {b n:Nat} {f:Nat→Value} {vs:List Value}
theorem ListB.same (B:ListB h b vs) (e:h'[b]?=h[b]?):ListB h' b vs where
 at' i v hv:=by rw [← B.at' i v hv]; unfold hcell; rw [e]
 fz o:=by rw [← B.fz o]; unfold hfrz; rw [e]
 lt:=by
  have:=B.lt
  rw [Array.getElem?_eq_getElem this] at e
  exact (Array.getElem?_eq_some_iff.1 e).1
theorem FnB.same (B:FnB h b n f) (e:h'[b]?=h[b]?):FnB h' b n f where
 at' i hi:=by rw [← B.at' i hi]; unfold hcell; rw [e]
 fz o:=by rw [← B.fz o]; unfold hfrz; rw [e]
 lt:=by
  have:=B.lt
  rw [Array.getElem?_eq_getElem this] at e
  exact (Array.getElem?_eq_some_iff.1 e).1
theorem ListB.fr {S:Nat→Prop} (B:ListB h b vs) (r:Fr S h h') (hs:¬ S b):ListB h' b vs:=B.same (r.same b B.lt hs)
theorem FnB.fr {S:Nat→Prop} (B:FnB h b n f) (r:Fr S h h') (hs:¬ S b):FnB h' b n f:=B.same (r.same b B.lt hs)
theorem ListB.oth (B:ListB h b vs) {c o:Nat} {v:Value} (e:b≠c):ListB (hset h ⟨c,o,none⟩ v) b vs:=B.same (hset_other e)
theorem FnB.oth (B:FnB h b n f) {c o:Nat} {v:Value} (e:b≠c):FnB (hset h ⟨c,o,none⟩ v) b n f:=B.same (hset_other e)
theorem ListB.push (B:ListB h b vs) {X:Obj}:ListB (h.push X) b vs:=B.same (push_old B.lt)
theorem FnB.push (B:FnB h b n f) {X:Obj}:FnB (h.push X) b n f:=B.same (push_old B.lt)
theorem ListB.set (B:ListB h b vs) {i:Nat} (v:Value) (hi:i<vs.length):ListB (hset h ⟨b,i,none⟩ v) b (vs.set i v) where
 at' j x hx:=by
  rw [hcell_hset]
  rw [List.getElem?_set] at hx
  by_cases e:j=i
  · subst e
    rw [if_pos rfl,if_pos hi] at hx
    rw [if_pos ⟨rfl,rfl⟩,B.at' j _ (List.getElem?_eq_getElem hi)]
    exact hx
  · rw [if_neg (Ne.symm e)] at hx
    rw [if_neg (fun h=>e h.2)]; exact B.at' j x hx
 fz o:=by rw [hfrz_hset]; exact B.fz o
 lt:=by rw [hset_size]; exact B.lt
theorem FnB.set (B:FnB h b n f) {i:Nat} (v:Value) (hi:i<n):FnB (hset h ⟨b,i,none⟩ v) b n (fun j=>if j=i then v else f j) where
 at' j hj:=by
  rw [hcell_hset]
  by_cases e:j=i
  · subst e; rw [if_pos ⟨rfl,rfl⟩,B.at' j hj,if_pos rfl]; rfl
  · rw [if_neg (fun h=>e h.2),if_neg e]; exact B.at' j hj
 fz o:=by rw [hfrz_hset]; exact B.fz o
 lt:=by rw [hset_size]; exact B.lt
theorem FnB.cong {g:Nat→Value} (B:FnB h b n f) (e:∀ i,i<n→f i=g i):FnB h b n g:=⟨fun i hi=>by rw [← e i hi]; exact B.at' i hi,B.fz,B.lt⟩
theorem ListB.new {e:TypeId}:ListB (h.push (.cells vs.toArray e)) h.size vs where
 at' i v hv:=by rw [hcell_push_lit,← atL_eq]; exact hv
 fz o:=hfrz_push_new
 lt:=by rw [push_size]; omega
theorem FnB.zeros {z:Value} {m:Nat} {e:TypeId}:FnB (h.push (.cells (zerosOf #[z] m) e)) h.size m (fun _=>z) where
 at' i hi:=by
  rw [hcell_push_new]
  unfold zerosOf
  rw [Array.getElem?_map,Array.getElem?_range,if_pos hi]
  simp [Nat.mod_one]
 fz o:=hfrz_push_new
 lt:=by rw [push_size]; omega
def RowAt (h:Heap) (A:Option Addr) (vs:List Value):Prop:=vs=[]∨∃ bk off,A=some ⟨bk,off,none⟩∧∀ i v,vs[i]?=some v→hcell h ⟨bk,off+i,none⟩=some v
theorem RowAt.nil {A:Option Addr}:RowAt h A []:=.inl rfl
theorem RowAt.get {A:Option Addr} (R:RowAt h A vs) (hv:0<vs.length):∃ bk off,A=some ⟨bk,off,none⟩∧∀ i v,vs[i]?=some v→hcell h ⟨bk,off+i,none⟩=some v:=by
 rcases R with rfl | R
 · simp at hv
 · exact R
theorem RowAt.fr {A:Option Addr} (R:RowAt h A vs) {S:Nat→Prop} (f:Fr S h h') (hs:∀ x,blk A x→¬ S x):RowAt h' A vs:=by
 rcases R with rfl | ⟨bk,off,rfl,hc⟩
 · exact .inl rfl
 · refine .inr ⟨bk,off,rfl,fun i v hv=>?_⟩
   have:=hc i v hv
   exact (f.cell (hcell_lt this) (hs _ ⟨_,rfl,rfl⟩)).trans this
theorem RowAt.fr0 {A:Option Addr} (R:RowAt h A vs) (f:Fr (fun _=>False) h h'):RowAt h' A vs:=R.fr f (fun _ _=>id)
theorem SlAt.row {A:Option Addr} {cap:Nat} (S:SlAt h A cap vs):RowAt h A vs:=by
 rcases S.at' with ⟨h1,h2⟩ | ⟨bk,h1,_,_,_,h5⟩
 · have:=S.len
   exact .inl (List.eq_nil_of_length_eq_zero (by omega))
 · exact .inr ⟨bk,0,h1,fun i v hv=>by rw [Nat.zero_add]; exact h5 i v hv⟩
theorem RowAt.take {A:Option Addr} (R:RowAt h A vs) (n:Nat):RowAt h A (vs.take n):=by
 rcases R with rfl | ⟨bk,off,rfl,hc⟩
 · exact .inl (by simp)
 · refine .inr ⟨bk,off,rfl,fun i v hv=>hc i v ?_⟩
   rw [List.getElem?_take] at hv
   split at hv
   · exact hv
   · cases hv
theorem loadN_some {bk off:Nat}:∀ {vs:List Value} {i:Nat},(∀ j x,vs[j]?=some x→hcell h ⟨bk,off+i+j,none⟩=some x)→loadN h ⟨bk,off,none⟩ i vs.length=some vs:=by
 intro vs
 induction vs with
 | nil=>intro i _; rfl
 | cons y l ih =>
   intro i hi
   have h0:=hi 0 y rfl
   have h1:=ih (i:=i+1) (by intro j x hj; have:=hi (j+1) x hj; rwa [show off+(i+1)+j=off+i+(j+1) by omega])
   simp only [Nat.add_zero] at h0
   simp [loadN,add_n,h0,h1]
theorem RowAt.load {A:Option Addr} (R:RowAt h A vs) {n:Nat} (hn:n=vs.length):rowN h A n=some vs:=by
 subst hn
 rcases R with rfl | ⟨bk,off,rfl,hc⟩
 · cases A <;> rfl
 · exact loadN_some fun j x hx=>by rw [Nat.add_zero]; exact hc j x hx
theorem storeN_some {b:Nat}:∀ {ws:List Value} {o i:Nat} {h:Heap} {k:Heap→Prop},(∀ w∈ws,w.oneCell'=true)→(∀ j,j<ws.length→(hcell h ⟨b,o+i+j,none⟩).isSome=true)→(∀ j,hfrz h ⟨b,j,none⟩=false) →
   (∀ h',(∀ j v,ws[j]?=some v→hcell h' ⟨b,o+i+j,none⟩=some v)→(∀ x,(x<o+i∨o+i+ws.length≤x)→hcell h' ⟨b,x,none⟩=hcell h ⟨b,x,none⟩)→(∀ x,hfrz h' ⟨b,x,none⟩=false)→Fr (fun x=>x=b) h h'→k h') →
   storeN h ⟨b,o,none⟩ i ws k
 | [],o,i,h,k,_,_,hf,hk=>hk h (fun _ _ h=>(nomatch h)) (fun _ _=>rfl) hf (Fr.refl _ _)
 | w::ws,o,i,h,k,h1,h2,hf,hk=>by
   have c0:=h2 0 (by simp)
   rw [Nat.add_zero] at c0
   refine ⟨h1 w (List.mem_cons_self ..),by rw [add_n]; exact c0,by rw [add_n]; exact hf _,?_⟩
   refine storeN_some (fun x hx=>h1 x (List.mem_cons_of_mem _ hx)) (fun j hj=>?_) (fun j=>by rw [hfrz_hset]; exact hf j) fun h' g1 g2 g3 g4=>?_
   · rw [add_n,hcell_hset,if_neg (by omega)]
     have:=h2 (j+1) (by simp; omega)
     rwa [show o+(i+1)+j=o+i+(j+1) by omega]
   · rw [add_n] at g2 g4
     refine hk h' (fun j v hv=>?_) (fun x hx=>?_) g3 (((Fr.refl (fun x=>x=b) h).set (show (fun x=>x=b) b from rfl)).trans g4)
     · cases j with
       | zero =>
         simp only [List.getElem?_cons_zero,Option.some.injEq] at hv
         subst hv
         rw [Nat.add_zero,g2 (o+i) (.inl (by omega)),hcell_hset,if_pos ⟨rfl,rfl⟩]
         obtain ⟨u,hu⟩:=Option.isSome_iff_exists.1 c0
         rw [hu]; rfl
       | succ j =>
         have:=g1 j v hv
         rwa [show o+(i+1)+j=o+i+(j+1) by omega] at this
     · rw [g2 x (by simp at hx; omega),hcell_hset,if_neg (by simp at hx; omega)]
@[go_sem] theorem slice_from {m len cap b o:Nat} {kd:IntKind} {i:Int} (h0:0≤i) (h1:i≤len) (h2:i<cap):sliceV (some (m,none)) (.slice (some ⟨b,o,none⟩) len cap) (some (.int kd i)) none=some (.slice (some ⟨b,o+i.toNat*m,none⟩) (len-i.toNat) (cap-i.toNat)):=by
  unfold sliceV boundV
  have e:¬ cap=i.toNat:=by omega
  simp only [Option.bind_some,if_pos (And.intro h0 h1),Option.map_some,e,if_false,add_n]
theorem appendN {e:TypeId} {sz bt:Nat} {z:Value} {A xb:Option Addr} {cap n m xc:Nat} {ws:List Value} {k:Value→Heap→Prop} (S:SlAt h A (cap*sz) vs) (hn:n*sz=vs.length)
   (hw:RowAt h xb ws) (hm:m*sz=ws.length) (hs:0<sz) (hone:∀ w∈ws,w.oneCell'=true) (hlen:(n+m)*bt≤2^47) (hlm:n+m<2^50)
   (hk:∀ A' cap' h',SlAt h' A' (cap'*sz) (vs++ws)→Fr (blk A) h h'→(∀ x,blk A' x→blk A x∨h.size≤x)→k (.slice A' (n+m) cap') h') :
   @appendK (some (e,sz,bt,z)) (.slice A n cap) (.slice xb m xc) ⟨h⟩ ⟨k⟩:=by
 change appendX (some (e,sz,bt,z)) (.slice A n cap) (.slice xb m xc) h k
 refine ⟨ws,hw.load hm,fun hc=>?_,fun hc=>⟨hlen,by unfold maxLen; omega,vs,S.row.load hn,fun c rest hc2 hr=>?_⟩⟩
 · rcases S.at' with ⟨rfl,h2⟩ | ⟨bk,rfl,h2,h3,h4,h5⟩
   · have hv:vs=[]:=List.eq_nil_of_length_eq_zero (by have:=S.len; omega)
     have hcap:cap=0:=by
       rcases Nat.eq_zero_or_pos cap with h | h
       · exact h
       · have:=Nat.mul_pos h hs; omega
     have hm0:m=0:=by omega
     subst hm0
     have hws:ws=[]:=List.eq_nil_of_length_eq_zero (by omega)
     subst hws
     exact hk none cap h (by rw [List.append_nil]; exact S) (Fr.refl _ _) (fun x hx=>.inl hx)
   · have hcs:(n+m)*sz≤cap*sz:=Nat.mul_le_mul_right _ hc
     rw [Nat.add_mul] at hcs
     show storeN h (Addr.add ⟨bk,0,none⟩ (n*sz)) 0 ws _
     rw [add_n]
     refine storeN_some hone (fun j hj=>?_) h3 fun h' g1 g2 g3 g4=>?_
     · rw [Nat.add_zero,Nat.zero_add]
       exact h4 _ (by omega)
     · rw [Nat.add_zero,Nat.zero_add] at g1 g2
       refine hk _ _ _ ⟨by rw [List.length_append]; omega,.inr ⟨bk,rfl,Nat.lt_of_lt_of_le h2 g4.size,g3,fun j hj=>?_,fun j x hx=>?_⟩⟩ (g4.mono fun x _ hx=>⟨_,rfl,hx.symm⟩) (fun x hx=>.inl hx)
       · by_cases hin:j<n*sz∨n*sz+ws.length≤j
         · rw [g2 j hin]; exact h4 j hj
         · have:=g1 (j-n*sz) ws[j-n*sz] (List.getElem?_eq_getElem (by omega))
           rw [show n*sz+(j-n*sz)=j by omega] at this
           rw [this]; rfl
       · by_cases e:j<vs.length
         · rw [List.getElem?_append_left e] at hx
           rw [g2 j (.inl (by omega))]
           exact h5 j x hx
         · rw [List.getElem?_append_right (by omega)] at hx
           have:=g1 _ _ hx
           rwa [show n*sz+(j-vs.length)=j by omega] at this
 · have hcs:(n+m)*sz≤c*sz:=Nat.mul_le_mul_right _ hc2
   rw [Nat.add_mul] at hcs
   refine hk _ _ _ ⟨by rw [List.length_append]; omega,.inr ⟨h.size,rfl,by rw [push_size]; omega,fun j=>hfrz_push_new,fun j hj=>?_,fun j x hx=>?_⟩⟩ ((Fr.refl _ _).push) (fun x hx=>.inr ?_)
   · rw [hcell_push_new]
     simp only [List.getElem?_toArray]
     have hl:(vs++ws++rest).length=c*sz:=by
       rw [List.length_append,List.length_append,hr,Nat.sub_mul,Nat.add_mul]; omega
     rw [List.getElem?_eq_getElem (by omega)]; rfl
   · rw [hcell_push_new]
     simp only [List.getElem?_toArray]
     rw [List.getElem?_append_left (by simpa using (List.getElem?_eq_some_iff.1 hx).1)]
     exact hx
   · obtain ⟨a,ha,hx⟩:=hx
     cases ha; simp at hx; omega
theorem SlAt.new {e:TypeId}:SlAt (h.push (.cells vs.toArray e)) (some ⟨h.size,0,none⟩) vs.length vs:=by
 refine ⟨Nat.le_refl _,.inr ⟨h.size,rfl,by rw [push_size]; omega,fun j=>hfrz_push_new,fun j hj=>?_,fun j x hx=>?_⟩⟩
 · rw [hcell_push_lit,← atL_eq,List.getElem?_eq_getElem hj]; rfl
 · rw [hcell_push_lit,← atL_eq]; exact hx
theorem build0 {e:TypeId} {s b:Nat} {z:Value} {k:Value→Heap→Prop} (hk:k (.slice (some ⟨h.size,0,none⟩) 0 0) (h.push (.cells #[] e))):@buildSliceK (some (e,s,b,z)) 0 [] ⟨h⟩ ⟨k⟩:=by
 refine ⟨by omega,#[],?_,hk⟩
 have hc:zerosOf z.cells (0*s)=#[]:=by simp [zerosOf]
 rw [hc]; rfl
theorem copyN {e:TypeId} {sz bt:Nat} {z:Value} {db off dl dc sl sc:Nat} {xb:Option Addr} {ws:List Value} {k:Value→Heap→Prop}
   (hw:RowAt h xb ws) (hm:min sl dl*sz=ws.length) (hone:∀ w∈ws,w.oneCell'=true) (hc:∀ j,j<ws.length→(hcell h ⟨db,off+j,none⟩).isSome=true) (hf:∀ j,hfrz h ⟨db,j,none⟩=false)
   (hk:∀ h',(∀ j v,ws[j]?=some v→hcell h' ⟨db,off+j,none⟩=some v)→(∀ x,(x<off∨off+ws.length≤x)→hcell h' ⟨db,x,none⟩=hcell h ⟨db,x,none⟩)→(∀ x,hfrz h' ⟨db,x,none⟩=false)→Fr (fun x=>x=db) h h' →
    k (.int .i64 (min sl dl:Nat)) h'):@copyK (some (e,sz,bt,z)) (.slice (some ⟨db,off,none⟩) dl dc) (.slice xb sl sc) ⟨h⟩ ⟨k⟩:=by
 refine ⟨ws,hw.load hm,?_⟩
 show storeN h ⟨db,off,none⟩ 0 ws _
 refine storeN_some hone (fun j hj=>?_) hf fun h' g1 g2 g3 g4=>?_
 · rw [Nat.add_zero]; exact hc j hj
 · rw [Nat.add_zero] at g1 g2
   exact hk h' g1 g2 g3 g4
end
end Xe
