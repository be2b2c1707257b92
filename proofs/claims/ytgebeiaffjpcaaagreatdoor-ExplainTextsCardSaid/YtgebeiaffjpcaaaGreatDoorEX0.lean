/- Closed facts on the types of this seat's program, printed by a program of mine (types.py); each is checked by evaluation. -/
import Derived.Test.YtgebeiaffjpcaaaGreatDoorProg
import Derived.Test.YtgebeiaffjpcaaaGreatDoorEng5
import Derived.KernelRfl
import Derived.Test.YtgebeiaffjpcaaaGreatDoorRows
import Derived.WalkKit
import Derived.ProofKit
import Derived.OpenShut
import Derived.Carry
import Derived.Shelf.Strings.OnBuilder
import Derived.Shelf.Strings.BuilderK
import Derived.Shelf.Strconv.Itoa3
import Derived.Shelf.Strconv.AtoiAll
import Derived.Shelf.Strings.Split
import Derived.Shelf.Strings.SlTrimAscii
import Derived.Shelf.Bytes.IndexByte
import Derived.Shelf.Bytes.SlIndexAt
import Derived.Shelf.Slices.Equal
import Derived.Shelf.Slices.Empties2
import Derived.Lib.SplitLaws
import Derived.Lib.ItoaNum
import Derived.Lib.AtoiAll
namespace Xe
open Go Go.Proofs

@[go_sem] theorem sz3 : szOf Tryz.prog 3 = some 1 := by kernel_rfl
@[go_sem] theorem ag3 : aggOf Tryz.prog 3 = some none := by kernel_rfl
@[go_sem] theorem ze3 : zeroOf Tryz.prog 3 = some (.int .i64 0) := by kernel_rfl

@[go_sem] theorem ag5 : aggOf Tryz.prog 5 = some none := by kernel_rfl

@[go_sem] theorem bt5 : byteT Tryz.prog 5 = true := by kernel_rfl

@[go_sem] theorem ag9 : aggOf Tryz.prog 9 = some none := by kernel_rfl

@[go_sem] theorem st9 : strT Tryz.prog 9 = true := by kernel_rfl

@[go_sem] theorem ixn9 : ixOf Tryz.prog 9 = none := by kernel_rfl

@[go_sem] theorem sz22 : szOf Tryz.prog 22 = some 1 := by kernel_rfl
@[go_sem] theorem ag22 : aggOf Tryz.prog 22 = some none := by kernel_rfl
@[go_sem] theorem ze22 : zeroOf Tryz.prog 22 = some (.slice none 0 0) := by kernel_rfl

@[go_sem] theorem el22 : elOf Tryz.prog 22 = some (6, none) := by kernel_rfl
@[go_sem] theorem es22 : elemOfS Tryz.prog 22 = some (100, 6, 88, .agg #[.string ⟨#[]⟩, .int .u64 0, .int .u64 0, .int .u64 0, .slice none 0 0, .slice none 0 0]) := by kernel_rfl
@[go_sem] theorem sz23 : szOf Tryz.prog 23 = some 1 := by kernel_rfl
@[go_sem] theorem ag23 : aggOf Tryz.prog 23 = some none := by kernel_rfl

@[go_sem] theorem el23 : elOf Tryz.prog 23 = some (1, none) := by kernel_rfl
@[go_sem] theorem es23 : elemOfS Tryz.prog 23 = some (3, 1, 8, .int .i64 0) := by kernel_rfl
@[go_sem] theorem sz24 : szOf Tryz.prog 24 = some 1 := by kernel_rfl
@[go_sem] theorem ag24 : aggOf Tryz.prog 24 = some none := by kernel_rfl

@[go_sem] theorem el24 : elOf Tryz.prog 24 = some (2, none) := by kernel_rfl
@[go_sem] theorem es24 : elemOfS Tryz.prog 24 = some (40, 2, 32, .agg #[.int .i64 0, .slice none 0 0]) := by kernel_rfl

@[go_sem] theorem sz26 : szOf Tryz.prog 26 = some 2 := by kernel_rfl
@[go_sem] theorem ag26 : aggOf Tryz.prog 26 = some (some 2) := by kernel_rfl
@[go_sem] theorem ze26 : zeroOf Tryz.prog 26 = some (.agg #[.slice none 0 0, .slice none 0 0]) := by kernel_rfl
@[go_sem] theorem bu26 (ps : List (Nat × Value)) : Tryz.prog.built 26 ps = fillA [(0, 1), (1, 1)] [.slice none 0 0, .slice none 0 0] ps := by kernel_rfl

@[go_sem] theorem of26_0 : offOf Tryz.prog 26 0 = some 0 := by kernel_rfl

@[go_sem] theorem of26_1 : offOf Tryz.prog 26 1 = some 1 := by kernel_rfl

@[go_sem] theorem sz27 : szOf Tryz.prog 27 = some 1 := by kernel_rfl
@[go_sem] theorem ag27 : aggOf Tryz.prog 27 = some none := by kernel_rfl

@[go_sem] theorem sz29 : szOf Tryz.prog 29 = some 3 := by kernel_rfl
@[go_sem] theorem ag29 : aggOf Tryz.prog 29 = some (some 3) := by kernel_rfl
@[go_sem] theorem ze29 : zeroOf Tryz.prog 29 = some (.agg #[.int .i64 0, .int .i64 0, .int .i64 0]) := by kernel_rfl

@[go_sem] theorem bu29 (ps : List (Nat × Value)) : Tryz.prog.built 29 ps = fillA [(0, 1), (1, 1), (2, 1)] [.int .i64 0, .int .i64 0, .int .i64 0] ps := by kernel_rfl

@[go_sem] theorem of29_0 : offOf Tryz.prog 29 0 = some 0 := by kernel_rfl

@[go_sem] theorem of29_1 : offOf Tryz.prog 29 1 = some 1 := by kernel_rfl

@[go_sem] theorem of29_2 : offOf Tryz.prog 29 2 = some 2 := by kernel_rfl

@[go_sem] theorem sz31 : szOf Tryz.prog 31 = some 10 := by kernel_rfl
@[go_sem] theorem ag31 : aggOf Tryz.prog 31 = some (some 10) := by kernel_rfl
@[go_sem] theorem ze31 : zeroOf Tryz.prog 31 = some (.agg #[.int .i64 0, .slice none 0 0, .slice none 0 0, .slice none 0 0, .int .i64 0, .int .i64 0, .int .i64 0, .int .i64 0, .int .i64 0, .int .i64 0]) := by kernel_rfl
@[go_sem] theorem bu31 (ps : List (Nat × Value)) : Tryz.prog.built 31 ps = fillA [(0, 1), (1, 1), (2, 2), (4, 1), (5, 1), (6, 1), (7, 3)] [.int .i64 0, .slice none 0 0, .slice none 0 0, .slice none 0 0, .int .i64 0, .int .i64 0, .int .i64 0, .int .i64 0, .int .i64 0, .int .i64 0] ps := by kernel_rfl

@[go_sem] theorem of31_0 : offOf Tryz.prog 31 0 = some 0 := by kernel_rfl

@[go_sem] theorem of31_1 : offOf Tryz.prog 31 1 = some 1 := by kernel_rfl

@[go_sem] theorem of31_2 : offOf Tryz.prog 31 2 = some 2 := by kernel_rfl

@[go_sem] theorem of31_3 : offOf Tryz.prog 31 3 = some 4 := by kernel_rfl

@[go_sem] theorem of31_4 : offOf Tryz.prog 31 4 = some 5 := by kernel_rfl

@[go_sem] theorem of31_5 : offOf Tryz.prog 31 5 = some 6 := by kernel_rfl

@[go_sem] theorem of31_6 : offOf Tryz.prog 31 6 = some 7 := by kernel_rfl

@[go_sem] theorem sz40 : szOf Tryz.prog 40 = some 2 := by kernel_rfl
@[go_sem] theorem ag40 : aggOf Tryz.prog 40 = some (some 2) := by kernel_rfl
@[go_sem] theorem ze40 : zeroOf Tryz.prog 40 = some (.agg #[.int .i64 0, .slice none 0 0]) := by kernel_rfl
@[go_sem] theorem bu40 (ps : List (Nat × Value)) : Tryz.prog.built 40 ps = fillA [(0, 1), (1, 1)] [.int .i64 0, .slice none 0 0] ps := by kernel_rfl

@[go_sem] theorem of40_0 : offOf Tryz.prog 40 0 = some 0 := by kernel_rfl

@[go_sem] theorem of40_1 : offOf Tryz.prog 40 1 = some 1 := by kernel_rfl

@[go_sem] theorem ag45 : aggOf Tryz.prog 45 = some none := by kernel_rfl

@[go_sem] theorem sz47 : szOf Tryz.prog 47 = some 2 := by kernel_rfl
@[go_sem] theorem ag47 : aggOf Tryz.prog 47 = some (some 2) := by kernel_rfl
@[go_sem] theorem ze47 : zeroOf Tryz.prog 47 = some (.agg #[.string ⟨#[]⟩, .slice none 0 0]) := by kernel_rfl
@[go_sem] theorem bu47 (ps : List (Nat × Value)) : Tryz.prog.built 47 ps = fillA [(0, 1), (1, 1)] [.string ⟨#[]⟩, .slice none 0 0] ps := by kernel_rfl

@[go_sem] theorem of47_0 : offOf Tryz.prog 47 0 = some 0 := by kernel_rfl

@[go_sem] theorem of47_1 : offOf Tryz.prog 47 1 = some 1 := by kernel_rfl

@[go_sem] theorem ag48 : aggOf Tryz.prog 48 = some none := by kernel_rfl

@[go_sem] theorem el48 : elOf Tryz.prog 48 = some (2, none) := by kernel_rfl
@[go_sem] theorem es48 : elemOfS Tryz.prog 48 = some (47, 2, 40, .agg #[.string ⟨#[]⟩, .slice none 0 0]) := by kernel_rfl

@[go_sem] theorem sz50 : szOf Tryz.prog 50 = some 1 := by kernel_rfl
@[go_sem] theorem ag50 : aggOf Tryz.prog 50 = some (some 1) := by kernel_rfl
@[go_sem] theorem ze50 : zeroOf Tryz.prog 50 = some (.agg #[.slice none 0 0]) := by kernel_rfl
@[go_sem] theorem bu50 (ps : List (Nat × Value)) : Tryz.prog.built 50 ps = fillA [(0, 1)] [.slice none 0 0] ps := by kernel_rfl

@[go_sem] theorem of50_0 : offOf Tryz.prog 50 0 = some 0 := by kernel_rfl

@[go_sem] theorem ag59 : aggOf Tryz.prog 59 = some none := by kernel_rfl

@[go_sem] theorem el59 : elOf Tryz.prog 59 = some (1, none) := by kernel_rfl
@[go_sem] theorem es59 : elemOfS Tryz.prog 59 = some (5, 1, 1, .int .u8 0) := by kernel_rfl

@[go_sem] theorem ze61 : zeroOf Tryz.prog 61 = some (.agg #[.pointer none, .slice none 0 0]) := by kernel_rfl

@[go_sem] theorem sz66 : szOf Tryz.prog 66 = some 3 := by kernel_rfl
@[go_sem] theorem ag66 : aggOf Tryz.prog 66 = some (some 3) := by kernel_rfl
@[go_sem] theorem ze66 : zeroOf Tryz.prog 66 = some (.agg #[.string ⟨#[]⟩, .string ⟨#[]⟩, .string ⟨#[]⟩]) := by kernel_rfl
@[go_sem] theorem bu66 (ps : List (Nat × Value)) : Tryz.prog.built 66 ps = Instr.fill (fun i => some (i * 1, 1)) #[.string ⟨#[]⟩, .string ⟨#[]⟩, .string ⟨#[]⟩] ps := by kernel_rfl
@[go_sem] theorem ix66 : ixOf Tryz.prog 66 = some (3, 1, none) := by kernel_rfl
@[go_sem] theorem el66 : elOf Tryz.prog 66 = some (1, some 3) := by kernel_rfl

@[go_sem] theorem ag74 : aggOf Tryz.prog 74 = some none := by kernel_rfl

@[go_sem] theorem el74 : elOf Tryz.prog 74 = some (1, none) := by kernel_rfl
@[go_sem] theorem es74 : elemOfS Tryz.prog 74 = some (9, 1, 16, .string ⟨#[]⟩) := by kernel_rfl

@[go_sem] theorem ag91 : aggOf Tryz.prog 91 = some none := by kernel_rfl

@[go_sem] theorem ms91 : mapS Tryz.prog 91 = some (9, 3) := by kernel_rfl

@[go_sem] theorem bu93 (ps : List (Nat × Value)) : Tryz.prog.built 93 ps = fillA [(0, 1), (1, 1)] [.slice none 0 0, .map none] ps := by kernel_rfl

@[go_sem] theorem of93_0 : offOf Tryz.prog 93 0 = some 0 := by kernel_rfl

@[go_sem] theorem of93_1 : offOf Tryz.prog 93 1 = some 1 := by kernel_rfl

@[go_sem] theorem sz96 : szOf Tryz.prog 96 = some 1 := by kernel_rfl
@[go_sem] theorem ag96 : aggOf Tryz.prog 96 = some none := by kernel_rfl

@[go_sem] theorem sz98 : szOf Tryz.prog 98 = some 5 := by kernel_rfl
@[go_sem] theorem ag98 : aggOf Tryz.prog 98 = some (some 5) := by kernel_rfl
@[go_sem] theorem ze98 : zeroOf Tryz.prog 98 = some (.agg #[.int .u64 0, .int .u64 0, .int .u64 0, .slice none 0 0, .slice none 0 0]) := by kernel_rfl
@[go_sem] theorem bu98 (ps : List (Nat × Value)) : Tryz.prog.built 98 ps = fillA [(0, 1), (1, 1), (2, 1), (3, 1), (4, 1)] [.int .u64 0, .int .u64 0, .int .u64 0, .slice none 0 0, .slice none 0 0] ps := by kernel_rfl

@[go_sem] theorem of98_0 : offOf Tryz.prog 98 0 = some 0 := by kernel_rfl

@[go_sem] theorem of98_1 : offOf Tryz.prog 98 1 = some 1 := by kernel_rfl

@[go_sem] theorem of98_2 : offOf Tryz.prog 98 2 = some 2 := by kernel_rfl

@[go_sem] theorem of98_3 : offOf Tryz.prog 98 3 = some 3 := by kernel_rfl

@[go_sem] theorem of98_4 : offOf Tryz.prog 98 4 = some 4 := by kernel_rfl

@[go_sem] theorem sz100 : szOf Tryz.prog 100 = some 6 := by kernel_rfl
@[go_sem] theorem ag100 : aggOf Tryz.prog 100 = some (some 6) := by kernel_rfl
@[go_sem] theorem ze100 : zeroOf Tryz.prog 100 = some (.agg #[.string ⟨#[]⟩, .int .u64 0, .int .u64 0, .int .u64 0, .slice none 0 0, .slice none 0 0]) := by kernel_rfl
@[go_sem] theorem bu100 (ps : List (Nat × Value)) : Tryz.prog.built 100 ps = fillA [(0, 1), (1, 5)] [.string ⟨#[]⟩, .int .u64 0, .int .u64 0, .int .u64 0, .slice none 0 0, .slice none 0 0] ps := by kernel_rfl

@[go_sem] theorem of100_0 : offOf Tryz.prog 100 0 = some 0 := by kernel_rfl

@[go_sem] theorem of100_1 : offOf Tryz.prog 100 1 = some 1 := by kernel_rfl

@[go_sem] theorem sz122 : szOf Tryz.prog 122 = some 3 := by kernel_rfl
@[go_sem] theorem ag122 : aggOf Tryz.prog 122 = some (some 3) := by kernel_rfl
@[go_sem] theorem ze122 : zeroOf Tryz.prog 122 = some (.agg #[.int .i64 0, .int .i64 0, .int .i64 0]) := by kernel_rfl

@[go_sem] theorem bu122 (ps : List (Nat × Value)) : Tryz.prog.built 122 ps = fillA [(0, 1), (1, 1), (2, 1)] [.int .i64 0, .int .i64 0, .int .i64 0] ps := by kernel_rfl

@[go_sem] theorem of122_0 : offOf Tryz.prog 122 0 = some 0 := by kernel_rfl

@[go_sem] theorem of122_1 : offOf Tryz.prog 122 1 = some 1 := by kernel_rfl

@[go_sem] theorem ze148 : zeroOf Tryz.prog 148 = some (.agg #[.int .u64 0, .int .u64 0, .int .u64 0]) := by kernel_rfl
@[go_sem] theorem bu148 (ps : List (Nat × Value)) : Tryz.prog.built 148 ps = Instr.fill (fun i => some (i * 1, 1)) #[.int .u64 0, .int .u64 0, .int .u64 0] ps := by kernel_rfl
@[go_sem] theorem ix148 : ixOf Tryz.prog 148 = some (3, 1, none) := by kernel_rfl
@[go_sem] theorem el148 : elOf Tryz.prog 148 = some (1, some 3) := by kernel_rfl

@[go_sem] theorem ms162 : mapS Tryz.prog 162 = some (9, 161) := by kernel_rfl

@[go_sem] theorem bu166 (ps : List (Nat × Value)) : Tryz.prog.built 166 ps = fillA [(0, 1), (1, 1), (2, 1)] [.slice none 0 0, .slice none 0 0, .int .i64 0] ps := by kernel_rfl

@[go_sem] theorem of166_0 : offOf Tryz.prog 166 0 = some 0 := by kernel_rfl

@[go_sem] theorem of166_1 : offOf Tryz.prog 166 1 = some 1 := by kernel_rfl

@[go_sem] theorem of166_2 : offOf Tryz.prog 166 2 = some 2 := by kernel_rfl

@[go_sem] theorem bu192 (ps : List (Nat × Value)) : Tryz.prog.built 192 ps = fillA [(0, 1), (1, 1), (2, 1), (3, 1), (4, 1), (5, 1)] [.slice none 0 0, .int .i64 0, .int .i64 0, .int .i64 0, .int .i64 0, .int .i64 0] ps := by kernel_rfl

@[go_sem] theorem of192_0 : offOf Tryz.prog 192 0 = some 0 := by kernel_rfl

@[go_sem] theorem of192_1 : offOf Tryz.prog 192 1 = some 1 := by kernel_rfl

@[go_sem] theorem of192_2 : offOf Tryz.prog 192 2 = some 2 := by kernel_rfl

@[go_sem] theorem of192_3 : offOf Tryz.prog 192 3 = some 3 := by kernel_rfl

@[go_sem] theorem of192_4 : offOf Tryz.prog 192 4 = some 4 := by kernel_rfl

@[go_sem] theorem of192_5 : offOf Tryz.prog 192 5 = some 5 := by kernel_rfl

@[go_sem] theorem ze210 : zeroOf Tryz.prog 210 = some (.agg #[.int .u8 0, .int .u8 0, .int .u8 0, .int .u8 0, .int .u8 0, .int .u8 0, .int .u8 0, .int .u8 0, .int .u8 0, .int .u8 0, .int .u8 0, .int .u8 0, .int .u8 0, .int .u8 0, .int .u8 0, .int .u8 0, .int .u8 0, .int .u8 0, .int .u8 0, .int .u8 0, .int .u8 0, .int .u8 0, .int .u8 0, .int .u8 0]) := by kernel_rfl

@[go_sem] theorem el210 : elOf Tryz.prog 210 = some (1, some 24) := by kernel_rfl

@[go_sem] theorem sz278 : szOf Tryz.prog 278 = some 1 := by kernel_rfl
@[go_sem] theorem ag278 : aggOf Tryz.prog 278 = some none := by kernel_rfl
@[go_sem] theorem ze278 : zeroOf Tryz.prog 278 = some (.int .u64 0) := by kernel_rfl

theorem mixed : Tryz.prog.follows .mixedOrders = true := by kernel_rfl

end Xe

/- Slices of one cell each, their growth; what a piece of code leaves alone. -/
namespace Xe
open Go

/-- blocks that S does not name are as they were -/
structure Fr (S : Nat → Prop) (h h' : Heap) : Prop where
  size : h.size ≤ h'.size
  same : ∀ x, x < h.size → ¬ S x → h'[x]? = h[x]?

theorem Fr.refl (S : Nat → Prop) (h : Heap) : Fr S h h := ⟨Nat.le_refl _, fun _ _ _ => rfl⟩
theorem Fr.trans {S : Nat → Prop} {a b c : Heap} (h1 : Fr S a b) (h2 : Fr S b c) : Fr S a c :=
  ⟨Nat.le_trans h1.size h2.size, fun x hx hs => (h2.same x (Nat.lt_of_lt_of_le hx h1.size) hs).trans (h1.same x hx hs)⟩
theorem Fr.mono {S T : Nat → Prop} {a b : Heap} (h : Fr S a b) (hst : ∀ x, x < a.size → S x → T x) : Fr T a b := ⟨h.size, fun x hx hs => h.same x hx (fun k => hs (hst x hx k))⟩
theorem Fr.set {S : Nat → Prop} {a b : Heap} (h : Fr S a b) {ad : Addr} {v : Value} (hs : S ad.block) : Fr S a (hset b ad v) :=
  ⟨by rw [hset_size]; exact h.size, fun x hx hn => (hset_other (fun e => hn (by rw [e]; exact hs))).trans (h.same x hx hn)⟩
/-- a store into a block that is new -/
theorem Fr.new {S : Nat → Prop} {a b : Heap} (h : Fr S a b) {ad : Addr} {v : Value} (hs : a.size ≤ ad.block) : Fr S a (hset b ad v) :=
  ⟨by rw [hset_size]; exact h.size, fun x hx hn => (hset_other (by omega)).trans (h.same x hx hn)⟩
theorem Fr.push {S : Nat → Prop} {a b : Heap} (h : Fr S a b) {X : Obj} : Fr S a (b.push X) :=
  ⟨by rw [push_size]; exact Nat.le_succ_of_le h.size, fun x hx hn => (push_old (Nat.lt_of_lt_of_le hx h.size)).trans (h.same x hx hn)⟩
theorem Fr.trans' {S T : Nat → Prop} {a b c : Heap} (h1 : Fr S a b) (h2 : Fr T b c) (hst : ∀ x, x < a.size → T x → S x) : Fr S a c :=
  ⟨Nat.le_trans h1.size h2.size, fun x hx hs => (h2.same x (Nat.lt_of_lt_of_le hx h1.size) (fun k => hs (hst x hx k))).trans (h1.same x hx hs)⟩
theorem Fr.cell {S : Nat → Prop} {a b : Heap} (h : Fr S a b) {x o : Nat} (hx : x < a.size) (hs : ¬ S x) : hcell b ⟨x, o, none⟩ = hcell a ⟨x, o, none⟩ := by
  unfold hcell; rw [h.same x hx hs]
theorem Fr.frz {S : Nat → Prop} {a b : Heap} (h : Fr S a b) {x o : Nat} (hx : x < a.size) (hs : ¬ S x) : hfrz b ⟨x, o, none⟩ = hfrz a ⟨x, o, none⟩ := by
  unfold hfrz; rw [h.same x hx hs]
theorem hcell_lt {h : Heap} {x o : Nat} {v : Value} (hc : hcell h ⟨x, o, none⟩ = some v) : x < h.size := by
  unfold hcell at hc
  by_cases hx : x < h.size
  · exact hx
  · simp [Array.getElem?_eq_none (Nat.le_of_not_lt hx)] at hc

theorem add_0 (a : Addr) : a.add 0 = a := by unfold Addr.add; simp
@[go_sem] theorem slice_to {m len cap : Nat} {A : Option Addr} {kd : IntKind} {i : Int} (h0 : 0 ≤ i) (h1 : i ≤ cap) : sliceV (some (m, none)) (.slice A len cap) none (some (.int kd i)) = some (.slice A i.toNat cap) := by
  unfold sliceV boundV
  simp only [Option.bind_some, if_pos (And.intro h0 h1), Option.map_some]
  by_cases hc : cap = 0
  · simp [hc]
  · simp only [hc, if_false]
    cases A <;> simp [add_0]

/-- the block that a slice stands on -/
def blk (A : Option Addr) (x : Nat) : Prop := ∃ a, A = some a ∧ a.block = x

/-- a slice of one cell each, from its block's head on -/
structure SlAt (h : Heap) (A : Option Addr) (cap : Nat) (vs : List Value) : Prop where
  len : vs.length ≤ cap
  at' : (A = none ∧ cap = 0) ∨ ∃ bk, A = some ⟨bk, 0, none⟩ ∧ bk < h.size ∧ (∀ i, hfrz h ⟨bk, i, none⟩ = false) ∧ (∀ i, i < cap → (hcell h ⟨bk, i, none⟩).isSome = true) ∧ ∀ i v, vs[i]? = some v → hcell h ⟨bk, i, none⟩ = some v

theorem SlAt.nil (h : Heap) : SlAt h none 0 [] := ⟨Nat.le_refl _, .inl ⟨rfl, rfl⟩⟩

theorem SlAt.blk_lt {h : Heap} {A : Option Addr} {cap : Nat} {vs : List Value} (S : SlAt h A cap vs) {x : Nat} (hx : blk A x) : x < h.size := by
  obtain ⟨a, rfl, rfl⟩ := hx
  rcases S.at' with ⟨h1, _⟩ | ⟨bk, h1, h2, _⟩
  · cases h1
  · cases h1; exact h2

theorem SlAt.base {h : Heap} {A : Option Addr} {cap : Nat} {vs : List Value} (S : SlAt h A cap vs) (hv : 0 < vs.length) :
    ∃ bk, A = some ⟨bk, 0, none⟩ ∧ bk < h.size ∧ (∀ i, hfrz h ⟨bk, i, none⟩ = false) ∧ ∀ i v, vs[i]? = some v → hcell h ⟨bk, i, none⟩ = some v := by
  rcases S.at' with ⟨_, h2⟩ | ⟨bk, h1, h2, h3, _, h4⟩
  · have := S.len; omega
  · exact ⟨bk, h1, h2, h3, h4⟩

/-- it stands on while its block is left alone -/
theorem SlAt.keep {h h' : Heap} {A : Option Addr} {cap : Nat} {vs : List Value} (S : SlAt h A cap vs) (hk : ∀ x, blk A x → h'[x]? = h[x]?) (hz : h.size ≤ h'.size) : SlAt h' A cap vs := by
  refine ⟨S.len, ?_⟩
  rcases S.at' with h1 | ⟨bk, h1, h2, h3, h4, h5⟩
  · exact .inl h1
  · have e := hk bk ⟨_, h1, rfl⟩
    refine .inr ⟨bk, h1, Nat.lt_of_lt_of_le h2 hz, fun i => ?_, fun i hi => ?_, fun i v hv => ?_⟩
    · rw [← h3 i]; unfold hfrz; rw [e]
    · rw [← h4 i hi]; unfold hcell; rw [e]
    · rw [← h5 i v hv]; unfold hcell; rw [e]
theorem SlAt.fr {S : Nat → Prop} {h h' : Heap} {A : Option Addr} {cap : Nat} {vs : List Value} (L : SlAt h A cap vs) (f : Fr S h h') (hn : ∀ x, blk A x → ¬ S x) : SlAt h' A cap vs :=
  L.keep (fun x hx => f.same x (L.blk_lt hx) (hn x hx)) f.size

theorem SlAt.set {h : Heap} {bk cap : Nat} {vs : List Value} (S : SlAt h (some ⟨bk, 0, none⟩) cap vs) {i : Nat} (hi : i < vs.length) (v : Value) : SlAt (hset h ⟨bk, i, none⟩ v) (some ⟨bk, 0, none⟩) cap (vs.set i v) := by
  refine ⟨by rw [List.length_set]; exact S.len, ?_⟩
  rcases S.at' with ⟨h1, _⟩ | ⟨b', h1, h2, h3, h4, h5⟩
  · cases h1
  · cases h1
    refine .inr ⟨bk, rfl, by rw [hset_size]; exact h2, fun j => by rw [hfrz_hset]; exact h3 j, fun j hj => ?_, fun j x hx => ?_⟩
    · rw [hcell_hset]
      have := S.len
      by_cases e : j = i
      · rw [if_pos ⟨rfl, e⟩, Option.isSome_map]; exact h4 i (by omega)
      · rw [if_neg (fun h => e h.2)]; exact h4 j hj
    · rw [hcell_hset]
      rw [List.getElem?_set] at hx
      by_cases e : j = i
      · subst e
        rw [if_pos rfl, if_pos hi] at hx
        rw [if_pos ⟨rfl, rfl⟩, h5 j _ (List.getElem?_eq_getElem hi)]
        exact hx
      · rw [if_neg (Ne.symm e)] at hx
        rw [if_neg (fun h => e h.2)]; exact h5 j x hx

/-- a slice of one, fresh -/
theorem build1 {e : TypeId} {b : Nat} {z v : Value} {h : Heap} {k : Value → Heap → Prop} (hv : v.cells = #[v]) (hz : z.cells.size = 1)
    (hk : k (.slice (some ⟨h.size, 0, none⟩) 1 1) (h.push (.cells #[v] e))) : @buildSliceK (some (e, 1, b, z)) 1 [(0, v)] ⟨h⟩ ⟨k⟩ := by
  refine ⟨by omega, #[v], ?_, hk⟩
  have hc : (zerosOf z.cells (1 * 1)).size = 1 := by simp [zerosOf]
  simp [Instr.fill, hv, hc]
  apply Array.ext
  · simp [hc]
  · intro i h1 h2
    have : i = 0 := by simp at h2; omega
    subst this
    simp

end Xe

/- From a walk to a row: what every law of these seats has alike. -/
namespace Xe
open Go Go.ChangeShapes Go.WideShapes Go.ChangeAt Go.RowKit

theorem CallsH.below {P : Program} {f : FuncId} {vs : List Value} {w : World} (c : CallsH P f vs w.heap fun r h' => r = .bool true ∧ Fr (fun _ => False) w.heap h') :
    Calls P f vs.toArray w fun e w' => e = .returned (.bool true) ∧ Below w.heap.size w w' :=
  (c.2 w rfl).mono fun e w' ⟨v, he, hl, hv, hf⟩ => ⟨by rw [he, hv], ⟨hl.os, hl.tape, hl.output, hf.size, fun k hk => hf.same k hk id⟩⟩

theorem args_stay {H : Type} {enc : TypeId × Value → H} {P : Program} {W W' : World} (hl : laidOutB P = true) (hb : Below W.heap.size W W') :
    ∀ {ts : List TypeId} {vs : List Value} {ds : List (DataW H)} {ps : List MemPlace}, (ts.all fun t => P.readableRec t && decide (t < P.types.size)) = true → (∀ x ∈ ps, x.block < W.heap.size) →
      DataW.TrodAll enc P W 0 (fun _ => true) true ts vs ds ps → DataW.TrodAll enc P W' 0 (fun b => decide (b < W.heap.size)) true ts vs ds ps
  | [], _, _, _, _, _, h => by
    obtain ⟨rfl, rfl, rfl⟩ := trodAll_nil h
    exact trodAll_mk0
  | t :: ts, _, _, _, hr, hlt, h => by
    obtain ⟨v, vs, d, ds, p, q, rfl, rfl, rfl, h1, h2⟩ := trodAll_cons h
    rw [List.all_cons, Bool.and_eq_true, Bool.and_eq_true, decide_eq_true_eq] at hr
    exact ⟨p, q, Below.trod hl hr.1.1 hr.1.2 h1 hb (fun x hx => hlt x (List.mem_append_left _ hx)), args_stay hl hb hr.2 (fun x hx => hlt x (List.mem_append_right _ hx)) h2, rfl⟩

/-- **THE END OF A LAW's ROW** -/
theorem law_post {H : Type} {enc : TypeId × Value → H} {P : Program} {f : Func} {s : ChangeSpec} {W W' : World} {args : Array Value} {ds gs : List (DataW H)} {before : List MemPlace} {t : TypeId}
    (hW : DataW.Whole enc P f.params.toList s.vars false W args.toList ds gs before) (hv : s.vars = []) (hb : Below W.heap.size W W') (hl : laidOutB P = true)
    (hr : (f.params.toList.all fun t => P.readableRec t && decide (t < P.types.size)) = true) (ht : f.resultTypes = #[t]) (hu : P.underlying t = some .bool)
    (h1 : (s.fn H (ds ++ gs)).results = [.lit (.bool true)]) (h2 : (s.fn H (ds ++ gs)).args = ds) (h3 : (s.fn H (ds ++ gs)).vars = []) :
    s.post enc P f false true false false W args (.bool true) W' := by
  have hW' := hW
  obtain ⟨p, q, hA, hV, rfl, hfz, hnd⟩ := hW
  have hlt := hW'.lt
  refine ⟨ds, gs, p ++ q, [], p, [], hW', ?_, ?_, ?_, hb.frame _, (fun h => nomatch h)⟩
  · rw [h1, ht]
    exact trodAll_cons_mk (shut_bool hu true) trodAll_mk0
  · rw [h2]
    exact args_stay hl hb hr (fun x hx => hlt x (List.mem_append_left _ hx)) hA
  · rw [h3, hv]; rfl

/-! ### Arguments, opened -/
section
variable {H : Type} {enc : TypeId × Value → H} {P : Program} {w : World} {sp : Nat → Bool} {held : Bool} {r : Reach} {b0 : Nat} {t e : TypeId}

end
end Xe

/- What of the kit's shelf is laid at this program: numbers and closed comparisons of bodies alone (the kit's tool lay-plain wrote them). -/
namespace Go.Proofs
open Go.Shelf

def Tryz.lays156_ren : Go.Shelf.Ren := ⟨fun | 156 => 124 | 165 => 163 | 166 => 21 | 169 => 22 | 240 => 49 | 241 => 194 | 276 => 87 | 277 => 235 | n => n, fun | 31 => 74 | 9 => 9 | 3 => 3 | 4 => 4 | 0 => 0 | 20 => 20 | 72 => 61 | 76 => 64 | 70 => 58 | 37 => 59 | 75 => 63 | 127 => 108 | 164 => 152 | 5 => 5 | 80 => 67 | n => n, fun | n => n⟩
theorem Tryz.lays156 : Go.Proofs.Lays.n156 Tryz.prog Tryz.lays156_ren := {
  mixed := by kernel_rfl
  f156 := Tryz.func124.trans (congrArg some (by kernel_rfl))
  f165 := Tryz.func163.trans (congrArg some (by kernel_rfl))
  f166 := Tryz.func21.trans (congrArg some (by kernel_rfl))
  f169 := Tryz.func22.trans (congrArg some (by kernel_rfl))
  f240 := Tryz.func49.trans (congrArg some (by kernel_rfl))
  f241 := Tryz.func194.trans (congrArg some (by kernel_rfl))
  f276 := Tryz.func87.trans (congrArg some (by kernel_rfl))
  f277 := Tryz.func235.trans (congrArg some (by kernel_rfl))
  t0 := Tryz.underlying0
  a0 := Tryz.isAgg0
  z0 := Tryz.sizeOf0
  v0 := Tryz.zeroValue0
  t3 := Tryz.underlying3
  a3 := Tryz.isAgg3
  z3 := Tryz.sizeOf3
  v3 := Tryz.zeroValue3
  t4 := Tryz.underlying4
  a4 := Tryz.isAgg4
  z4 := Tryz.sizeOf4
  v4 := Tryz.zeroValue4
  t9 := Tryz.underlying9
  a9 := Tryz.isAgg9
  z9 := Tryz.sizeOf9
  v9 := Tryz.zeroValue9
  t20 := Tryz.underlying20
  a20 := Tryz.isAgg20
  z20 := Tryz.sizeOf20
  v20 := Tryz.zeroValue20
  t31 := Tryz.underlying74
  a31 := Tryz.isAgg74
  z31 := Tryz.sizeOf74
  v31 := Tryz.zeroValue74
  t37 := Tryz.underlying59
  a37 := Tryz.isAgg59
  z37 := Tryz.sizeOf59
  v37 := Tryz.zeroValue59
  t70 := Tryz.underlying58
  a70 := Tryz.isAgg58
  z70 := Tryz.sizeOf58
  v70 := Tryz.zeroValue58
  t72 := Tryz.underlying61
  a72 := Tryz.isAgg61
  z72 := Tryz.sizeOf61
  v72 := Tryz.zeroValue61
  t75 := Tryz.underlying63
  a75 := Tryz.isAgg63
  z75 := Tryz.sizeOf63
  v75 := Tryz.zeroValue63
  t76 := Tryz.underlying64
  a76 := Tryz.isAgg64
  z76 := Tryz.sizeOf64
  v76 := Tryz.zeroValue64
  t127 := Tryz.underlying108
  a127 := Tryz.isAgg108
  z127 := Tryz.sizeOf108
  v127 := Tryz.zeroValue108
  t164 := Tryz.underlying152
  a164 := Tryz.isAgg152
  z164 := Tryz.sizeOf152
  v164 := Tryz.zeroValue152 }
theorem Tryz.Builder_Extra_156 : Builder.Extra Tryz.prog Tryz.lays156_ren := {
  sizeBuilder := by kernel_rfl
  liesBuilder := by kernel_rfl
  t5 := Tryz.underlying5
  a5 := Tryz.isAgg5
  z5 := Tryz.sizeOf5
  v5 := Tryz.zeroValue5
  infoByte := by kernel_rfl
  cellsByte := by kernel_rfl
  sizeByte := by kernel_rfl
  neB5 := by decide }
def Tryz.laysM171_ren : Go.Shelf.Ren := ⟨fun | 171 => 48 | 243 => 86 | 246 => 125 | 283 => 164 | 284 => 165 | 285 => 166 | 286 => 167 | 129 => 196 | 317 => 195 | 318 => 197 | 319 => 198 | 320 => 199 | 337 => 236 | 338 => 237 | n => n, fun | 3 => 3 | 9 => 9 | 2 => 2 | 4 => 4 | 171 => 210 | 0 => 0 | 53 => 96 | 37 => 59 | 5 => 5 | 173 => 213 | 212 => 239 | 51 => 240 | 20 => 20 | 213 => 241 | 46 => 217 | 232 => 306 | 233 => 307 | n => n, fun | 17 => 2 | 18 => 9 | 19 => 10 | n => n⟩
theorem Tryz.laysM171 : Go.Proofs.LaysM.n171 Tryz.prog Tryz.laysM171_ren := {
  mixed := by kernel_rfl
  f129 := Tryz.func196.trans (congrArg some (by kernel_rfl))
  f171 := Tryz.func48.trans (congrArg some (by kernel_rfl))
  f243 := Tryz.func86.trans (congrArg some (by kernel_rfl))
  f246 := Tryz.func125.trans (congrArg some (by kernel_rfl))
  f283 := Tryz.func164.trans (congrArg some (by kernel_rfl))
  f284 := Tryz.func165.trans (congrArg some (by kernel_rfl))
  f285 := Tryz.func166.trans (congrArg some (by kernel_rfl))
  f286 := Tryz.func167.trans (congrArg some (by kernel_rfl))
  f317 := Tryz.func195.trans (congrArg some (by kernel_rfl))
  f318 := Tryz.func197.trans (congrArg some (by kernel_rfl))
  f319 := Tryz.func198.trans (congrArg some (by kernel_rfl))
  f320 := Tryz.func199.trans (congrArg some (by kernel_rfl))
  f337 := Tryz.func236.trans (congrArg some (by kernel_rfl))
  f338 := Tryz.func237.trans (congrArg some (by kernel_rfl))
  t0 := Tryz.underlying0
  a0 := Tryz.isAgg0
  z0 := Tryz.sizeOf0
  v0 := Tryz.zeroValue0
  t2 := Tryz.underlying2
  a2 := Tryz.isAgg2
  z2 := Tryz.sizeOf2
  v2 := Tryz.zeroValue2
  t3 := Tryz.underlying3
  a3 := Tryz.isAgg3
  z3 := Tryz.sizeOf3
  v3 := Tryz.zeroValue3
  t4 := Tryz.underlying4
  a4 := Tryz.isAgg4
  z4 := Tryz.sizeOf4
  v4 := Tryz.zeroValue4
  t5 := Tryz.underlying5
  a5 := Tryz.isAgg5
  z5 := Tryz.sizeOf5
  v5 := Tryz.zeroValue5
  t9 := Tryz.underlying9
  a9 := Tryz.isAgg9
  z9 := Tryz.sizeOf9
  v9 := Tryz.zeroValue9
  t20 := Tryz.underlying20
  a20 := Tryz.isAgg20
  z20 := Tryz.sizeOf20
  v20 := Tryz.zeroValue20
  t37 := Tryz.underlying59
  a37 := Tryz.isAgg59
  z37 := Tryz.sizeOf59
  v37 := Tryz.zeroValue59
  t46 := Tryz.underlying217
  a46 := Tryz.isAgg217
  z46 := Tryz.sizeOf217
  v46 := Tryz.zeroValue217
  t51 := Tryz.underlying240
  a51 := Tryz.isAgg240
  z51 := Tryz.sizeOf240
  v51 := Tryz.zeroValue240
  t53 := Tryz.underlying96
  a53 := Tryz.isAgg96
  z53 := Tryz.sizeOf96
  v53 := Tryz.zeroValue96
  t171 := Tryz.underlying210
  a171 := Tryz.isAgg210
  z171 := Tryz.sizeOf210
  v171 := Tryz.zeroValue210
  t173 := Tryz.underlying213
  a173 := Tryz.isAgg213
  z173 := Tryz.sizeOf213
  v173 := Tryz.zeroValue213
  t212 := Tryz.underlying239
  a212 := Tryz.isAgg239
  z212 := Tryz.sizeOf239
  v212 := Tryz.zeroValue239
  t213 := Tryz.underlying241
  a213 := Tryz.isAgg241
  z213 := Tryz.sizeOf241
  t232 := Tryz.underlying306
  a232 := Tryz.isAgg306
  z232 := Tryz.sizeOf306
  v232 := Tryz.zeroValue306
  t233 := Tryz.underlying307
  a233 := Tryz.isAgg307
  z233 := Tryz.sizeOf307
  v233 := Tryz.zeroValue307
  g17 := by kernel_rfl
  g18 := by kernel_rfl
  g19 := by kernel_rfl
  i0 := by kernel_rfl
  i2 := by kernel_rfl
  i3 := by kernel_rfl
  i4 := by kernel_rfl
  i5 := by kernel_rfl
  i9 := by kernel_rfl
  i20 := by kernel_rfl
  i37 := by kernel_rfl
  i46 := by kernel_rfl
  i51 := by kernel_rfl
  i53 := by kernel_rfl
  i171 := by kernel_rfl
  i173 := by kernel_rfl
  i212 := by kernel_rfl
  i232 := by kernel_rfl
  i233 := by kernel_rfl
  m17 := by kernel_rfl
  m18 := by kernel_rfl
  m19 := by kernel_rfl }
def Tryz.laysC172_ren : Go.Shelf.Ren := ⟨fun | 172 => 100 | 244 => 144 | 245 => 145 | 247 => 179 | 279 => 180 | 280 => 181 | 281 => 182 | 282 => 183 | 287 => 219 | 316 => 220 | 171 => 48 | 205 => 221 | 321 => 249 | 322 => 250 | 243 => 86 | 246 => 125 | 283 => 164 | 284 => 165 | 285 => 166 | 286 => 167 | 129 => 196 | 317 => 195 | 318 => 197 | 319 => 198 | 320 => 199 | 337 => 236 | 338 => 237 | n => n, fun | 9 => 9 | 3 => 3 | 75 => 63 | 76 => 64 | 4 => 4 | 5 => 5 | 167 => 224 | 37 => 59 | 0 => 0 | 85 => 225 | 2 => 2 | 168 => 227 | 53 => 96 | 175 => 254 | 46 => 217 | 210 => 258 | 127 => 108 | 145 => 294 | 143 => 292 | 21 => 21 | 171 => 210 | 173 => 213 | 212 => 239 | 51 => 240 | 20 => 20 | 213 => 241 | 232 => 306 | 233 => 307 | 80 => 67 | n => n, fun | 15 => 3 | 16 => 4 | 17 => 2 | 18 => 9 | 19 => 10 | n => n⟩
theorem Tryz.laysC172 : Go.Proofs.LaysC.n172 Tryz.prog Tryz.laysC172_ren := {
  mixed := by kernel_rfl
  f129 := Tryz.func196.trans (congrArg some (by kernel_rfl))
  f171 := Tryz.func48.trans (congrArg some (by kernel_rfl))
  f172 := Tryz.func100.trans (congrArg some (by kernel_rfl))
  f205 := Tryz.func221.trans (congrArg some (by kernel_rfl))
  f243 := Tryz.func86.trans (congrArg some (by kernel_rfl))
  f244 := Tryz.func144.trans (congrArg some (by kernel_rfl))
  f245 := Tryz.func145.trans (congrArg some (by kernel_rfl))
  f246 := Tryz.func125.trans (congrArg some (by kernel_rfl))
  f247 := Tryz.func179.trans (congrArg some (by kernel_rfl))
  f279 := Tryz.func180.trans (congrArg some (by kernel_rfl))
  f280 := Tryz.func181.trans (congrArg some (by kernel_rfl))
  f281 := Tryz.func182.trans (congrArg some (by kernel_rfl))
  f282 := Tryz.func183.trans (congrArg some (by kernel_rfl))
  f283 := Tryz.func164.trans (congrArg some (by kernel_rfl))
  f284 := Tryz.func165.trans (congrArg some (by kernel_rfl))
  f285 := Tryz.func166.trans (congrArg some (by kernel_rfl))
  f286 := Tryz.func167.trans (congrArg some (by kernel_rfl))
  f287 := Tryz.func219.trans (congrArg some (by kernel_rfl))
  f316 := Tryz.func220.trans (congrArg some (by kernel_rfl))
  f317 := Tryz.func195.trans (congrArg some (by kernel_rfl))
  f318 := Tryz.func197.trans (congrArg some (by kernel_rfl))
  f319 := Tryz.func198.trans (congrArg some (by kernel_rfl))
  f320 := Tryz.func199.trans (congrArg some (by kernel_rfl))
  f321 := Tryz.func249.trans (congrArg some (by kernel_rfl))
  f322 := Tryz.func250.trans (congrArg some (by kernel_rfl))
  f337 := Tryz.func236.trans (congrArg some (by kernel_rfl))
  f338 := Tryz.func237.trans (congrArg some (by kernel_rfl))
  t0 := Tryz.underlying0
  a0 := Tryz.isAgg0
  z0 := Tryz.sizeOf0
  v0 := Tryz.zeroValue0
  t2 := Tryz.underlying2
  a2 := Tryz.isAgg2
  z2 := Tryz.sizeOf2
  v2 := Tryz.zeroValue2
  t3 := Tryz.underlying3
  a3 := Tryz.isAgg3
  z3 := Tryz.sizeOf3
  v3 := Tryz.zeroValue3
  t4 := Tryz.underlying4
  a4 := Tryz.isAgg4
  z4 := Tryz.sizeOf4
  v4 := Tryz.zeroValue4
  t5 := Tryz.underlying5
  a5 := Tryz.isAgg5
  z5 := Tryz.sizeOf5
  v5 := Tryz.zeroValue5
  t9 := Tryz.underlying9
  a9 := Tryz.isAgg9
  z9 := Tryz.sizeOf9
  v9 := Tryz.zeroValue9
  t20 := Tryz.underlying20
  a20 := Tryz.isAgg20
  z20 := Tryz.sizeOf20
  v20 := Tryz.zeroValue20
  t21 := Tryz.underlying21
  a21 := Tryz.isAgg21
  z21 := Tryz.sizeOf21
  v21 := Tryz.zeroValue21
  t37 := Tryz.underlying59
  a37 := Tryz.isAgg59
  z37 := Tryz.sizeOf59
  v37 := Tryz.zeroValue59
  t46 := Tryz.underlying217
  a46 := Tryz.isAgg217
  z46 := Tryz.sizeOf217
  v46 := Tryz.zeroValue217
  t51 := Tryz.underlying240
  a51 := Tryz.isAgg240
  z51 := Tryz.sizeOf240
  v51 := Tryz.zeroValue240
  t53 := Tryz.underlying96
  a53 := Tryz.isAgg96
  z53 := Tryz.sizeOf96
  v53 := Tryz.zeroValue96
  t75 := Tryz.underlying63
  a75 := Tryz.isAgg63
  z75 := Tryz.sizeOf63
  v75 := Tryz.zeroValue63
  t76 := Tryz.underlying64
  a76 := Tryz.isAgg64
  z76 := Tryz.sizeOf64
  v76 := Tryz.zeroValue64
  t85 := Tryz.underlying225
  a85 := Tryz.isAgg225
  z85 := Tryz.sizeOf225
  v85 := Tryz.zeroValue225
  t127 := Tryz.underlying108
  a127 := Tryz.isAgg108
  z127 := Tryz.sizeOf108
  v127 := Tryz.zeroValue108
  t143 := Tryz.underlying292
  a143 := Tryz.isAgg292
  z143 := Tryz.sizeOf292
  v143 := Tryz.zeroValue292
  t145 := Tryz.underlying294
  a145 := Tryz.isAgg294
  z145 := Tryz.sizeOf294
  v145 := Tryz.zeroValue294
  t167 := Tryz.underlying224
  a167 := Tryz.isAgg224
  z167 := Tryz.sizeOf224
  v167 := Tryz.zeroValue224
  t168 := Tryz.underlying227
  a168 := Tryz.isAgg227
  z168 := Tryz.sizeOf227
  v168 := Tryz.zeroValue227
  t171 := Tryz.underlying210
  a171 := Tryz.isAgg210
  z171 := Tryz.sizeOf210
  v171 := Tryz.zeroValue210
  t173 := Tryz.underlying213
  a173 := Tryz.isAgg213
  z173 := Tryz.sizeOf213
  v173 := Tryz.zeroValue213
  t175 := Tryz.underlying254
  a175 := Tryz.isAgg254
  z175 := Tryz.sizeOf254
  v175 := Tryz.zeroValue254
  t210 := Tryz.underlying258
  a210 := Tryz.isAgg258
  z210 := Tryz.sizeOf258
  v210 := Tryz.zeroValue258
  t212 := Tryz.underlying239
  a212 := Tryz.isAgg239
  z212 := Tryz.sizeOf239
  v212 := Tryz.zeroValue239
  t213 := Tryz.underlying241
  a213 := Tryz.isAgg241
  z213 := Tryz.sizeOf241
  t232 := Tryz.underlying306
  a232 := Tryz.isAgg306
  z232 := Tryz.sizeOf306
  v232 := Tryz.zeroValue306
  t233 := Tryz.underlying307
  a233 := Tryz.isAgg307
  z233 := Tryz.sizeOf307
  v233 := Tryz.zeroValue307
  g15 := by kernel_rfl
  g16 := by kernel_rfl
  g17 := by kernel_rfl
  g18 := by kernel_rfl
  g19 := by kernel_rfl
  t80 := Tryz.underlying67
  a80 := Tryz.isAgg67
  z80 := Tryz.sizeOf67
  v80 := Tryz.zeroValue67
  i0 := by kernel_rfl
  i2 := by kernel_rfl
  i3 := by kernel_rfl
  i4 := by kernel_rfl
  i5 := by kernel_rfl
  i9 := by kernel_rfl
  i20 := by kernel_rfl
  i21 := by kernel_rfl
  i37 := by kernel_rfl
  i46 := by kernel_rfl
  i51 := by kernel_rfl
  i53 := by kernel_rfl
  i75 := by kernel_rfl
  i76 := by kernel_rfl
  i80 := by kernel_rfl
  i85 := by kernel_rfl
  i127 := by kernel_rfl
  i143 := by kernel_rfl
  i145 := by kernel_rfl
  i167 := by kernel_rfl
  i168 := by kernel_rfl
  i171 := by kernel_rfl
  i173 := by kernel_rfl
  i175 := by kernel_rfl
  i210 := by kernel_rfl
  i212 := by kernel_rfl
  i232 := by kernel_rfl
  i233 := by kernel_rfl
  m15 := by kernel_rfl
  m16 := by kernel_rfl
  m17 := by kernel_rfl
  m18 := by kernel_rfl
  m19 := by kernel_rfl
  c0 := by kernel_rfl
  c2 := by kernel_rfl
  c3 := by kernel_rfl
  c4 := by kernel_rfl
  c5 := by kernel_rfl
  c9 := by kernel_rfl
  c20 := by kernel_rfl
  c21 := by kernel_rfl
  c37 := by kernel_rfl
  c46 := by kernel_rfl
  c51 := by kernel_rfl
  c53 := by kernel_rfl
  c75 := by kernel_rfl
  c76 := by kernel_rfl
  c80 := by kernel_rfl
  c85 := by kernel_rfl
  c127 := by kernel_rfl
  c143 := by kernel_rfl
  c145 := by kernel_rfl
  c167 := by kernel_rfl
  c168 := by kernel_rfl
  c171 := by kernel_rfl
  c173 := by kernel_rfl
  c175 := by kernel_rfl
  c210 := by kernel_rfl
  c212 := by kernel_rfl
  c213 := by kernel_rfl
  c232 := by kernel_rfl
  c233 := by kernel_rfl }
def Tryz.lays146_ren : Go.Shelf.Ren := ⟨fun | 146 => 58 | 221 => 95 | 268 => 136 | 138 => 137 | 143 => 138 | 195 => 173 | 197 => 174 | 218 => 175 | 219 => 176 | 260 => 211 | 217 => 212 | 225 => 213 | 224 => 214 | 267 => 215 | 266 => 246 | 314 => 247 | n => n, fun | 9 => 9 | 31 => 74 | 3 => 3 | 4 => 4 | 0 => 0 | 105 => 219 | 21 => 21 | 5 => 5 | 46 => 217 | 119 => 284 | 139 => 287 | 138 => 286 | 146 => 288 | 51 => 240 | n => n, fun | 1 => 1 | 3 => 5 | 4 => 6 | n => n⟩
theorem Tryz.lays146 : Go.Proofs.Lays.n146 Tryz.prog Tryz.lays146_ren := {
  mixed := by kernel_rfl
  f138 := Tryz.func137.trans (congrArg some (by kernel_rfl))
  f143 := Tryz.func138.trans (congrArg some (by kernel_rfl))
  f146 := Tryz.func58.trans (congrArg some (by kernel_rfl))
  f195 := Tryz.func173.trans (congrArg some (by kernel_rfl))
  f197 := Tryz.func174.trans (congrArg some (by kernel_rfl))
  f217 := Tryz.func212.trans (congrArg some (by kernel_rfl))
  f218 := Tryz.func175.trans (congrArg some (by kernel_rfl))
  f219 := Tryz.func176.trans (congrArg some (by kernel_rfl))
  f221 := Tryz.func95.trans (congrArg some (by kernel_rfl))
  f224 := Tryz.func214.trans (congrArg some (by kernel_rfl))
  f225 := Tryz.func213.trans (congrArg some (by kernel_rfl))
  f260 := Tryz.func211.trans (congrArg some (by kernel_rfl))
  f266 := Tryz.func246.trans (congrArg some (by kernel_rfl))
  f267 := Tryz.func215.trans (congrArg some (by kernel_rfl))
  f268 := Tryz.func136.trans (congrArg some (by kernel_rfl))
  f314 := Tryz.func247.trans (congrArg some (by kernel_rfl))
  t0 := Tryz.underlying0
  a0 := Tryz.isAgg0
  z0 := Tryz.sizeOf0
  v0 := Tryz.zeroValue0
  t3 := Tryz.underlying3
  a3 := Tryz.isAgg3
  z3 := Tryz.sizeOf3
  v3 := Tryz.zeroValue3
  t4 := Tryz.underlying4
  a4 := Tryz.isAgg4
  z4 := Tryz.sizeOf4
  v4 := Tryz.zeroValue4
  t5 := Tryz.underlying5
  a5 := Tryz.isAgg5
  z5 := Tryz.sizeOf5
  v5 := Tryz.zeroValue5
  t9 := Tryz.underlying9
  a9 := Tryz.isAgg9
  z9 := Tryz.sizeOf9
  v9 := Tryz.zeroValue9
  t21 := Tryz.underlying21
  a21 := Tryz.isAgg21
  z21 := Tryz.sizeOf21
  v21 := Tryz.zeroValue21
  t31 := Tryz.underlying74
  a31 := Tryz.isAgg74
  z31 := Tryz.sizeOf74
  v31 := Tryz.zeroValue74
  t46 := Tryz.underlying217
  a46 := Tryz.isAgg217
  z46 := Tryz.sizeOf217
  v46 := Tryz.zeroValue217
  t51 := Tryz.underlying240
  a51 := Tryz.isAgg240
  z51 := Tryz.sizeOf240
  v51 := Tryz.zeroValue240
  t105 := Tryz.underlying219
  a105 := Tryz.isAgg219
  z105 := Tryz.sizeOf219
  v105 := Tryz.zeroValue219
  t119 := Tryz.underlying284
  a119 := Tryz.isAgg284
  z119 := Tryz.sizeOf284
  t138 := Tryz.underlying286
  a138 := Tryz.isAgg286
  z138 := Tryz.sizeOf286
  v138 := Tryz.zeroValue286
  t139 := Tryz.underlying287
  a139 := Tryz.isAgg287
  z139 := Tryz.sizeOf287
  v139 := Tryz.zeroValue287
  t146 := Tryz.underlying288
  a146 := Tryz.isAgg288
  z146 := Tryz.sizeOf288
  v146 := Tryz.zeroValue288
  g1 := by kernel_rfl
  g3 := by kernel_rfl
  g4 := by kernel_rfl }
def Tryz.lays160_ren : Go.Shelf.Ren := ⟨fun | 160 => 200 | 232 => 238 | 231 => 230 | 227 => 231 | 234 => 239 | 233 => 232 | 236 => 240 | 235 => 233 | 228 => 265 | 271 => 267 | 151 => 266 | 197 => 174 | 120 => 275 | 152 => 274 | 260 => 211 | 137 => 279 | 119 => 280 | 224 => 214 | 225 => 213 | 217 => 212 | 266 => 246 | n => n, fun | 9 => 9 | 4 => 4 | 3 => 3 | 5 => 5 | 117 => 273 | 116 => 272 | 0 => 0 | 124 => 276 | 21 => 21 | 105 => 219 | 46 => 217 | 119 => 284 | 139 => 287 | 138 => 286 | n => n, fun | 3 => 5 | 4 => 6 | n => n⟩
theorem Tryz.lays160 : Go.Proofs.Lays.n160 Tryz.prog Tryz.lays160_ren := {
  mixed := by kernel_rfl
  f119 := Tryz.func280.trans (congrArg some (by kernel_rfl))
  f120 := Tryz.func275.trans (congrArg some (by kernel_rfl))
  f137 := Tryz.func279.trans (congrArg some (by kernel_rfl))
  f151 := Tryz.func266.trans (congrArg some (by kernel_rfl))
  f152 := Tryz.func274.trans (congrArg some (by kernel_rfl))
  f160 := Tryz.func200.trans (congrArg some (by kernel_rfl))
  f197 := Tryz.func174.trans (congrArg some (by kernel_rfl))
  f217 := Tryz.func212.trans (congrArg some (by kernel_rfl))
  f224 := Tryz.func214.trans (congrArg some (by kernel_rfl))
  f225 := Tryz.func213.trans (congrArg some (by kernel_rfl))
  f227 := Tryz.func231.trans (congrArg some (by kernel_rfl))
  f228 := Tryz.func265.trans (congrArg some (by kernel_rfl))
  f231 := Tryz.func230.trans (congrArg some (by kernel_rfl))
  f232 := Tryz.func238.trans (congrArg some (by kernel_rfl))
  f233 := Tryz.func232.trans (congrArg some (by kernel_rfl))
  f234 := Tryz.func239.trans (congrArg some (by kernel_rfl))
  f235 := Tryz.func233.trans (congrArg some (by kernel_rfl))
  f236 := Tryz.func240.trans (congrArg some (by kernel_rfl))
  f260 := Tryz.func211.trans (congrArg some (by kernel_rfl))
  f266 := Tryz.func246.trans (congrArg some (by kernel_rfl))
  f271 := Tryz.func267.trans (congrArg some (by kernel_rfl))
  t0 := Tryz.underlying0
  a0 := Tryz.isAgg0
  z0 := Tryz.sizeOf0
  v0 := Tryz.zeroValue0
  t3 := Tryz.underlying3
  a3 := Tryz.isAgg3
  z3 := Tryz.sizeOf3
  v3 := Tryz.zeroValue3
  t4 := Tryz.underlying4
  a4 := Tryz.isAgg4
  z4 := Tryz.sizeOf4
  v4 := Tryz.zeroValue4
  t5 := Tryz.underlying5
  a5 := Tryz.isAgg5
  z5 := Tryz.sizeOf5
  v5 := Tryz.zeroValue5
  t9 := Tryz.underlying9
  a9 := Tryz.isAgg9
  z9 := Tryz.sizeOf9
  v9 := Tryz.zeroValue9
  t21 := Tryz.underlying21
  a21 := Tryz.isAgg21
  z21 := Tryz.sizeOf21
  v21 := Tryz.zeroValue21
  t46 := Tryz.underlying217
  a46 := Tryz.isAgg217
  z46 := Tryz.sizeOf217
  v46 := Tryz.zeroValue217
  t105 := Tryz.underlying219
  a105 := Tryz.isAgg219
  z105 := Tryz.sizeOf219
  v105 := Tryz.zeroValue219
  t116 := Tryz.underlying272
  a116 := Tryz.isAgg272
  z116 := Tryz.sizeOf272
  t117 := Tryz.underlying273
  a117 := Tryz.isAgg273
  z117 := Tryz.sizeOf273
  v117 := Tryz.zeroValue273
  t119 := Tryz.underlying284
  a119 := Tryz.isAgg284
  z119 := Tryz.sizeOf284
  t124 := Tryz.underlying276
  a124 := Tryz.isAgg276
  z124 := Tryz.sizeOf276
  v124 := Tryz.zeroValue276
  t138 := Tryz.underlying286
  a138 := Tryz.isAgg286
  z138 := Tryz.sizeOf286
  v138 := Tryz.zeroValue286
  t139 := Tryz.underlying287
  a139 := Tryz.isAgg287
  z139 := Tryz.sizeOf287
  v139 := Tryz.zeroValue287
  g3 := by kernel_rfl
  g4 := by kernel_rfl }
def Tryz.lays187_ren : Go.Shelf.Ren := ⟨fun | 187 => 177 | 255 => 216 | n => n, fun | 37 => 59 | 5 => 5 | 3 => 3 | n => n, fun | n => n⟩
theorem Tryz.lays187 : Go.Proofs.Lays.n187 Tryz.prog Tryz.lays187_ren := {
  mixed := by kernel_rfl
  f187 := Tryz.func177.trans (congrArg some (by kernel_rfl))
  f255 := Tryz.func216.trans (congrArg some (by kernel_rfl))
  t3 := Tryz.underlying3
  a3 := Tryz.isAgg3
  z3 := Tryz.sizeOf3
  v3 := Tryz.zeroValue3
  t5 := Tryz.underlying5
  a5 := Tryz.isAgg5
  z5 := Tryz.sizeOf5
  v5 := Tryz.zeroValue5
  t37 := Tryz.underlying59
  a37 := Tryz.isAgg59
  z37 := Tryz.sizeOf59
  v37 := Tryz.zeroValue59 }

def Tryz.lays167_ren : Go.Shelf.Ren := ⟨fun | 167 => 83 | 156 => 124 | 165 => 163 | 166 => 21 | 169 => 22 | 240 => 49 | 241 => 194 | 276 => 87 | 277 => 235 | n => n, fun | 31 => 74 | 9 => 9 | 3 => 3 | 4 => 4 | 0 => 0 | 20 => 20 | 72 => 61 | 76 => 64 | 70 => 58 | 37 => 59 | 75 => 63 | 127 => 108 | 164 => 152 | 5 => 5 | 80 => 67 | n => n, fun | n => n⟩
theorem Tryz.lays167 : Go.Proofs.Lays.n167 Tryz.prog Tryz.lays167_ren := {
  mixed := by kernel_rfl
  f167 := Tryz.func83.trans (congrArg some (by kernel_rfl))
  f240 := Tryz.func49.trans (congrArg some (by kernel_rfl))
  f276 := Tryz.func87.trans (congrArg some (by kernel_rfl))
  t0 := Tryz.underlying0
  a0 := Tryz.isAgg0
  z0 := Tryz.sizeOf0
  v0 := Tryz.zeroValue0
  t4 := Tryz.underlying4
  a4 := Tryz.isAgg4
  z4 := Tryz.sizeOf4
  v4 := Tryz.zeroValue4
  t5 := Tryz.underlying5
  a5 := Tryz.isAgg5
  z5 := Tryz.sizeOf5
  v5 := Tryz.zeroValue5
  t9 := Tryz.underlying9
  a9 := Tryz.isAgg9
  z9 := Tryz.sizeOf9
  v9 := Tryz.zeroValue9
  t20 := Tryz.underlying20
  a20 := Tryz.isAgg20
  z20 := Tryz.sizeOf20
  v20 := Tryz.zeroValue20
  t37 := Tryz.underlying59
  a37 := Tryz.isAgg59
  z37 := Tryz.sizeOf59
  v37 := Tryz.zeroValue59
  t70 := Tryz.underlying58
  a70 := Tryz.isAgg58
  z70 := Tryz.sizeOf58
  v70 := Tryz.zeroValue58
  t72 := Tryz.underlying61
  a72 := Tryz.isAgg61
  z72 := Tryz.sizeOf61
  v72 := Tryz.zeroValue61
  t75 := Tryz.underlying63
  a75 := Tryz.isAgg63
  z75 := Tryz.sizeOf63
  v75 := Tryz.zeroValue63
  t164 := Tryz.underlying152
  a164 := Tryz.isAgg152
  z164 := Tryz.sizeOf152
  v164 := Tryz.zeroValue152 }
theorem Tryz.Builder_Extra_167 : Builder.Extra Tryz.prog Tryz.lays167_ren := {
  sizeBuilder := by kernel_rfl
  liesBuilder := by kernel_rfl
  t5 := Tryz.underlying5
  a5 := Tryz.isAgg5
  z5 := Tryz.sizeOf5
  v5 := Tryz.zeroValue5
  infoByte := by kernel_rfl
  cellsByte := by kernel_rfl
  sizeByte := by kernel_rfl
  neB5 := by decide }
end Go.Proofs

/- Texts cut at a byte, and numerals: plain. -/
namespace Xe
open Go

/-- a text cut at each byte c -/
def splitOn (c : UInt8) : List UInt8 → List (List UInt8)
  | [] => [[]]
  | b :: l => if b = c then [] :: splitOn c l else
    match splitOn c l with
    | h :: t => (b :: h) :: t
    | [] => [[b]]
theorem splitOn_ne (c : UInt8) : ∀ l, splitOn c l ≠ []
  | [] => by simp [splitOn]
  | b :: l => by
    unfold splitOn
    split
    · simp
    · split <;> simp
theorem splitOn_free {c : UInt8} : ∀ {a : List UInt8}, c ∉ a → splitOn c a = [a]
  | [], _ => rfl
  | b :: a, h => by
    have h1 : ¬ b = c := fun e => h (by rw [e]; exact List.mem_cons_self)
    have h2 : c ∉ a := fun e => h (List.mem_cons_of_mem _ e)
    unfold splitOn
    rw [if_neg h1, splitOn_free h2]
theorem splitOn_cut {c : UInt8} : ∀ {a : List UInt8} (l : List UInt8), c ∉ a → splitOn c (a ++ c :: l) = a :: splitOn c l
  | [], l, _ => by rw [List.nil_append, splitOn, if_pos rfl]
  | b :: a, l, h => by
    have h1 : ¬ b = c := fun e => h (by rw [e]; exact List.mem_cons_self)
    have h2 : c ∉ a := fun e => h (List.mem_cons_of_mem _ e)
    rw [List.cons_append, splitOn, if_neg h1, splitOn_cut l h2]
/-- put together again -/
def glue (c : UInt8) : List (List UInt8) → List UInt8
  | [] => []
  | [a] => a
  | a :: b :: l => a ++ c :: glue c (b :: l)
theorem glue_split (c : UInt8) : ∀ l, glue c (splitOn c l) = l
  | [] => rfl
  | b :: l => by
    have ih := glue_split c l
    unfold splitOn
    split
    · rename_i e
      subst e
      obtain ⟨x, t, hx⟩ := List.exists_cons_of_ne_nil (splitOn_ne b l)
      rw [hx] at ih ⊢
      show b :: glue b (x :: t) = _
      rw [ih]
    · split
      · rename_i x t hx
        rw [hx] at ih
        cases t with
        | nil => rw [← ih]; rfl
        | cons y t => show b :: (x ++ c :: glue c (y :: t)) = _; rw [← ih]; rfl
      · rename_i hx; exact absurd hx (splitOn_ne c l)
theorem splitOn_mem (c : UInt8) : ∀ l, ∀ a ∈ splitOn c l, c ∉ a
  | [], a, h => by simp [splitOn] at h; subst h; simp
  | b :: l, a, h => by
    have ih := splitOn_mem c l
    unfold splitOn at h
    split at h
    · rcases List.mem_cons.1 h with rfl | h
      · simp
      · exact ih a h
    · rename_i hb
      split at h
      · rename_i x t hx
        rcases List.mem_cons.1 h with rfl | h
        · intro hc
          rcases List.mem_cons.1 hc with e | hc
          · exact hb e.symm
          · exact ih x (by rw [hx]; exact List.mem_cons_self) hc
        · exact ih a (by rw [hx]; exact List.mem_cons_of_mem _ h)
      · rename_i hx; exact absurd hx (splitOn_ne c l)
theorem splitOn_glue {c : UInt8} : ∀ {l : List (List UInt8)}, l ≠ [] → (∀ a ∈ l, c ∉ a) → splitOn c (glue c l) = l
  | [], h, _ => absurd rfl h
  | [a], _, h => splitOn_free (h a List.mem_cons_self)
  | a :: b :: l, _, h => by
    show splitOn c (a ++ c :: glue c (b :: l)) = _
    rw [splitOn_cut _ (h a List.mem_cons_self), splitOn_glue (by simp) fun x hx => h x (List.mem_cons_of_mem _ hx)]
theorem splitOn_len (c : UInt8) : ∀ l, (splitOn c l).length = l.count c + 1
  | [] => rfl
  | b :: l => by
    have ih := splitOn_len c l
    unfold splitOn
    split
    · rename_i e; subst e; simp [ih]
    · rename_i hb
      split
      · rename_i x t hx
        rw [hx] at ih
        rw [List.count_cons_of_ne hb]; simpa using ih
      · rename_i hx; exact absurd hx (splitOn_ne c l)
theorem splitOn_size (c : UInt8) : ∀ l, ∀ a ∈ splitOn c l, a.length ≤ l.length
  | [], a, h => by simp [splitOn] at h; subst h; simp
  | b :: l, a, h => by
    have ih := splitOn_size c l
    unfold splitOn at h
    split at h
    · rcases List.mem_cons.1 h with rfl | h
      · simp
      · have := ih a h; simp; omega
    · split at h
      · rename_i x t hx
        rcases List.mem_cons.1 h with rfl | h
        · have := ih x (by rw [hx]; exact List.mem_cons_self); simp; omega
        · have := ih a (by rw [hx]; exact List.mem_cons_of_mem _ h); simp; omega
      · rename_i hx; exact absurd hx (splitOn_ne c l)

/-! ### The kit's own words -/
theorem index_spec (c : UInt8) : ∀ l : List UInt8, (Lib.index l [c] = -1 ∧ c ∉ l) ∨ ∃ i : Nat, Lib.index l [c] = i ∧ i < l.length ∧ c ∉ l.take i ∧ l = l.take i ++ c :: l.drop (i + 1)
  | [] => .inl ⟨rfl, by simp⟩
  | b :: l => by
    have hp : [c].isPrefixOf (b :: l) = (c == b) := by simp [List.isPrefixOf]
    unfold Lib.index
    rw [hp]
    by_cases e : c = b
    · subst e
      exact .inr ⟨0, by simp, by simp, by simp, by simp⟩
    · have hb : (c == b) = false := beq_eq_false_iff_ne.2 e
      rw [hb]
      rcases index_spec c l with ⟨h1, h2⟩ | ⟨i, h1, h2, h3, h4⟩
      · exact .inl ⟨by simp [h1], by simp [e, h2]⟩
      · refine .inr ⟨i + 1, by rw [h1]; simp, by simp; omega, by simp [e, h3], ?_⟩
        simp only [List.take_succ_cons, List.drop_succ_cons, List.cons_append, List.cons.injEq, true_and]
        exact h4
theorem splitB_on (c : UInt8) : ∀ (n : Nat) (s : ByteArray), s.size ≤ n → (Lib.splitB ⟨#[c]⟩ 0 (Lib.countB s ⟨#[c]⟩) s).map (·.data.toList) = splitOn c s.data.toList := by
  intro n
  induction n with
  | zero =>
    intro s hs
    have e : s.data.toList = [] := List.eq_nil_of_length_eq_zero (by show s.size = 0; omega)
    have hm : Lib.indexB s ⟨#[c]⟩ = -1 := by
      show Lib.index s.data.toList [c] = -1
      rw [e]; rfl
    rw [Lib.splitB_miss _ _ _ _ hm, e]
    simp [splitOn, e]
  | succ n ih =>
    intro s hs
    rcases index_spec c s.data.toList with ⟨h1, h2⟩ | ⟨i, h1, h2, h3, h4⟩
    · have hm : Lib.indexB s ⟨#[c]⟩ = -1 := h1
      rw [Lib.splitB_miss _ _ _ _ hm, splitOn_free h2]
      rfl
    · have hm : Lib.indexB s ⟨#[c]⟩ = i := h1
      have h5 : i < s.size := h2
      rw [Lib.countB_hit s ⟨#[c]⟩ i (Nat.le_refl 1) hm, Nat.add_comm, Lib.splitB_hit _ _ _ _ i hm, List.map_cons]
      have e1 : (s.extract 0 (i + 0)).data.toList = s.data.toList.take i := Lib.extract_from_zero s i
      have e2 : (s.extract (i + (⟨#[c]⟩ : ByteArray).size) s.size).data.toList = s.data.toList.drop (i + 1) := Lib.extract_to_end s (i + 1)
      have hsz : (s.extract (i + (⟨#[c]⟩ : ByteArray).size) s.size).size ≤ n := by
        have : (s.extract (i + (⟨#[c]⟩ : ByteArray).size) s.size).data.toList.length ≤ n := by
          rw [e2, List.length_drop]
          show s.size - (i + 1) ≤ n
          omega
        exact this
      rw [ih _ hsz, e1, e2]
      conv => rhs; rw [h4]
      rw [splitOn_cut _ h3]
theorem countB_on (c : UInt8) : ∀ (n : Nat) (s : ByteArray), s.size ≤ n → Lib.countB s ⟨#[c]⟩ = s.data.toList.count c := by
  intro n s hs
  have h1 := splitB_on c n s hs
  have h2 := Lib.splitB_all ⟨#[c]⟩ (Nat.le_refl 1) 0 _ s rfl
  have h3 := splitOn_len c s.data.toList
  rw [← h1, List.length_map, h2] at h3
  omega

/-! ### Numerals -/
theorem decDigits_len (u : Nat) : 1 ≤ (Lib.decDigits u).length := by
  rw [Lib.decDigits]
  split <;> simp
end Xe
