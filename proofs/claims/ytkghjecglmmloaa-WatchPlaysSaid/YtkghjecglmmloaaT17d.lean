/- Package watch: its memory; what only reads it. -/
import Derived.Test.YtkghjecglmmloaaMapK
import Derived.Test.YtkghjecglmmloaaWP2
import Derived.Test.YtkghjecglmmloaaT16e
namespace Xe
open Go Tp Go.Proofs
set_option maxRecDepth 16000

inductive Tag
  | base | map | trail | lst | todo | con
  | ent (id : Nat)
  | wat (x : Int)

def ids (l : List Nat) : List Value := l.map fun (i : Nat) => .int .i64 (i : Int)
theorem ids_len (l : List Nat) : (ids l).length = l.length := List.length_map ..
theorem ids_at {l : List Nat} {i k : Nat} (h : l[i]? = some k) : (ids l)[i]? = some (.int .i64 (k : Int)) := by simp [ids, h]
theorem ids_append (l m : List Nat) : ids (l ++ m) = ids l ++ ids m := by simp [ids]
theorem ids_one {l : List Nat} : ∀ w ∈ ids l, w.oneCell' = true := by
  intro w hw
  obtain ⟨x, _, rfl⟩ := List.mem_map.1 hw
  rfl
def eptrs (eb : Nat → Nat) (n : Nat) : List Value := (List.range n).map fun i => .pointer (some ⟨eb i, 0, none⟩)
theorem eptrs_len (eb : Nat → Nat) (n : Nat) : (eptrs eb n).length = n := by unfold eptrs; rw [List.length_map, List.length_range]
theorem eptrs_at {eb : Nat → Nat} {n i : Nat} (h : i < n) : (eptrs eb n)[i]? = some (.pointer (some ⟨eb i, 0, none⟩)) := by unfold eptrs; rw [List.getElem?_map, List.getElem?_range h]; rfl

/-- where all lies -/
structure BP where
  tb : Nat
  mb : Nat
  OT : Nat → Prop
  L : Option Addr
  cl : Nat
  eb : Nat → Nat
  TA : Option Addr
  tc : Nat
  f : Int → Option Value
  c : Nat → Option Tag

structure EntM (h : Heap) (c : Nat → Option Tag) (b id : Nat) (e : Ent) : Prop where
  ex : ∃ A cap, ListB h b [.slice A e.lits.length cap, .complex .f64 (Fx.enc e.a1) (Fx.enc e.a2), .bool e.gone] ∧ RowAt h A (ints e.lits) ∧ ∀ x, blk A x → c x = some .con
  cb : c b = some (.ent id)
  la : e.a1 ≤ 16777216 ∧ e.a2 ≤ 16777216
  len : e.lits.length ≤ 16777216
def WatM (h : Heap) (c : Nat → Option Tag) (f : Int → Option Value) (W : Int → List Nat) (x : Int) : Prop := match f x with
  | none => W x = []
  | some v => ∃ A cap, v = .slice A (W x).length cap ∧ SlO h A cap (ids (W x)) ∧ ∀ y, blk A y → c y = some (.wat x)
structure BaseM (h : Heap) (bb : Nat) (p : BP) (s : WS) : Prop where
  low : ∀ x t, p.c x = some t → x < h.size
  B : ListB h bb [.pointer (some ⟨p.tb, 0, none⟩), .slice p.L s.cs.length p.cl, .map (some p.mb), .slice p.TA s.todo.length p.tc, .int .i64 (s.head : Int)]
  cB : p.c bb = some .base
  T : TrailOk h p.tb p.OT s.vars s.l s.level
  cT : ∀ x, p.OT x → p.c x = some .trail
  L : SlAt h p.L p.cl (eptrs p.eb s.cs.length)
  cL : ∀ x, blk p.L x → p.c x = some .lst
  E : ∀ id e, s.cs[id]? = some e → EntM h p.c (p.eb id) id e
  M : MapAt h p.mb p.f
  cM : p.c p.mb = some .map
  W : ∀ x, WatM h p.c p.f s.W x
  D : SlO h p.TA p.tc (ids s.todo)
  cD : ∀ x, blk p.TA x → p.c x = some .todo
  sm : s.cs.length < 2 ^ 30 ∧ s.todo.length < 2 ^ 30

section
variable {h : Heap} {bb : Nat} {p : BP} {s : WS}

theorem EntM.fr {c : Nat → Option Tag} {b id : Nat} {e : Ent} (E : EntM h c b id e) {S : Nat → Prop} {h' : Heap} (f : Fr S h h') (h1 : ∀ x, S x → c x ≠ some (.ent id)) (h2 : ∀ x, S x → c x ≠ some .con) : EntM h' c b id e := by
  obtain ⟨A, cap, B, R, hc⟩ := E.ex
  exact ⟨⟨A, cap, B.fr f fun hs => h1 _ hs E.cb, R.fr f fun x hx hs => h2 x hs (hc x hx), hc⟩, E.cb, E.la, E.len⟩
theorem EntM.ext {c c' : Nat → Option Tag} {b id : Nat} {e : Ent} (E : EntM h c b id e) (hx : ∀ x t, c x = some t → c' x = some t) : EntM h c' b id e := by
  obtain ⟨A, cap, B, R, hc⟩ := E.ex
  exact ⟨⟨A, cap, B, R, fun x h => hx _ _ (hc x h)⟩, hx _ _ E.cb, E.la, E.len⟩
theorem WatM.fr {c : Nat → Option Tag} {f : Int → Option Value} {W : Int → List Nat} {x : Int} (M : WatM h c f W x) {S : Nat → Prop} {h' : Heap} (fr : Fr S h h') (h1 : ∀ y, S y → c y ≠ some (.wat x)) : WatM h' c f W x := by
  unfold WatM at *
  split at M
  · exact M
  · obtain ⟨A, cap, hv, Sl, hc⟩ := M
    exact ⟨A, cap, hv, Sl.fr fr fun y hy hs => h1 y hs (hc y hy), hc⟩
theorem WatM.ext {c c' : Nat → Option Tag} {f : Int → Option Value} {W : Int → List Nat} {x : Int} (M : WatM h c f W x) (hx : ∀ y t, c y = some t → c' y = some t) : WatM h c' f W x := by
  unfold WatM at *
  split at M
  · exact M
  · obtain ⟨A, cap, hv, Sl, hc⟩ := M
    exact ⟨A, cap, hv, Sl, fun y hy => hx _ _ (hc y hy)⟩
theorem BaseM.fr (M : BaseM h bb p s) {S : Nat → Prop} {h' : Heap} (f : Fr S h h') (hs : ∀ x, S x → p.c x = none) : BaseM h' bb p s where
  low x t hx := Nat.lt_of_lt_of_le (M.low x t hx) f.size
  B := M.B.fr f fun h => by have := hs _ h; rw [M.cB] at this; cases this
  cB := M.cB
  T := M.T.fr f fun x hx h => by have := hs _ h; rw [M.cT x hx] at this; cases this
  cT := M.cT
  L := M.L.fr f fun x hx h => by have := hs _ h; rw [M.cL x hx] at this; cases this
  cL := M.cL
  E id e he := (M.E id e he).fr f (fun x hx => by rw [hs x hx]; exact fun h => (nomatch h)) (fun x hx => by rw [hs x hx]; exact fun h => (nomatch h))
  M := M.M.fr f fun h => by have := hs _ h; rw [M.cM] at this; cases this
  cM := M.cM
  W x := (M.W x).fr f fun y hy => by rw [hs y hy]; exact fun h => (nomatch h)
  D := M.D.fr f fun x hx h => by have := hs _ h; rw [M.cD x hx] at this; cases this
  cD := M.cD
  sm := M.sm
theorem BaseM.fr0 (M : BaseM h bb p s) {h' : Heap} (f : Fr (fun _ => False) h h') : BaseM h' bb p s := M.fr f fun _ h => h.elim

theorem there_some (M : BaseM h bb p s) {id : Nat} {e : Ent} (he : s.cs[id]? = some e) (hg : e.gone = false) :
    CallsH Try.prog 88 [.pointer (some ⟨bb, 0, none⟩), .int .i64 id] h fun r h' => r = .pointer (some ⟨p.eb id, 0, none⟩) ∧ h' = h := by
  have s1 := M.B.at' 1 _ rfl
  have hid := (List.getElem?_eq_some_iff.1 he).1
  have hsm := M.sm.1
  obtain ⟨bk, hL, _, _, hc⟩ := M.L.base (by rw [eptrs_len]; omega)
  rw [hL] at s1
  have c0 := hc id _ (eptrs_at hid)
  obtain ⟨A, cap, EB, _, _⟩ := (M.E id e he).ex
  have e2 := EB.at' 2 _ rfl
  rw [hg] at e2
  refine calls_of 35 [.tmp 4] Go.Proofs.Try.func88 rfl rfl rfl (by kernel_rfl) (Nat.le_of_ble_eq_true rfl) ?_
  simp -implicitDefEqProofs (disch := omega) [go_sem, s1, c0, e2]
theorem there_none (M : BaseM h bb p s) {id : Int} (h0 : -9223372036854775808 ≤ id) (h1 : id ≤ 9223372036854775807) (hg : 0 ≤ id → ∀ e, s.cs[id.toNat]? = some e → e.gone = true) :
    CallsH Try.prog 88 [.pointer (some ⟨bb, 0, none⟩), .int .i64 id] h fun r h' => r = .pointer none ∧ h' = h := by
  have s1 := M.B.at' 1 _ rfl
  have hsm := M.sm.1
  refine calls_of 35 [.tmp 4] Go.Proofs.Try.func88 rfl rfl rfl (by kernel_rfl) (Nat.le_of_ble_eq_true rfl) ?_
  by_cases hn : id < 0
  · simp -implicitDefEqProofs (disch := omega) [go_sem, s1]
  · by_cases hb : id < s.cs.length
    · obtain ⟨k, rfl⟩ : ∃ k : Nat, id = k := ⟨id.toNat, by omega⟩
      have hk : k < s.cs.length := by omega
      obtain ⟨bk, hL, _, _, hc⟩ := M.L.base (by rw [eptrs_len]; omega)
      rw [hL] at s1
      have c0 := hc k _ (eptrs_at hk)
      have he := List.getElem?_eq_getElem hk
      have hgo := hg (by omega) s.cs[k] (by rw [Int.toNat_natCast]; exact he)
      obtain ⟨A, cap, EB, _, _⟩ := (M.E k _ he).ex
      have e2 := EB.at' 2 _ rfl
      rw [hgo] at e2
      simp -implicitDefEqProofs (disch := omega) [go_sem, s1, c0, e2]
    · simp -implicitDefEqProofs (disch := omega) [go_sem, s1]

theorem blen_m (M : BaseM h bb p s) : CallsH Try.prog 53 [.pointer (some ⟨bb, 0, none⟩)] h fun r h' => r = .int .i64 s.cs.length ∧ h' = h := by
  have s1 := M.B.at' 1 _ rfl
  refine calls_of 8 [.tmp 2] Go.Proofs.Try.func53 rfl rfl rfl (by kernel_rfl) (Nat.le_of_ble_eq_true rfl) ?_
  simp -implicitDefEqProofs (disch := omega) [go_sem, s1]
theorem btrail_m (M : BaseM h bb p s) : CallsH Try.prog 51 [.pointer (some ⟨bb, 0, none⟩)] h fun r h' => r = .pointer (some ⟨p.tb, 0, none⟩) ∧ h' = h := by
  have s0 := M.B.at' 0 _ rfl
  refine calls_of 7 [.tmp 2] Go.Proofs.Try.func51 rfl rfl rfl (by kernel_rfl) (Nat.le_of_ble_eq_true rfl) ?_
  simp -implicitDefEqProofs (disch := omega) [go_sem, s0]
theorem clause_some (M : BaseM h bb p s) {id : Nat} {e : Ent} (he : s.cs[id]? = some e) (hg : e.gone = false) :
    CallsH Try.prog 56 [.pointer (some ⟨bb, 0, none⟩), .int .i64 id] h fun r h' => ∃ A' c', r = .tuple #[.slice A' e.lits.length c', .bool true] ∧ SlAt h' A' c' (ints e.lits) ∧ (∀ x, blk A' x → h.size ≤ x) ∧ Fr (fun _ => False) h h' := by
  have EM := M.E id e he
  have hlen := EM.len
  obtain ⟨A, cap, EB, R, _⟩ := EM.ex
  have e0 := EB.at' 0 _ rfl
  refine calls_of 17 [.tmp 4, .tmp 5] Go.Proofs.Try.func56 rfl rfl rfl (by kernel_rfl) (Nat.le_of_ble_eq_true rfl) ?_
  simp -implicitDefEqProofs (disch := omega) [go_sem]
  refine useC (there_some M he hg) ?_
  rintro _ h' ⟨rfl, rfl⟩
  simp -implicitDefEqProofs (disch := omega) [go_sem, e0]
  refine useC (clone_ok R (by rw [ints_len]) ints_one (by omega)) ?_
  rintro _ h2 ⟨A', c', rfl, S, hA, f⟩
  simp -implicitDefEqProofs (disch := omega) [go_sem]
  exact ⟨A', c', ⟨rfl, rfl⟩, S, hA, f⟩
theorem clause_none (M : BaseM h bb p s) {id : Int} (h0 : -9223372036854775808 ≤ id) (h1 : id ≤ 9223372036854775807) (hg : 0 ≤ id → ∀ e, s.cs[id.toNat]? = some e → e.gone = true) :
    CallsH Try.prog 56 [.pointer (some ⟨bb, 0, none⟩), .int .i64 id] h fun r h' => r = .tuple #[.slice none 0 0, .bool false] ∧ h' = h := by
  refine calls_of 17 [.tmp 4, .tmp 5] Go.Proofs.Try.func56 rfl rfl rfl (by kernel_rfl) (Nat.le_of_ble_eq_true rfl) ?_
  simp -implicitDefEqProofs (disch := omega) [go_sem]
  refine useC (there_none M h0 h1 hg) ?_
  rintro _ h' ⟨rfl, rfl⟩
  simp -implicitDefEqProofs (disch := omega) [go_sem]

/-- the first that isn't false, and isn't that one -/
def freeP (l : List St) (but x : Int) : Bool := decide (0 ≤ trI l x) && decide (x ≠ but)
theorem findF_ok {b1 b2 : Nat} {but x : Int} (M : BaseM h bb p s) (hb1 : hcell h ⟨b1, 0, none⟩ = some (.pointer (some ⟨bb, 0, none⟩))) (hb2 : hcell h ⟨b2, 0, none⟩ = some (.int .i64 but)) (h0 : -9223372036854775808 ≤ x) (h1 : x ≤ 9223372036854775807) :
    CallsH Try.prog 122 ([.int .i64 x] ++ [.pointer (some ⟨b1, 0, none⟩), .pointer (some ⟨b2, 0, none⟩)]) h fun r h' => r = .bool (freeP s.l but x) ∧ h' = h := by
  have s0 := M.B.at' 0 _ rfl
  refine calls_of 17 [.tmp 4] Go.Proofs.Try.func122 rfl rfl rfl (by kernel_rfl) (Nat.le_of_ble_eq_true rfl) ?_
  simp -implicitDefEqProofs (disch := omega) [go_sem, hb1, s0]
  refine useC (ttruth_ok M.T h0 h1) ?_
  rintro _ h' ⟨rfl, rfl⟩
  unfold freeP
  by_cases e : 0 ≤ trI s.l x
  · simp -implicitDefEqProofs (disch := omega) [go_sem, hb2, e]
  · simp -implicitDefEqProofs (disch := omega) [go_sem, hb2, e]

theorem find_m (M : BaseM h bb p s) (hv : s.vars ≤ 16777216) {id : Nat} {e : Ent} (he : s.cs[id]? = some e) (hcl : ∀ x ∈ e.lits, 1 ≤ x.natAbs ∧ x.natAbs ≤ s.vars) (but : Int) :
    CallsH Try.prog 109 [.pointer (some ⟨bb, 0, none⟩), .pointer (some ⟨p.eb id, 0, none⟩), .int .i64 but] h fun r h' => r = .int .i64 (idxF (freeP s.l but) e.lits) ∧ Fr (fun _ => False) h h' := by
  have EM := M.E id e he
  have hlen := EM.len
  refine calls_of 13 [.tmp 6] Go.Proofs.Try.func109 rfl rfl rfl (by kernel_rfl) (Nat.le_of_ble_eq_true rfl) ?_
  obtain ⟨h2, e2⟩ : ∃ h2, h2 = (h.push (.cells #[.pointer (some ⟨bb, 0, none⟩)] 70)).push (.cells #[.int .i64 but] 3) := ⟨_, rfl⟩
  have f2 : Fr (fun _ => False) h h2 := by rw [e2]; exact ((Fr.refl _ _).push).push
  have M2 := M.fr0 f2
  obtain ⟨A, cap, EB, R, _⟩ := (M2.E id e he).ex
  have e0 := EB.at' 0 _ rfl
  have q1 : hcell h2 ⟨h.size, 0, none⟩ = some (.pointer (some ⟨bb, 0, none⟩)) := by
    rw [e2, hcell_push_old (by rw [push_size]; omega), hcell_push_new]; rfl
  have q2 : hcell h2 ⟨h.size + 1, 0, none⟩ = some (.int .i64 but) := by
    rw [e2]
    have : h.size + 1 = (h.push (.cells #[.pointer (some ⟨bb, 0, none⟩)] 70)).size := by rw [push_size]
    rw [this, hcell_push_new]; rfl
  rw [e2] at e0
  simp -implicitDefEqProofs (disch := omega) [go_sem, e0]
  rw [← e2]
  have ci := indexFunc_ok (cs := [.pointer (some ⟨h.size, 0, none⟩), .pointer (some ⟨h.size + 1, 0, none⟩)]) (c := cap) R rfl (by omega) (freeP s.l but) (fun x hx => findF_ok M2 q1 q2 (by have := hcl x hx; omega) (by have := hcl x hx; omega))
  refine useC ci ?_
  rintro _ h3 ⟨rfl, rfl⟩
  simp -implicitDefEqProofs (disch := omega) [go_sem]
  exact f2
end
end Xe
