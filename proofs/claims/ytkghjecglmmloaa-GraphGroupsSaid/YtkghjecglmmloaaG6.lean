/- Package graph: ready. -/
import Derived.Test.YtkghjecglmmloaaG5
namespace Xe
open Go Go.Proofs Gr
set_option maxRecDepth 16000
set_option maxHeartbeats 1000000

section
variable {h : Heap} {G A : Option Addr} {gc n k i ofb tb c : Nat} {C : Nat → Prop} {E : Nat → List Nat} {ix : Nat → Nat} {tk : Nat → Bool} {l : List Nat}
/-- is a point neither of that part nor taken? -/
def offB (ix : Nat → Nat) (tk : Nat → Bool) (i q : Nat) : Bool := decide (ix q ≠ i) && !tk (ix q)
theorem readyQ_ok {b7 b8 b9 q : Nat} (F : FnB h ofb n (fun p => .int .i64 (ix p : Nat))) (T : FnB h tb k (fun j => .bool (tk j))) (hix : ix q < k) (hq : q < n)
    (c7 : hcell h ⟨b7, 0, none⟩ = some (.slice (some ⟨ofb, 0, none⟩) n n)) (c8 : hcell h ⟨b8, 0, none⟩ = some (.slice (some ⟨tb, 0, none⟩) k k)) (c9 : hcell h ⟨b9, 0, none⟩ = some (.int .i64 i)) :
    CallsH Try.prog 117 ([.int .i64 (q : Int)] ++ [.pointer (some ⟨b7, 0, none⟩), .pointer (some ⟨b9, 0, none⟩), .pointer (some ⟨b8, 0, none⟩)]) h fun r h' => r = .bool (offB ix tk i q) ∧ h' = h := by
  have f0 := F.at' q hq
  have t0 := T.at' _ hix
  refine calls_of 22 [.tmp 5] Go.Proofs.Try.func117 rfl rfl rfl (by kernel_rfl) (Nat.le_of_ble_eq_true rfl) ?_
  simp -implicitDefEqProofs (disch := omega) [go_sem]
  refine drawK [(0, 1), (1, 0), (2, 0), (3, 1), (4, 1), (5, 0), (6, 0), (7, 1), (8, 1), (9, 0), (10, 0), (11, 1), (12, 0), (13, 1), (14, 0), (15, 0), (16, 0)] mixed (by kernel_rfl) ?_
  unfold offB
  by_cases e : ix q = i
  · have e' : ((ix q : Nat) : Int) = i := by omega
    simp -implicitDefEqProofs (disch := omega) [go_sem, c7, c8, c9, f0, t0, e', e]
  · have e' : ¬ ((ix q : Nat) : Int) = i := by omega
    simp -implicitDefEqProofs (disch := omega) [go_sem, c7, c8, c9, f0, t0, e', e]
theorem readyP_ok {b5 b7 b8 b9 p : Nat} (M : GrM h C G n E) (hE : ∀ q ∈ E p, q < n ∧ ix q < k) (hdeg : (E p).length ≤ 4096) (hn : n ≤ 4096) (F : FnB h ofb n (fun p => .int .i64 (ix p : Nat))) (T : FnB h tb k (fun j => .bool (tk j))) (hp : p < n)
    (c5 : hcell h ⟨b5, 0, none⟩ = some (.slice G n gc)) (c7 : hcell h ⟨b7, 0, none⟩ = some (.slice (some ⟨ofb, 0, none⟩) n n)) (c8 : hcell h ⟨b8, 0, none⟩ = some (.slice (some ⟨tb, 0, none⟩) k k)) (c9 : hcell h ⟨b9, 0, none⟩ = some (.int .i64 i)) :
    CallsH Try.prog 116 ([.int .i64 (p : Int)] ++ [.pointer (some ⟨b5, 0, none⟩), .pointer (some ⟨b7, 0, none⟩), .pointer (some ⟨b9, 0, none⟩), .pointer (some ⟨b8, 0, none⟩)]) h fun r h' => r = .bool ((E p).any (offB ix tk i)) ∧ h' = h := by
  obtain ⟨gk, off, B, d, rfl, g0, gR, _, _⟩ := M.at' p hp
  refine calls_of 13 [.tmp 6] Go.Proofs.Try.func116 rfl rfl rfl (by kernel_rfl) (Nat.le_of_ble_eq_true rfl) ?_
  simp -implicitDefEqProofs (disch := omega) [go_sem, c5, g0]
  refine useC (containsFunc_ok (l := toI (E p)) (cs := [.pointer (some ⟨b7, 0, none⟩), .pointer (some ⟨b9, 0, none⟩), .pointer (some ⟨b8, 0, none⟩)]) gR (by rw [toI_len]) (by omega) (fun x => offB ix tk i x.toNat) fun x hx => ?_) ?_
  · obtain ⟨q, hq, rfl⟩ := List.mem_map.1 hx
    have := hE q hq
    exact readyQ_ok F T this.2 this.1 c7 c8 c9
  · rintro _ h2 ⟨rfl, rfl⟩
    simp -implicitDefEqProofs (disch := omega) [go_sem]
    unfold toI
    rw [List.any_map]
    rfl
theorem ready_ok (M : GrM h C G n E) (hG : Gd E n) (hdeg : ∀ p, p < n → (E p).length ≤ 4096) (hn : n ≤ 4096) (F : FnB h ofb n (fun p => .int .i64 (ix p : Nat))) (T : FnB h tb k (fun j => .bool (tk j))) (hix : ∀ q, q < n → ix q < k)
    (R : RowAt h A (nts l)) (hl : ∀ p ∈ l, p < n) (hll : l.length ≤ 4096) :
    CallsH Try.prog 97 [.slice G n gc, .slice A l.length c, .slice (some ⟨ofb, 0, none⟩) n n, .slice (some ⟨tb, 0, none⟩) k k, .int .i64 i] h fun r h' => r = .bool (!(l.any fun p => (E p).any (offB ix tk i))) ∧ Fr (fun _ => False) h h' := by
  refine calls_of 15 [.tmp 10] Go.Proofs.Try.func97 rfl rfl rfl (by kernel_rfl) (Nat.le_of_ble_eq_true rfl) ?_
  simp -implicitDefEqProofs (disch := omega) [go_sem]
  obtain ⟨h1, e1⟩ : ∃ h1, h1 = h.push (.cells #[.slice G n gc] 69) := ⟨_, rfl⟩
  obtain ⟨h2, e2⟩ : ∃ h2, h2 = h1.push (.cells #[.slice (some ⟨ofb, 0, none⟩) n n] 32) := ⟨_, rfl⟩
  obtain ⟨h3, e3⟩ : ∃ h3, h3 = h2.push (.cells #[.slice (some ⟨tb, 0, none⟩) k k] 33) := ⟨_, rfl⟩
  obtain ⟨h4, e4⟩ : ∃ h4, h4 = h3.push (.cells #[.int .i64 (i : Int)] 3) := ⟨_, rfl⟩
  rw [← e1, ← e2, ← e3, ← e4]
  have z1 : h1.size = h.size + 1 := by rw [e1, push_size]
  have z2 : h2.size = h.size + 1 + 1 := by rw [e2, push_size, z1]
  have z3 : h3.size = h.size + 1 + 1 + 1 := by rw [e3, push_size, z2]
  have f1 : Fr (fun _ => False) h h1 := by rw [e1]; exact (Fr.refl _ _).push
  have f2 : Fr (fun _ => False) h1 h2 := by rw [e2]; exact (Fr.refl _ _).push
  have f3 : Fr (fun _ => False) h2 h3 := by rw [e3]; exact (Fr.refl _ _).push
  have f4 : Fr (fun _ => False) h3 h4 := by rw [e4]; exact (Fr.refl _ _).push
  have f04 := ((f1.trans f2).trans f3).trans f4
  have c5 : hcell h4 ⟨h.size, 0, none⟩ = some (.slice G n gc) := by
    rw [((f2.trans f3).trans f4).cell (by omega) id, e1, hcell_push_new]; rfl
  have c7 : hcell h4 ⟨h.size + 1, 0, none⟩ = some (.slice (some ⟨ofb, 0, none⟩) n n) := by
    rw [(f3.trans f4).cell (by omega) id, ← z1, e2, hcell_push_new]; rfl
  have c8 : hcell h4 ⟨h.size + 1 + 1, 0, none⟩ = some (.slice (some ⟨tb, 0, none⟩) k k) := by
    rw [f4.cell (by omega) id, ← z2, e3, hcell_push_new]; rfl
  have c9 : hcell h4 ⟨h.size + 1 + 1 + 1, 0, none⟩ = some (.int .i64 i) := by
    rw [← z3, e4, hcell_push_new]; rfl
  refine useC (containsFunc_ok (l := toI l) (cs := [.pointer (some ⟨h.size, 0, none⟩), .pointer (some ⟨h.size + 1, 0, none⟩), .pointer (some ⟨h.size + 1 + 1 + 1, 0, none⟩), .pointer (some ⟨h.size + 1 + 1, 0, none⟩)]) (R.fr0 f04) (by rw [toI_len]) (by omega) (fun x => (E x.toNat).any (offB ix tk i)) fun x hx => ?_) ?_
  · obtain ⟨p, hp, rfl⟩ := List.mem_map.1 hx
    have hpn := hl p hp
    exact readyP_ok (M.fr0 f04) (fun q hq => ⟨hG p hpn q hq, hix q (hG p hpn q hq)⟩) (hdeg p hpn) hn (F.fr f04 id) (T.fr f04 id) hpn c5 c7 c8 c9
  · rintro _ h5 ⟨rfl, rfl⟩
    simp -implicitDefEqProofs (disch := omega) [go_sem]
    refine ⟨?_, f04⟩
    unfold toI
    rw [List.any_map]
    rfl
end
end Xe
