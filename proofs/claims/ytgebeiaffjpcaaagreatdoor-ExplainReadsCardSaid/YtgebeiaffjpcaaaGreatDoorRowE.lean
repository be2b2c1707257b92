/- What awake asks of the tables: an index of one package without releases. -/
import Derived.Test.YtgebeiaffjpcaaaGreatDoorAX
import Derived.Test.YtgebeiaffjpcaaaGreatDoorEX0
import Derived.Lib.LaidTab
import Derived.LaidLaws
import Derived.Lay
import Derived.Handed
import Derived.MakeChecks
namespace Xe
open Go Go.Proofs
set_option maxRecDepth 16000
set_option maxHeartbeats 4000000
def load1 (x : Option Value) : Option Value := x.map fun v => .agg #[v]
@[go_sem] theorem load1_some {v : Value} : load1 (some v) = some (.agg #[v]) := rfl
@[go_sem] theorem loadV_1a {h : Heap} {b o : Nat} : loadV (some (some 1)) (.pointer (some ⟨b, o, none⟩)) h = load1 (hcell h ⟨b, o, none⟩) := by
  simp only [loadV, loadN, add_n, Nat.add_zero, load1]
  cases hcell h ⟨b, o, none⟩ <;> rfl
/-- one package without releases, in a row -/
structure One (h : Heap) (b : Nat) (nm : List UInt8) : Prop where
  c0 : hcell h ⟨b, 0, none⟩ = some (S nm)
  c1 : hcell h ⟨b, 1, none⟩ = some (.slice none 0 0)
theorem One.fr {U : Nat → Prop} {h h' : Heap} {b : Nat} {nm : List UInt8} (O : One h b nm) (f : Fr U h h') (hu : ¬ U b) : One h' b nm := ⟨(f.cell (hcell_lt O.c0) hu).trans O.c0, (f.cell (hcell_lt O.c0) hu).trans O.c1⟩
theorem One.gr {h h' : Heap} {b : Nat} {nm : List UInt8} (O : One h b nm) (f : Gr h h') : One h' b nm := O.fr f id
def nA : List UInt8 := [97]
section
variable {h : Heap} {b : Nat}
theorem checkOne_ok (O : One h b nA) : CallsH Tryz.prog 40 [.agg #[.slice (some ⟨b, 0, none⟩) 1 1]] h fun r h' => r = .tuple #[.agg #[.int .i64 (-1), .int .i64 (-1), .int .i64 (-1)], .int .i64 0] ∧ Gr h h' := by
  refine calls_of 68 [.cell 2 29, .tmp 3] Go.Proofs.Tryz.func40 rfl rfl rfl ?_
  simp -implicitDefEqProofs (disch := first | omega | (simp only [push_size, hset_size]; done) | (simp only [push_size, hset_size]; omega)) [go_sem]
  obtain ⟨H1, hH1⟩ : ∃ H1, H1 = h.push (.cells #[.slice (some ⟨b, 0, none⟩) 1 1] 50) := ⟨_, rfl⟩
  have f1 : Gr h H1 := by rw [hH1]; exact (Fr.refl _ _).push
  have hs1 : H1.size = h.size + 1 := by rw [hH1, push_size]
  have x0 : hcell H1 ⟨h.size, 0, none⟩ = some (.slice (some ⟨b, 0, none⟩) 1 1) := by rw [hH1]; exact hcell_push_lit
  obtain ⟨H2, hH2⟩ : ∃ H2, H2 = H1.push (.cells #[.int .i64 0, .int .i64 0, .int .i64 0] 29) := ⟨_, rfl⟩
  have f2 : Gr H1 H2 := by rw [hH2]; exact (Fr.refl _ _).push
  have hs2 : H2.size = h.size + 2 := by rw [hH2, push_size, hs1]
  have L2 : ListB H2 H1.size [.int .i64 0, .int .i64 0, .int .i64 0] := by rw [hH2]; exact ListB.new
  rw [← hH1, ← hH2]
  clear hH2 hH1
  have f02 := f1.trans f2
  have x2 := (f2.cell (by omega) id).trans x0
  have O2 := O.gr f02
  refine scopeM 0 (fun ρ h' => ρ 2 = .pointer (some ⟨H1.size, 0, none⟩) ∧ ρ 3 = .int .i64 0 ∧ Gr h h' ∧ ListB h' H1.size [.int .i64 (-1), .int .i64 (-1), .int .i64 (-1)]) (fun _ _ => 0) rfl rfl (by kernel_rfl) ?_ ?_
  · have k0 := L2.at' 0 _ rfl
    have k1 := L2.at' 1 _ rfl
    have k2 := L2.at' 2 _ rfl
    have kz := L2.fz
    have hne : ¬ h.size = H1.size := by omega
    obtain ⟨H3, hH3⟩ : ∃ H3, H3 = hset (hset (hset H2 ⟨H1.size, 0, none⟩ (.int .i64 (-1))) ⟨H1.size, 1, none⟩ (.int .i64 (-1))) ⟨H1.size, 2, none⟩ (.int .i64 (-1)) := ⟨_, rfl⟩
    have L3 : ListB H3 H1.size [.int .i64 (-1), .int .i64 (-1), .int .i64 (-1)] := by rw [hH3]; exact ((L2.set (i := 0) _ (by simp)).set (i := 1) _ (by simp)).set (i := 2) _ (by simp)
    have f3 : Gr h H3 := by rw [hH3]; exact ((f02.newA (by omega)).newA (by omega)).newA (by omega)
    have hs3 : H3.size = h.size + 2 := by rw [hH3]; simp only [hset_size]; exact hs2
    have x3 : hcell H3 ⟨h.size, 0, none⟩ = some (.slice (some ⟨b, 0, none⟩) 1 1) := by rw [hH3]; simp [hcell_hset, hne, x2]
    simp -implicitDefEqProofs (disch := first | omega | (simp only [push_size, hset_size]; done) | (simp only [push_size, hset_size]; omega)) [go_sem, k0, k1, k2, kz, x2, hne]
    rw [← hH3]
    clear hH3
    obtain ⟨H4, hH4⟩ : ∃ H4, H4 = H3.push (.map #[] 0) := ⟨_, rfl⟩
    have q4 : Gr H3 H4 := by rw [hH4]; exact (Fr.refl _ _).push
    have hs4 : H4.size = h.size + 3 := by rw [hH4, push_size, hs3]
    have e32 : H2.size = H3.size := by omega
    have K4 : KeysAt H4 H2.size [] := by rw [hH4, e32]; exact .new
    rw [← hH4]
    clear hH4
    have f4 := f3.trans q4
    have L4 := L3.fr q4 id
    refine loopK (fun ρ h' => ρ 2 = .pointer (some ⟨H1.size, 0, none⟩) ∧ ρ 3 = .int .i64 0 ∧ ρ 4 = .map (some H2.size) ∧ ρ 18 = .slice (some ⟨b, 0, none⟩) 1 1 ∧ ρ 19 = .int .i64 1 ∧
      ((ρ 20 = .int .i64 0 ∧ h' = H4) ∨ (ρ 20 = .int .i64 1 ∧ Gr h h' ∧ ListB h' H1.size [.int .i64 0, .int .i64 (-1), .int .i64 (-1)]))) (fun ρ _ => 1 - (intOf (ρ 20)).toNat) (by kernel_rfl) ?_ ?_
    · refine ⟨?_, ?_, ?_, ?_, ?_, ?_⟩
      · rfl
      · rfl
      · rfl
      · rfl
      · rfl
      · exact .inl ⟨rfl, rfl⟩
    rintro ρ h' ⟨r2, r3, r4, r18, r19, ⟨r20, rfl⟩ | ⟨r20, g, L⟩⟩
    · have O4 := O.gr f4
      have c0 := O4.c0
      have c1 := O4.c1
      have k0 := L4.at' 0 _ rfl
      have k1 := L4.at' 1 _ rfl
      have k2 := L4.at' 2 _ rfl
      have kz := L4.fz
      have hne2 : ¬ h'.size = H1.size := by omega
      simp -implicitDefEqProofs (disch := first | omega | (simp only [push_size, hset_size]; done) | (simp only [push_size, hset_size]; omega)) [go_sem, r2, r3, r4, r18, r19, r20, c0, c1, k0, k1, k2, kz, hne2]
      obtain ⟨H5, hH5⟩ : ∃ H5, H5 = hset (h'.push (.cells #[S nA, .slice none 0 0] 47)) ⟨H1.size, 0, none⟩ (.int .i64 0) := ⟨_, rfl⟩
      have q5 : Gr h' (h'.push (.cells #[S nA, .slice none 0 0] 47)) := (Fr.refl _ _).push
      have f5' : Fr (fun y => y = H1.size) (h'.push (.cells #[S nA, .slice none 0 0] 47)) H5 := by rw [hH5]; refine Fr.setA (Fr.refl _ _) ?_; rfl
      have g5 : Gr h H5 := by rw [hH5]; exact (f4.trans q5).newA (by omega)
      have L5 : ListB H5 H1.size [.int .i64 0, .int .i64 (-1), .int .i64 (-1)] := by rw [hH5]; exact (L4.fr q5 id).set (i := 0) _ (by simp)
      have K5 : KeysAt H5 H2.size [] := (K4.fr q5 id).fr f5' (by omega)
      have P5 : One H5 h'.size nA := (One.fr (U := fun y => y = H1.size) ⟨hcell_push_lit, hcell_push_lit⟩ f5' hne2)
      have hs5 : H5.size = h.size + 4 := by rw [hH5, hset_size, push_size]; omega
      rw [← hH5]
      clear hH5
      obtain ⟨lv, hlv⟩ := KeysAt.look (P := Tryz.prog) (z := .int .i64 0) K5 ms91 (by kernel_rfl) nA
      have p0 := P5.c0
      have p1 := P5.c1
      simp -implicitDefEqProofs (disch := first | omega | (simp only [push_size, hset_size]; done) | (simp only [push_size, hset_size]; omega)) [go_sem, r2, r3, r4, r18, r19, r20, hlv, p0, p1]
      refine useC (nameGood_ok nA (by decide)) ?_
      rintro _ h6 ⟨rfl, f6⟩
      have L6 := L5.fr f6 id
      have K6 := K5.fr f6 id
      have P6 := P5.gr f6
      have hs6 := f6.size
      have p0 := P6.c0
      have p1 := P6.c1
      have hok : nameOk nA = true := by decide
      rw [hok]
      simp -implicitDefEqProofs (disch := first | omega | (simp only [push_size, hset_size]; done) | (simp only [push_size, hset_size]; omega)) [go_sem, r2, r3, r4, r18, r19, r20, p0, p1]
      refine KeysAt.put K6 ms91 nA (by simp) fun h7 K7 hs7 he7 => ?_
      have f7 : Fr (fun y => y = H2.size) h6 h7 := Fr.newB (Fr.refl _ _) hs7 he7 rfl
      have L7 := L6.fr f7 (by omega)
      have P7 := P6.fr f7 (by omega)
      have g7 : Gr h h7 := (g5.trans f6).trans' f7 fun y hy e => by omega
      have p0 := P7.c0
      have p1 := P7.c1
      simp -implicitDefEqProofs (disch := first | omega | (simp only [push_size, hset_size]; done) | (simp only [push_size, hset_size]; omega)) [go_sem, r2, r3, r4, r18, r19, r20, p0, p1]
      refine loopK (fun ρ h'' => ρ 2 = .pointer (some ⟨H1.size, 0, none⟩) ∧ ρ 3 = .int .i64 0 ∧ ρ 4 = .map (some H2.size) ∧ ρ 18 = .slice (some ⟨b, 0, none⟩) 1 1 ∧ ρ 19 = .int .i64 1 ∧ ρ 20 = .int .i64 0 ∧ ρ 47 = .int .i64 0 ∧ ρ 48 = .int .i64 0 ∧ h'' = h7) (fun _ _ => 0) (by kernel_rfl) ?_ ?_
      · refine ⟨?_, ?_, ?_, ?_, ?_, ?_, rfl, rfl, rfl⟩ <;> simp [put, r2, r3, r4, r18, r19, r20]
      rintro ρ' h'' ⟨t2, t3, t4, t18, t19, t20, t47, t48, rfl⟩
      have k1 := L7.at' 1 _ rfl
      have kz := L7.fz
      simp -implicitDefEqProofs (disch := first | omega | (simp only [push_size, hset_size]; done) | (simp only [push_size, hset_size]; omega)) [go_sem, t2, t3, t4, t18, t19, t20, t47, t48, k1, kz]
      rw [hset_same k1]
      exact ⟨⟨g7, L7⟩, by simp [r20, intOf]⟩
    · have k0 := L.at' 0 _ rfl
      have kz := L.fz
      simp -implicitDefEqProofs (disch := first | omega | (simp only [push_size, hset_size]; done) | (simp only [push_size, hset_size]; omega)) [go_sem, r2, r3, r4, r18, r19, r20, k0, kz]
      exact ⟨g.newA (by omega), L.set (i := 0) _ (by simp)⟩
  · rintro ρ h1 ⟨r2, r3, f, L⟩
    have k0 := L.at' 0 _ rfl
    have k1 := L.at' 1 _ rfl
    have k2 := L.at' 2 _ rfl
    have kz := L.fz
    simp -implicitDefEqProofs (disch := first | omega | (simp only [push_size, hset_size]; done) | (simp only [push_size, hset_size]; omega)) [go_sem, r2, r3, k0, k1, k2, kz]
    rw [hset_same k0, hset_same k1, hset_same k2]
    exact f
end
end Xe

/- What awake asks of the tables: the plain index of one package without releases. -/
namespace Xe
open Go Go.Proofs
set_option maxRecDepth 16000
set_option maxHeartbeats 4000000
theorem buildAg2 {e : TypeId} {bt : Nat} {z0 z1 a b : Value} {h : Heap} {k : Value → Heap → Prop} (hk : k (.slice (some ⟨h.size, 0, none⟩) 1 1) (h.push (.cells #[a, b] e))) :
    @buildSliceK (some (e, 2, bt, .agg #[z0, z1])) 1 [(0, .agg #[a, b])] ⟨h⟩ ⟨k⟩ := by
  refine ⟨by omega, #[a, b], ?_, hk⟩
  have hz : (zerosOf (Value.agg #[z0, z1]).cells (1 * 2)).size = 2 := by simp [zerosOf, Value.cells]
  obtain ⟨L, hL⟩ : ∃ L, zerosOf (Value.agg #[z0, z1]).cells (1 * 2) = ⟨L⟩ := ⟨_, rfl⟩
  rw [hL] at hz ⊢
  match L, hz with
  | [p, q], _ => simp [Instr.fill, Value.cells, List.zipIdx]
@[go_sem ↓ high] theorem fill_pack {x0 x1 : Value} {a : List UInt8} {A : Option Addr} {n c : Nat} : fillA [(0, 1), (1, 1)] [x0, x1] [(0, S a), (1, .slice A n c)] = some #[S a, .slice A n c] := rfl
section
variable {h : Heap} {A : Option Addr} {c : Nat} {f : Value}
/-! ### A stable sort of no element, or of one -/
theorem ins1P_ok (n : Nat) (hn : n ≤ 1) : CallsH Tryz.prog 157 [.slice A n c, .int .i64 0, .int .i64 n, f] h fun _ h' => h' = h := by
  refine calls_of 53 [] Go.Proofs.Tryz.func157 rfl rfl rfl ?_
  simp -implicitDefEqProofs (disch := first | omega | (simp only [push_size, hset_size]; done) | (simp only [push_size, hset_size]; omega)) [go_sem]
  refine loopK (fun ρ h' => ρ 2 = .int .i64 n ∧ ρ 8 = .int .i64 1 ∧ h' = h) (fun _ _ => 0) (by kernel_rfl) ⟨rfl, rfl, rfl⟩ ?_
  rintro ρ h1 ⟨r2, r8, rfl⟩
  have : ¬ (1 : Int) < (n : Int) := by omega
  simp -implicitDefEqProofs (disch := first | omega | (simp only [push_size, hset_size]; done) | (simp only [push_size, hset_size]; omega)) [go_sem, r2, r8, this]
theorem stable1P_ok (n : Nat) (hn : n ≤ 1) : CallsH Tryz.prog 118 [.slice A n c, .int .i64 n, f] h fun _ h' => h' = h := by
  have h20 : ¬ (20 : Int) ≤ (n : Int) := by omega
  have h20' : ¬ (20 : Int) < (n : Int) := by omega
  refine calls_of 63 [] Go.Proofs.Tryz.func118 rfl rfl rfl ?_
  simp -implicitDefEqProofs (disch := first | omega | (simp only [push_size, hset_size]; done) | (simp only [push_size, hset_size]; omega)) [go_sem]
  refine loopK (fun ρ h' => ρ 0 = .slice A n c ∧ ρ 1 = .int .i64 n ∧ ρ 2 = f ∧ ρ 6 = .int .i64 20 ∧ ρ 7 = .int .i64 0 ∧ ρ 8 = .int .i64 20 ∧ h' = h) (fun _ _ => 0) (by kernel_rfl) ⟨rfl, rfl, rfl, rfl, rfl, rfl, rfl⟩ ?_
  rintro ρ h1 ⟨r0, r1, r2, r6, r7, r8, rfl⟩
  simp -implicitDefEqProofs (disch := first | omega | (simp only [push_size, hset_size]; done) | (simp only [push_size, hset_size]; omega)) [go_sem, r0, r1, r2, r6, r7, r8, h20]
  refine useC (ins1P_ok n hn) ?_
  rintro _ h2 rfl
  simp -implicitDefEqProofs (disch := first | omega | (simp only [push_size, hset_size]; done) | (simp only [push_size, hset_size]; omega)) [go_sem, r0, r1, r2, r6, r7, r8]
  refine loopK (fun ρ h' => ρ 1 = .int .i64 n ∧ ρ 6 = .int .i64 20 ∧ h' = h2) (fun _ _ => 0) (by kernel_rfl) ⟨by simp [put, r1], by simp [put, r6], rfl⟩ ?_
  rintro ρ' h3 ⟨t1, t6, rfl⟩
  simp -implicitDefEqProofs (disch := first | omega | (simp only [push_size, hset_size]; done) | (simp only [push_size, hset_size]; omega)) [go_sem, t1, t6, h20']
theorem sort1P_ok (n : Nat) (hn : n ≤ 1) : CallsH Tryz.prog 75 [.slice A n c, f] h fun _ h' => h' = h := by
  refine calls_of 9 [] Go.Proofs.Tryz.func75 rfl rfl rfl ?_
  simp -implicitDefEqProofs (disch := first | omega | (simp only [push_size, hset_size]; done) | (simp only [push_size, hset_size]; omega)) [go_sem]
  refine useC (stable1P_ok n hn) ?_
  rintro _ h2 rfl
  simp -implicitDefEqProofs (disch := first | omega | (simp only [push_size, hset_size]; done) | (simp only [push_size, hset_size]; omega)) [go_sem]
theorem ins1R_ok (n : Nat) (hn : n ≤ 1) : CallsH Tryz.prog 151 [.slice A n c, .int .i64 0, .int .i64 n, f] h fun _ h' => h' = h := by
  refine calls_of 53 [] Go.Proofs.Tryz.func151 rfl rfl rfl ?_
  simp -implicitDefEqProofs (disch := first | omega | (simp only [push_size, hset_size]; done) | (simp only [push_size, hset_size]; omega)) [go_sem]
  refine loopK (fun ρ h' => ρ 2 = .int .i64 n ∧ ρ 8 = .int .i64 1 ∧ h' = h) (fun _ _ => 0) (by kernel_rfl) ⟨rfl, rfl, rfl⟩ ?_
  rintro ρ h1 ⟨r2, r8, rfl⟩
  have : ¬ (1 : Int) < (n : Int) := by omega
  simp -implicitDefEqProofs (disch := first | omega | (simp only [push_size, hset_size]; done) | (simp only [push_size, hset_size]; omega)) [go_sem, r2, r8, this]
theorem stable1R_ok (n : Nat) (hn : n ≤ 1) : CallsH Tryz.prog 115 [.slice A n c, .int .i64 n, f] h fun _ h' => h' = h := by
  have h20 : ¬ (20 : Int) ≤ (n : Int) := by omega
  have h20' : ¬ (20 : Int) < (n : Int) := by omega
  refine calls_of 63 [] Go.Proofs.Tryz.func115 rfl rfl rfl ?_
  simp -implicitDefEqProofs (disch := first | omega | (simp only [push_size, hset_size]; done) | (simp only [push_size, hset_size]; omega)) [go_sem]
  refine loopK (fun ρ h' => ρ 0 = .slice A n c ∧ ρ 1 = .int .i64 n ∧ ρ 2 = f ∧ ρ 6 = .int .i64 20 ∧ ρ 7 = .int .i64 0 ∧ ρ 8 = .int .i64 20 ∧ h' = h) (fun _ _ => 0) (by kernel_rfl) ⟨rfl, rfl, rfl, rfl, rfl, rfl, rfl⟩ ?_
  rintro ρ h1 ⟨r0, r1, r2, r6, r7, r8, rfl⟩
  simp -implicitDefEqProofs (disch := first | omega | (simp only [push_size, hset_size]; done) | (simp only [push_size, hset_size]; omega)) [go_sem, r0, r1, r2, r6, r7, r8, h20]
  refine useC (ins1R_ok n hn) ?_
  rintro _ h2 rfl
  simp -implicitDefEqProofs (disch := first | omega | (simp only [push_size, hset_size]; done) | (simp only [push_size, hset_size]; omega)) [go_sem, r0, r1, r2, r6, r7, r8]
  refine loopK (fun ρ h' => ρ 1 = .int .i64 n ∧ ρ 6 = .int .i64 20 ∧ h' = h2) (fun _ _ => 0) (by kernel_rfl) ⟨by simp [put, r1], by simp [put, r6], rfl⟩ ?_
  rintro ρ' h3 ⟨t1, t6, rfl⟩
  simp -implicitDefEqProofs (disch := first | omega | (simp only [push_size, hset_size]; done) | (simp only [push_size, hset_size]; omega)) [go_sem, t1, t6, h20']
theorem sort1R_ok (n : Nat) (hn : n ≤ 1) : CallsH Tryz.prog 72 [.slice A n c, f] h fun _ h' => h' = h := by
  refine calls_of 9 [] Go.Proofs.Tryz.func72 rfl rfl rfl ?_
  simp -implicitDefEqProofs (disch := first | omega | (simp only [push_size, hset_size]; done) | (simp only [push_size, hset_size]; omega)) [go_sem]
  refine useC (stable1R_ok n hn) ?_
  rintro _ h2 rfl
  simp -implicitDefEqProofs (disch := first | omega | (simp only [push_size, hset_size]; done) | (simp only [push_size, hset_size]; omega)) [go_sem]
variable {b : Nat}
theorem plainOne_ok (O : One h b nA) : CallsH Tryz.prog 41 [.agg #[.slice (some ⟨b, 0, none⟩) 1 1]] h fun r h' => (∃ X x, r = .agg #[.slice X 1 x] ∧ SlAt h' X (x * 2) [S nA, .slice none 0 0]) ∧ Gr h h' := by
  refine calls_of 53 [.cell 2 50] Go.Proofs.Tryz.func41 rfl rfl rfl ?_
  simp -implicitDefEqProofs (disch := first | omega | (simp only [push_size, hset_size]; done) | (simp only [push_size, hset_size]; omega)) [go_sem]
  obtain ⟨H1, hH1⟩ : ∃ H1, H1 = h.push (.cells #[.slice (some ⟨b, 0, none⟩) 1 1] 50) := ⟨_, rfl⟩
  have f1 : Gr h H1 := by rw [hH1]; exact (Fr.refl _ _).push
  have hs1 : H1.size = h.size + 1 := by rw [hH1, push_size]
  obtain ⟨H2, hH2⟩ : ∃ H2, H2 = H1.push (.cells #[.slice none 0 0] 50) := ⟨_, rfl⟩
  have f2 : Gr H1 H2 := by rw [hH2]; exact (Fr.refl _ _).push
  have hs2 : H2.size = h.size + 2 := by rw [hH2, push_size, hs1]
  have L2 : ListB H2 H1.size [.slice none 0 0] := by rw [hH2]; exact ListB.new
  rw [← hH1, ← hH2]
  clear hH1 hH2
  have f02 := f1.trans f2
  refine loopK (fun ρ h' => ρ 2 = .pointer (some ⟨H1.size, 0, none⟩) ∧ ρ 10 = .slice (some ⟨b, 0, none⟩) 1 1 ∧ ρ 11 = .int .i64 1 ∧
    ((ρ 12 = .int .i64 0 ∧ ρ 3 = .slice none 0 0 ∧ h' = H2) ∨ (ρ 12 = .int .i64 1 ∧ ∃ X x, ρ 3 = .slice X 1 x ∧ SlAt h' X (x * 2) [S nA, .slice none 0 0] ∧ (∀ y, blk X y → h.size + 2 ≤ y) ∧ Gr h h' ∧ ListB h' H1.size [.slice none 0 0]))) (fun ρ _ => 1 - (intOf (ρ 12)).toNat) (by kernel_rfl) ?_ ?_
  · exact ⟨rfl, rfl, rfl, .inl ⟨rfl, rfl, rfl⟩⟩
  rintro ρ h' ⟨r2, r10, r11, ⟨r12, r3, rfl⟩ | ⟨r12, X, x, r3, SX, own, g, L⟩⟩
  · have O2 := O.gr f02
    have c0 := O2.c0
    have c1 := O2.c1
    simp -implicitDefEqProofs (disch := first | omega | (simp only [push_size, hset_size]; done) | (simp only [push_size, hset_size]; omega)) [go_sem, r2, r3, r10, r11, r12, c0, c1]
    obtain ⟨H3, hH3⟩ : ∃ H3, H3 = h'.push (.cells #[S nA, .slice none 0 0] 47) := ⟨_, rfl⟩
    have q3 : Gr h' H3 := by rw [hH3]; exact (Fr.refl _ _).push
    have hs3 : H3.size = h.size + 3 := by rw [hH3, push_size, hs2]
    have P3 : One H3 h'.size nA := by rw [hH3]; exact ⟨hcell_push_lit, hcell_push_lit⟩
    rw [← hH3]
    clear hH3
    have p0 := P3.c0
    have p1 := P3.c1
    refine loopK (fun ρ h'' => ρ 2 = .pointer (some ⟨H1.size, 0, none⟩) ∧ ρ 3 = .slice none 0 0 ∧ ρ 5 = .pointer (some ⟨h'.size, 0, none⟩) ∧ ρ 6 = .slice none 0 0 ∧ ρ 10 = .slice (some ⟨b, 0, none⟩) 1 1 ∧ ρ 11 = .int .i64 1 ∧ ρ 12 = .int .i64 0 ∧ ρ 18 = .int .i64 0 ∧ ρ 19 = .int .i64 0 ∧ h'' = H3) (fun _ _ => 0) (by kernel_rfl) ?_ ?_
    · refine ⟨?_, ?_, ?_, ?_, ?_, ?_, ?_, ?_, ?_, rfl⟩ <;> simp [put, r2, r3, r10, r11, r12]
    rintro ρ' h'' ⟨t2, t3, t5, t6, t10, t11, t12, t18, t19, rfl⟩
    simp -implicitDefEqProofs (disch := first | omega | (simp only [push_size, hset_size]; done) | (simp only [push_size, hset_size]; omega)) [go_sem, t2, t3, t5, t6, t10, t11, t12, t18, t19]
    refine useC (sort1R_ok 0 (Nat.zero_le _)) ?_
    rintro _ h4 rfl
    simp -implicitDefEqProofs (disch := first | omega | (simp only [push_size, hset_size]; done) | (simp only [push_size, hset_size]; omega)) [go_sem, t2, t3, t5, t6, t10, t11, t12, t18, t19, p0]
    refine buildAg2 ?_
    obtain ⟨H5, hH5⟩ : ∃ H5, H5 = h4.push (.cells #[S nA, .slice none 0 0] 47) := ⟨_, rfl⟩
    have q5 : Gr h4 H5 := by rw [hH5]; exact (Fr.refl _ _).push
    have S5 : SlAt H5 (some ⟨h4.size, 0, none⟩) 2 [S nA, .slice none 0 0] := by rw [hH5]; exact SlAt.new (vs := [S nA, .slice none 0 0])
    have hs5 : H5.size = h.size + 4 := by rw [hH5, push_size, hs3]
    rw [← hH5]
    clear hH5
    simp -implicitDefEqProofs (disch := first | omega | (simp only [push_size, hset_size]; done) | (simp only [push_size, hset_size]; omega)) [go_sem, t2, t3, t5, t6, t10, t11, t12, t18, t19]
    refine appendN (sz := 2) (vs := []) (ws := [S nA, .slice none 0 0]) (SlAt.nil H5) rfl S5.row rfl (by omega) (by simp [Value.oneCell', S]) (by omega) (by omega) ?_
    intro X x h6 S6 f6 own6
    have nb : ∀ z, ¬ blk (none : Option Addr) z := fun z ⟨a, ha, _⟩ => nomatch ha
    have g6 : Gr h h6 := ((f02.trans q3).trans q5).trans (f6.mono fun y _ hy => (nb y hy).elim)
    have L6 := ((L2.fr q3 id).fr q5 id).fr f6 (nb _)
    simp -implicitDefEqProofs (disch := first | omega | (simp only [push_size, hset_size]; done) | (simp only [push_size, hset_size]; omega)) [go_sem, t2, t3, t5, t6, t10, t11, t12, t18, t19]
    refine ⟨⟨X, x, ⟨rfl, rfl⟩, S6, fun y hy => ?_, g6, L6⟩, by simp [r12, intOf]⟩
    rcases own6 y hy with hy | hy
    · exact (nb y hy).elim
    · omega
  · have k0 := L.at' 0 _ rfl
    have kz := L.fz
    simp -implicitDefEqProofs (disch := first | omega | (simp only [push_size, hset_size]; done) | (simp only [push_size, hset_size]; omega)) [go_sem, r2, r3, r10, r11, r12]
    refine useC (sort1P_ok 1 (Nat.le_refl _)) ?_
    rintro _ h3 rfl
    simp -implicitDefEqProofs (disch := first | omega | (simp only [push_size, hset_size]; done) | (simp only [push_size, hset_size]; omega)) [go_sem, r2, r3, k0, kz]
    have e : Fr (fun y => y = H1.size) h3 (hset h3 ⟨H1.size, 0, none⟩ (.slice X 1 x)) := by refine Fr.setA (Fr.refl _ _) ?_; rfl
    exact ⟨⟨X, x, ⟨rfl, rfl⟩, SX.fr e fun y hy g => by have := own y hy; omega⟩, g.newA (by omega)⟩
end
end Xe

/- What awake asks of the tables: the table of one package without releases; its sizes, its atoms. -/
namespace Xe
open Go Go.Proofs
set_option maxRecDepth 16000
set_option maxHeartbeats 4000000
/-- the table, in memory -/
def TabO (h : Heap) (t : Nat) : Prop := ∃ bk x m, hcell h ⟨t, 0, none⟩ = some (.slice (some ⟨bk, 0, none⟩) 1 x) ∧ hcell h ⟨t, 1, none⟩ = some (.map m) ∧ One h bk nA
theorem TabO.gr {h h' : Heap} {t : Nat} (T : TabO h t) (f : Gr h h') : TabO h' t := by
  obtain ⟨bk, x, m, c0, c1, O⟩ := T
  exact ⟨bk, x, m, (f.cell (hcell_lt c0) id).trans c0, (f.cell (hcell_lt c0) id).trans c1, O.gr f⟩
@[go_sem ↓ high] theorem fill_tab {x0 x1 : Value} {A : Option Addr} {n c : Nat} {m : Option Nat} : fillA [(0, 1), (1, 1)] [x0, x1] [(0, .agg #[.slice A n c]), (1, .map m)] = some #[.slice A n c, .map m] := rfl
section
variable {h : Heap} {b : Nat}
theorem rankNew_ok (O : One h b nA) : CallsH Tryz.prog 14 [.agg #[.slice (some ⟨b, 0, none⟩) 1 1]] h fun r h' => (∃ t, r = .pointer (some ⟨t, 0, none⟩) ∧ TabO h' t) ∧ Gr h h' := by
  obtain ⟨H1, hH1⟩ : ∃ H1, H1 = h.push (.cells #[.slice (some ⟨b, 0, none⟩) 1 1] 50) := ⟨_, rfl⟩
  have f1 : Gr h H1 := by rw [hH1]; exact (Fr.refl _ _).push
  have hs1 : H1.size = h.size + 1 := by rw [hH1, push_size]
  have x1 : hcell H1 ⟨h.size, 0, none⟩ = some (.slice (some ⟨b, 0, none⟩) 1 1) := by rw [hH1]; exact hcell_push_lit
  have C := checkOne_ok (O.gr f1)
  refine calls_of 40 [.tmp 2] Go.Proofs.Tryz.func14 rfl rfl rfl ?_
  simp -implicitDefEqProofs (disch := first | omega | (simp only [push_size, hset_size]; done) | (simp only [push_size, hset_size]; omega)) [go_sem]
  rw [← hH1]
  clear hH1
  refine useC C ?_
  rintro _ h2 ⟨rfl, f2⟩
  have f02 := f1.trans f2
  have hs2 := f2.size
  have x2 := (f2.cell (by omega) id).trans x1
  simp -implicitDefEqProofs (disch := first | omega | (simp only [push_size, hset_size]; done) | (simp only [push_size, hset_size]; omega)) [go_sem, x2]
  refine useC (plainOne_ok (O.gr (h' := _) ?_)) ?_
  · exact f02.push
  rintro _ h4 ⟨⟨X, x, rfl, SX⟩, f4⟩
  have f04 : Gr h h4 := f02.push.trans f4
  rcases SX.at' with ⟨_, hx0⟩ | ⟨bk, hX, hbk, _, _, hcX⟩
  · have := SX.len
    simp at this
    omega
  subst hX
  have PX : One h4 bk nA := ⟨hcX 0 _ rfl, hcX 1 _ rfl⟩
  simp -implicitDefEqProofs (disch := first | omega | (simp only [push_size, hset_size]; done) | (simp only [push_size, hset_size]; omega)) [go_sem]
  obtain ⟨H5, hH5⟩ : ∃ H5, H5 = h4.push (.map #[] 0) := ⟨_, rfl⟩
  have q5 : Gr h4 H5 := by rw [hH5]; exact (Fr.refl _ _).push
  have hs5 : H5.size = h4.size + 1 := by rw [hH5, push_size]
  have K5 : KeysAt H5 h4.size [] := by rw [hH5]; exact .new
  obtain ⟨H6, hH6⟩ : ∃ H6, H6 = H5.push (.cells #[.slice (some ⟨bk, 0, none⟩) 1 x, .map (some h4.size)] 93) := ⟨_, rfl⟩
  have q6 : Gr H5 H6 := by rw [hH6]; exact (Fr.refl _ _).push
  have hs6 : H6.size = h4.size + 2 := by rw [hH6, push_size, hs5]
  have y0 : hcell H6 ⟨h4.size + 1, 0, none⟩ = some (.slice (some ⟨bk, 0, none⟩) 1 x) := by rw [hH6, ← hs5]; exact hcell_push_lit
  have y1 : hcell H6 ⟨h4.size + 1, 1, none⟩ = some (.map (some h4.size)) := by rw [hH6, ← hs5]; exact hcell_push_lit
  rw [← hH5, ← hH6]
  clear hH5 hH6
  have g6 : Gr h H6 := (f04.trans q5).trans q6
  have K6 := K5.fr q6 id
  have P6 : One H6 bk nA := (PX.gr q5).gr q6
  refine loopK (fun ρ h' => ρ 5 = .pointer (some ⟨h4.size + 1, 0, none⟩) ∧ ρ 24 = .slice (some ⟨bk, 0, none⟩) 1 x ∧ ρ 25 = .int .i64 1 ∧ ((ρ 26 = .int .i64 0 ∧ h' = H6) ∨ (ρ 26 = .int .i64 1 ∧ Gr h h' ∧ TabO h' (h4.size + 1)))) (fun ρ _ => 1 - (intOf (ρ 26)).toNat) (by kernel_rfl) ?_ ?_
  · refine ⟨?_, ?_, ?_, ?_⟩
    · rfl
    · rfl
    · rfl
    · exact .inl ⟨rfl, rfl⟩
  rintro ρ h' ⟨r5, r24, r25, ⟨r26, rfl⟩ | ⟨r26, g, T⟩⟩
  · have p0 := P6.c0
    have p1 := P6.c1
    simp -implicitDefEqProofs (disch := first | omega | (simp only [push_size, hset_size]; done) | (simp only [push_size, hset_size]; omega)) [go_sem, r5, r24, r25, r26, p0, p1]
    obtain ⟨H7, hH7⟩ : ∃ H7, H7 = h'.push (.cells #[S nA, .slice none 0 0] 47) := ⟨_, rfl⟩
    have q7 : Gr h' H7 := by rw [hH7]; exact (Fr.refl _ _).push
    have w0 : hcell H7 ⟨h'.size, 0, none⟩ = some (S nA) := by rw [hH7]; exact hcell_push_lit
    rw [← hH7]
    clear hH7
    have y1' := (q7.cell (by omega) id).trans y1
    refine drawK [(0, 0), (1, 0), (2, 0), (3, 1), (4, 0), (5, 1), (6, 0), (7, 3)] ?_
    simp -implicitDefEqProofs (disch := first | omega | (simp only [push_size, hset_size]; done) | (simp only [push_size, hset_size]; omega)) [go_sem, r5, r24, r25, r26, w0, y1']
    refine KeysAt.put (K6.fr q7 id) ms91 nA (by simp) fun h8 K8 hs8 he8 => ?_
    have f8 : Fr (fun y => y = h4.size) H7 h8 := Fr.newB (Fr.refl _ _) hs8 he8 rfl
    simp -implicitDefEqProofs (disch := first | omega | (simp only [push_size, hset_size]; done) | (simp only [push_size, hset_size]; omega)) [go_sem, r5, r24, r25, r26]
    have hbk4 : bk ≠ h4.size := by omega
    refine ⟨(g6.trans q7).trans' f8 fun y hy e => by have := f04.size; omega, bk, x, some h4.size, ?_, ?_, (P6.gr q7).fr f8 hbk4⟩
    · exact (f8.cell (by have := q7.size; omega) (by omega)).trans ((q7.cell (by omega) id).trans y0)
    · exact (f8.cell (by have := q7.size; omega) (by omega)).trans y1'
  · simp -implicitDefEqProofs (disch := first | omega | (simp only [push_size, hset_size]; done) | (simp only [push_size, hset_size]; omega)) [go_sem, r5, r24, r25, r26]
    exact ⟨T, g⟩
end
end Xe

/- What awake asks of the tables: sizes, names. -/
namespace Xe
open Go Go.Proofs
set_option maxRecDepth 16000
set_option maxHeartbeats 4000000
section
variable {h : Heap} {t : Nat}
theorem rlen_ok (T : TabO h t) : CallsH Tryz.prog 104 [.pointer (some ⟨t, 0, none⟩)] h fun r h' => r = .int .i64 1 ∧ h' = h := by
  obtain ⟨bk, x, m, c0, c1, O⟩ := T
  refine calls_of 9 [.tmp 2] Go.Proofs.Tryz.func104 rfl rfl rfl ?_
  simp -implicitDefEqProofs (disch := first | omega | (simp only [push_size, hset_size]; done) | (simp only [push_size, hset_size]; omega)) [go_sem, c0]
theorem rpack_ok (T : TabO h t) : CallsH Tryz.prog 107 [.pointer (some ⟨t, 0, none⟩), .int .i64 0] h fun r h' => r = .tuple #[.agg #[S nA, .slice none 0 0], .bool true] ∧ Gr h h' := by
  have T0 := T
  refine calls_of 23 [.cell 4 47, .tmp 5] Go.Proofs.Tryz.func107 rfl rfl rfl ?_
  simp -implicitDefEqProofs (disch := first | omega | (simp only [push_size, hset_size]; done) | (simp only [push_size, hset_size]; omega)) [go_sem]
  obtain ⟨H1, hH1⟩ : ∃ H1, H1 = h.push (.cells #[S [], .slice none 0 0] 47) := ⟨_, rfl⟩
  have q1 : Gr h H1 := by rw [hH1]; exact (Fr.refl _ _).push
  have hs1 : H1.size = h.size + 1 := by rw [hH1, push_size]
  have L1 : ListB H1 h.size [S [], .slice none 0 0] := by rw [hH1]; exact ListB.new
  rw [← hH1]
  clear hH1
  refine useC (rlen_ok (T.gr q1)) ?_
  rintro _ h2 ⟨rfl, rfl⟩
  obtain ⟨bk, x, m, c0, c1, O⟩ := T.gr q1
  have p0 := O.c0
  have p1 := O.c1
  have k0 := L1.at' 0 _ rfl
  have k1 := L1.at' 1 _ rfl
  have kz := L1.fz
  simp -implicitDefEqProofs (disch := first | omega | (simp only [push_size, hset_size]; done) | (simp only [push_size, hset_size]; omega)) [go_sem, c0, p0, p1, k0, k1, kz]
  exact ((q1.newA (Nat.le_refl _)).newA (Nat.le_refl _))
theorem rsize_ok (T : TabO h t) : CallsH Tryz.prog 105 [.pointer (some ⟨t, 0, none⟩), .int .i64 0] h fun r h' => r = .int .i64 0 ∧ Gr h h' := by
  refine calls_of 16 [.tmp 4] Go.Proofs.Tryz.func105 rfl rfl rfl ?_
  simp -implicitDefEqProofs (disch := first | omega | (simp only [push_size, hset_size]; done) | (simp only [push_size, hset_size]; omega)) [go_sem]
  refine useC (rpack_ok T) ?_
  rintro _ h2 ⟨rfl, f2⟩
  simp -implicitDefEqProofs (disch := first | omega | (simp only [push_size, hset_size]; done) | (simp only [push_size, hset_size]; omega)) [go_sem]
  exact f2.push
theorem rname_ok (T : TabO h t) : CallsH Tryz.prog 67 [.pointer (some ⟨t, 0, none⟩), .int .i64 0] h fun r h' => r = S nA ∧ Gr h h' := by
  refine calls_of 15 [.tmp 4] Go.Proofs.Tryz.func67 rfl rfl rfl ?_
  simp -implicitDefEqProofs (disch := first | omega | (simp only [push_size, hset_size]; done) | (simp only [push_size, hset_size]; omega)) [go_sem]
  refine useC (rpack_ok T) ?_
  rintro _ h2 ⟨rfl, f2⟩
  simp -implicitDefEqProofs (disch := first | omega | (simp only [push_size, hset_size]; done) | (simp only [push_size, hset_size]; omega)) [go_sem]
  exact f2.push
theorem sizesOne_ok (T : TabO h t) : CallsH Tryz.prog 63 [.pointer (some ⟨t, 0, none⟩)] h fun r h' => (∃ X x, r = .slice X 1 x ∧ SlAt h' X x [.int .i64 0]) ∧ Gr h h' := by
  refine calls_of 20 [.tmp 2] Go.Proofs.Tryz.func63 rfl rfl rfl ?_
  simp -implicitDefEqProofs (disch := first | omega | (simp only [push_size, hset_size]; done) | (simp only [push_size, hset_size]; omega)) [go_sem]
  refine useC (rlen_ok T) ?_
  rintro _ h1 ⟨rfl, rfl⟩
  simp -implicitDefEqProofs (disch := first | omega | (simp only [push_size, hset_size]; done) | (simp only [push_size, hset_size]; omega)) [go_sem]
  refine loopK (fun ρ h' => ρ 0 = .pointer (some ⟨t, 0, none⟩) ∧ ρ 8 = .int .i64 1 ∧ ((ρ 9 = .int .i64 0 ∧ ρ 3 = .slice none 0 0 ∧ h' = h1) ∨ (ρ 9 = .int .i64 1 ∧ Gr h1 h' ∧ ∃ X x, ρ 3 = .slice X 1 x ∧ SlAt h' X x [.int .i64 0]))) (fun ρ _ => 1 - (intOf (ρ 9)).toNat) (by kernel_rfl) ?_ ?_
  · exact ⟨rfl, rfl, .inl ⟨rfl, rfl, rfl⟩⟩
  rintro ρ h' ⟨r0, r8, ⟨r9, r3, rfl⟩ | ⟨r9, g, X, x, r3, SX⟩⟩
  · simp -implicitDefEqProofs (disch := first | omega | (simp only [push_size, hset_size]; done) | (simp only [push_size, hset_size]; omega)) [go_sem, r0, r3, r8, r9]
    refine useC (rsize_ok T) ?_
    rintro _ h2 ⟨rfl, f2⟩
    simp -implicitDefEqProofs (disch := first | omega | (simp only [push_size, hset_size]; done) | (simp only [push_size, hset_size]; omega)) [go_sem, r0, r3, r8, r9]
    refine buildI1 ?_
    obtain ⟨H3, hH3⟩ : ∃ H3, H3 = h2.push (.cells #[.int .i64 0] 3) := ⟨_, rfl⟩
    have q3 : Gr h2 H3 := by rw [hH3]; exact (Fr.refl _ _).push
    have S3 : SlAt H3 (some ⟨h2.size, 0, none⟩) 1 [.int .i64 0] := by rw [hH3]; exact SlAt.new (vs := [.int .i64 0])
    rw [← hH3]
    clear hH3
    simp -implicitDefEqProofs (disch := first | omega | (simp only [push_size, hset_size]; done) | (simp only [push_size, hset_size]; omega)) [go_sem, r0, r3, r8, r9]
    refine appendB (vs := []) (ws := [.int .i64 0]) (SlAt.nil H3) rfl S3.row rfl (by simp [Value.oneCell']) (by omega) (by omega) ?_
    intro X x h4 S4 f4 own4
    have nb : ∀ z, ¬ blk (none : Option Addr) z := fun z ⟨a, ha, _⟩ => nomatch ha
    simp -implicitDefEqProofs (disch := first | omega | (simp only [push_size, hset_size]; done) | (simp only [push_size, hset_size]; omega)) [go_sem, r0, r3, r8, r9]
    exact ⟨(f2.trans q3).trans (f4.mono fun y _ hy => (nb y hy).elim), X, x, ⟨rfl, rfl⟩, S4⟩
  · simp -implicitDefEqProofs (disch := first | omega | (simp only [push_size, hset_size]; done) | (simp only [push_size, hset_size]; omega)) [go_sem, r0, r3, r8, r9]
    exact ⟨⟨X, x, ⟨rfl, rfl⟩, SX⟩, g⟩
end
end Xe

/- What awake asks of explain: the words of a literal. -/
namespace Xe
open Go Go.Proofs
set_option maxRecDepth 16000
set_option maxHeartbeats 4000000
def wThere : List UInt8 := [32, 105, 115, 32, 116, 104, 101, 114, 101]
def wIsnt : List UInt8 := [32, 105, 115, 110, 39, 116, 32, 116, 104, 101, 114, 101]
section
variable {h : Heap} {t tb : Nat} {T : Nat → Prop}
theorem few1 : Few [0] := ⟨by simp, by simp⟩
theorem tableOne_ok (M : TabO h t) : CallsH Tryz.prog 38 [.pointer (some ⟨t, 0, none⟩)] h fun r h' => (∃ tb T, r = .pointer (some ⟨tb, 0, none⟩) ∧ TabM h' T tb [0]) ∧ Gr h h' := by
  refine calls_of 8 [.tmp 2] Go.Proofs.Tryz.func38 rfl rfl rfl ?_
  simp -implicitDefEqProofs (disch := first | omega | (simp only [push_size, hset_size]; done) | (simp only [push_size, hset_size]; omega)) [go_sem]
  refine useC (sizesOne_ok M) ?_
  rintro _ h1 ⟨⟨X, x, rfl, SX⟩, f1⟩
  simp -implicitDefEqProofs (disch := first | omega | (simp only [push_size, hset_size]; done) | (simp only [push_size, hset_size]; omega)) [go_sem]
  refine useC (anew_ok (zs := [0]) few1 SX.row) ?_
  rintro _ h2 ⟨f2, tb, rfl, TM⟩
  simp -implicitDefEqProofs (disch := first | omega | (simp only [push_size, hset_size]; done) | (simp only [push_size, hset_size]; omega)) [go_sem]
  exact ⟨⟨_, TM⟩, f1.trans f2⟩
theorem verbs0_ok : CallsH Tryz.prog 66 [.int .i64 0] h fun r h' => r = .tuple #[S wThere, S wIsnt] ∧ h' = h := by
  refine calls_of 9 [.tmp 2, .tmp 3] Go.Proofs.Tryz.func66 rfl rfl rfl ?_
  simp -implicitDefEqProofs (disch := first | omega | (simp only [push_size, hset_size]; done) | (simp only [push_size, hset_size]; omega)) [go_sem]
  exact ⟨rfl, rfl⟩
theorem literalOne_ok (M : TabO h t) (TM : TabM h T tb [0]) : CallsH Tryz.prog 39 [.pointer (some ⟨t, 0, none⟩), .pointer (some ⟨tb, 0, none⟩), .int .i64 (-1)] h fun r h' => r = .tuple #[S (nA ++ wIsnt), .bool true] ∧ Gr h h' := by
  refine calls_of 67 [.tmp 6, .tmp 7] Go.Proofs.Tryz.func39 rfl rfl rfl ?_
  simp -implicitDefEqProofs (disch := first | omega | (simp only [push_size, hset_size]; done) | (simp only [push_size, hset_size]; omega)) [go_sem]
  refine useC (avars_ok TM) ?_
  rintro _ h1 ⟨rfl, rfl⟩
  have e : wsum [0] = 1 := rfl
  rw [e]
  simp -implicitDefEqProofs (disch := first | omega | (simp only [push_size, hset_size]; done) | (simp only [push_size, hset_size]; omega)) [go_sem]
  have C := aatom_ok TM few1 (u := 0) (by decide)
  rw [show max (-1 : Int) 1 = ((0 : Nat) : Int) + 1 by decide]
  refine useC C ?_
  rintro _ h2 ⟨rfl, f2⟩
  have ea : atV (atN [0] 0 0) = .agg #[.int .i64 0, .int .i64 0, .int .i64 0] := rfl
  rw [ea]
  simp -implicitDefEqProofs (disch := first | omega | (simp only [push_size, hset_size]; done) | (simp only [push_size, hset_size]; omega)) [go_sem]
  refine useC verbs0_ok ?_
  rintro _ h3 ⟨rfl, rfl⟩
  simp -implicitDefEqProofs (disch := first | omega | (simp only [push_size, hset_size]; done) | (simp only [push_size, hset_size]; omega)) [go_sem]
  refine useC (rname_ok ((M.gr f2).gr (Fr.refl _ _).push)) ?_
  rintro _ h4 ⟨rfl, f4⟩
  have sa := sadd (P := Tryz.prog) (t := 9) (x := nA) (y := wIsnt) (by decide)
  simp -implicitDefEqProofs (disch := first | omega | (simp only [push_size, hset_size]; done) | (simp only [push_size, hset_size]; omega)) [go_sem, sa]
  exact f2.push.trans f4
theorem wordsOne_ok (M : TabO h t) : CallsH Tryz.prog 13 [.pointer (some ⟨t, 0, none⟩), .int .i64 (-1)] h fun r h' => r = .tuple #[S (nA ++ wIsnt), .bool true] ∧ Gr h h' := by
  refine calls_of 17 [.tmp 4, .tmp 5] Go.Proofs.Tryz.func13 rfl rfl rfl ?_
  simp -implicitDefEqProofs (disch := first | omega | (simp only [push_size, hset_size]; done) | (simp only [push_size, hset_size]; omega)) [go_sem]
  refine useC (tableOne_ok M) ?_
  rintro _ h1 ⟨⟨tb, T, rfl, TM⟩, f1⟩
  simp -implicitDefEqProofs (disch := first | omega | (simp only [push_size, hset_size]; done) | (simp only [push_size, hset_size]; omega)) [go_sem]
  refine useC (literalOne_ok (M.gr f1) TM) ?_
  rintro _ h2 ⟨rfl, f2⟩
  simp -implicitDefEqProofs (disch := first | omega | (simp only [push_size, hset_size]; done) | (simp only [push_size, hset_size]; omega)) [go_sem]
  exact f1.trans f2
end
end Xe

/- awake of chapter 29, walked; the two laws whole. -/
namespace Xe
open Go Go.Proofs
set_option maxRecDepth 16000
set_option maxHeartbeats 4000000
def oAw : Outc := oNon ⟨[0], [⟨1, []⟩]⟩
def wAw : List UInt8 := [110, 111, 110, 101, 10, 99, 111, 114, 101, 32, 48, 10, 102, 111, 108, 108, 111, 119, 10]
theorem cleanNil : CleanR [] (some []) := ⟨by simp [Rise], by simp⟩
theorem good_aw : GoodO oAw := by
  have hs : StepOk ⟨1, []⟩ := ⟨by show (0 : Int) ≤ 1; omega, by show (1 : Int) ≤ 2; omega, by simp, cleanNil⟩
  have hc : CertOk ⟨[0], [⟨1, []⟩]⟩ := ⟨by simp, by simp, CoreTo.zero.next (l := [0]) (x := 0) rfl (by omega) (by omega) (fun y h _ => absurd h (Nat.lt_irrefl _)), StepsTo.zero.next (l := [⟨1, []⟩]) (x := ⟨1, []⟩) rfl hs⟩
  have h1 : OutIn (wNon :: certL ⟨[0], [⟨1, []⟩]⟩) oAw := out_non.2 ⟨_, ⟨hc, rfl⟩, rfl⟩
  exact h1.1
theorem text_aw : goodT oAw = wAw := by
  show wNone ++ (rowT wCore [0] ++ stepsT [⟨1, []⟩]) = wAw
  have : Lib.itoa 0 = [48] := by
    show Lib.decDigits 0 = [48]
    rw [decDigits_small (by decide)]
    rfl
  unfold rowT stepsT numsT
  simp [this]
  rfl
@[go_sem ↓ high] theorem fill_cert {x0 x1 x2 x3 x4 x5 x6 x7 x8 x9 a b : Value} : fillA [(0, 1), (1, 1), (2, 2), (4, 1), (5, 1), (6, 1), (7, 3)] [x0, x1, x2, x3, x4, x5, x6, x7, x8, x9] [(2, .agg #[a, b])] = some #[x0, x1, a, b, x4, x5, x6, x7, x8, x9] := rfl
@[go_sem ↓ high] theorem fill_pack1 {x0 x1 : Value} {a : List UInt8} : fillA [(0, 1), (1, 1)] [x0, x1] [(0, S a)] = some #[S a, x1] := rfl
section
variable {h : Heap}
theorem awake29_ok (G : Glob h) : CallsH Tryz.prog 5 [] h fun r h' => r = .bool true ∧ Gr h h' := by
  refine calls_of 27 [.tmp 0] Go.Proofs.Tryz.func5 rfl rfl rfl ?_
  simp -implicitDefEqProofs (disch := first | omega | (simp only [push_size, hset_size]; done) | (simp only [push_size, hset_size]; omega)) [go_sem]
  refine buildI1 ?_
  obtain ⟨H1, hH1⟩ : ∃ H1, H1 = h.push (.cells #[.int .i64 0] 3) := ⟨_, rfl⟩
  have q1 : Gr h H1 := by rw [hH1]; exact (Fr.refl _ _).push
  have S1 : SlAt H1 (some ⟨h.size, 0, none⟩) 1 [.int .i64 0] := by rw [hH1]; exact SlAt.new (vs := [.int .i64 0])
  rw [← hH1]
  clear hH1
  simp -implicitDefEqProofs (disch := first | omega | (simp only [push_size, hset_size]; done) | (simp only [push_size, hset_size]; omega)) [go_sem]
  refine build2i' ?_
  obtain ⟨H2, hH2⟩ : ∃ H2, H2 = H1.push (.cells #[.int .i64 1, .slice none 0 0] 40) := ⟨_, rfl⟩
  have q2 : Gr H1 H2 := by rw [hH2]; exact (Fr.refl _ _).push
  have w0 : hcell H2 ⟨H1.size, 0, none⟩ = some (.int .i64 1) := by rw [hH2]; exact hcell_push_lit
  have w1 : hcell H2 ⟨H1.size, 1, none⟩ = some (.slice none 0 0) := by rw [hH2]; exact hcell_push_lit
  rw [← hH2]
  clear hH2
  simp -implicitDefEqProofs (disch := first | omega | (simp only [push_size, hset_size]; done) | (simp only [push_size, hset_size]; omega)) [go_sem]
  obtain ⟨H3, hH3⟩ : ∃ H3, H3 = H2.push (.cells (outC oAw ⟨none, 0, some ⟨h.size, 0, none⟩, 1, some ⟨H1.size, 0, none⟩, 1⟩).toArray 31) := ⟨_, rfl⟩
  have q3 : Gr H2 H3 := by rw [hH3]; exact (Fr.refl _ _).push
  have O3 : OutAt H3 H2.size oAw ⟨none, 0, some ⟨h.size, 0, none⟩, 1, some ⟨H1.size, 0, none⟩, 1⟩ := by rw [hH3]; exact OutAt.new
  have V3 : OutcR H3 oAw ⟨none, 0, some ⟨h.size, 0, none⟩, 1, some ⟨H1.size, 0, none⟩, 1⟩ := by
    have hi1 : I64 1 := by unfold I64; omega
    refine ⟨.nil, ⟨(S1.row.fr0 q2).fr0 q3, ⟨fun i s hs => ?_⟩, Nat.le_refl _, Nat.le_refl _, by show 1 < _; omega, by show 1 < _; omega, fun x hx => ?_⟩, by show 0 < _; omega, Nat.le_refl _, fun p hp => by simp [oAw, oNon] at hp, hi1, i64_zero, i64_zero, i64_zero, i64_zero, i64_zero, i64_zero⟩
    · cases i with
      | zero =>
        cases hs
        exact ⟨H1.size, 0, none, 0, rfl, (q3.cell (hcell_lt w0) id).trans w0, (q3.cell (hcell_lt w0) id).trans w1, .nil, Nat.le_refl _, by show 0 < _; omega, hi1, fun y hy => by simp at hy⟩
      | succ i => simp [oAw, oNon] at hs
    · simp [oAw, oNon] at hx
      subst hx
      exact i64_zero
  simp only [outC, oAw, oNon, List.length_cons, List.length_nil] at hH3
  refine buildAg2 ?_
  rw [← hH3]
  clear hH3
  obtain ⟨H4, hH4⟩ : ∃ H4, H4 = H3.push (.cells #[S nA, .slice none 0 0] 47) := ⟨_, rfl⟩
  have q4 : Gr H3 H4 := by rw [hH4]; exact (Fr.refl _ _).push
  have P4 : One H4 H3.size nA := by rw [hH4]; exact ⟨hcell_push_lit, hcell_push_lit⟩
  rw [show H3.push (.cells #[S [97], .slice none 0 0] 47) = H4 from hH4.symm]
  clear hH4
  simp -implicitDefEqProofs (disch := first | omega | (simp only [push_size, hset_size]; done) | (simp only [push_size, hset_size]; omega)) [go_sem]
  refine useC (rankNew_ok P4) ?_
  rintro _ h5 ⟨⟨t, rfl, T⟩, f5⟩
  simp -implicitDefEqProofs (disch := first | omega | (simp only [push_size, hset_size]; done) | (simp only [push_size, hset_size]; omega)) [go_sem]
  refine useC (wordsOne_ok T) ?_
  rintro _ h6 ⟨rfl, f6⟩
  have f36 := (q4.trans f5).trans f6
  have O6 := O3.gr f36
  have V6 := V3.gr f36
  have f06 := ((q1.trans q2).trans q3).trans f36
  obtain ⟨c0, c1, c2, c3, c4, c5, c6, c7, c8, c9⟩ := id O6
  have C := textP29_ok (G.gr f06) V6 fun g => by show (0 : Nat) ≤ _; omega
  simp only [outV, outC, oAw, oNon, List.length_cons, List.length_nil] at C c0 c1 c2 c3 c4 c5 c6 c7 c8 c9
  simp -implicitDefEqProofs (disch := first | omega | (simp only [push_size, hset_size]; done) | (simp only [push_size, hset_size]; omega)) [go_sem, c0, c1, c2, c3, c4, c5, c6, c7, c8, c9]
  refine useC C ?_
  rintro _ h7 ⟨hT, f7⟩
  have e := hT.1 good_aw
  have e2 := text_aw
  unfold oAw oNon at e2
  rw [e2] at e
  subst e
  have e3 : S (nA ++ wIsnt) = S [97, 32, 105, 115, 110, 39, 116, 32, 116, 104, 101, 114, 101] := rfl
  rw [e3]
  unfold wAw
  simp -implicitDefEqProofs (disch := first | omega | (simp only [push_size, hset_size]; done) | (simp only [push_size, hset_size]; omega)) [go_sem]
  exact f06.trans f7
theorem reads_law (G : Glob h) (s : List UInt8) (hs : s.length < 2 ^ 63) : CallsH Tryz.prog 4 [S s] h fun r h' => r = .bool true ∧ Gr h h' := reads29_walk G (awake29_ok G) s hs

end
end Xe

/- From the rows' hypotheses to a walk's: what the variables hold; strings, outcomes, opened. -/
namespace Xe
open Go Go.Proofs Go.ChangeShapes Go.WideShapes Go.ChangeAt Go.RowKit
set_option maxRecDepth 100000

/-- a row's form whose hypotheses hand on the world's shape, too -/
theorem returnsInHanded_shaped {H : Type} {enc : TypeId × Value → H} {a : Assume} {C : Checked} {os : Os} {f : FuncId} {fn : Func} {s : ChangeSpec} {conds : List PathCond} {apart fresh handsOn again : Bool} {X : World → Array Value → Prop}
    (hX : ∀ (w w' : World) (args : Array Value), w.heap = w'.heap → X w args → X w' args)
    (own : ownKnob C.prog.godebug = none) (started : os.Started) (noInit : C.prog.inits.idxOf? f = none) (hfn : C.prog.funcs[f]? = some fn)
    (witness : ∃ (w : World) (tape : Tape) (i : Input), w.os = os ∧ (w.forCall tape i).Shaped C.prog ∧ i.vars = [] ∧ Input.okWide C.prog (w.forCall tape i) .any w.heap.size f i ∧
      ((s.pre enc C.prog fn conds apart (w.forCall tape i).memory i.args ∧ X (w.forCall tape i).memory i.args) ∧ sizedMet enc C.prog fn (OpenSpec.ofChange s) apart (w.forCall tape i).memory i.args) ∧ a.holds C.prog (lone (Frame.enter C.prog f i.args .normal) [] (w.forCall tape i)))
    (contract : ∀ (W : World) (base : Nat) (args : Array Value) (ds gs : List (DataW H)) (before : List MemPlace),
      (∀ (j : Nat) t v, fn.params[j]? = some t → args[j]? = some v → Value.okWide C.prog W .any base t v) →
      DataW.Whole enc C.prog fn.params.toList s.vars apart W args.toList ds gs before → X W args → W.ShapedOpen C.prog →
      Calls C.prog f args W fun e W' => ∃ v, e = .returned v ∧ s.post enc C.prog fn apart fresh handsOn again W args v W') :
    ReturnsInHanded a C os f .any (fun w args => (s.pre enc C.prog fn conds apart w args ∧ X w args) ∧ sizedMet enc C.prog fn (OpenSpec.ofChange s) apart w args) (s.post enc C.prog fn apart fresh handsOn again) := by
  refine returnsInHanded_of_calls own started noInit witness ?_
  intro w tape i _ hsh _ hok hpre hholds
  obtain ⟨_, _, _, fn', hfn', _, _, _, _, hval⟩ := hok
  have e : fn' = fn := Option.some.inj (hfn'.symm.trans hfn)
  subst e
  obtain ⟨⟨⟨ds, gs, before, hw, hc⟩, hx⟩, hz⟩ := hpre
  have hw' := DataW.Whole.of_heap (w' := w.forCall tape i) (by rfl) hw
  refine (contract (w.forCall tape i) w.heap.size i.args ds gs before hval hw' (hX _ _ _ (by rfl) hx) hsh).mono fun e W' ⟨v, he, hp⟩ => ?_
  subst he
  exact ChangeSpec.post_blind hp

/-! ### What the variables hold -/
def VarR (P : Program) (w : World) (n : String) (d : DataW Unit) : Prop :=
  ∃ g t cs fuel p, P.globalNamed n = some g ∧ (P.globals[g]?).map (·.type) = some t ∧ w.var? P n = some cs ∧ DataW.trod (fun _ => ()) P w 0 (fun _ => true) false fuel t cs.toList = some (d, p)
theorem laid_var {P : Program} {w : World} : ∀ {l : List (String × DataW Unit)} {ps : List MemPlace}, DataW.LaidVars P w l ps → ∀ n d, (n, d) ∈ l → VarR P w n d
  | [], _, _, _, _, hm => by cases hm
  | (n', d') :: r, ps, h, n, d, hm => by
    obtain ⟨g, t, cs, fuel, p, q, h1, h2, h3, h4, h5, _⟩ := h
    rcases List.mem_cons.1 hm with e | e
    · cases e
      exact ⟨g, t, cs, fuel, p, h1, h2, h3, h4⟩
    · exact laid_var h5 n d e
theorem var_block {P : Program} {w : World} {n : String} {g : Nat} {cs : Array Value} (hg : P.globalNamed n = some g) (h : w.var? P n = some cs) : ∃ e fz, w.heap[g]? = some (.cells cs e fz) := by
  unfold World.var? at h
  rw [hg] at h
  simp only [Option.bind_some] at h
  split at h
  · rename_i c e f hb
    cases h
    exact ⟨_, _, hb⟩
  · cases h
theorem block_cell {h : Heap} {g : Nat} {cs : Array Value} {e : TypeId} {fz : Nat × Nat} (hb : h[g]? = some (.cells cs e fz)) (i : Nat) : hcell h ⟨g, i, none⟩ = cs[i]? := by
  unfold hcell
  simp only [hb]
  rfl
theorem strs_of_trod {H : Type} {enc : TypeId × Value → H} {P : Program} {w : World} {base : Nat} {sp : Nat → Bool} {held : Bool} {fuel : Nat} {t e : TypeId} {n : Nat} {cs : List Value} {zs : List (List UInt8)} {p : List MemPlace}
    (ht : P.underlying t = some (.array n e)) (he : P.underlying e = some .string) (hce : P.cellsOf e = 1) (hct : P.cellsOf t = n)
    (h : DataW.trod enc P w base sp held fuel t cs = some (.agg (zs.map fun z => .lit (.string z)), p)) : cs = strs zs := by
  obtain ⟨xs, m, _, hx, hl, hxl, hall⟩ := DataW.trod_array ht h
  have hxs : xs.map (·.1) = zs.map fun z => (DataW.lit (.string z) : DataW H) := by
    have := congrArg Prod.fst hx
    simpa using this.symm
  have hzl : zs.length = n := by
    have := congrArg List.length hxs
    simp at this
    omega
  apply List.ext_getElem?
  intro i
  by_cases hi : i < n
  · have h0 := hall i hi
    rw [hce, Nat.mul_one] at h0
    obtain ⟨b, hb⟩ : ∃ b, xs[i]? = some b := ⟨_, List.getElem?_eq_getElem (by omega)⟩
    rw [hb] at h0
    obtain ⟨s, hc, rfl, _⟩ := DataW.trod_string he h0
    have h1 : cs[i]? = some (.string s) := by
      have := congrArg (·[0]?) hc
      simpa [List.getElem?_take, List.getElem?_drop] using this
    have h2 : (xs.map (·.1))[i]? = some (DataW.lit (.string s.data.toList) : DataW H) := by simp [hb]
    rw [hxs] at h2
    simp only [List.getElem?_map, Option.map_eq_some_iff, DataW.lit.injEq, Lit.string.injEq] at h2
    obtain ⟨z', hz', rfl⟩ := h2
    rw [h1]
    unfold strs
    rw [List.getElem?_map, hz']
    rfl
  · rw [List.getElem?_eq_none (by omega), List.getElem?_eq_none (by unfold strs; simp; omega)]

/-- what the listed variables hold, and the one that is left open -/
theorem glob_of {W : World} {l : List (String × DataW Unit)} (hL : laidMet Tryz.prog l W) (hS : W.ShapedOpen Tryz.prog)
    (m1 : ("internal/strconv.uint64pow10", YtgebeiaffjpcaaaGreatDoor.Rows.laid_internal_strconv_uint64pow10) ∈ l) (m2 : ("strconv.ErrRange", YtgebeiaffjpcaaaGreatDoor.Rows.laid_strconv_ErrRange) ∈ l) (m3 : ("strconv.ErrSyntax", YtgebeiaffjpcaaaGreatDoor.Rows.laid_strconv_ErrSyntax) ∈ l)
    (m4 : ("ferrule/explain.steps", YtgebeiaffjpcaaaGreatDoor.Rows.laid_ferrule_explain_steps) ∈ l) (m5 : ("math/bits.deBruijn64tab", YtgebeiaffjpcaaaGreatDoor.Rows.laid_math_bits_deBruijn64tab) ∈ l) : Glob W.heap := by
  obtain ⟨ps, hv, _, _⟩ := hL
  have g1 : Tryz.prog.globalNamed "internal/strconv.uint64pow10" = some 2 := by kernel_rfl
  have g2 : Tryz.prog.globalNamed "strconv.ErrRange" = some 4 := by kernel_rfl
  have g3 : Tryz.prog.globalNamed "strconv.ErrSyntax" = some 3 := by kernel_rfl
  have g4 : Tryz.prog.globalNamed "ferrule/explain.steps" = some 0 := by kernel_rfl
  have g5 : Tryz.prog.globalNamed "math/bits.deBruijn64tab" = some 10 := by kernel_rfl
  have err : ∀ {n : String} {g : Nat} {nm : String} {d : DataW Unit}, Tryz.prog.globalNamed n = some g → (∀ t, (Tryz.prog.globals[g]?).map (·.type) = some t → ∃ ms, Tryz.prog.underlying t = some (.interface ms)) → VarR Tryz.prog W n (.iface nm d) → ∃ t p, hcell W.heap ⟨g, 0, none⟩ = some (.iface t p) := by
    rintro n g nm d hg ht ⟨g', t, cs, fuel, p, h1, h2, h3, h4⟩
    obtain rfl := Option.some.inj (hg.symm.trans h1)
    obtain ⟨ms, hms⟩ := ht t h2
    obtain ⟨_, u, v, hcs, _⟩ := iface_of_trod hms h4
    obtain ⟨e, fz, hb⟩ := var_block hg h3
    refine ⟨u, v, ?_⟩
    rw [block_cell hb, ← Array.getElem?_toList, hcs]
    rfl
  refine ⟨?_, ?_, ?_, ?_, ?_, ?_⟩
  · obtain ⟨g', t, cs, fuel, p, h1, h2, h3, h4⟩ := laid_var hv _ _ m5
    obtain ⟨e, fz, hb⟩ := var_block g5 h3
    have := (Array.getElem?_eq_some_iff.1 hb).1
    omega
  · obtain ⟨cs, hb, hsz, hok⟩ := hS.1 1 #[.int .i64 0] 3 (of_decide_eq_true (by kernel_rfl)) (by kernel_rfl)
    obtain ⟨ts, hts, _, hall⟩ := hok (by kernel_rfl)
    obtain rfl := Option.some.inj ((show Tryz.prog.cellTypes Tryz.prog.depth 3 = some [3] by kernel_rfl).symm.trans hts)
    have h1 : cs.size = 1 := hsz
    obtain ⟨v, hv0⟩ : ∃ v, cs[0]? = some v := ⟨_, Array.getElem?_eq_getElem (by omega)⟩
    obtain ⟨u, hu, hc⟩ := hall 0 v hv0
    obtain rfl := Option.some.inj hu
    unfold Cell.ok at hc
    rw [Tryz.underlying3] at hc
    cases v <;> simp only at hc
    rename_i k n
    obtain ⟨rfl, _⟩ := hc
    exact ⟨n, by rw [block_cell hb]; exact hv0⟩
  · obtain ⟨g', t, cs, fuel, p, h1, h2, h3, h4⟩ := laid_var hv _ _ m1
    obtain rfl := Option.some.inj (g1.symm.trans h1)
    obtain rfl := Option.some.inj ((show (Tryz.prog.globals[2]?).map (·.type) = some 239 by kernel_rfl).symm.trans h2)
    have hc := Lib.cells_of_tab (k := .u64) (zs := Lib.pow10Tab) Tryz.underlying239 Tryz.underlying96 (by kernel_rfl) (by kernel_rfl) (cs := cs.toList) h4
    obtain ⟨e, fz, hb⟩ := var_block g1 h3
    refine ⟨e, fz, ?_⟩
    rw [hb, ← hc]
  · exact err g3 (fun t ht => by obtain rfl := Option.some.inj ((show (Tryz.prog.globals[3]?).map (·.type) = some 63 by kernel_rfl).symm.trans ht); exact ⟨_, Tryz.underlying63⟩) (laid_var hv _ _ m3)
  · exact err g2 (fun t ht => by obtain rfl := Option.some.inj ((show (Tryz.prog.globals[4]?).map (·.type) = some 63 by kernel_rfl).symm.trans ht); exact ⟨_, Tryz.underlying63⟩) (laid_var hv _ _ m2)
  · obtain ⟨g', t, cs, fuel, p, h1, h2, h3, h4⟩ := laid_var hv _ _ m4
    obtain rfl := Option.some.inj (g4.symm.trans h1)
    obtain rfl := Option.some.inj ((show (Tryz.prog.globals[0]?).map (·.type) = some 66 by kernel_rfl).symm.trans h2)
    have hc := strs_of_trod (zs := [[116, 104, 101, 111, 114, 121], [102, 111, 108, 108, 111, 119], [103, 111, 110, 101]]) Tryz.underlying66 Tryz.underlying9 (by kernel_rfl) (by kernel_rfl) (cs := cs.toList) h4
    obtain ⟨e, fz, hb⟩ := var_block g4 h3
    have hi : ∀ i, hcell W.heap ⟨0, i, none⟩ = (strs [[116, 104, 101, 111, 114, 121], [102, 111, 108, 108, 111, 119], [103, 111, 110, 101]])[i]? := fun i => by rw [block_cell hb, ← Array.getElem?_toList, hc]
    exact ⟨hi 0, hi 1, hi 2⟩
end Xe
