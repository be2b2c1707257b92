/- Package atoms (of another seat: A1 A2 A3 in part). -/
import Derived.Test.YtgebeiaffjpcaaaGreatDoorE55
import Derived.Test.YtgebeiaffjpcaaaGreatDoorGG
namespace Xe
open Go Go.Proofs
set_option maxRecDepth 16000
set_option maxHeartbeats 4000000
/-- how many variables a package of so many ranks has -/
def wid (z : Nat) : Nat := 1 + z + (z - 1)
def wsum : List Nat → Nat
  | [] => 0
  | z :: r => wid z + wsum r
/-- where each package's variables begin -/
def begs : List Nat → Nat → List Int
  | [], _ => []
  | z :: r, s => (s : Int) :: begs r (s + wid z)
theorem wsum_snoc {l : List Nat} {z : Nat} : wsum (l ++ [z]) = wsum l + wid z := by
  induction l with
  | nil => simp [wsum]
  | cons a l ih => simp only [List.cons_append, wsum, ih]; omega
theorem wsum_take {zs : List Nat} {p z : Nat} (h : zs[p]? = some z) : wsum (zs.take (p + 1)) = wsum (zs.take p) + wid z := by
  rw [List.take_add_one, h]; exact wsum_snoc
theorem wsum_take_le {zs : List Nat} {p : Nat} : wsum (zs.take p) ≤ wsum zs := by
  induction zs generalizing p with
  | nil => simp
  | cons a l ih =>
    cases p with
    | zero => simp [wsum]
    | succ p => simp only [List.take_succ_cons, wsum]; have := ih (p := p); omega

theorem begs_snoc {l : List Nat} {s z : Nat} : begs (l ++ [z]) s = begs l s ++ [((s + wsum l : Nat) : Int)] := by
  induction l generalizing s with
  | nil => rfl
  | cons a l ih => simp only [List.cons_append, begs, wsum, ih, Nat.add_assoc]
theorem begs_len {l : List Nat} {s : Nat} : (begs l s).length = l.length := by
  induction l generalizing s with
  | nil => rfl
  | cons a l ih => simp [begs, ih]
theorem begs_at {zs : List Nat} {s p : Nat} (h : p < zs.length) : (begs zs s)[p]? = some ((s + wsum (zs.take p) : Nat) : Int) := by
  induction zs generalizing s p with
  | nil => simp at h
  | cons a l ih =>
    cases p with
    | zero => simp [begs, wsum]
    | succ p =>
      simp only [List.length_cons] at h
      simp only [begs, List.getElem?_cons_succ, List.take_succ_cons, wsum]
      rw [ih (by omega), Nat.add_assoc]

/-- few packages, of few ranks -/
structure Few (zs : List Nat) : Prop where
  len : zs.length ≤ 4
  le : ∀ z ∈ zs, z ≤ 4
theorem wsum_le {zs : List Nat} (h : ∀ z ∈ zs, z ≤ 4) : wsum zs ≤ zs.length * 8 := by
  induction zs with
  | nil => simp [wsum]
  | cons a l ih =>
    have h1 := h a List.mem_cons_self
    have h2 := ih fun z hz => h z (List.mem_cons_of_mem _ hz)
    simp only [wsum, List.length_cons, wid]; omega
theorem Few.sum {zs : List Nat} (F : Few zs) : wsum zs ≤ 32 := by have h1 := wsum_le F.le; have h2 := F.len; omega

/-- an atom -/
structure At where
  k : Nat
  p : Nat
  i : Nat
/-- a package's atom, by its number -/
def atOf (z p u : Nat) : At := if u = 0 then ⟨0, p, 0⟩ else if u - 1 < z - 1 then ⟨1, p, u - 1⟩ else ⟨2, p, u - 1 - (z - 1)⟩
/-- a table's atom, by its variable less one -/
def atN : List Nat → Nat → Nat → At
  | [], _, _ => ⟨0, 0, 0⟩
  | z :: r, p, u => if u < wid z then atOf z p u else atN r (p + 1) (u - wid z)
theorem atN_eq {zs : List Nat} {p q z u : Nat} (h : zs[p]? = some z) (h1 : wsum (zs.take p) ≤ u) (h2 : u < wsum (zs.take p) + wid z) : atN zs q u = atOf z (q + p) (u - wsum (zs.take p)) := by
  induction zs generalizing p q u with
  | nil => simp at h
  | cons a l ih =>
    cases p with
    | zero =>
      simp only [List.getElem?_cons_zero, Option.some.injEq] at h
      subst h
      simp only [List.take_zero, wsum] at h1 h2 ⊢
      unfold atN
      rw [if_pos (by omega)]; rfl
    | succ p =>
      simp only [List.getElem?_cons_succ] at h
      simp only [List.take_succ_cons, wsum] at h1 h2 ⊢
      unfold atN
      rw [if_neg (by omega), ih h (by omega) (by omega)]
      congr 1 <;> omega

def nts (zs : List Nat) : List Int := zs.map fun z : Nat => (z : Int)
theorem nts_len {zs : List Nat} : (nts zs).length = zs.length := by simp [nts]
theorem nts_at {zs : List Nat} {p z : Nat} (h : zs[p]? = some z) : (nts zs)[p]? = some (z : Int) := by simp [nts, h]
/-- a table, in memory; its blocks are some of T -/
structure TabM (h : Heap) (T : Nat → Prop) (tb : Nat) (zs : List Nat) : Prop where
  ex : ∃ A1 c1 A2 c2, ListB h tb [.slice A1 zs.length c1, .slice A2 zs.length c2, .int .i64 (wsum zs : Nat)] ∧ RowAt h A1 (ints (begs zs 1)) ∧ RowAt h A2 (ints (nts zs)) ∧ T tb ∧ (∀ y, blk A1 y → T y) ∧ ∀ y, blk A2 y → T y
theorem TabM.fr {h h' : Heap} {T : Nat → Prop} {tb : Nat} {zs : List Nat} (M : TabM h T tb zs) {S : Nat → Prop} (f : Fr S h h') (hs : ∀ y, T y → ¬ S y) : TabM h' T tb zs := by
  obtain ⟨A1, c1, A2, c2, B, R1, R2, t0, t1, t2⟩ := M.ex
  exact ⟨A1, c1, A2, c2, B.fr f (hs _ t0), R1.fr f fun y hy => hs y (t1 y hy), R2.fr f fun y hy => hs y (t2 y hy), t0, t1, t2⟩
theorem TabM.fr0 {h h' : Heap} {T : Nat → Prop} {tb : Nat} {zs : List Nat} (M : TabM h T tb zs) (f : Fr (fun _ => False) h h') : TabM h' T tb zs := M.fr f fun _ _ h => h

theorem width_ok {h : Heap} {z : Nat} (hz : z ≤ 16777216) : CallsH Tryz.prog 103 [.int .i64 z] h fun r h' => r = .int .i64 (wid z : Nat) ∧ h' = h := by
  have hm : max ((z : Int) - 1) 0 = ((z - 1 : Nat) : Int) := by omega
  have e : 1 + (z : Int) + ((z - 1 : Nat) : Int) = (wid z : Nat) := by unfold wid; omega
  refine calls_of 9 [.tmp 2] Go.Proofs.Tryz.func103 rfl rfl rfl ?_
  simp -implicitDefEqProofs (disch := omega) [go_sem, hm, e]

/-- what stands in the loop that makes a table -/
structure TnJ (h0 : Heap) (A : Option Addr) (c tb : Nat) (zs : List Nat) (ρ : Env) (h : Heap) : Prop where
  r13 : ρ 13 = .slice A zs.length c
  r14 : ρ 14 = .int .i64 zs.length
  r3 : ρ 3 = .pointer (some ⟨tb, 0, none⟩)
  fr : Fr (fun _ => False) h0 h
  htb : h0.size ≤ tb
  ex : ∃ (i : Nat) (B : Option Addr) (bc : Nat) (S : Option Addr) (sc : Nat), ρ 15 = .int .i64 i ∧ i ≤ zs.length ∧ ListB h tb [.slice B i bc, .slice S zs.length sc, .int .i64 (wsum (zs.take i) : Nat)] ∧ SlAt h B bc (ints (begs (zs.take i) 1)) ∧ RowAt h S (ints (nts zs)) ∧
    (∀ y, blk B y → h0.size ≤ y ∧ y ≠ tb) ∧ ∀ y, blk S y → h0.size ≤ y ∧ y ≠ tb ∧ ¬ blk B y ∧ y < h.size
theorem anew_ok {h : Heap} {A : Option Addr} {c : Nat} {zs : List Nat} (F : Few zs) (R : RowAt h A (ints (nts zs))) :
    CallsH Tryz.prog 62 [.slice A zs.length c] h fun r h' => Fr (fun _ => False) h h' ∧ ∃ tb, r = .pointer (some ⟨tb, 0, none⟩) ∧ TabM h' (fun y => h.size ≤ y ∧ y < h'.size) tb zs := by
  have hl := F.len
  refine calls_of 60 [.tmp 2] Go.Proofs.Tryz.func62 rfl rfl rfl ?_
  simp -implicitDefEqProofs (disch := omega) [go_sem]
  refine useC (clone_ok R (by rw [ints_len, nts_len]) ints_one (by omega)) ?_
  rintro _ h1 ⟨S, sc, rfl, SS, ownS, f1⟩
  simp -implicitDefEqProofs (disch := omega) [go_sem]
  obtain ⟨h2, e2⟩ : ∃ h2, h2 = h1.push (.cells #[.slice none 0 0, .slice S zs.length sc, .int .i64 0] 166) := ⟨_, rfl⟩
  have f2 : Fr (fun _ => False) h1 h2 := by rw [e2]; exact (Fr.refl _ _).push
  have V2 : ListB h2 h1.size [.slice none 0 0, .slice S zs.length sc, .int .i64 0] := by rw [e2]; exact ListB.new
  rw [← e2]
  have z1 := f1.size
  refine loopK (TnJ h A c h1.size zs) (fun ρ _ => zs.length - (intOf (ρ 15)).toNat) (by kernel_rfl) ?_ ?_
  · exact ⟨rfl, rfl, rfl, f1.trans f2, z1, 0, none, 0, S, sc, rfl, Nat.zero_le _, V2, SlAt.nil _, SS.row.fr0 f2, fun y ⟨_, h, _⟩ => (nomatch h), fun y hy => ⟨ownS y hy, by have := SS.blk_lt hy; omega, fun ⟨_, h, _⟩ => (nomatch h), by have := SS.blk_lt hy; have := f2.size; omega⟩⟩
  · clear V2 e2 f2 SS ownS
    clear h2
    rintro ρ h2 ⟨r13, r14, r3, f02, htb, i, B, bc, S, sc, r15, hi, V, SB, RS, hB, hS⟩
    by_cases hin : i < zs.length
    · obtain ⟨z, hz⟩ : ∃ z, zs[i]? = some z := ⟨_, List.getElem?_eq_getElem hin⟩
      have hz4 := F.le z (List.mem_of_getElem? hz)
      obtain ⟨bk, off, hA, hc⟩ := (R.fr0 f02).get (by rw [ints_len, nts_len]; omega)
      have c0 := hc _ _ (ints_at (nts_at hz))
      have hw : wsum (zs.take i) ≤ 32 := Nat.le_trans wsum_take_le F.sum
      have hwz : wid z ≤ 8 := by unfold wid; omega
      have hww := wsum_take hz
      obtain ⟨u, hu⟩ : ∃ u, u = wsum (zs.take i) := ⟨_, rfl⟩
      rw [← hu] at V hw hww
      have b0 := V.at' 0 _ rfl
      have b2 := V.at' 2 _ rfl
      subst hA
      simp -implicitDefEqProofs (disch := omega) [go_sem, r3, r13, r14, r15, c0]
      refine drawC [(0, 0), (1, 0), (2, 0), (3, 0), (4, 0), (5, 0), (6, 0), (7, 0), (9, 0), (10, 0), (11, 0), (12, 2), (13, 0), (8, 3), (14, 0), (15, 0)] (fun h' => hcell h' ⟨h1.size, 2, none⟩ = some (.int .i64 u)) b2 ?_
      simp -implicitDefEqProofs (disch := omega) [go_sem, r3, r13, r14, r15]
      refine float2g (.int .i64 u) (by rfl) (fun h' hC => by simp -implicitDefEqProofs (disch := omega) [go_sem, r3, hC]) ?_
      simp -implicitDefEqProofs (disch := omega) [go_sem, r3, r13, r14, r15]
      refine useC (width_ok (z := z) (by omega)) ?_
      rintro _ h3 ⟨rfl, rfl⟩
      refine ⟨b2, ?_⟩
      simp -implicitDefEqProofs (disch := omega) [go_sem, r3, r13, r14, r15]
      refine drawC [(0, 0), (1, 0), (2, 0), (3, 0), (4, 2), (5, 0), (6, 0), (7, 0), (8, 1), (9, 0), (10, 3), (11, 3), (12, 0), (13, 0), (14, 4)] (fun h' => hcell h' ⟨h1.size, 0, none⟩ = some (.slice B i bc)) b0 ?_
      simp -implicitDefEqProofs (disch := omega) [go_sem, r3, r13, r14, r15, b2]
      refine float2 (.slice B i bc) (fun h' hC => by simp -implicitDefEqProofs (disch := omega) [go_sem, r3, hC]) ?_
      simp -implicitDefEqProofs (disch := omega) [go_sem, r3, r13, r14, r15, b2]
      refine build1 rfl rfl ?_
      have f4 : Fr (fun _ => False) h3 (h3.push (.cells #[.int .i64 ((u : Int) + 1)] 3)) := (Fr.refl _ _).push
      have V4 := V.fr f4 fun h => h
      have SB4 := SB.fr f4 fun _ _ h => h
      have RS4 := RS.fr0 f4
      have f04 := f02.trans f4
      have z4 := f4.size
      obtain ⟨h4, e4⟩ : ∃ h4, h4 = h3.push (.cells #[.int .i64 ((u : Int) + 1)] 3) := ⟨_, rfl⟩
      have W4 : SlAt h4 (some ⟨h3.size, 0, none⟩) 1 [.int .i64 ((u : Int) + 1)] := by rw [e4]; exact SlAt.new (vs := [.int .i64 ((u : Int) + 1)])
      rw [← e4] at f4 V4 SB4 RS4 f04 z4
      rw [← e4]
      refine ⟨V4.at' 0 _ rfl, ?_⟩
      simp -implicitDefEqProofs (disch := omega) [go_sem, r3, r13, r14, r15]
      refine appendB (vs := ints (begs (zs.take i) 1)) (ws := [.int .i64 ((u : Int) + 1)]) SB4 (by rw [ints_len, begs_len, List.length_take]; omega) W4.row rfl (by simp [Value.oneCell']) (by omega) (by omega) ?_
      intro B5 bc5 h5 S5 f5 hB5
      have nB : ¬ blk B h1.size := fun h => (hB _ h).2 rfl
      have V5 := V4.fr f5 nB
      have RS5 : RowAt h5 S (ints (nts zs)) := RS4.fr f5 fun y hy => (hS y hy).2.2.1
      have b05 := V5.at' 0 _ rfl
      have b25 := V5.at' 2 _ rfl
      have fz5 := V5.fz
      refine ⟨b05, ?_⟩
      simp -implicitDefEqProofs (disch := omega) [go_sem, r3, r13, r14, r15, b05, fz5]
      obtain ⟨h6, e6⟩ : ∃ h6, h6 = hset h5 ⟨h1.size, 0, none⟩ (.slice B5 (i + 1) bc5) := ⟨_, rfl⟩
      have V6 : ListB h6 h1.size [.slice B5 (i + 1) bc5, .slice S zs.length sc, .int .i64 u] := by rw [e6]; exact V5.set (i := 0) _ (by simp)
      have f56 : Fr (fun y => y = h1.size) h5 h6 := by rw [e6]; exact (Fr.refl _ _).set rfl
      rw [← e6]
      have b26 := V6.at' 2 _ rfl
      refine drawC [(0, 0), (1, 0), (2, 0), (3, 2), (4, 0), (5, 3), (6, 0), (7, 0), (8, 0), (9, 4)] (fun h' => hcell h' ⟨h1.size, 2, none⟩ = some (.int .i64 u)) b26 ?_
      simp -implicitDefEqProofs (disch := omega) [go_sem, r3, r13, r14, r15]
      refine float2 (.int .i64 u) (fun h' hC => by simp -implicitDefEqProofs (disch := omega) [go_sem, r3, hC]) ?_
      simp -implicitDefEqProofs (disch := omega) [go_sem, r3, r13, r14, r15]
      refine useC (width_ok (z := z) (by omega)) ?_
      rintro _ h7 ⟨rfl, rfl⟩
      refine ⟨b26, ?_⟩
      have fz6 := V6.fz
      have eu : (u : Int) + (wid z : Nat) = (wsum (zs.take (i + 1)) : Nat) := by rw [hww]; push_cast; rfl
      simp -implicitDefEqProofs (disch := omega) [go_sem, r3, r13, r14, r15, b26, fz6, eu]
      obtain ⟨h8, e8⟩ : ∃ h8, h8 = hset h7 ⟨h1.size, 2, none⟩ (.int .i64 (wsum (zs.take (i + 1)) : Nat)) := ⟨_, rfl⟩
      have V8 : ListB h8 h1.size [.slice B5 (i + 1) bc5, .slice S zs.length sc, .int .i64 (wsum (zs.take (i + 1)) : Nat)] := by rw [e8]; exact V6.set (i := 2) _ (by simp)
      have f78 : Fr (fun y => y = h1.size) h7 h8 := by rw [e8]; exact (Fr.refl _ _).set rfl
      rw [← e8]
      have f58 := f56.trans f78
      have hB8 : ∀ y, blk B5 y → h.size ≤ y ∧ y ≠ h1.size := fun y hy => by
        rcases hB5 y hy with h | h
        · exact hB y h
        · have := V4.lt; have := f02.size; omega
      have hS8 : ∀ y, blk S y → h.size ≤ y ∧ y ≠ h1.size ∧ ¬ blk B5 y ∧ y < h8.size := fun y hy => by
        obtain ⟨g1, g2, g3, g4⟩ := hS y hy
        have := f5.size; have := f58.size
        exact ⟨g1, g2, fun h => (hB5 y h).elim g3 fun h => by omega, by omega⟩
      have f08 : Fr (fun _ => False) h h8 := (f04.trans' f5 fun y hy hb => by have := (hB y hb).1; omega).trans' f58 fun y hy hb => by omega
      have e9 : ints (begs (zs.take i) 1) ++ [.int .i64 ((u : Int) + 1)] = ints (begs (zs.take (i + 1)) 1) := by
        rw [List.take_add_one, hz]
        show _ = ints (begs (zs.take i ++ [z]) 1)
        rw [begs_snoc, ← hu]
        unfold ints
        rw [List.map_append]
        simp [Int.add_comm]
      rw [e9] at S5
      exact ⟨⟨r13, r14, r3, f08, htb, i + 1, B5, bc5, S, sc, rfl, by omega, V8, S5.fr f58 (fun y hy h => (hB8 y hy).2 h), RS5.fr f58 (fun y hy h => (hS y hy).2.1 h), hB8, hS8⟩, by omega⟩
    · obtain rfl : i = zs.length := by omega
      simp -implicitDefEqProofs (disch := omega) [go_sem, r3, r13, r14, r15]
      rw [List.take_length] at V SB
      exact ⟨f02, ⟨B, bc, S, sc, V, SB.row, RS, ⟨htb, V.lt⟩, fun y hy => ⟨(hB y hy).1, SB.blk_lt hy⟩, fun y hy => ⟨(hS y hy).1, (hS y hy).2.2.2⟩⟩⟩

section
variable {P : Program} {a b : Int} {t : Nat}
theorem cmp_ge : (some (compare a b) == some Ordering.gt || some (compare a b) == some Ordering.eq) = decide (b ≤ a) := by
  rw [cmp_gt, cmp_eq, Bool.eq_iff_iff]
  simp
  omega
theorem cmpV_fge (h1 : -9007199254740992 < a) (h2 : a < 9007199254740992) (h3 : -9007199254740992 < b) (h4 : b < 9007199254740992) :
    cmpV P .geq t (.float .f64 (Fx.enc a)) (.float .f64 (Fx.enc b)) = some (.bool (decide (b ≤ a))) := by
  simp only [cmpV, binV, if_true, ford h1 h2 h3 h4, cmp_ge]
end
section
variable {h : Heap} {T : Nat → Prop} {tb : Nat} {zs : List Nat}
theorem avars_ok (M : TabM h T tb zs) : CallsH Tryz.prog 64 [.pointer (some ⟨tb, 0, none⟩)] h fun r h' => r = .int .i64 (wsum zs : Nat) ∧ h' = h := by
  obtain ⟨A1, c1, A2, c2, B, R1, R2, _⟩ := M.ex
  have b2 := B.at' 2 _ rfl
  refine calls_of 7 [.tmp 2] Go.Proofs.Tryz.func64 rfl rfl rfl ?_
  simp -implicitDefEqProofs (disch := omega) [go_sem, b2]
theorem aends_ok (M : TabM h T tb zs) (F : Few zs) {p z : Nat} (hz : zs[p]? = some z) :
    CallsH Tryz.prog 106 [.pointer (some ⟨tb, 0, none⟩), .int .i64 p] h fun r h' => r = .complex .f64 (Fx.enc ((1 + wsum (zs.take p) : Nat) : Int)) (Fx.enc ((1 + wsum (zs.take p) + wid z : Nat) : Int)) ∧ h' = h := by
  obtain ⟨A1, c1, A2, c2, B, R1, R2, _⟩ := M.ex
  have hl := F.len
  have hp := (List.getElem?_eq_some_iff.1 hz).1
  have hz4 := F.le z (List.mem_of_getElem? hz)
  have hw : wsum (zs.take p) ≤ 32 := Nat.le_trans wsum_take_le F.sum
  have hwz : wid z ≤ 8 := by unfold wid; omega
  have b0 := B.at' 0 _ rfl
  have b1 := B.at' 1 _ rfl
  obtain ⟨bk, off, rfl, hc⟩ := R2.get (by rw [ints_len, nts_len]; omega)
  have c0 := hc _ _ (ints_at (nts_at hz))
  obtain ⟨bk1, off1, rfl, hc1⟩ := R1.get (by rw [ints_len, begs_len]; omega)
  have d0 := hc1 _ _ (ints_at (begs_at (s := 1) hp))
  obtain ⟨u, hu⟩ : ∃ u, u = 1 + wsum (zs.take p) := ⟨_, rfl⟩
  rw [← hu] at d0 ⊢
  refine calls_of 31 [.tmp 4] Go.Proofs.Tryz.func106 rfl rfl rfl ?_
  simp -implicitDefEqProofs (disch := omega) [go_sem]
  refine drawC [(0, 0), (1, 0), (2, 0), (3, 2), (4, 0), (5, 0), (6, 2), (7, 0), (8, 0), (9, 0), (10, 0), (11, 2), (12, 0), (13, 0), (14, 2), (15, 0), (16, 0), (17, 0), (18, 1), (19, 0), (20, 0), (21, 1), (22, 3), (23, 0), (24, 0), (25, 0), (26, 0)] (Eq h) rfl ?_
  simp -implicitDefEqProofs (disch := omega) [go_sem, b0, b1, c0, d0]
  refine useC (width_ok (z := z) (by omega)) ?_
  rintro _ h2 ⟨rfl, rfl⟩
  refine ⟨rfl, ?_⟩
  simp -implicitDefEqProofs (disch := omega) [go_sem, b0, b1, c0, d0]
/-- an atom, as a value -/
def atV (a : At) : Value := .agg #[.int .i64 a.k, .int .i64 a.p, .int .i64 a.i]
/-- what stands in the loop that looks for a variable's package -/
structure AtJ (h1 : Heap) (tb : Nat) (zs : List Nat) (u rb : Nat) (m : Nat) (ρ : Env) (h : Heap) : Prop where
  r0 : ρ 0 = .pointer (some ⟨tb, 0, none⟩)
  r1 : ρ 1 = .int .i64 ((u : Int) + 1)
  r4 : ρ 4 = .pointer (some ⟨rb, 0, none⟩)
  r7 : ρ 7 = .float .f64 (Fx.enc ((u : Int) + 1))
  he : h = h1
  ex : ∃ p : Nat, ρ 6 = .int .i64 p ∧ p + m = zs.length ∧ wsum (zs.take p) ≤ u
theorem aatom_ok (M : TabM h T tb zs) (F : Few zs) {u : Nat} (hu : u < wsum zs) :
    CallsH Tryz.prog 65 [.pointer (some ⟨tb, 0, none⟩), .int .i64 ((u : Int) + 1)] h fun r h' => r = .tuple #[atV (atN zs 0 u), .bool true] ∧ Fr (fun _ => False) h h' := by
  have hl := F.len
  have hsum := F.sum
  refine calls_of 69 [.cell 4 122, .tmp 5] Go.Proofs.Tryz.func65 rfl rfl rfl ?_
  simp -implicitDefEqProofs (disch := omega) [go_sem]
  obtain ⟨h1, e1⟩ : ∃ h1, h1 = h.push (.cells #[.int .i64 0, .int .i64 0, .int .i64 0] 122) := ⟨_, rfl⟩
  have f1 : Fr (fun _ => False) h h1 := by rw [e1]; exact (Fr.refl _ _).push
  have V1 : ListB h1 h.size [.int .i64 0, .int .i64 0, .int .i64 0] := by rw [e1]; exact ListB.new
  rw [← e1]
  have M1 := M.fr0 f1
  obtain ⟨A1, c1, A2, c2, B, R1, R2, _⟩ := M1.ex
  have b0 := B.at' 0 _ rfl
  have b1 := B.at' 1 _ rfl
  have b2 := B.at' 2 _ rfl
  refine scopeMG 0 (AtJ h1 tb zs u h.size) rfl rfl (by kernel_rfl) ?_ ?_
  · simp -implicitDefEqProofs (disch := omega) [go_sem, b2]
    exact ⟨zs.length, rfl, rfl, rfl, rfl, rfl, 0, rfl, by omega, by simp [wsum]⟩
  · rintro m ρ h2 ⟨r0, r1, r4, r7, rfl, p, r6, hpm, hle⟩
    have hp : p < zs.length := by
      refine Classical.byContradiction fun h => ?_
      have : zs.take p = zs := List.take_of_length_le (by omega)
      rw [this] at hle; omega
    obtain ⟨z, hz⟩ : ∃ z, zs[p]? = some z := ⟨_, List.getElem?_eq_getElem hp⟩
    have hz4 := F.le z (List.mem_of_getElem? hz)
    have hwz : wid z ≤ 8 := by unfold wid; omega
    have hww := wsum_take hz
    simp -implicitDefEqProofs (disch := omega) [go_sem, r0, r1, r4, r6, r7]
    refine useC (aends_ok M1 F hz) ?_
    rintro _ h3 ⟨rfl, rfl⟩
    by_cases hin : wsum (zs.take p) + wid z ≤ u
    · simp -implicitDefEqProofs (disch := omega) [go_sem, r0, r1, r4, r6, r7, cmpV_fge]
      exact ⟨m - 1, by omega, r0, r1, r4, r7, rfl, p + 1, rfl, by omega, by omega⟩
    · obtain ⟨w, hw⟩ : ∃ w, w = wsum (zs.take p) := ⟨_, rfl⟩
      have hat := atN_eq (q := 0) hz hle (by omega)
      rw [Nat.zero_add] at hat
      have hw32 : w ≤ 32 := by rw [hw]; exact Nat.le_trans wsum_take_le hsum
      have hbeg := begs_at (s := 1) hp
      rw [← hw] at hle hin hat hbeg
      obtain ⟨e, rfl⟩ : ∃ e, u = w + e := ⟨u - w, by omega⟩
      rw [Nat.add_sub_cancel_left] at hat
      rw [hat]
      obtain ⟨bk, off, rfl, hc⟩ := R2.get (by rw [ints_len, nts_len]; omega)
      have c0 := hc _ _ (ints_at (nts_at hz))
      obtain ⟨bk1, off1, rfl, hc1⟩ := R1.get (by rw [ints_len, begs_len]; omega)
      have d0 := hc1 _ _ (ints_at hbeg)
      have q0 := V1.at' 0 _ rfl
      have q1 := V1.at' 1 _ rfl
      have q2 := V1.at' 2 _ rfl
      have fz := V1.fz
      have hmx : max ((z : Int) - 1) 0 = ((z - 1 : Nat) : Int) := by omega
      have ek : (w : Int) + (e : Int) + 1 - (1 + (w : Int)) - 1 = (e : Int) - 1 := by omega
      simp -implicitDefEqProofs (disch := omega) [go_sem, r0, r1, r4, r6, r7, cmpV_fge]
      refine drawK [(0, 0), (1, 0), (2, 0), (3, 0), (4, 1), (5, 0), (6, 0), (7, 1), (8, 0), (9, 0), (10, 0), (11, 0), (12, 0), (13, 1), (14, 0), (15, 0), (16, 1), (17, 0), (18, 0), (19, 0), (20, 0)] ?_
      simp -implicitDefEqProofs (disch := omega) [go_sem, r0, r1, r4, r6, r7, b0, b1, c0, d0, hmx, ek]
      have f3 : ∀ {a b c : Value}, Fr (fun _ => False) h (hset (hset (hset h3 ⟨h.size, 0, none⟩ a) ⟨h.size, 1, none⟩ b) ⟨h.size, 2, none⟩ c) := ((f1.new (Nat.le_refl _)).new (Nat.le_refl _)).new (Nat.le_refl _)
      by_cases g0 : e = 0
      · subst g0
        simp -implicitDefEqProofs (disch := omega) [go_sem, r0, r1, r4, r6, r7, q0, q1, q2, fz]
        exact ⟨rfl, f3⟩
      · have g0' : ¬ (e : Int) - 1 < 0 := by omega
        by_cases g1 : e - 1 < z - 1
        · have g1' : (e : Int) - 1 < ((z - 1 : Nat) : Int) := by omega
          have ea : atOf z p e = ⟨1, p, e - 1⟩ := by unfold atOf; rw [if_neg g0, if_pos g1]
          have ei : (e : Int) - 1 = ((e - 1 : Nat) : Int) := by omega
          simp -implicitDefEqProofs (disch := omega) [go_sem, r0, r1, r4, r6, r7, q0, q1, q2, fz, g0', g1']
          rw [ea, ei]
          exact ⟨rfl, f3⟩
        · have g1' : ¬ (e : Int) - 1 < ((z - 1 : Nat) : Int) := by omega
          have ea : atOf z p e = ⟨2, p, e - 1 - (z - 1)⟩ := by unfold atOf; rw [if_neg g0, if_neg g1]
          have ei : (e : Int) - 1 - ((z - 1 : Nat) : Int) = ((e - 1 - (z - 1) : Nat) : Int) := by omega
          simp -implicitDefEqProofs (disch := omega) [go_sem, r0, r1, r4, r6, r7, q0, q1, q2, fz, g0', g1']
          rw [ea, ei]
          exact ⟨rfl, f3⟩
end
end Xe

/- What awake asks of the tables: an index of one package without releases. -/
namespace Xe
open Go Go.Proofs
set_option maxRecDepth 16000
set_option maxHeartbeats 4000000
def load1 (x : Option Value) : Option Value := x.map fun v => .agg #[v]
@[go_sem] theorem load1_some {v : Value} : load1 (some v) = some (.agg #[v]) := rfl
@[go_sem] theorem loadV_1a {h : Heap} {b o : Nat} : loadV (some (some 1)) (.pointer (some ⟨b, o, none⟩)) h = load1 (hcell h ⟨b, o, none⟩) := by
  simp only [loadV, loadN, add_n, Nat.add_zero, load1]
  cases hcell h ⟨b, o, none⟩ <;> rfl
/-- one package without releases, in a row -/
structure One (h : Heap) (b : Nat) (nm : List UInt8) : Prop where
  c0 : hcell h ⟨b, 0, none⟩ = some (S nm)
  c1 : hcell h ⟨b, 1, none⟩ = some (.slice none 0 0)
theorem One.fr {U : Nat → Prop} {h h' : Heap} {b : Nat} {nm : List UInt8} (O : One h b nm) (f : Fr U h h') (hu : ¬ U b) : One h' b nm := ⟨(f.cell (hcell_lt O.c0) hu).trans O.c0, (f.cell (hcell_lt O.c0) hu).trans O.c1⟩
theorem One.gr {h h' : Heap} {b : Nat} {nm : List UInt8} (O : One h b nm) (f : Gr h h') : One h' b nm := O.fr f id
def nA : List UInt8 := [97]
section
variable {h : Heap} {b : Nat}
theorem checkOne_ok (O : One h b nA) : CallsH Tryz.prog 40 [.agg #[.slice (some ⟨b, 0, none⟩) 1 1]] h fun r h' => r = .tuple #[.agg #[.int .i64 (-1), .int .i64 (-1), .int .i64 (-1)], .int .i64 0] ∧ Gr h h' := by
  refine calls_of 68 [.cell 2 29, .tmp 3] Go.Proofs.Tryz.func40 rfl rfl rfl ?_
  simp -implicitDefEqProofs (disch := first | omega | (simp only [push_size, hset_size]; done) | (simp only [push_size, hset_size]; omega)) [go_sem]
  obtain ⟨H1, hH1⟩ : ∃ H1, H1 = h.push (.cells #[.slice (some ⟨b, 0, none⟩) 1 1] 50) := ⟨_, rfl⟩
  have f1 : Gr h H1 := by rw [hH1]; exact (Fr.refl _ _).push
  have hs1 : H1.size = h.size + 1 := by rw [hH1, push_size]
  have x0 : hcell H1 ⟨h.size, 0, none⟩ = some (.slice (some ⟨b, 0, none⟩) 1 1) := by rw [hH1]; exact hcell_push_lit
  obtain ⟨H2, hH2⟩ : ∃ H2, H2 = H1.push (.cells #[.int .i64 0, .int .i64 0, .int .i64 0] 29) := ⟨_, rfl⟩
  have f2 : Gr H1 H2 := by rw [hH2]; exact (Fr.refl _ _).push
  have hs2 : H2.size = h.size + 2 := by rw [hH2, push_size, hs1]
  have L2 : ListB H2 H1.size [.int .i64 0, .int .i64 0, .int .i64 0] := by rw [hH2]; exact ListB.new
  rw [← hH1, ← hH2]
  clear hH2 hH1
  have f02 := f1.trans f2
  have x2 := (f2.cell (by omega) id).trans x0
  have O2 := O.gr f02
  refine scopeM 0 (fun ρ h' => ρ 2 = .pointer (some ⟨H1.size, 0, none⟩) ∧ ρ 3 = .int .i64 0 ∧ Gr h h' ∧ ListB h' H1.size [.int .i64 (-1), .int .i64 (-1), .int .i64 (-1)]) (fun _ _ => 0) rfl rfl (by kernel_rfl) ?_ ?_
  · have k0 := L2.at' 0 _ rfl
    have k1 := L2.at' 1 _ rfl
    have k2 := L2.at' 2 _ rfl
    have kz := L2.fz
    have hne : ¬ h.size = H1.size := by omega
    obtain ⟨H3, hH3⟩ : ∃ H3, H3 = hset (hset (hset H2 ⟨H1.size, 0, none⟩ (.int .i64 (-1))) ⟨H1.size, 1, none⟩ (.int .i64 (-1))) ⟨H1.size, 2, none⟩ (.int .i64 (-1)) := ⟨_, rfl⟩
    have L3 : ListB H3 H1.size [.int .i64 (-1), .int .i64 (-1), .int .i64 (-1)] := by rw [hH3]; exact ((L2.set (i := 0) _ (by simp)).set (i := 1) _ (by simp)).set (i := 2) _ (by simp)
    have f3 : Gr h H3 := by rw [hH3]; exact ((f02.newA (by omega)).newA (by omega)).newA (by omega)
    have hs3 : H3.size = h.size + 2 := by rw [hH3]; simp only [hset_size]; exact hs2
    have x3 : hcell H3 ⟨h.size, 0, none⟩ = some (.slice (some ⟨b, 0, none⟩) 1 1) := by rw [hH3]; simp [hcell_hset, hne, x2]
    simp -implicitDefEqProofs (disch := first | omega | (simp only [push_size, hset_size]; done) | (simp only [push_size, hset_size]; omega)) [go_sem, k0, k1, k2, kz, x2, hne]
    rw [← hH3]
    clear hH3
    obtain ⟨H4, hH4⟩ : ∃ H4, H4 = H3.push (.map #[] 0) := ⟨_, rfl⟩
    have q4 : Gr H3 H4 := by rw [hH4]; exact (Fr.refl _ _).push
    have hs4 : H4.size = h.size + 3 := by rw [hH4, push_size, hs3]
    have e32 : H2.size = H3.size := by omega
    have K4 : KeysAt H4 H2.size [] := by rw [hH4, e32]; exact .new
    rw [← hH4]
    clear hH4
    have f4 := f3.trans q4
    have L4 := L3.fr q4 id
    refine loopK (fun ρ h' => ρ 2 = .pointer (some ⟨H1.size, 0, none⟩) ∧ ρ 3 = .int .i64 0 ∧ ρ 4 = .map (some H2.size) ∧ ρ 18 = .slice (some ⟨b, 0, none⟩) 1 1 ∧ ρ 19 = .int .i64 1 ∧
      ((ρ 20 = .int .i64 0 ∧ h' = H4) ∨ (ρ 20 = .int .i64 1 ∧ Gr h h' ∧ ListB h' H1.size [.int .i64 0, .int .i64 (-1), .int .i64 (-1)]))) (fun ρ _ => 1 - (intOf (ρ 20)).toNat) (by kernel_rfl) ?_ ?_
    · refine ⟨?_, ?_, ?_, ?_, ?_, ?_⟩
      · rfl
      · rfl
      · rfl
      · rfl
      · rfl
      · exact .inl ⟨rfl, rfl⟩
    rintro ρ h' ⟨r2, r3, r4, r18, r19, ⟨r20, rfl⟩ | ⟨r20, g, L⟩⟩
    · have O4 := O.gr f4
      have c0 := O4.c0
      have c1 := O4.c1
      have k0 := L4.at' 0 _ rfl
      have k1 := L4.at' 1 _ rfl
      have k2 := L4.at' 2 _ rfl
      have kz := L4.fz
      have hne2 : ¬ h'.size = H1.size := by omega
      simp -implicitDefEqProofs (disch := first | omega | (simp only [push_size, hset_size]; done) | (simp only [push_size, hset_size]; omega)) [go_sem, r2, r3, r4, r18, r19, r20, c0, c1, k0, k1, k2, kz, hne2]
      obtain ⟨H5, hH5⟩ : ∃ H5, H5 = hset (h'.push (.cells #[S nA, .slice none 0 0] 47)) ⟨H1.size, 0, none⟩ (.int .i64 0) := ⟨_, rfl⟩
      have q5 : Gr h' (h'.push (.cells #[S nA, .slice none 0 0] 47)) := (Fr.refl _ _).push
      have f5' : Fr (fun y => y = H1.size) (h'.push (.cells #[S nA, .slice none 0 0] 47)) H5 := by rw [hH5]; refine Fr.setA (Fr.refl _ _) ?_; rfl
      have g5 : Gr h H5 := by rw [hH5]; exact (f4.trans q5).newA (by omega)
      have L5 : ListB H5 H1.size [.int .i64 0, .int .i64 (-1), .int .i64 (-1)] := by rw [hH5]; exact (L4.fr q5 id).set (i := 0) _ (by simp)
      have K5 : KeysAt H5 H2.size [] := (K4.fr q5 id).fr f5' (by omega)
      have P5 : One H5 h'.size nA := (One.fr (U := fun y => y = H1.size) ⟨hcell_push_lit, hcell_push_lit⟩ f5' hne2)
      have hs5 : H5.size = h.size + 4 := by rw [hH5, hset_size, push_size]; omega
      rw [← hH5]
      clear hH5
      obtain ⟨lv, hlv⟩ := KeysAt.look (P := Tryz.prog) (z := .int .i64 0) K5 ms91 (by kernel_rfl) nA
      have p0 := P5.c0
      have p1 := P5.c1
      simp -implicitDefEqProofs (disch := first | omega | (simp only [push_size, hset_size]; done) | (simp only [push_size, hset_size]; omega)) [go_sem, r2, r3, r4, r18, r19, r20, hlv, p0, p1]
      refine useC (nameGood_ok nA (by decide)) ?_
      rintro _ h6 ⟨rfl, f6⟩
      have L6 := L5.fr f6 id
      have K6 := K5.fr f6 id
      have P6 := P5.gr f6
      have hs6 := f6.size
      have p0 := P6.c0
      have p1 := P6.c1
      have hok : nameOk nA = true := by decide
      rw [hok]
      simp -implicitDefEqProofs (disch := first | omega | (simp only [push_size, hset_size]; done) | (simp only [push_size, hset_size]; omega)) [go_sem, r2, r3, r4, r18, r19, r20, p0, p1]
      refine KeysAt.put K6 ms91 nA (by simp) fun h7 K7 hs7 he7 => ?_
      have f7 : Fr (fun y => y = H2.size) h6 h7 := Fr.newB (Fr.refl _ _) hs7 he7 rfl
      have L7 := L6.fr f7 (by omega)
      have P7 := P6.fr f7 (by omega)
      have g7 : Gr h h7 := (g5.trans f6).trans' f7 fun y hy e => by omega
      have p0 := P7.c0
      have p1 := P7.c1
      simp -implicitDefEqProofs (disch := first | omega | (simp only [push_size, hset_size]; done) | (simp only [push_size, hset_size]; omega)) [go_sem, r2, r3, r4, r18, r19, r20, p0, p1]
      refine loopK (fun ρ h'' => ρ 2 = .pointer (some ⟨H1.size, 0, none⟩) ∧ ρ 3 = .int .i64 0 ∧ ρ 4 = .map (some H2.size) ∧ ρ 18 = .slice (some ⟨b, 0, none⟩) 1 1 ∧ ρ 19 = .int .i64 1 ∧ ρ 20 = .int .i64 0 ∧ ρ 47 = .int .i64 0 ∧ ρ 48 = .int .i64 0 ∧ h'' = h7) (fun _ _ => 0) (by kernel_rfl) ?_ ?_
      · refine ⟨?_, ?_, ?_, ?_, ?_, ?_, rfl, rfl, rfl⟩ <;> simp [put, r2, r3, r4, r18, r19, r20]
      rintro ρ' h'' ⟨t2, t3, t4, t18, t19, t20, t47, t48, rfl⟩
      have k1 := L7.at' 1 _ rfl
      have kz := L7.fz
      simp -implicitDefEqProofs (disch := first | omega | (simp only [push_size, hset_size]; done) | (simp only [push_size, hset_size]; omega)) [go_sem, t2, t3, t4, t18, t19, t20, t47, t48, k1, kz]
      rw [hset_same k1]
      exact ⟨⟨g7, L7⟩, by simp [r20, intOf]⟩
    · have k0 := L.at' 0 _ rfl
      have kz := L.fz
      simp -implicitDefEqProofs (disch := first | omega | (simp only [push_size, hset_size]; done) | (simp only [push_size, hset_size]; omega)) [go_sem, r2, r3, r4, r18, r19, r20, k0, kz]
      exact ⟨g.newA (by omega), L.set (i := 0) _ (by simp)⟩
  · rintro ρ h1 ⟨r2, r3, f, L⟩
    have k0 := L.at' 0 _ rfl
    have k1 := L.at' 1 _ rfl
    have k2 := L.at' 2 _ rfl
    have kz := L.fz
    simp -implicitDefEqProofs (disch := first | omega | (simp only [push_size, hset_size]; done) | (simp only [push_size, hset_size]; omega)) [go_sem, r2, r3, k0, k1, k2, kz]
    rw [hset_same k0, hset_same k1, hset_same k2]
    exact f
end
end Xe

/- What awake asks of the tables: the plain index of one package without releases. -/
namespace Xe
open Go Go.Proofs
set_option maxRecDepth 16000
set_option maxHeartbeats 4000000
theorem buildAg2 {e : TypeId} {bt : Nat} {z0 z1 a b : Value} {h : Heap} {k : Value → Heap → Prop} (hk : k (.slice (some ⟨h.size, 0, none⟩) 1 1) (h.push (.cells #[a, b] e))) :
    @buildSliceK (some (e, 2, bt, .agg #[z0, z1])) 1 [(0, .agg #[a, b])] ⟨h⟩ ⟨k⟩ := by
  refine ⟨by omega, #[a, b], ?_, hk⟩
  have hz : (zerosOf (Value.agg #[z0, z1]).cells (1 * 2)).size = 2 := by simp [zerosOf, Value.cells]
  obtain ⟨L, hL⟩ : ∃ L, zerosOf (Value.agg #[z0, z1]).cells (1 * 2) = ⟨L⟩ := ⟨_, rfl⟩
  rw [hL] at hz ⊢
  match L, hz with
  | [p, q], _ => simp [Instr.fill, Value.cells, List.zipIdx]
@[go_sem ↓ high] theorem fill_pack {x0 x1 : Value} {a : List UInt8} {A : Option Addr} {n c : Nat} : fillA [(0, 1), (1, 1)] [x0, x1] [(0, S a), (1, .slice A n c)] = some #[S a, .slice A n c] := rfl
section
variable {h : Heap} {A : Option Addr} {c : Nat} {f : Value}
/-! ### A stable sort of no element, or of one -/
theorem ins1P_ok (n : Nat) (hn : n ≤ 1) : CallsH Tryz.prog 157 [.slice A n c, .int .i64 0, .int .i64 n, f] h fun _ h' => h' = h := by
  refine calls_of 53 [] Go.Proofs.Tryz.func157 rfl rfl rfl ?_
  simp -implicitDefEqProofs (disch := first | omega | (simp only [push_size, hset_size]; done) | (simp only [push_size, hset_size]; omega)) [go_sem]
  refine loopK (fun ρ h' => ρ 2 = .int .i64 n ∧ ρ 8 = .int .i64 1 ∧ h' = h) (fun _ _ => 0) (by kernel_rfl) ⟨rfl, rfl, rfl⟩ ?_
  rintro ρ h1 ⟨r2, r8, rfl⟩
  have : ¬ (1 : Int) < (n : Int) := by omega
  simp -implicitDefEqProofs (disch := first | omega | (simp only [push_size, hset_size]; done) | (simp only [push_size, hset_size]; omega)) [go_sem, r2, r8, this]
theorem stable1P_ok (n : Nat) (hn : n ≤ 1) : CallsH Tryz.prog 118 [.slice A n c, .int .i64 n, f] h fun _ h' => h' = h := by
  have h20 : ¬ (20 : Int) ≤ (n : Int) := by omega
  have h20' : ¬ (20 : Int) < (n : Int) := by omega
  refine calls_of 63 [] Go.Proofs.Tryz.func118 rfl rfl rfl ?_
  simp -implicitDefEqProofs (disch := first | omega | (simp only [push_size, hset_size]; done) | (simp only [push_size, hset_size]; omega)) [go_sem]
  refine loopK (fun ρ h' => ρ 0 = .slice A n c ∧ ρ 1 = .int .i64 n ∧ ρ 2 = f ∧ ρ 6 = .int .i64 20 ∧ ρ 7 = .int .i64 0 ∧ ρ 8 = .int .i64 20 ∧ h' = h) (fun _ _ => 0) (by kernel_rfl) ⟨rfl, rfl, rfl, rfl, rfl, rfl, rfl⟩ ?_
  rintro ρ h1 ⟨r0, r1, r2, r6, r7, r8, rfl⟩
  simp -implicitDefEqProofs (disch := first | omega | (simp only [push_size, hset_size]; done) | (simp only [push_size, hset_size]; omega)) [go_sem, r0, r1, r2, r6, r7, r8, h20]
  refine useC (ins1P_ok n hn) ?_
  rintro _ h2 rfl
  simp -implicitDefEqProofs (disch := first | omega | (simp only [push_size, hset_size]; done) | (simp only [push_size, hset_size]; omega)) [go_sem, r0, r1, r2, r6, r7, r8]
  refine loopK (fun ρ h' => ρ 1 = .int .i64 n ∧ ρ 6 = .int .i64 20 ∧ h' = h2) (fun _ _ => 0) (by kernel_rfl) ⟨by simp [put, r1], by simp [put, r6], rfl⟩ ?_
  rintro ρ' h3 ⟨t1, t6, rfl⟩
  simp -implicitDefEqProofs (disch := first | omega | (simp only [push_size, hset_size]; done) | (simp only [push_size, hset_size]; omega)) [go_sem, t1, t6, h20']
theorem sort1P_ok (n : Nat) (hn : n ≤ 1) : CallsH Tryz.prog 75 [.slice A n c, f] h fun _ h' => h' = h := by
  refine calls_of 9 [] Go.Proofs.Tryz.func75 rfl rfl rfl ?_
  simp -implicitDefEqProofs (disch := first | omega | (simp only [push_size, hset_size]; done) | (simp only [push_size, hset_size]; omega)) [go_sem]
  refine useC (stable1P_ok n hn) ?_
  rintro _ h2 rfl
  simp -implicitDefEqProofs (disch := first | omega | (simp only [push_size, hset_size]; done) | (simp only [push_size, hset_size]; omega)) [go_sem]
theorem ins1R_ok (n : Nat) (hn : n ≤ 1) : CallsH Tryz.prog 151 [.slice A n c, .int .i64 0, .int .i64 n, f] h fun _ h' => h' = h := by
  refine calls_of 53 [] Go.Proofs.Tryz.func151 rfl rfl rfl ?_
  simp -implicitDefEqProofs (disch := first | omega | (simp only [push_size, hset_size]; done) | (simp only [push_size, hset_size]; omega)) [go_sem]
  refine loopK (fun ρ h' => ρ 2 = .int .i64 n ∧ ρ 8 = .int .i64 1 ∧ h' = h) (fun _ _ => 0) (by kernel_rfl) ⟨rfl, rfl, rfl⟩ ?_
  rintro ρ h1 ⟨r2, r8, rfl⟩
  have : ¬ (1 : Int) < (n : Int) := by omega
  simp -implicitDefEqProofs (disch := first | omega | (simp only [push_size, hset_size]; done) | (simp only [push_size, hset_size]; omega)) [go_sem, r2, r8, this]
theorem stable1R_ok (n : Nat) (hn : n ≤ 1) : CallsH Tryz.prog 115 [.slice A n c, .int .i64 n, f] h fun _ h' => h' = h := by
  have h20 : ¬ (20 : Int) ≤ (n : Int) := by omega
  have h20' : ¬ (20 : Int) < (n : Int) := by omega
  refine calls_of 63 [] Go.Proofs.Tryz.func115 rfl rfl rfl ?_
  simp -implicitDefEqProofs (disch := first | omega | (simp only [push_size, hset_size]; done) | (simp only [push_size, hset_size]; omega)) [go_sem]
  refine loopK (fun ρ h' => ρ 0 = .slice A n c ∧ ρ 1 = .int .i64 n ∧ ρ 2 = f ∧ ρ 6 = .int .i64 20 ∧ ρ 7 = .int .i64 0 ∧ ρ 8 = .int .i64 20 ∧ h' = h) (fun _ _ => 0) (by kernel_rfl) ⟨rfl, rfl, rfl, rfl, rfl, rfl, rfl⟩ ?_
  rintro ρ h1 ⟨r0, r1, r2, r6, r7, r8, rfl⟩
  simp -implicitDefEqProofs (disch := first | omega | (simp only [push_size, hset_size]; done) | (simp only [push_size, hset_size]; omega)) [go_sem, r0, r1, r2, r6, r7, r8, h20]
  refine useC (ins1R_ok n hn) ?_
  rintro _ h2 rfl
  simp -implicitDefEqProofs (disch := first | omega | (simp only [push_size, hset_size]; done) | (simp only [push_size, hset_size]; omega)) [go_sem, r0, r1, r2, r6, r7, r8]
  refine loopK (fun ρ h' => ρ 1 = .int .i64 n ∧ ρ 6 = .int .i64 20 ∧ h' = h2) (fun _ _ => 0) (by kernel_rfl) ⟨by simp [put, r1], by simp [put, r6], rfl⟩ ?_
  rintro ρ' h3 ⟨t1, t6, rfl⟩
  simp -implicitDefEqProofs (disch := first | omega | (simp only [push_size, hset_size]; done) | (simp only [push_size, hset_size]; omega)) [go_sem, t1, t6, h20']
theorem sort1R_ok (n : Nat) (hn : n ≤ 1) : CallsH Tryz.prog 72 [.slice A n c, f] h fun _ h' => h' = h := by
  refine calls_of 9 [] Go.Proofs.Tryz.func72 rfl rfl rfl ?_
  simp -implicitDefEqProofs (disch := first | omega | (simp only [push_size, hset_size]; done) | (simp only [push_size, hset_size]; omega)) [go_sem]
  refine useC (stable1R_ok n hn) ?_
  rintro _ h2 rfl
  simp -implicitDefEqProofs (disch := first | omega | (simp only [push_size, hset_size]; done) | (simp only [push_size, hset_size]; omega)) [go_sem]
variable {b : Nat}
theorem plainOne_ok (O : One h b nA) : CallsH Tryz.prog 41 [.agg #[.slice (some ⟨b, 0, none⟩) 1 1]] h fun r h' => (∃ X x, r = .agg #[.slice X 1 x] ∧ SlAt h' X (x * 2) [S nA, .slice none 0 0]) ∧ Gr h h' := by
  refine calls_of 53 [.cell 2 50] Go.Proofs.Tryz.func41 rfl rfl rfl ?_
  simp -implicitDefEqProofs (disch := first | omega | (simp only [push_size, hset_size]; done) | (simp only [push_size, hset_size]; omega)) [go_sem]
  obtain ⟨H1, hH1⟩ : ∃ H1, H1 = h.push (.cells #[.slice (some ⟨b, 0, none⟩) 1 1] 50) := ⟨_, rfl⟩
  have f1 : Gr h H1 := by rw [hH1]; exact (Fr.refl _ _).push
  have hs1 : H1.size = h.size + 1 := by rw [hH1, push_size]
  obtain ⟨H2, hH2⟩ : ∃ H2, H2 = H1.push (.cells #[.slice none 0 0] 50) := ⟨_, rfl⟩
  have f2 : Gr H1 H2 := by rw [hH2]; exact (Fr.refl _ _).push
  have hs2 : H2.size = h.size + 2 := by rw [hH2, push_size, hs1]
  have L2 : ListB H2 H1.size [.slice none 0 0] := by rw [hH2]; exact ListB.new
  rw [← hH1, ← hH2]
  clear hH1 hH2
  have f02 := f1.trans f2
  refine loopK (fun ρ h' => ρ 2 = .pointer (some ⟨H1.size, 0, none⟩) ∧ ρ 10 = .slice (some ⟨b, 0, none⟩) 1 1 ∧ ρ 11 = .int .i64 1 ∧
    ((ρ 12 = .int .i64 0 ∧ ρ 3 = .slice none 0 0 ∧ h' = H2) ∨ (ρ 12 = .int .i64 1 ∧ ∃ X x, ρ 3 = .slice X 1 x ∧ SlAt h' X (x * 2) [S nA, .slice none 0 0] ∧ (∀ y, blk X y → h.size + 2 ≤ y) ∧ Gr h h' ∧ ListB h' H1.size [.slice none 0 0]))) (fun ρ _ => 1 - (intOf (ρ 12)).toNat) (by kernel_rfl) ?_ ?_
  · exact ⟨rfl, rfl, rfl, .inl ⟨rfl, rfl, rfl⟩⟩
  rintro ρ h' ⟨r2, r10, r11, ⟨r12, r3, rfl⟩ | ⟨r12, X, x, r3, SX, own, g, L⟩⟩
  · have O2 := O.gr f02
    have c0 := O2.c0
    have c1 := O2.c1
    simp -implicitDefEqProofs (disch := first | omega | (simp only [push_size, hset_size]; done) | (simp only [push_size, hset_size]; omega)) [go_sem, r2, r3, r10, r11, r12, c0, c1]
    obtain ⟨H3, hH3⟩ : ∃ H3, H3 = h'.push (.cells #[S nA, .slice none 0 0] 47) := ⟨_, rfl⟩
    have q3 : Gr h' H3 := by rw [hH3]; exact (Fr.refl _ _).push
    have hs3 : H3.size = h.size + 3 := by rw [hH3, push_size, hs2]
    have P3 : One H3 h'.size nA := by rw [hH3]; exact ⟨hcell_push_lit, hcell_push_lit⟩
    rw [← hH3]
    clear hH3
    have p0 := P3.c0
    have p1 := P3.c1
    refine loopK (fun ρ h'' => ρ 2 = .pointer (some ⟨H1.size, 0, none⟩) ∧ ρ 3 = .slice none 0 0 ∧ ρ 5 = .pointer (some ⟨h'.size, 0, none⟩) ∧ ρ 6 = .slice none 0 0 ∧ ρ 10 = .slice (some ⟨b, 0, none⟩) 1 1 ∧ ρ 11 = .int .i64 1 ∧ ρ 12 = .int .i64 0 ∧ ρ 18 = .int .i64 0 ∧ ρ 19 = .int .i64 0 ∧ h'' = H3) (fun _ _ => 0) (by kernel_rfl) ?_ ?_
    · refine ⟨?_, ?_, ?_, ?_, ?_, ?_, ?_, ?_, ?_, rfl⟩ <;> simp [put, r2, r3, r10, r11, r12]
    rintro ρ' h'' ⟨t2, t3, t5, t6, t10, t11, t12, t18, t19, rfl⟩
    simp -implicitDefEqProofs (disch := first | omega | (simp only [push_size, hset_size]; done) | (simp only [push_size, hset_size]; omega)) [go_sem, t2, t3, t5, t6, t10, t11, t12, t18, t19]
    refine useC (sort1R_ok 0 (Nat.zero_le _)) ?_
    rintro _ h4 rfl
    simp -implicitDefEqProofs (disch := first | omega | (simp only [push_size, hset_size]; done) | (simp only [push_size, hset_size]; omega)) [go_sem, t2, t3, t5, t6, t10, t11, t12, t18, t19, p0]
    refine buildAg2 ?_
    obtain ⟨H5, hH5⟩ : ∃ H5, H5 = h4.push (.cells #[S nA, .slice none 0 0] 47) := ⟨_, rfl⟩
    have q5 : Gr h4 H5 := by rw [hH5]; exact (Fr.refl _ _).push
    have S5 : SlAt H5 (some ⟨h4.size, 0, none⟩) 2 [S nA, .slice none 0 0] := by rw [hH5]; exact SlAt.new (vs := [S nA, .slice none 0 0])
    have hs5 : H5.size = h.size + 4 := by rw [hH5, push_size, hs3]
    rw [← hH5]
    clear hH5
    simp -implicitDefEqProofs (disch := first | omega | (simp only [push_size, hset_size]; done) | (simp only [push_size, hset_size]; omega)) [go_sem, t2, t3, t5, t6, t10, t11, t12, t18, t19]
    refine appendN (sz := 2) (vs := []) (ws := [S nA, .slice none 0 0]) (SlAt.nil H5) rfl S5.row rfl (by omega) (by simp [Value.oneCell', S]) (by omega) (by omega) ?_
    intro X x h6 S6 f6 own6
    have nb : ∀ z, ¬ blk (none : Option Addr) z := fun z ⟨a, ha, _⟩ => nomatch ha
    have g6 : Gr h h6 := ((f02.trans q3).trans q5).trans (f6.mono fun y _ hy => (nb y hy).elim)
    have L6 := ((L2.fr q3 id).fr q5 id).fr f6 (nb _)
    simp -implicitDefEqProofs (disch := first | omega | (simp only [push_size, hset_size]; done) | (simp only [push_size, hset_size]; omega)) [go_sem, t2, t3, t5, t6, t10, t11, t12, t18, t19]
    refine ⟨⟨X, x, ⟨rfl, rfl⟩, S6, fun y hy => ?_, g6, L6⟩, by simp [r12, intOf]⟩
    rcases own6 y hy with hy | hy
    · exact (nb y hy).elim
    · omega
  · have k0 := L.at' 0 _ rfl
    have kz := L.fz
    simp -implicitDefEqProofs (disch := first | omega | (simp only [push_size, hset_size]; done) | (simp only [push_size, hset_size]; omega)) [go_sem, r2, r3, r10, r11, r12]
    refine useC (sort1P_ok 1 (Nat.le_refl _)) ?_
    rintro _ h3 rfl
    simp -implicitDefEqProofs (disch := first | omega | (simp only [push_size, hset_size]; done) | (simp only [push_size, hset_size]; omega)) [go_sem, r2, r3, k0, kz]
    have e : Fr (fun y => y = H1.size) h3 (hset h3 ⟨H1.size, 0, none⟩ (.slice X 1 x)) := by refine Fr.setA (Fr.refl _ _) ?_; rfl
    exact ⟨⟨X, x, ⟨rfl, rfl⟩, SX.fr e fun y hy g => by have := own y hy; omega⟩, g.newA (by omega)⟩
end
end Xe

/- What awake asks of the tables: the table of one package without releases; its sizes, its atoms. -/
namespace Xe
open Go Go.Proofs
set_option maxRecDepth 16000
set_option maxHeartbeats 4000000
/-- the table, in memory -/
def TabO (h : Heap) (t : Nat) : Prop := ∃ bk x m, hcell h ⟨t, 0, none⟩ = some (.slice (some ⟨bk, 0, none⟩) 1 x) ∧ hcell h ⟨t, 1, none⟩ = some (.map m) ∧ One h bk nA
theorem TabO.gr {h h' : Heap} {t : Nat} (T : TabO h t) (f : Gr h h') : TabO h' t := by
  obtain ⟨bk, x, m, c0, c1, O⟩ := T
  exact ⟨bk, x, m, (f.cell (hcell_lt c0) id).trans c0, (f.cell (hcell_lt c0) id).trans c1, O.gr f⟩
@[go_sem ↓ high] theorem fill_tab {x0 x1 : Value} {A : Option Addr} {n c : Nat} {m : Option Nat} : fillA [(0, 1), (1, 1)] [x0, x1] [(0, .agg #[.slice A n c]), (1, .map m)] = some #[.slice A n c, .map m] := rfl
section
variable {h : Heap} {b : Nat}
theorem rankNew_ok (O : One h b nA) : CallsH Tryz.prog 14 [.agg #[.slice (some ⟨b, 0, none⟩) 1 1]] h fun r h' => (∃ t, r = .pointer (some ⟨t, 0, none⟩) ∧ TabO h' t) ∧ Gr h h' := by
  obtain ⟨H1, hH1⟩ : ∃ H1, H1 = h.push (.cells #[.slice (some ⟨b, 0, none⟩) 1 1] 50) := ⟨_, rfl⟩
  have f1 : Gr h H1 := by rw [hH1]; exact (Fr.refl _ _).push
  have hs1 : H1.size = h.size + 1 := by rw [hH1, push_size]
  have x1 : hcell H1 ⟨h.size, 0, none⟩ = some (.slice (some ⟨b, 0, none⟩) 1 1) := by rw [hH1]; exact hcell_push_lit
  have C := checkOne_ok (O.gr f1)
  refine calls_of 40 [.tmp 2] Go.Proofs.Tryz.func14 rfl rfl rfl ?_
  simp -implicitDefEqProofs (disch := first | omega | (simp only [push_size, hset_size]; done) | (simp only [push_size, hset_size]; omega)) [go_sem]
  rw [← hH1]
  clear hH1
  refine useC C ?_
  rintro _ h2 ⟨rfl, f2⟩
  have f02 := f1.trans f2
  have hs2 := f2.size
  have x2 := (f2.cell (by omega) id).trans x1
  simp -implicitDefEqProofs (disch := first | omega | (simp only [push_size, hset_size]; done) | (simp only [push_size, hset_size]; omega)) [go_sem, x2]
  refine useC (plainOne_ok (O.gr (h' := _) ?_)) ?_
  · exact f02.push
  rintro _ h4 ⟨⟨X, x, rfl, SX⟩, f4⟩
  have f04 : Gr h h4 := f02.push.trans f4
  rcases SX.at' with ⟨_, hx0⟩ | ⟨bk, hX, hbk, _, _, hcX⟩
  · have := SX.len
    simp at this
    omega
  subst hX
  have PX : One h4 bk nA := ⟨hcX 0 _ rfl, hcX 1 _ rfl⟩
  simp -implicitDefEqProofs (disch := first | omega | (simp only [push_size, hset_size]; done) | (simp only [push_size, hset_size]; omega)) [go_sem]
  obtain ⟨H5, hH5⟩ : ∃ H5, H5 = h4.push (.map #[] 0) := ⟨_, rfl⟩
  have q5 : Gr h4 H5 := by rw [hH5]; exact (Fr.refl _ _).push
  have hs5 : H5.size = h4.size + 1 := by rw [hH5, push_size]
  have K5 : KeysAt H5 h4.size [] := by rw [hH5]; exact .new
  obtain ⟨H6, hH6⟩ : ∃ H6, H6 = H5.push (.cells #[.slice (some ⟨bk, 0, none⟩) 1 x, .map (some h4.size)] 93) := ⟨_, rfl⟩
  have q6 : Gr H5 H6 := by rw [hH6]; exact (Fr.refl _ _).push
  have hs6 : H6.size = h4.size + 2 := by rw [hH6, push_size, hs5]
  have y0 : hcell H6 ⟨h4.size + 1, 0, none⟩ = some (.slice (some ⟨bk, 0, none⟩) 1 x) := by rw [hH6, ← hs5]; exact hcell_push_lit
  have y1 : hcell H6 ⟨h4.size + 1, 1, none⟩ = some (.map (some h4.size)) := by rw [hH6, ← hs5]; exact hcell_push_lit
  rw [← hH5, ← hH6]
  clear hH5 hH6
  have g6 : Gr h H6 := (f04.trans q5).trans q6
  have K6 := K5.fr q6 id
  have P6 : One H6 bk nA := (PX.gr q5).gr q6
  refine loopK (fun ρ h' => ρ 5 = .pointer (some ⟨h4.size + 1, 0, none⟩) ∧ ρ 24 = .slice (some ⟨bk, 0, none⟩) 1 x ∧ ρ 25 = .int .i64 1 ∧ ((ρ 26 = .int .i64 0 ∧ h' = H6) ∨ (ρ 26 = .int .i64 1 ∧ Gr h h' ∧ TabO h' (h4.size + 1)))) (fun ρ _ => 1 - (intOf (ρ 26)).toNat) (by kernel_rfl) ?_ ?_
  · refine ⟨?_, ?_, ?_, ?_⟩
    · rfl
    · rfl
    · rfl
    · exact .inl ⟨rfl, rfl⟩
  rintro ρ h' ⟨r5, r24, r25, ⟨r26, rfl⟩ | ⟨r26, g, T⟩⟩
  · have p0 := P6.c0
    have p1 := P6.c1
    simp -implicitDefEqProofs (disch := first | omega | (simp only [push_size, hset_size]; done) | (simp only [push_size, hset_size]; omega)) [go_sem, r5, r24, r25, r26, p0, p1]
    obtain ⟨H7, hH7⟩ : ∃ H7, H7 = h'.push (.cells #[S nA, .slice none 0 0] 47) := ⟨_, rfl⟩
    have q7 : Gr h' H7 := by rw [hH7]; exact (Fr.refl _ _).push
    have w0 : hcell H7 ⟨h'.size, 0, none⟩ = some (S nA) := by rw [hH7]; exact hcell_push_lit
    rw [← hH7]
    clear hH7
    have y1' := (q7.cell (by omega) id).trans y1
    refine drawK [(0, 0), (1, 0), (2, 0), (3, 1), (4, 0), (5, 1), (6, 0), (7, 3)] ?_
    simp -implicitDefEqProofs (disch := first | omega | (simp only [push_size, hset_size]; done) | (simp only [push_size, hset_size]; omega)) [go_sem, r5, r24, r25, r26, w0, y1']
    refine KeysAt.put (K6.fr q7 id) ms91 nA (by simp) fun h8 K8 hs8 he8 => ?_
    have f8 : Fr (fun y => y = h4.size) H7 h8 := Fr.newB (Fr.refl _ _) hs8 he8 rfl
    simp -implicitDefEqProofs (disch := first | omega | (simp only [push_size, hset_size]; done) | (simp only [push_size, hset_size]; omega)) [go_sem, r5, r24, r25, r26]
    have hbk4 : bk ≠ h4.size := by omega
    refine ⟨(g6.trans q7).trans' f8 fun y hy e => by have := f04.size; omega, bk, x, some h4.size, ?_, ?_, (P6.gr q7).fr f8 hbk4⟩
    · exact (f8.cell (by have := q7.size; omega) (by omega)).trans ((q7.cell (by omega) id).trans y0)
    · exact (f8.cell (by have := q7.size; omega) (by omega)).trans y1'
  · simp -implicitDefEqProofs (disch := first | omega | (simp only [push_size, hset_size]; done) | (simp only [push_size, hset_size]; omega)) [go_sem, r5, r24, r25, r26]
    exact ⟨T, g⟩
end
end Xe

/- What awake asks of the tables: sizes, names. -/
namespace Xe
open Go Go.Proofs
set_option maxRecDepth 16000
set_option maxHeartbeats 4000000
section
variable {h : Heap} {t : Nat}
theorem rlen_ok (T : TabO h t) : CallsH Tryz.prog 104 [.pointer (some ⟨t, 0, none⟩)] h fun r h' => r = .int .i64 1 ∧ h' = h := by
  obtain ⟨bk, x, m, c0, c1, O⟩ := T
  refine calls_of 9 [.tmp 2] Go.Proofs.Tryz.func104 rfl rfl rfl ?_
  simp -implicitDefEqProofs (disch := first | omega | (simp only [push_size, hset_size]; done) | (simp only [push_size, hset_size]; omega)) [go_sem, c0]
theorem rpack_ok (T : TabO h t) : CallsH Tryz.prog 107 [.pointer (some ⟨t, 0, none⟩), .int .i64 0] h fun r h' => r = .tuple #[.agg #[S nA, .slice none 0 0], .bool true] ∧ Gr h h' := by
  have T0 := T
  refine calls_of 23 [.cell 4 47, .tmp 5] Go.Proofs.Tryz.func107 rfl rfl rfl ?_
  simp -implicitDefEqProofs (disch := first | omega | (simp only [push_size, hset_size]; done) | (simp only [push_size, hset_size]; omega)) [go_sem]
  obtain ⟨H1, hH1⟩ : ∃ H1, H1 = h.push (.cells #[S [], .slice none 0 0] 47) := ⟨_, rfl⟩
  have q1 : Gr h H1 := by rw [hH1]; exact (Fr.refl _ _).push
  have hs1 : H1.size = h.size + 1 := by rw [hH1, push_size]
  have L1 : ListB H1 h.size [S [], .slice none 0 0] := by rw [hH1]; exact ListB.new
  rw [← hH1]
  clear hH1
  refine useC (rlen_ok (T.gr q1)) ?_
  rintro _ h2 ⟨rfl, rfl⟩
  obtain ⟨bk, x, m, c0, c1, O⟩ := T.gr q1
  have p0 := O.c0
  have p1 := O.c1
  have k0 := L1.at' 0 _ rfl
  have k1 := L1.at' 1 _ rfl
  have kz := L1.fz
  simp -implicitDefEqProofs (disch := first | omega | (simp only [push_size, hset_size]; done) | (simp only [push_size, hset_size]; omega)) [go_sem, c0, p0, p1, k0, k1, kz]
  exact ((q1.newA (Nat.le_refl _)).newA (Nat.le_refl _))
theorem rsize_ok (T : TabO h t) : CallsH Tryz.prog 105 [.pointer (some ⟨t, 0, none⟩), .int .i64 0] h fun r h' => r = .int .i64 0 ∧ Gr h h' := by
  refine calls_of 16 [.tmp 4] Go.Proofs.Tryz.func105 rfl rfl rfl ?_
  simp -implicitDefEqProofs (disch := first | omega | (simp only [push_size, hset_size]; done) | (simp only [push_size, hset_size]; omega)) [go_sem]
  refine useC (rpack_ok T) ?_
  rintro _ h2 ⟨rfl, f2⟩
  simp -implicitDefEqProofs (disch := first | omega | (simp only [push_size, hset_size]; done) | (simp only [push_size, hset_size]; omega)) [go_sem]
  exact f2.push
theorem rname_ok (T : TabO h t) : CallsH Tryz.prog 67 [.pointer (some ⟨t, 0, none⟩), .int .i64 0] h fun r h' => r = S nA ∧ Gr h h' := by
  refine calls_of 15 [.tmp 4] Go.Proofs.Tryz.func67 rfl rfl rfl ?_
  simp -implicitDefEqProofs (disch := first | omega | (simp only [push_size, hset_size]; done) | (simp only [push_size, hset_size]; omega)) [go_sem]
  refine useC (rpack_ok T) ?_
  rintro _ h2 ⟨rfl, f2⟩
  simp -implicitDefEqProofs (disch := first | omega | (simp only [push_size, hset_size]; done) | (simp only [push_size, hset_size]; omega)) [go_sem]
  exact f2.push
theorem sizesOne_ok (T : TabO h t) : CallsH Tryz.prog 63 [.pointer (some ⟨t, 0, none⟩)] h fun r h' => (∃ X x, r = .slice X 1 x ∧ SlAt h' X x [.int .i64 0]) ∧ Gr h h' := by
  refine calls_of 20 [.tmp 2] Go.Proofs.Tryz.func63 rfl rfl rfl ?_
  simp -implicitDefEqProofs (disch := first | omega | (simp only [push_size, hset_size]; done) | (simp only [push_size, hset_size]; omega)) [go_sem]
  refine useC (rlen_ok T) ?_
  rintro _ h1 ⟨rfl, rfl⟩
  simp -implicitDefEqProofs (disch := first | omega | (simp only [push_size, hset_size]; done) | (simp only [push_size, hset_size]; omega)) [go_sem]
  refine loopK (fun ρ h' => ρ 0 = .pointer (some ⟨t, 0, none⟩) ∧ ρ 8 = .int .i64 1 ∧ ((ρ 9 = .int .i64 0 ∧ ρ 3 = .slice none 0 0 ∧ h' = h1) ∨ (ρ 9 = .int .i64 1 ∧ Gr h1 h' ∧ ∃ X x, ρ 3 = .slice X 1 x ∧ SlAt h' X x [.int .i64 0]))) (fun ρ _ => 1 - (intOf (ρ 9)).toNat) (by kernel_rfl) ?_ ?_
  · exact ⟨rfl, rfl, .inl ⟨rfl, rfl, rfl⟩⟩
  rintro ρ h' ⟨r0, r8, ⟨r9, r3, rfl⟩ | ⟨r9, g, X, x, r3, SX⟩⟩
  · simp -implicitDefEqProofs (disch := first | omega | (simp only [push_size, hset_size]; done) | (simp only [push_size, hset_size]; omega)) [go_sem, r0, r3, r8, r9]
    refine useC (rsize_ok T) ?_
    rintro _ h2 ⟨rfl, f2⟩
    simp -implicitDefEqProofs (disch := first | omega | (simp only [push_size, hset_size]; done) | (simp only [push_size, hset_size]; omega)) [go_sem, r0, r3, r8, r9]
    refine buildI1 ?_
    obtain ⟨H3, hH3⟩ : ∃ H3, H3 = h2.push (.cells #[.int .i64 0] 3) := ⟨_, rfl⟩
    have q3 : Gr h2 H3 := by rw [hH3]; exact (Fr.refl _ _).push
    have S3 : SlAt H3 (some ⟨h2.size, 0, none⟩) 1 [.int .i64 0] := by rw [hH3]; exact SlAt.new (vs := [.int .i64 0])
    rw [← hH3]
    clear hH3
    simp -implicitDefEqProofs (disch := first | omega | (simp only [push_size, hset_size]; done) | (simp only [push_size, hset_size]; omega)) [go_sem, r0, r3, r8, r9]
    refine appendB (vs := []) (ws := [.int .i64 0]) (SlAt.nil H3) rfl S3.row rfl (by simp [Value.oneCell']) (by omega) (by omega) ?_
    intro X x h4 S4 f4 own4
    have nb : ∀ z, ¬ blk (none : Option Addr) z := fun z ⟨a, ha, _⟩ => nomatch ha
    simp -implicitDefEqProofs (disch := first | omega | (simp only [push_size, hset_size]; done) | (simp only [push_size, hset_size]; omega)) [go_sem, r0, r3, r8, r9]
    exact ⟨(f2.trans q3).trans (f4.mono fun y _ hy => (nb y hy).elim), X, x, ⟨rfl, rfl⟩, S4⟩
  · simp -implicitDefEqProofs (disch := first | omega | (simp only [push_size, hset_size]; done) | (simp only [push_size, hset_size]; omega)) [go_sem, r0, r3, r8, r9]
    exact ⟨⟨X, x, ⟨rfl, rfl⟩, SX⟩, g⟩
end
end Xe

/- What awake asks of explain: the words of a literal. -/
namespace Xe
open Go Go.Proofs
set_option maxRecDepth 16000
set_option maxHeartbeats 4000000
def wThere : List UInt8 := [32, 105, 115, 32, 116, 104, 101, 114, 101]
def wIsnt : List UInt8 := [32, 105, 115, 110, 39, 116, 32, 116, 104, 101, 114, 101]
section
variable {h : Heap} {t tb : Nat} {T : Nat → Prop}
theorem few1 : Few [0] := ⟨by simp, by simp⟩
theorem tableOne_ok (M : TabO h t) : CallsH Tryz.prog 38 [.pointer (some ⟨t, 0, none⟩)] h fun r h' => (∃ tb T, r = .pointer (some ⟨tb, 0, none⟩) ∧ TabM h' T tb [0]) ∧ Gr h h' := by
  refine calls_of 8 [.tmp 2] Go.Proofs.Tryz.func38 rfl rfl rfl ?_
  simp -implicitDefEqProofs (disch := first | omega | (simp only [push_size, hset_size]; done) | (simp only [push_size, hset_size]; omega)) [go_sem]
  refine useC (sizesOne_ok M) ?_
  rintro _ h1 ⟨⟨X, x, rfl, SX⟩, f1⟩
  simp -implicitDefEqProofs (disch := first | omega | (simp only [push_size, hset_size]; done) | (simp only [push_size, hset_size]; omega)) [go_sem]
  refine useC (anew_ok (zs := [0]) few1 SX.row) ?_
  rintro _ h2 ⟨f2, tb, rfl, TM⟩
  simp -implicitDefEqProofs (disch := first | omega | (simp only [push_size, hset_size]; done) | (simp only [push_size, hset_size]; omega)) [go_sem]
  exact ⟨⟨_, TM⟩, f1.trans f2⟩
theorem verbs0_ok : CallsH Tryz.prog 66 [.int .i64 0] h fun r h' => r = .tuple #[S wThere, S wIsnt] ∧ h' = h := by
  refine calls_of 9 [.tmp 2, .tmp 3] Go.Proofs.Tryz.func66 rfl rfl rfl ?_
  simp -implicitDefEqProofs (disch := first | omega | (simp only [push_size, hset_size]; done) | (simp only [push_size, hset_size]; omega)) [go_sem]
  exact ⟨rfl, rfl⟩
theorem literalOne_ok (M : TabO h t) (TM : TabM h T tb [0]) : CallsH Tryz.prog 39 [.pointer (some ⟨t, 0, none⟩), .pointer (some ⟨tb, 0, none⟩), .int .i64 (-1)] h fun r h' => r = .tuple #[S (nA ++ wIsnt), .bool true] ∧ Gr h h' := by
  refine calls_of 67 [.tmp 6, .tmp 7] Go.Proofs.Tryz.func39 rfl rfl rfl ?_
  simp -implicitDefEqProofs (disch := first | omega | (simp only [push_size, hset_size]; done) | (simp only [push_size, hset_size]; omega)) [go_sem]
  refine useC (avars_ok TM) ?_
  rintro _ h1 ⟨rfl, rfl⟩
  have e : wsum [0] = 1 := rfl
  rw [e]
  simp -implicitDefEqProofs (disch := first | omega | (simp only [push_size, hset_size]; done) | (simp only [push_size, hset_size]; omega)) [go_sem]
  have C := aatom_ok TM few1 (u := 0) (by decide)
  rw [show max (-1 : Int) 1 = ((0 : Nat) : Int) + 1 by decide]
  refine useC C ?_
  rintro _ h2 ⟨rfl, f2⟩
  have ea : atV (atN [0] 0 0) = .agg #[.int .i64 0, .int .i64 0, .int .i64 0] := rfl
  rw [ea]
  simp -implicitDefEqProofs (disch := first | omega | (simp only [push_size, hset_size]; done) | (simp only [push_size, hset_size]; omega)) [go_sem]
  refine useC verbs0_ok ?_
  rintro _ h3 ⟨rfl, rfl⟩
  simp -implicitDefEqProofs (disch := first | omega | (simp only [push_size, hset_size]; done) | (simp only [push_size, hset_size]; omega)) [go_sem]
  refine useC (rname_ok ((M.gr f2).gr (Fr.refl _ _).push)) ?_
  rintro _ h4 ⟨rfl, f4⟩
  have sa := sadd (P := Tryz.prog) (t := 9) (x := nA) (y := wIsnt) (by decide)
  simp -implicitDefEqProofs (disch := first | omega | (simp only [push_size, hset_size]; done) | (simp only [push_size, hset_size]; omega)) [go_sem, sa]
  exact f2.push.trans f4
theorem wordsOne_ok (M : TabO h t) : CallsH Tryz.prog 13 [.pointer (some ⟨t, 0, none⟩), .int .i64 (-1)] h fun r h' => r = .tuple #[S (nA ++ wIsnt), .bool true] ∧ Gr h h' := by
  refine calls_of 17 [.tmp 4, .tmp 5] Go.Proofs.Tryz.func13 rfl rfl rfl ?_
  simp -implicitDefEqProofs (disch := first | omega | (simp only [push_size, hset_size]; done) | (simp only [push_size, hset_size]; omega)) [go_sem]
  refine useC (tableOne_ok M) ?_
  rintro _ h1 ⟨⟨tb, T, rfl, TM⟩, f1⟩
  simp -implicitDefEqProofs (disch := first | omega | (simp only [push_size, hset_size]; done) | (simp only [push_size, hset_size]; omega)) [go_sem]
  refine useC (literalOne_ok (M.gr f1) TM) ?_
  rintro _ h2 ⟨rfl, f2⟩
  simp -implicitDefEqProofs (disch := first | omega | (simp only [push_size, hset_size]; done) | (simp only [push_size, hset_size]; omega)) [go_sem]
  exact f1.trans f2
end
end Xe
