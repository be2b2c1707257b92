/- The reader: a line's first word (of a reader that stands on one line, all of its bytes). -/
import Derived.Test.YtgebeiaffjpcaaaGreatDoorE39
import Derived.Test.YtgebeiaffjpcaaaGreatDoorE32
namespace Xe
open Go Go.Proofs
set_option maxRecDepth 16000
set_option maxHeartbeats 2000000
section
variable {h : Heap} {r : Nat} {A : Option Addr} {n cp : Nat} {d : Rd} {l : List UInt8}
def wordOf (l : List UInt8) : List UInt8 := if (32 : UInt8) ∈ l then l.take (l.idxOf 32) else l
theorem b2s_take {k c : Nat} (R : RowAt h A (l.map byteV)) (hk : k ≤ l.length) : b2s (.slice A k c) h = some (S (l.take k)) := by
  by_cases e : k = 0
  · subst e
    cases A <;> rfl
  · obtain ⟨bk, off, rfl, hc⟩ := R.get (by simp; omega)
    refine b2s_off (fun j x hx => ?_) (by rw [List.length_take]; omega)
    have hj : j < k := by
      have := (List.getElem?_eq_some_iff.1 hx).1
      rw [List.length_take] at this; omega
    rw [List.getElem?_take, if_pos hj] at hx
    exact hc j _ (bytes_at hx)
theorem slice_zero {m len cap : Nat} (hm : len ≤ cap) : sliceV (some (1, none)) (.slice A m cap) (some (.int .i64 0)) (some (.int .i64 len)) = some (.slice A len cap) := by
  unfold sliceV boundV
  simp only [Int.toNat_natCast]
  rw [if_pos (by omega), Option.bind_some, if_pos (by omega)]
  cases A with
  | none => simp
  | some a =>
    simp
    intro _
    rfl
theorem word_ok (D : RdAt h r A n cp d) (R : RowAt h A (l.map byteV)) (hn : n = l.length) (hcp : n ≤ cp) (hl : l ≠ []) (hl2 : l.length < 2 ^ 40) (hr : ∀ y, blk A y → y ≠ r) (hf : d.fr = 0) (hen : d.en = l.length) :
    CallsH Tryz.prog 140 [.pointer (some ⟨r, 0, none⟩)] h fun v h' => v = S (wordOf l) ∧ RdAt h' r A n cp { d with at' := (wordOf l).length } ∧ Ro r h h' := by
  subst hn
  obtain ⟨fr, at', en, fa, e⟩ := d
  simp only at hf hen
  subst hf hen
  obtain ⟨c0, c1, c2, c3, c4, c5, z⟩ := id D
  simp only at c1 c3
  have hpos : 0 < l.length := List.length_pos_iff.2 hl
  obtain ⟨bk, off, hA, hc⟩ := R.get (by simpa using hpos)
  subst hA
  refine calls_of 37 [.tmp 2] Go.Proofs.Tryz.func140 rfl rfl rfl ?_
  simp -implicitDefEqProofs (disch := first | omega | (simp only [push_size, hset_size]; done) | (simp only [push_size, hset_size]; omega)) [go_sem]
  refine drawK [(0, 0), (1, 0), (2, 0), (3, 1), (4, 0), (5, 0), (6, 0), (7, 1), (8, 0), (9, 0), (10, 0), (11, 1), (12, 0), (13, 0)] ?_
  have sz := slice_zero (A := some ⟨bk, off, none⟩) (m := l.length) (len := l.length) hcp
  have c1 : hcell h ⟨r, 1, none⟩ = some (.int .i64 0) := c1
  simp -implicitDefEqProofs (disch := first | omega | (simp only [push_size, hset_size]; done) | (simp only [push_size, hset_size]; omega)) [go_sem, c0, c1, c3, sz]
  refine useC (indexByte_ok R rfl 32) ?_
  rintro _ h2 ⟨rfl, rfl⟩
  have D2 : RdAt _ r (some ⟨bk, off, none⟩) l.length cp { fr := 0, at' := (wordOf l).length, en := l.length, fa := fa, e := e } := D.atSet (x := (wordOf l).length)
  have f2 : Ro r h2 (hset h2 ⟨r, 2, none⟩ (.int .i64 ((wordOf l).length : Nat))) := by refine Fr.setA (Fr.refl _ _) ?_; rfl
  have nb : RowAt (hset h2 ⟨r, 2, none⟩ (.int .i64 ((wordOf l).length : Nat))) (some ⟨bk, off, none⟩) (l.map byteV) := by
    exact R.fr f2 hr
  by_cases hm : (32 : UInt8) ∈ l
  · have hi : l.idxOf 32 < l.length := List.idxOf_lt_length_of_mem hm
    have hw : wordOf l = l.take (l.idxOf 32) := if_pos hm
    have hwl : (wordOf l).length = l.idxOf 32 := by rw [hw, List.length_take]; omega
    rw [hwl] at D2 nb f2
    have hb := b2s_take (c := cp) nb (k := l.idxOf 32) (by omega)
    simp -implicitDefEqProofs (disch := first | omega | (simp only [push_size, hset_size]; done) | (simp only [push_size, hset_size]; omega)) [go_sem, hm, c0, c1, c2, z, hb]
    rw [hwl]
    exact ⟨by rw [hw], D2, f2⟩
  · have hw : wordOf l = l := if_neg hm
    rw [hw] at D2 nb f2
    have hb := b2s_take (c := cp) nb (k := l.length) (Nat.le_refl _)
    rw [List.take_length] at hb
    simp -implicitDefEqProofs (disch := first | omega | (simp only [push_size, hset_size]; done) | (simp only [push_size, hset_size]; omega)) [go_sem, hm, c0, c1, c2, z, hb]
    rw [hw]
    exact ⟨rfl, D2, f2⟩
end
end Xe

/- The reader: its next line (of bytes without a newline). -/
namespace Xe
open Go Go.Proofs
set_option maxRecDepth 16000
set_option maxHeartbeats 2000000
section
variable {h : Heap} {r : Nat} {A : Option Addr} {n cp : Nat} {d : Rd} {l : List UInt8}
/-- behind the end there is none -/
theorem lineEnd_ok (c0 : hcell h ⟨r, 0, none⟩ = some (.slice A n cp)) (hn : n < 2 ^ 60) (x : Nat) (hx : n ≤ x) (hx2 : x < 2 ^ 60) :
    CallsH Tryz.prog 139 [.pointer (some ⟨r, 0, none⟩), .int .i64 x] h fun v h' => v = .bool false ∧ h' = h := by
  refine calls_of 78 [.tmp 4] Go.Proofs.Tryz.func139 rfl rfl rfl ?_
  simp -implicitDefEqProofs (disch := first | omega | (simp only [push_size, hset_size]; done) | (simp only [push_size, hset_size]; omega)) [go_sem]
  refine scopeL 0 (fun ρ h' => ρ 0 = .pointer (some ⟨r, 0, none⟩) ∧ ρ 1 = .int .i64 x ∧ h' = h) (fun _ _ => 0) (by kernel_rfl) ⟨rfl, rfl, rfl⟩ ?_
  rintro ρ h' ⟨r0, r1, rfl⟩
  simp -implicitDefEqProofs (disch := first | omega | (simp only [push_size, hset_size]; done) | (simp only [push_size, hset_size]; omega)) [go_sem, r0, r1, c0]
/-- a reader that has not read yet -/
structure Rd0 (h : Heap) (r : Nat) (A : Option Addr) (n cp : Nat) : Prop where
  c0 : hcell h ⟨r, 0, none⟩ = some (.slice A n cp)
  c1 : hcell h ⟨r, 1, none⟩ = some (.int .i64 0)
  c2 : hcell h ⟨r, 2, none⟩ = some (.int .i64 0)
  c3 : hcell h ⟨r, 3, none⟩ = some (.int .i64 (-1))
  c4 : hcell h ⟨r, 4, none⟩ = some (.int .i64 0)
  c5 : hcell h ⟨r, 5, none⟩ = some (.int .i64 0)
  z : ∀ o, hfrz h ⟨r, o, none⟩ = false
theorem line0_ok (D : Rd0 h r A n cp) (R : RowAt h A (l.map byteV)) (hn : n = l.length) (hcp : n ≤ cp) (hl : l ≠ []) (h10 : (10 : UInt8) ∉ l) (hl2 : l.length < 2 ^ 40) (hr : ∀ y, blk A y → y ≠ r) :
    CallsH Tryz.prog 139 [.pointer (some ⟨r, 0, none⟩), .int .i64 0] h fun v h' => v = .bool (!decide (l[0]? = some 35)) ∧ RdAt h' r A n cp ⟨0, 0, l.length, 0, 0⟩ ∧ Ro r h h' := by
  subst hn
  obtain ⟨c0, c1, c2, c3, c4, c5, z⟩ := id D
  have hpos : 0 < l.length := List.length_pos_iff.2 hl
  obtain ⟨bk, off, hA, hc⟩ := R.get (by simpa using hpos)
  subst hA
  obtain ⟨b0, hb0⟩ : ∃ c, l[0]? = some c := ⟨_, List.getElem?_eq_getElem hpos⟩
  have d0 := hc 0 _ (bytes_at hb0)
  rw [Nat.add_zero] at d0
  refine calls_of 78 [.tmp 4] Go.Proofs.Tryz.func139 rfl rfl rfl ?_
  simp -implicitDefEqProofs (disch := first | omega | (simp only [push_size, hset_size]; done) | (simp only [push_size, hset_size]; omega)) [go_sem]
  refine scopeL 0 (fun ρ h' => ρ 0 = .pointer (some ⟨r, 0, none⟩) ∧ ((ρ 1 = .int .i64 0 ∧ h' = h) ∨ (ρ 1 = .int .i64 ((l.length + 1 : Nat)) ∧ l[0]? = some 35 ∧ RdAt h' r (some ⟨bk, off, none⟩) l.length cp ⟨0, 0, l.length, 0, 0⟩ ∧ Ro r h h'))) (fun ρ _ => 1 - (intOf (ρ 1)).toNat) (by kernel_rfl) ⟨rfl, .inl ⟨rfl, rfl⟩⟩ ?_
  rintro ρ h' ⟨r0, ⟨r1, rfl⟩ | ⟨r1, h35, D2, f2⟩⟩
  · simp -implicitDefEqProofs (disch := first | omega | (simp only [push_size, hset_size]; done) | (simp only [push_size, hset_size]; omega)) [go_sem, r0, r1, c0, c1, c2, c3, c5, z, hl]
    obtain ⟨H2, hH2⟩ : ∃ H2, H2 = hset (hset (hset h' ⟨r, 1, none⟩ (.int .i64 0)) ⟨r, 2, none⟩ (.int .i64 0)) ⟨r, 3, none⟩ (.int .i64 l.length) := ⟨_, rfl⟩
    rw [← hH2]
    have f2 : Ro r h' H2 := by rw [hH2]; refine Fr.setA (Fr.setA (Fr.setA (Fr.refl _ _) ?_) ?_) ?_ <;> rfl
    have D2 : RdAt H2 r (some ⟨bk, off, none⟩) l.length cp ⟨0, 0, l.length, 0, 0⟩ := by
      rw [hH2]
      refine ⟨?_, ?_, ?_, ?_, ?_, ?_, fun o => by rw [hfrz_hset, hfrz_hset, hfrz_hset]; exact z o⟩ <;> simp [hcell_hset, c0, c1, c2, c3, c4, c5]
    clear hH2
    obtain ⟨b0', b1', b2', b3', b4', b5', y⟩ := id D2
    have R2 := R.fr f2 hr
    obtain ⟨bk2, off2, hA2, hc2⟩ := R2.get (by simpa using hpos)
    cases hA2
    have d0' := hc2 0 _ (bytes_at hb0)
    rw [Nat.add_zero] at d0'
    have b1' : hcell H2 ⟨r, 1, none⟩ = some (.int .i64 0) := b1'
    have b3' : hcell H2 ⟨r, 3, none⟩ = some (.int .i64 l.length) := b3'
    have hne : ¬ ((0 : Int) = (l.length : Int)) := by omega
    refine useC (indexByte_ok R2 rfl 10) ?_
    rintro _ h3 ⟨rfl, rfl⟩
    by_cases e35 : (b0.toNat : Int) = 35
    · have : b0 = 35 := (byte_eq (n := 35) (by omega)).1 e35
      simp -implicitDefEqProofs (disch := first | omega | (simp only [push_size, hset_size]; done) | (simp only [push_size, hset_size]; omega)) [go_sem, r0, r1, h10, b0', b1', b3', hne]
      refine drawK [(0, 0), (1, 0), (2, 0), (3, 1), (4, 0), (5, 0), (6, 0), (7, 1), (8, 0), (9, 0), (10, 0), (11, 0), (12, 0), (13, 1), (14, 0), (15, 0), (16, 0), (17, 1), (18, 0), (19, 1), (20, 0), (21, 0)] ?_
      simp -implicitDefEqProofs (disch := first | omega | (simp only [push_size, hset_size]; done) | (simp only [push_size, hset_size]; omega)) [go_sem, r0, r1, h10, b0', b1', b3', hne, hl, d0', e35]
      have hg : l[0] = b0 := by rw [List.getElem?_eq_getElem hpos, Option.some.injEq] at hb0; exact hb0
      exact .inr ⟨by rw [hg, this], D2, f2⟩
    · simp -implicitDefEqProofs (disch := first | omega | (simp only [push_size, hset_size]; done) | (simp only [push_size, hset_size]; omega)) [go_sem, r0, r1, h10, b0', b1', b3', hne]
      refine drawK [(0, 0), (1, 0), (2, 0), (3, 1), (4, 0), (5, 0), (6, 0), (7, 1), (8, 0), (9, 0), (10, 0), (11, 0), (12, 0), (13, 1), (14, 0), (15, 0), (16, 0), (17, 1), (18, 0), (19, 1), (20, 0), (21, 0)] ?_
      simp -implicitDefEqProofs (disch := first | omega | (simp only [push_size, hset_size]; done) | (simp only [push_size, hset_size]; omega)) [go_sem, r0, r1, h10, b0', b1', b3', hne, hl, d0', e35]
      have hg : l[0] = b0 := by rw [List.getElem?_eq_getElem hpos, Option.some.injEq] at hb0; exact hb0
      exact ⟨fun e => e35 (by rw [← hg, e]; rfl), D2, f2⟩
  · have b0 := D2.c0
    simp -implicitDefEqProofs (disch := first | omega | (simp only [push_size, hset_size]; done) | (simp only [push_size, hset_size]; omega)) [go_sem, r0, r1, b0]
    exact ⟨by rw [List.getElem?_eq_getElem hpos, Option.some.injEq] at h35; exact h35, D2, f2⟩
end
end Xe

/- The reader: a version, the line's last part. -/
namespace Xe
open Go Go.Proofs
set_option maxRecDepth 16000
set_option maxHeartbeats 2000000
section
variable {h : Heap} {r : Nat} {A : Option Addr} {n cp : Nat} {d : Rd} {l : List UInt8}
/-- a version in memory, its parts few and short -/
def VerS (h : Heap) (v : Ver) (A : Option Addr) (a : Nat) (B : Option Addr) (b : Nat) : Prop := VerR h v A a B b ∧ v.pre.length ≤ 16 ∧ v.build.length ≤ 16 ∧ (∀ x ∈ v.pre, x.length ≤ 255) ∧ (∀ x ∈ v.build, x.length ≤ 255)
/-- what the reader's version hands back -/
def VersionR (r : Nat) (A : Option Addr) (cp : Nat) (l : List UInt8) (d : Rd) (h h' : Heap) (v : Value) : Prop := ∃ w X x Y y d', v = verV w X x Y y ∧ VerS h' w X x Y y ∧ (∀ z, blk X z → h.size ≤ z) ∧ (∀ z, blk Y z → h.size ≤ z) ∧ RdAt h' r A l.length cp d' ∧ Fr (fun z => z = r ∨ h.size ≤ z) h h' ∧
      d'.en = d.en ∧ (d.e ≠ 0 → d'.e ≠ 0) ∧ ∀ z, verOk z = true → d.e = 0 → d.at' < l.length → l.drop (d.at' + 1) = verText z → w = z ∧ d'.e = 0
theorem VerS.zero {h : Heap} : VerS h zeroV none 0 none 0 := ⟨.zero, by simp [zeroV], by simp [zeroV], by simp [zeroV], by simp [zeroV]⟩
theorem version_ok (D : RdAt h r A n cp d) (R : RowAt h A (l.map byteV)) (hn : n = l.length) (hcp : n ≤ cp) (hl2 : l.length < 2 ^ 30) (hr : ∀ y, blk A y → y ≠ r) (hen : d.en = l.length) (hat : d.at' ≤ d.en) :
    CallsH Tryz.prog 99 [.pointer (some ⟨r, 0, none⟩)] h fun v h' => VersionR r A cp l d h h' v := by
  subst hn
  obtain ⟨c0, c1, c2, c3, c4, c5, z⟩ := id D
  refine calls_of 47 [.cell 2 98] Go.Proofs.Tryz.func99 rfl rfl rfl ?_
  simp -implicitDefEqProofs (disch := first | omega | (simp only [push_size, hset_size]; done) | (simp only [push_size, hset_size]; omega)) [go_sem]
  obtain ⟨H, hH⟩ : ∃ H, H = h.push (.cells #[.int .u64 0, .int .u64 0, .int .u64 0, .slice none 0 0, .slice none 0 0] 98) := ⟨_, rfl⟩
  have q : Gr h H := by rw [hH]; exact (Fr.refl _ _).push
  have w0 : hcell H ⟨h.size, 0, none⟩ = some (.int .u64 0) := by rw [hH]; exact hcell_push_lit
  have w1 : hcell H ⟨h.size, 1, none⟩ = some (.int .u64 0) := by rw [hH]; exact hcell_push_lit
  have w2 : hcell H ⟨h.size, 2, none⟩ = some (.int .u64 0) := by rw [hH]; exact hcell_push_lit
  have w3 : hcell H ⟨h.size, 3, none⟩ = some (.slice none 0 0) := by rw [hH]; exact hcell_push_lit
  have w4 : hcell H ⟨h.size, 4, none⟩ = some (.slice none 0 0) := by rw [hH]; exact hcell_push_lit
  have wz : ∀ o, hfrz H ⟨h.size, o, none⟩ = false := fun o => by rw [hH]; exact hfrz_push_new
  have hHs : H.size = h.size + 1 := by rw [hH, push_size]
  rw [← hH]
  clear hH
  have DH := D.fr' q id
  have hrl := hcell_lt c0
  obtain ⟨b0, b1, b2, b3, b4, b5, y⟩ := id DH
  by_cases e0 : d.e = 0
  case neg =>
    have e0' : ((d.e : Nat) : Int) ≠ 0 := by omega
    simp -implicitDefEqProofs (disch := first | omega | (simp only [push_size, hset_size]; done) | (simp only [push_size, hset_size]; omega)) [go_sem, b5, e0', w0, w1, w2, w3, w4, wz]
    have fz : ∀ {a0 a1 a2 a3 a4 : Value}, Fr (fun z => h.size ≤ z) H (hset (hset (hset (hset (hset H ⟨h.size, 0, none⟩ a0) ⟨h.size, 1, none⟩ a1) ⟨h.size, 2, none⟩ a2) ⟨h.size, 3, none⟩ a3) ⟨h.size, 4, none⟩ a4) := fun {a0 a1 a2 a3 a4} => by
      refine Fr.setA (Fr.setA (Fr.setA (Fr.setA (Fr.setA (Fr.refl _ _) ?_) ?_) ?_) ?_) ?_ <;> exact Nat.le_refl _
    refine ⟨zeroV, none, 0, none, 0, d, rfl, .zero, (fun y ⟨a, ha, _⟩ => nomatch ha), (fun y ⟨a, ha, _⟩ => nomatch ha), DH.fr' fz (by omega), ((q.mono fun _ _ g => g.elim).trans (fz.mono fun _ _ g => .inr g)), rfl, fun g => g, fun z _ g => absurd g e0⟩
  have e0' : ((d.e : Nat) : Int) = 0 := by omega
  simp -implicitDefEqProofs (disch := first | omega | (simp only [push_size, hset_size]; done) | (simp only [push_size, hset_size]; omega)) [go_sem, b5, e0']
  refine useC (blank_reader_ok DH (by omega) (by omega)) ?_
  rintro _ h2 ⟨rfl, D2, f2⟩
  have hs2 := f2.size
  have hhr : ¬ h.size = r := by omega
  have fl : ∀ {e : Nat}, (d.fail d.en e).en = d.en := fun {e} => by unfold Rd.fail; split <;> rfl
  have fe : ∀ {x e : Nat} {d' : Rd}, d'.e = 0 → e ≠ 0 → (d'.fail x e).e = e ∧ (d'.fail x e).en = d'.en := fun {x e d'} h1 h2 => by unfold Rd.fail; rw [if_pos h1]; exact ⟨rfl, rfl⟩
  have u0 := (f2.cell (by omega) hhr).trans w0
  have u1 := (f2.cell (by omega) hhr).trans w1
  have u2 := (f2.cell (by omega) hhr).trans w2
  have u3 := (f2.cell (by omega) hhr).trans w3
  have u4 := (f2.cell (by omega) hhr).trans w4
  have uz : ∀ o, hfrz h2 ⟨h.size, o, none⟩ = false := fun o => (f2.frz (by omega) hhr).trans (wz o)
  have f02 : Fr (fun z => z = r ∨ h.size ≤ z) h h2 := (q.mono fun _ _ g => g.elim).trans' f2 fun y _ hy => .inl hy
  have fz : ∀ {a0 a1 a2 a3 a4 : Value}, Fr (fun z => h.size ≤ z) h2 (hset (hset (hset (hset (hset h2 ⟨h.size, 0, none⟩ a0) ⟨h.size, 1, none⟩ a1) ⟨h.size, 2, none⟩ a2) ⟨h.size, 3, none⟩ a3) ⟨h.size, 4, none⟩ a4) := fun {a0 a1 a2 a3 a4} => by
    refine Fr.setA (Fr.setA (Fr.setA (Fr.setA (Fr.setA (Fr.refl _ _) ?_) ?_) ?_) ?_) ?_ <;> exact Nat.le_refl _
  by_cases e1 : d.at' = d.en
  · have hb : d.blank = (d.fail d.en 5, false) := if_pos e1
    rw [hb] at D2 ⊢
    simp -implicitDefEqProofs (disch := first | omega | (simp only [push_size, hset_size]; done) | (simp only [push_size, hset_size]; omega)) [go_sem, u0, u1, u2, u3, u4, uz]
    exact ⟨zeroV, none, 0, none, 0, _, rfl, .zero, (fun y ⟨a, ha, _⟩ => nomatch ha), (fun y ⟨a, ha, _⟩ => nomatch ha), D2.fr' fz (by omega), f02.trans (fz.mono fun _ _ g => .inr g), (fe e0 (by omega)).2, fun g => absurd e0 g, fun z _ _ g => by omega⟩
  by_cases e2 : d.at' + 1 = d.en
  · have hb : d.blank = (Rd.fail { d with at' := d.at' + 1 } d.en 5, false) := by unfold Rd.blank; rw [if_neg e1, if_pos e2]
    rw [hb] at D2 ⊢
    simp -implicitDefEqProofs (disch := first | omega | (simp only [push_size, hset_size]; done) | (simp only [push_size, hset_size]; omega)) [go_sem, u0, u1, u2, u3, u4, uz]
    refine ⟨zeroV, none, 0, none, 0, _, rfl, .zero, (fun y ⟨a, ha, _⟩ => nomatch ha), (fun y ⟨a, ha, _⟩ => nomatch ha), D2.fr' fz (by omega), f02.trans (fz.mono fun _ _ g => .inr g), (fe (d' := { d with at' := d.at' + 1 }) e0 (by omega)).2, fun g => absurd e0 g, fun z _ _ _ g => ?_⟩
    exfalso
    have := congrArg List.length g
    rw [List.length_drop] at this
    unfold verText at this
    simp only [List.length_append, List.length_cons] at this
    omega
  have hb : d.blank = ({ d with at' := d.at' + 1 }, true) := by unfold Rd.blank; rw [if_neg e1, if_neg e2]
  rw [hb] at D2 ⊢
  have R2 : RowAt h2 A (l.map byteV) := (R.fr0 q).fr f2 hr
  obtain ⟨k0, k1, k2, k3, k4, k5, ky⟩ := id D2
  obtain ⟨A', hsl, hb2s⟩ := sub_str (i := d.at' + 1) (j := d.en) R2 hcp (by omega) (by omega)
  have hall : (l.drop (d.at' + 1)).take (d.en - (d.at' + 1)) = l.drop (d.at' + 1) := List.take_of_length_le (by rw [List.length_drop]; omega)
  rw [hall] at hb2s
  rw [Int.natCast_add, show ((1 : Nat) : Int) = 1 from rfl] at hsl
  simp -implicitDefEqProofs (disch := first | omega | (simp only [push_size, hset_size]; done) | (simp only [push_size, hset_size]; omega)) [go_sem]
  refine drawK [(0, 0), (1, 0), (2, 0), (3, 1), (4, 0), (5, 0), (6, 0), (7, 1), (8, 0), (9, 0), (10, 0), (11, 1), (12, 0), (13, 1), (14, 3), (15, 0), (16, 0), (17, 0), (18, 0), (19, 3), (20, 0), (21, 0)] ?_
  simp -implicitDefEqProofs (disch := first | omega | (simp only [push_size, hset_size]; done) | (simp only [push_size, hset_size]; omega)) [go_sem, k0, k2, k3, hsl, hb2s]
  refine useC (readV_ok (l.drop (d.at' + 1)) (by rw [List.length_drop]; omega)) ?_
  rintro _ h3 ⟨⟨w, X, x, Y, y', n', e', rfl, V, oX, oY, hn', hp, hb', hpl, hbl, hcmp⟩, f3⟩
  have hs3 := f3.size
  have D3 := D2.fr' f3 id
  obtain ⟨ma, mi, pa, pre, bu⟩ := w
  have v0 := (f3.cell (by omega) id).trans u0
  have v1 := (f3.cell (by omega) id).trans u1
  have v2 := (f3.cell (by omega) id).trans u2
  have v3 := (f3.cell (by omega) id).trans u3
  have v4 := (f3.cell (by omega) id).trans u4
  have vz : ∀ o, hfrz h3 ⟨h.size, o, none⟩ = false := fun o => (f3.frz (by omega) id).trans (uz o)
  have f03 : Fr (fun z => z = r ∨ h.size ≤ z) h h3 := f02.trans (f3.mono fun _ _ g => g.elim)
  have E : ∀ bk o s, hcell h3 ⟨bk, o, none⟩ = some (S s) → ¬ (bk = h.size ∧ o = 0) ∧ ¬ (bk = h.size ∧ o = 1) ∧ ¬ (bk = h.size ∧ o = 2) ∧ ¬ (bk = h.size ∧ o = 3) ∧ ¬ (bk = h.size ∧ o = 4) := fun bk o s hv => by
    refine ⟨?_, ?_, ?_, ?_, ?_⟩ <;> rintro ⟨rfl, rfl⟩
    · rw [v0] at hv; cases hv
    · rw [v1] at hv; cases hv
    · rw [v2] at hv; cases hv
    · rw [v3] at hv; cases hv
    · rw [v4] at hv; cases hv
  unfold verV verC
  simp -implicitDefEqProofs (disch := first | omega | (simp only [push_size, hset_size]; done) | (simp only [push_size, hset_size]; omega)) [go_sem, v0, v1, v2, v3, v4, vz]
  obtain ⟨H4, hH4⟩ : ∃ H4, H4 = hset (hset (hset (hset (hset h3 ⟨h.size, 0, none⟩ (.int .u64 ma)) ⟨h.size, 1, none⟩ (.int .u64 mi)) ⟨h.size, 2, none⟩ (.int .u64 pa)) ⟨h.size, 3, none⟩ (.slice X pre.length x)) ⟨h.size, 4, none⟩ (.slice Y bu.length y') := ⟨_, rfl⟩
  have g34 : Fr (fun z => h.size ≤ z) h3 H4 := by
    rw [hH4]
    refine Fr.setA (Fr.setA (Fr.setA (Fr.setA (Fr.setA (Fr.refl _ _) ?_) ?_) ?_) ?_) ?_ <;> exact Nat.le_refl _
  have t0 : hcell H4 ⟨h.size, 0, none⟩ = some (.int .u64 ma) := by rw [hH4]; simp [hcell_hset, v0, v1, v2, v3, v4]
  have t1 : hcell H4 ⟨h.size, 1, none⟩ = some (.int .u64 mi) := by rw [hH4]; simp [hcell_hset, v0, v1, v2, v3, v4]
  have t2 : hcell H4 ⟨h.size, 2, none⟩ = some (.int .u64 pa) := by rw [hH4]; simp [hcell_hset, v0, v1, v2, v3, v4]
  have t3 : hcell H4 ⟨h.size, 3, none⟩ = some (.slice X pre.length x) := by rw [hH4]; simp [hcell_hset, v0, v1, v2, v3, v4]
  have t4 : hcell H4 ⟨h.size, 4, none⟩ = some (.slice Y bu.length y') := by rw [hH4]; simp [hcell_hset, v0, v1, v2, v3, v4]
  have tz : ∀ o, hfrz H4 ⟨h.size, o, none⟩ = false := fun o => by rw [hH4]; simp only [hfrz_hset]; exact vz o
  have keep4 : ∀ bk o s, hcell h3 ⟨bk, o, none⟩ = some (S s) → hcell H4 ⟨bk, o, none⟩ = some (S s) ∧ (bk = h.size → 5 ≤ o) := fun bk o s hv => by
    obtain ⟨e0, e1, e2, e3, e4⟩ := E bk o s hv
    refine ⟨by rw [hH4]; simp only [hcell_hset, e0, e1, e2, e3, e4, if_false]; exact hv, fun e => by omega⟩
  rw [← hH4]
  have hs4 : H4.size = h3.size := by rw [hH4]; simp only [hset_size]
  clear hH4
  have D4 := D3.fr' g34 (by omega)
  have fin : ∀ {H5 : Heap} {d' : Rd} {a0 a1 a2 a3 a4 : Value}, (∀ bk o s, hcell h3 ⟨bk, o, none⟩ = some (S s) → hcell H5 ⟨bk, o, none⟩ = some (S s)) → RdAt H5 r A l.length cp d' → Fr (fun z => z = r ∨ h.size ≤ z) h H5 → d'.en = d.en →
      (∀ z, verOk z = true → l.drop (d.at' + 1) = verText z → d'.e = 0) →
      VersionR r A cp l d h (hset (hset (hset (hset (hset H5 ⟨h.size, 0, none⟩ a0) ⟨h.size, 1, none⟩ a1) ⟨h.size, 2, none⟩ a2) ⟨h.size, 3, none⟩ a3) ⟨h.size, 4, none⟩ a4) (.agg #[.int .u64 ma, .int .u64 mi, .int .u64 pa, .slice X pre.length x, .slice Y bu.length y']) :=
    fun {H5 d' a0 a1 a2 a3 a4} hk D5 g5 hen5 hz => by
    have g56 : Fr (fun z => h.size ≤ z) H5 (hset (hset (hset (hset (hset H5 ⟨h.size, 0, none⟩ a0) ⟨h.size, 1, none⟩ a1) ⟨h.size, 2, none⟩ a2) ⟨h.size, 3, none⟩ a3) ⟨h.size, 4, none⟩ a4) := by
      refine Fr.setA (Fr.setA (Fr.setA (Fr.setA (Fr.setA (Fr.refl _ _) ?_) ?_) ?_) ?_) ?_ <;> exact Nat.le_refl _
    refine ⟨⟨ma, mi, pa, pre, bu⟩, X, x, Y, y', d', rfl, ⟨⟨RowAt.keepS V.pre fun bk o s hv => ?_, RowAt.keepS V.build fun bk o s hv => ?_, V.ca, V.cb, V.la, V.lb, V.m1, V.m2, V.m3⟩, hp, hb', hpl, hbl⟩, (fun y hy => by have := oX y hy; omega), (fun y hy => by have := oY y hy; omega), D5.fr' g56 (by omega), g5.trans (g56.mono fun _ _ g => .inr g), hen5, fun g => absurd e0 g, fun z hz1 _ _ hz2 => ⟨(hcmp z hz1 hz2).1, hz z hz1 hz2⟩⟩
    · obtain ⟨e0, e1, e2, e3, e4⟩ := E bk o s hv
      simp only [hcell_hset, e0, e1, e2, e3, e4, if_false]
      exact hk bk o s hv
    · obtain ⟨e0, e1, e2, e3, e4⟩ := E bk o s hv
      simp only [hcell_hset, e0, e1, e2, e3, e4, if_false]
      exact hk bk o s hv
  by_cases e3 : e' = 0
  · have e3' : ((e' : Nat) : Int) = 0 := by omega
    simp -implicitDefEqProofs (disch := first | omega | (simp only [push_size, hset_size]; done) | (simp only [push_size, hset_size]; omega)) [go_sem, e3', t0, t1, t2, t3, t4, tz]
    exact fin (fun bk o s hv => (keep4 bk o s hv).1) D4 (f03.trans (g34.mono fun _ _ g => .inr g)) rfl fun z _ _ => e0
  · have e3' : ((e' : Nat) : Int) ≠ 0 := by omega
    rw [List.length_drop] at hn'
    have D4c : hcell H4 ⟨r, 2, none⟩ = some (.int .i64 ((d.at' + 1 : Nat))) := D4.c2
    simp -implicitDefEqProofs (disch := first | omega | (simp only [push_size, hset_size]; done) | (simp only [push_size, hset_size]; omega)) [go_sem, e3', t0, t1, t2, t3, t4, tz, D4c]
    have C := fail_ok D4 (d.at' + 1 + n') e'
    rw [show ((d.at' + 1 + n' : Nat) : Int) = (d.at' : Int) + 1 + (n' : Int) by omega] at C
    refine useC C ?_
    clear C
    rintro _ h5 ⟨D5, f5, k5'⟩
    have s0 := (f5.cell (by omega) hhr).trans t0
    have s1 := (f5.cell (by omega) hhr).trans t1
    have s2 := (f5.cell (by omega) hhr).trans t2
    have s3 := (f5.cell (by omega) hhr).trans t3
    have s4 := (f5.cell (by omega) hhr).trans t4
    have sz : ∀ o, hfrz h5 ⟨h.size, o, none⟩ = false := fun o => (f5.frz (by omega) hhr).trans (tz o)
    simp -implicitDefEqProofs (disch := first | omega | (simp only [push_size, hset_size]; done) | (simp only [push_size, hset_size]; omega)) [go_sem, s0, s1, s2, s3, s4, sz]
    exact fin (fun bk o s hv => k5' bk o s (keep4 bk o s hv).1) D5 ((f03.trans (g34.mono fun _ _ g => .inr g)).trans' f5 fun y _ hy => .inl hy) (by rw [(fe (d' := { d with at' := d.at' + 1 }) e0 e3).2]) fun z hz1 hz2 => absurd (hcmp z hz1 hz2).2 e3
end
end Xe

/- The reader: a name; plainly. -/
namespace Xe
open Go Go.Proofs
set_option maxRecDepth 16000
set_option maxHeartbeats 2000000
theorem nameOk_len {z : List UInt8} (h : nameOk z = true) : nameLen z = z.length ∧ 0 < z.length ∧ z.length ≤ 255 := by
  unfold nameOk scanN at h
  by_cases c : nameLen z = 0 ∨ 255 < nameLen z
  · rw [if_pos c] at h; simp at h
  · rw [if_neg c] at h
    simp only [decide_true, Bool.true_and, decide_eq_true_eq] at h
    omega
/-- a good name ends at a blank -/
theorem scan_cut {z rest : List UInt8} (h : nameOk z = true) : scanN (z ++ 32 :: rest) = (z.length, 0) := by
  obtain ⟨h1, h2, h3⟩ := nameOk_len h
  have hl : nameLen (z ++ 32 :: rest) = z.length := by
    cases z with
    | nil => simp at h2
    | cons c z =>
      unfold nameLen at h1
      simp only at h1
      by_cases hf : firstB c = true
      · rw [if_pos hf] at h1
        show (if firstB c = true then ((c :: z ++ 32 :: rest).takeWhile nameB).length else 0) = _
        rw [if_pos hf]
        refine takeWhile_len (by simp) ?_ fun x hx => ?_
        · rw [List.take_left']
          · have h4 := List.takeWhile_prefix nameB (l := c :: z)
            have h5 := h4.eq_of_length h1
            rw [← h5]
            exact List.all_takeWhile
          · rfl
        · rw [List.getElem?_append_right (Nat.le_refl _), Nat.sub_self] at hx
          cases hx
          decide
      · rw [if_neg hf] at h1; simp at h1
  unfold scanN
  rw [hl, if_neg (by omega)]
theorem scanN_le (l : List UInt8) : (scanN l).1 ≤ l.length := by
  unfold scanN
  split
  · exact Nat.zero_le _
  · exact nameLen_le l
section
variable {h : Heap} {r : Nat} {A : Option Addr} {n cp : Nat} {d : Rd} {l : List UInt8}
/-- what the reader's name hands back -/
def NameR (r : Nat) (A : Option Addr) (cp : Nat) (l : List UInt8) (d : Rd) (h h' : Heap) (v : Value) : Prop := ∃ nm d', v = S nm ∧ nm.length ≤ l.length ∧ RdAt h' r A l.length cp d' ∧ Ro r h h' ∧ d'.en = d.en ∧ d'.at' ≤ d.en ∧
  ∀ z rest, nameOk z = true → d.at' < l.length → l.drop (d.at' + 1) = z ++ 32 :: rest → nm = z ∧ d'.e = 0 ∧ d'.at' = d.at' + 1 + z.length
theorem name_ok (D : RdAt h r A n cp d) (R : RowAt h A (l.map byteV)) (hn : n = l.length) (hcp : n ≤ cp) (hl2 : l.length < 2 ^ 30) (hr : ∀ y, blk A y → y ≠ r) (hen : d.en = l.length) (hat : d.at' ≤ d.en) (he : d.e = 0) :
    CallsH Tryz.prog 98 [.pointer (some ⟨r, 0, none⟩), .bool false] h fun v h' => NameR r A cp l d h h' v := by
  subst hn
  have fl : ∀ {d : Rd} {x e : Nat}, (d.fail x e).en = d.en ∧ (d.fail x e).at' = d.at' := fun {d x e} => by unfold Rd.fail; split <;> exact ⟨rfl, rfl⟩
  refine calls_of 80 [.tmp 4] Go.Proofs.Tryz.func98 rfl rfl rfl ?_
  simp -implicitDefEqProofs (disch := first | omega | (simp only [push_size, hset_size]; done) | (simp only [push_size, hset_size]; omega)) [go_sem]
  refine useC (blank_reader_ok D (by omega) (by omega)) ?_
  rintro _ h2 ⟨rfl, D2, f2⟩
  have hs2 := f2.size
  by_cases e1 : d.at' = d.en
  · have hb : d.blank = (d.fail d.en 5, false) := if_pos e1
    rw [hb] at D2 ⊢
    simp -implicitDefEqProofs (disch := first | omega | (simp only [push_size, hset_size]; done) | (simp only [push_size, hset_size]; omega)) [go_sem]
    exact ⟨[], _, rfl, Nat.zero_le _, D2, f2, fl.1, by rw [fl.2]; exact hat, fun z rest _ g => by omega⟩
  by_cases e2 : d.at' + 1 = d.en
  · have hb : d.blank = (Rd.fail { d with at' := d.at' + 1 } d.en 5, false) := by unfold Rd.blank; rw [if_neg e1, if_pos e2]
    rw [hb] at D2 ⊢
    simp -implicitDefEqProofs (disch := first | omega | (simp only [push_size, hset_size]; done) | (simp only [push_size, hset_size]; omega)) [go_sem]
    refine ⟨[], _, rfl, Nat.zero_le _, D2, f2, fl.1, by rw [fl.2]; show d.at' + 1 ≤ _; omega, fun z rest _ _ g => ?_⟩
    exfalso
    have := congrArg List.length g
    rw [List.length_drop] at this
    simp only [List.length_append, List.length_cons] at this
    omega
  have hb : d.blank = ({ d with at' := d.at' + 1 }, true) := by unfold Rd.blank; rw [if_neg e1, if_neg e2]
  rw [hb] at D2 ⊢
  have R2 : RowAt h2 A (l.map byteV) := R.fr f2 hr
  obtain ⟨k0, k1, k2, k3, k4, k5, ky⟩ := id D2
  simp only at k1 k2 k3 k4 k5
  simp -implicitDefEqProofs (disch := first | omega | (simp only [push_size, hset_size]; done) | (simp only [push_size, hset_size]; omega)) [go_sem, k2]
  refine drawK [(0, 0), (1, 0), (2, 0), (3, 1), (4, 0), (5, 0), (6, 0), (7, 1), (8, 0), (9, 0), (10, 3), (11, 0), (12, 0), (13, 0), (14, 0), (15, 0)] ?_
  rw [hen] at k3
  simp -implicitDefEqProofs (disch := first | omega | (simp only [push_size, hset_size]; done) | (simp only [push_size, hset_size]; omega)) [go_sem, k0, k2, k3]
  have C := scanP_ok (cp := cp) (at' := d.at' + 1) R2 rfl (by omega) (by omega)
  rw [Int.natCast_add, show ((1 : Nat) : Int) = 1 from rfl] at C
  refine useC C ?_
  clear C
  rintro _ h3 ⟨rfl, rfl⟩
  have hsc := scanN_le (l.drop (d.at' + 1))
  rw [List.length_drop] at hsc
  have hcut : ∀ z rest, nameOk z = true → l.drop (d.at' + 1) = z ++ 32 :: rest → scanN (l.drop (d.at' + 1)) = (z.length, 0) := fun z rest hz e => by rw [e]; exact scan_cut hz
  obtain ⟨m, hm⟩ : ∃ m, m = (scanN (l.drop (d.at' + 1))).1 := ⟨_, rfl⟩
  obtain ⟨er, her⟩ : ∃ m, m = (scanN (l.drop (d.at' + 1))).2 := ⟨_, rfl⟩
  have hcut2 : ∀ z rest, nameOk z = true → l.drop (d.at' + 1) = z ++ 32 :: rest → m = z.length ∧ er = 0 ∧ l[d.at' + 1 + m]? = some 32 ∧ (l.drop (d.at' + 1)).take m = z := fun z rest hz e => by
    have h1 := hcut z rest hz e
    have h2 : m = z.length := by rw [hm, h1]
    refine ⟨h2, by rw [her, h1], ?_, by rw [e, h2, List.take_left']; rfl⟩
    have h3 : l[d.at' + 1 + m]? = (l.drop (d.at' + 1))[m]? := by rw [List.getElem?_drop]
    rw [h3, e, h2, List.getElem?_append_right (Nat.le_refl _), Nat.sub_self]; rfl
  rw [← hm, ← her]
  rw [← hm] at hsc
  clear hcut hm her
  have D3 := D2.atSet (x := d.at' + 1 + m)
  have f3 : Ro r h3 (hset h3 ⟨r, 2, none⟩ (.int .i64 ((d.at' + 1 + m : Nat)))) := by refine Fr.setA (Fr.refl _ _) ?_; rfl
  simp only at D3
  simp -implicitDefEqProofs (disch := first | omega | (simp only [push_size, hset_size]; done) | (simp only [push_size, hset_size]; omega)) [go_sem, k0, k2, k3, ky]
  rw [show ((d.at' : Int) + 1 + (m : Int)) = ((d.at' + 1 + m : Nat) : Int) by omega]
  obtain ⟨H4, hH4⟩ : ∃ H4, H4 = hset h3 ⟨r, 2, none⟩ (.int .i64 ((d.at' + 1 + m : Nat))) := ⟨_, rfl⟩
  rw [← hH4] at D3 f3 ⊢
  clear hH4
  have f4 := f2.trans f3
  have R4 : RowAt H4 A (l.map byteV) := R2.fr f3 hr
  obtain ⟨j0, j1, j2, j3, j4, j5, jy⟩ := id D3
  simp only at j1 j2 j3 j4 j5
  rw [hen] at j3
  refine drawK [(0, 0), (1, 0), (2, 0), (3, 0), (4, 0), (5, 0), (6, 1), (7, 0), (8, 0), (9, 0), (10, 1), (11, 0), (12, 0), (13, 0), (14, 0), (15, 0), (16, 0), (17, 0), (18, 1), (19, 0), (20, 0), (21, 0), (22, 1), (23, 0), (24, 1), (25, 0), (26, 0), (27, 0), (28, 0)] ?_
  have fin : ∀ {H5 : Heap} {d' : Rd}, RdAt H5 r A l.length cp d' → Ro r H4 H5 → d'.en = d.en → d'.at' = d.at' + 1 + m → (∀ z rest, nameOk z = true → l.drop (d.at' + 1) = z ++ 32 :: rest → d'.e = 0) →
      NameR r A cp l d h H5 (S ((l.drop (d.at' + 1)).take m)) := fun {H5 d'} D5 f5 hen5 hat5 hz => by
    refine ⟨_, d', rfl, by rw [List.length_take, List.length_drop]; omega, D5, f4.trans f5, hen5, by omega, fun z rest hz1 _ hz2 => ?_⟩
    obtain ⟨g1, g2, g3, g4⟩ := hcut2 z rest hz1 hz2
    exact ⟨g4, hz z rest hz1 hz2, by omega⟩
  by_cases e3 : er = 0
  case neg =>
    have e3' : ((er : Nat) : Int) ≠ 0 := by omega
    simp -implicitDefEqProofs (disch := first | omega | (simp only [push_size, hset_size]; done) | (simp only [push_size, hset_size]; omega)) [go_sem, e3']
    have C := fail_ok D3 (d.at' + 1) 12
    rw [Int.natCast_add, show ((1 : Nat) : Int) = 1 from rfl] at C
    refine useC C ?_
    clear C
    rintro _ h5 ⟨D5, f5, -⟩
    have R5 := R4.fr f5 hr
    obtain ⟨i0, i1, i2, i3, i4, i5, iy⟩ := id D5
    rw [fl.2] at i2
    simp only at i2
    obtain ⟨A', hsl, hb2s⟩ := sub_str (i := d.at' + 1) (j := d.at' + 1 + m) R5 hcp (by omega) (by omega)
    rw [show d.at' + 1 + m - (d.at' + 1) = m by omega] at hsl hb2s
    simp only [Int.natCast_add, Int.natCast_one] at hsl
    simp -implicitDefEqProofs (disch := first | omega | (simp only [push_size, hset_size]; done) | (simp only [push_size, hset_size]; omega)) [go_sem]
    refine drawK [(0, 0), (1, 0), (2, 0), (3, 1), (4, 0), (5, 0), (6, 0), (7, 0), (8, 1), (9, 0), (10, 1), (11, 0)] ?_
    simp -implicitDefEqProofs (disch := first | omega | (simp only [push_size, hset_size]; done) | (simp only [push_size, hset_size]; omega)) [go_sem, i0, i2, hsl, hb2s]
    exact fin D5 f5 fl.1 fl.2 fun z rest hz1 hz2 => absurd (hcut2 z rest hz1 hz2).2.1 e3
  subst e3
  have he0 : ∀ {x e : Nat}, e ≠ 0 → l[d.at' + 1 + m]? ≠ some 32 → ∀ z rest, nameOk z = true → l.drop (d.at' + 1) = z ++ 32 :: rest → (Rd.fail { fr := d.fr, at' := d.at' + 1 + m, en := d.en, fa := d.fa, e := d.e } x e).e = 0 := fun {x e} _ hne z rest hz1 hz2 => absurd (hcut2 z rest hz1 hz2).2.2.1 hne
  by_cases e4 : d.at' + 1 + m < l.length
  · obtain ⟨c, hc⟩ : ∃ c, l[d.at' + 1 + m]? = some c := ⟨_, List.getElem?_eq_getElem e4⟩
    obtain ⟨bk, off, hA, hcl⟩ := R4.get (by simpa using Nat.lt_of_le_of_lt (Nat.zero_le _) e4)
    subst hA
    have c0 := hcl _ _ (bytes_at hc)
    have eT : ((d.at' : Int) + 1 + (m : Int)).toNat = d.at' + 1 + m := by omega
    by_cases e5 : (c.toNat : Int) = 32
    · simp -implicitDefEqProofs (disch := first | omega | (simp only [push_size, hset_size]; done) | (simp only [push_size, hset_size]; omega)) [go_sem, j0, j2, j3, e4, c0, e5, eT]
      obtain ⟨A', hsl, hb2s⟩ := sub_str (i := d.at' + 1) (j := d.at' + 1 + m) R4 hcp (by omega) (by omega)
      rw [show d.at' + 1 + m - (d.at' + 1) = m by omega] at hsl hb2s
      simp only [Int.natCast_add, Int.natCast_one] at hsl
      refine drawK [(0, 0), (1, 0), (2, 0), (3, 1), (4, 0), (5, 0), (6, 0), (7, 0), (8, 1), (9, 0), (10, 1), (11, 0)] ?_
      simp -implicitDefEqProofs (disch := first | omega | (simp only [push_size, hset_size]; done) | (simp only [push_size, hset_size]; omega)) [go_sem, j0, j2, hsl, hb2s]
      exact fin D3 (Fr.refl _ _) rfl rfl fun z rest hz1 hz2 => he
    · have hne : l[d.at' + 1 + m]? ≠ some 32 := by rw [hc]; intro e; cases e; exact e5 rfl
      simp -implicitDefEqProofs (disch := first | omega | (simp only [push_size, hset_size]; done) | (simp only [push_size, hset_size]; omega)) [go_sem, j0, j2, j3, e4, c0, e5, eT]
      have C := fail_ok D3 (d.at' + 1) 12
      rw [Int.natCast_add, show ((1 : Nat) : Int) = 1 from rfl] at C
      refine useC C ?_
      clear C
      rintro _ h5 ⟨D5, f5, -⟩
      have R5 := R4.fr f5 hr
      obtain ⟨i0, i1, i2, i3, i4, i5, iy⟩ := id D5
      rw [fl.2] at i2
      simp only at i2
      obtain ⟨A', hsl, hb2s⟩ := sub_str (i := d.at' + 1) (j := d.at' + 1 + m) R5 hcp (by omega) (by omega)
      rw [show d.at' + 1 + m - (d.at' + 1) = m by omega] at hsl hb2s
      simp only [Int.natCast_add, Int.natCast_one] at hsl
      simp -implicitDefEqProofs (disch := first | omega | (simp only [push_size, hset_size]; done) | (simp only [push_size, hset_size]; omega)) [go_sem]
      refine drawK [(0, 0), (1, 0), (2, 0), (3, 1), (4, 0), (5, 0), (6, 0), (7, 0), (8, 1), (9, 0), (10, 1), (11, 0)] ?_
      simp -implicitDefEqProofs (disch := first | omega | (simp only [push_size, hset_size]; done) | (simp only [push_size, hset_size]; omega)) [go_sem, i0, i2, hsl, hb2s]
      exact fin D5 f5 fl.1 fl.2 (he0 (by omega) hne)
  · simp -implicitDefEqProofs (disch := first | omega | (simp only [push_size, hset_size]; done) | (simp only [push_size, hset_size]; omega)) [go_sem, j0, j2, j3, e4]
    obtain ⟨A', hsl, hb2s⟩ := sub_str (i := d.at' + 1) (j := d.at' + 1 + m) R4 hcp (by omega) (by omega)
    rw [show d.at' + 1 + m - (d.at' + 1) = m by omega] at hsl hb2s
    simp only [Int.natCast_add, Int.natCast_one] at hsl
    refine drawK [(0, 0), (1, 0), (2, 0), (3, 1), (4, 0), (5, 0), (6, 0), (7, 0), (8, 1), (9, 0), (10, 1), (11, 0)] ?_
    simp -implicitDefEqProofs (disch := first | omega | (simp only [push_size, hset_size]; done) | (simp only [push_size, hset_size]; omega)) [go_sem, j0, j2, hsl, hb2s]
    exact fin D3 (Fr.refl _ _) rfl rfl fun z rest hz1 hz2 => he
end
end Xe

/- Pins in a row of one's own. -/
namespace Xe
open Go Go.Proofs
set_option maxRecDepth 16000
set_option maxHeartbeats 2000000
def pin6 (p : PinS) (A : Option Addr) (a : Nat) (B : Option Addr) (b : Nat) : List Value := S p.name :: verC p.v A a B b
theorem pin6_len {p : PinS} {A : Option Addr} {a : Nat} {B : Option Addr} {b : Nat} : (pin6 p A a B b).length = 6 := rfl
/-- rows of identifiers lie apart from a row of pins -/
def Apart (h : Heap) (N : Nat) (P : Option Addr) (L : List (List UInt8)) (C : Option Addr) : Prop := L ≠ [] → ∀ y, blk C y → y < h.size ∧ ¬ blk P y ∧ N ≤ y
structure PnW (h : Heap) (N : Nat) (P : Option Addr) (pc : Nat) (ps : List PinS) (vs : List Value) : Prop where
  S : SlAt h P (pc * 6) vs
  len : vs.length = ps.length * 6
  own : ∀ y, blk P y → N ≤ y
  at' : ∀ (i : Nat) p, ps[i]? = some p → ∃ A a B b, (∀ (j : Nat) v, (pin6 p A a B b)[j]? = some v → vs[i * 6 + j]? = some v) ∧ VerR h p.v A a B b ∧ Apart h N P p.v.pre A ∧ Apart h N P p.v.build B
theorem PnW.nil {h : Heap} {N : Nat} : PnW h N none 0 [] [] := ⟨SlAt.nil h, rfl, fun y ⟨a, ha, _⟩ => (nomatch ha), fun i s hs => by simp at hs⟩
theorem row_apart {U : Nat → Prop} {h h' : Heap} {A : Option Addr} {L : List (List UInt8)} (R : RowAt h A (strs L)) (f : Fr U h h') (hu : L ≠ [] → ∀ y, blk A y → ¬ U y) : RowAt h' A (strs L) := by
  by_cases e : L = []
  · subst e; exact .nil
  · exact R.fr f (hu e)
theorem VerR.fr' {U : Nat → Prop} {h h' : Heap} {v : Ver} {A : Option Addr} {a : Nat} {B : Option Addr} {b : Nat} (V : VerR h v A a B b) (f : Fr U h h') (hA : v.pre ≠ [] → ∀ y, blk A y → ¬ U y) (hB : v.build ≠ [] → ∀ y, blk B y → ¬ U y) : VerR h' v A a B b :=
  ⟨row_apart V.pre f hA, row_apart V.build f hB, V.ca, V.cb, V.la, V.lb, V.m1, V.m2, V.m3⟩
theorem PnW.fr {U : Nat → Prop} {h h' : Heap} {N : Nat} {P : Option Addr} {pc : Nat} {ps : List PinS} {vs : List Value} (W : PnW h N P pc ps vs) (f : Fr U h h') (hP : ∀ y, blk P y → ¬ U y) (hA : ∀ y, y < h.size → N ≤ y → ¬ blk P y → ¬ U y) : PnW h' N P pc ps vs :=
  ⟨W.S.fr f hP, W.len, W.own, fun i s hs => by
    obtain ⟨A, a, B, b, h1, h2, h3, h4⟩ := W.at' i s hs
    exact ⟨A, a, B, b, h1, h2.fr' f (fun e y hy => hA y (h3 e y hy).1 (h3 e y hy).2.2 (h3 e y hy).2.1) (fun e y hy => hA y (h4 e y hy).1 (h4 e y hy).2.2 (h4 e y hy).2.1),
      fun e y hy => ⟨Nat.lt_of_lt_of_le (h3 e y hy).1 f.size, (h3 e y hy).2⟩, fun e y hy => ⟨Nat.lt_of_lt_of_le (h4 e y hy).1 f.size, (h4 e y hy).2⟩⟩⟩
theorem PnW.gr {h h' : Heap} {N : Nat} {P : Option Addr} {pc : Nat} {ps : List PinS} {vs : List Value} (W : PnW h N P pc ps vs) (f : Gr h h') : PnW h' N P pc ps vs := W.fr f (fun _ _ => id) fun _ _ _ _ => id
theorem PnW.snoc {h h' : Heap} {N : Nat} {P P' : Option Addr} {pc pc' : Nat} {ps : List PinS} {vs : List Value} {p : PinS} {A B : Option Addr} {a b : Nat} (W : PnW h N P pc ps vs)
    (S' : SlAt h' P' (pc' * 6) (vs ++ pin6 p A a B b)) (f : Fr (blk P) h h') (hP : ∀ y, blk P' y → blk P y ∨ h.size ≤ y) (hN : N ≤ h.size)
    (V : VerR h p.v A a B b) (hA : Apart h N P p.v.pre A) (hB : Apart h N P p.v.build B) : PnW h' N P' pc' (ps ++ [p]) (vs ++ pin6 p A a B b) where
  S := S'
  len := by rw [List.length_append, List.length_append, W.len, pin6_len]; simp only [List.length_cons, List.length_nil]; omega
  own y hy := (hP y hy).elim (W.own y) fun h => by omega
  at' i t ht := by
    have hlen := W.len
    have old : ∀ y, y < h.size → ¬ blk P y → ¬ blk P' y := fun y h1 h2 h3 => (hP y h3).elim h2 fun h => by omega
    have ap : ∀ {L : List (List UInt8)} {C : Option Addr}, Apart h N P L C → Apart h' N P' L C := fun hh e y hy => ⟨Nat.lt_of_lt_of_le (hh e y hy).1 f.size, old y (hh e y hy).1 (hh e y hy).2.1, (hh e y hy).2.2⟩
    by_cases hi' : i < ps.length
    · rw [List.getElem?_append_left hi'] at ht
      obtain ⟨A1, a1, B1, b1, h1, h2, h3, h4⟩ := W.at' i t ht
      refine ⟨A1, a1, B1, b1, fun j v hj => ?_, h2.fr' f (fun e y hy => (h3 e y hy).2.1) (fun e y hy => (h4 e y hy).2.1), ap h3, ap h4⟩
      have h5 := h1 j v hj
      rw [List.getElem?_append_left (List.getElem?_eq_some_iff.1 h5).1]
      exact h5
    · have e : i = ps.length := by
        have := (List.getElem?_eq_some_iff.1 ht).1
        simp only [List.length_append, List.length_cons, List.length_nil] at this
        omega
      subst e
      rw [List.getElem?_append_right (Nat.le_refl _), Nat.sub_self] at ht
      simp only [List.getElem?_cons_zero, Option.some.injEq] at ht
      subst ht
      refine ⟨A, a, B, b, fun j v hj => ?_, V.fr' f (fun e y hy => (hA e y hy).2.1) (fun e y hy => (hB e y hy).2.1), ap hA, ap hB⟩
      rw [List.getElem?_append_right (by omega), show ps.length * 6 + j - vs.length = j by omega]
      exact hj
theorem PnW.pins {h : Heap} {N : Nat} {P : Option Addr} {pc : Nat} {ps : List PinS} {vs : List Value} (W : PnW h N P pc ps vs) : PinsR h P ps := ⟨fun i p hp => by
  obtain ⟨A, a, B, b, h1, h2, h3, h4⟩ := W.at' i p hp
  have hi := (List.getElem?_eq_some_iff.1 hp).1
  have hlen := W.len
  obtain ⟨bk, off, rfl, hc⟩ := W.S.row.get (by omega)
  refine ⟨bk, off, A, a, B, b, rfl, ?_, ?_, ?_, ?_, ?_, ?_, h2⟩
  · have := hc _ _ (h1 0 _ rfl)
    rwa [Nat.add_zero] at this
  · exact hc _ _ (h1 1 _ rfl)
  · exact hc _ _ (h1 2 _ rfl)
  · exact hc _ _ (h1 3 _ rfl)
  · exact hc _ _ (h1 4 _ rfl)
  · exact hc _ _ (h1 5 _ rfl)⟩
theorem PnW.cap {h : Heap} {N : Nat} {P : Option Addr} {pc : Nat} {ps : List PinS} {vs : List Value} (W : PnW h N P pc ps vs) : ps.length ≤ pc := by have := W.S.len; have := W.len; omega
/-- a pin, put into a row -/
theorem build6 {e : TypeId} {bt : Nat} {z0 z1 z2 z3 z4 z5 a b c d f g : Value} {h : Heap} {k : Value → Heap → Prop} (hk : k (.slice (some ⟨h.size, 0, none⟩) 1 1) (h.push (.cells #[a, b, c, d, f, g] e))) :
    @buildSliceK (some (e, 6, bt, .agg #[z0, z1, z2, z3, z4, z5])) 1 [(0, .agg #[a, b, c, d, f, g])] ⟨h⟩ ⟨k⟩ := by
  refine ⟨by omega, #[a, b, c, d, f, g], ?_, hk⟩
  have hz : (zerosOf (Value.agg #[z0, z1, z2, z3, z4, z5]).cells (1 * 6)).size = 6 := by simp [zerosOf, Value.cells]
  obtain ⟨L, hL⟩ : ∃ L, zerosOf (Value.agg #[z0, z1, z2, z3, z4, z5]).cells (1 * 6) = ⟨L⟩ := ⟨_, rfl⟩
  rw [hL] at hz ⊢
  match L, hz with
  | [p, q, r, s, t, u], _ => simp [Instr.fill, Value.cells, List.zipIdx]
@[go_sem ↓ high] theorem fill_pin {x0 x1 x2 x3 x4 x5 v0 v1 v2 v3 v4 : Value} {a : List UInt8} : fillA [(0, 1), (1, 5)] [x0, x1, x2, x3, x4, x5] [(0, S a), (1, .agg #[v0, v1, v2, v3, v4])] = some #[S a, v0, v1, v2, v3, v4] := rfl
/-- of few parts, and short ones -/
def PinFew (p : PinS) : Prop := p.name.length < 2 ^ 30 ∧ p.v.pre.length ≤ 16 ∧ p.v.build.length ≤ 16 ∧ (∀ x ∈ p.v.pre, x.length ≤ 255) ∧ (∀ x ∈ p.v.build, x.length ≤ 255)
end Xe

/- The reader of pins: what one line does (of a row that is empty still). -/
namespace Xe
open Go Go.Proofs
set_option maxRecDepth 16000
set_option maxHeartbeats 2000000
section
variable {h : Heap} {r L : Nat} {A : Option Addr} {n cp : Nat} {d : Rd} {l : List UInt8}
/-- what is read of a line of a pin -/
def PinR (r L : Nat) (A : Option Addr) (cp : Nat) (l : List UInt8) (d : Rd) (h h' : Heap) : Prop := ∃ (p : PinS) (X : Option Addr) (x : Nat) (vs : List Value) (d' : Rd), RdAt h' r A l.length cp d' ∧ d'.en = d.en ∧ hcell h' ⟨L, 0, none⟩ = some (.slice X 1 x) ∧ (∀ o, hfrz h' ⟨L, o, none⟩ = false) ∧
  PnW h' h.size X x [p] vs ∧ PinFew p ∧ Fr (fun y => y = r ∨ y = L ∨ h.size ≤ y) h h' ∧
  ∀ z, nameOk z.name = true → verOk z.v = true → d.at' < l.length → l.drop (d.at' + 1) = z.name ++ 32 :: verText z.v → p = z ∧ d'.e = 0
theorem pinLine_ok (D : RdAt h r A n cp d) (R : RowAt h A (l.map byteV)) (hn : n = l.length) (hcp : n ≤ cp) (hl2 : l.length < 2 ^ 30) (hr : ∀ y, blk A y → y ≠ r) (hen : d.en = l.length) (hat : d.at' ≤ d.en) (he : d.e = 0)
    (cL : hcell h ⟨L, 0, none⟩ = some (.slice none 0 0)) (zL : ∀ o, hfrz h ⟨L, o, none⟩ = false) (hLr : L ≠ r) (hLA : ∀ y, blk A y → y ≠ L) :
    CallsH Tryz.prog 97 [.pointer (some ⟨r, 0, none⟩), .pointer (some ⟨L, 0, none⟩)] h fun v h' => v = .bool true ∧ PinR r L A cp l d h h' := by
  subst hn
  have hrl := hcell_lt D.c0
  have hLl := hcell_lt cL
  refine calls_of 12 [.tmp 3] Go.Proofs.Tryz.func97 rfl rfl rfl ?_
  simp -implicitDefEqProofs (disch := first | omega | (simp only [push_size, hset_size]; done) | (simp only [push_size, hset_size]; omega)) [go_sem]
  refine drawC [(0, 2), (1, 0), (3, 0), (2, 3), (4, 3), (5, 0), (6, 3), (7, 3), (8, 4)] (fun h' => hcell h' ⟨L, 0, none⟩ = some (.slice none 0 0)) cL ?_
  simp -implicitDefEqProofs (disch := first | omega | (simp only [push_size, hset_size]; done) | (simp only [push_size, hset_size]; omega)) [go_sem]
  refine float2 (.slice none 0 0) (fun h' hC => by simp -implicitDefEqProofs (disch := omega) [go_sem, hC]) ?_
  simp -implicitDefEqProofs (disch := first | omega | (simp only [push_size, hset_size]; done) | (simp only [push_size, hset_size]; omega)) [go_sem]
  refine useC (name_ok D R rfl hcp hl2 hr hen hat he) ?_
  rintro _ h1 ⟨nm, d1, rfl, hnm, D1, f1, hen1, hat1, hcmp1⟩
  have hs1 := f1.size
  have cL1 := (f1.cell (by omega) hLr).trans cL
  refine ⟨cL1, ?_⟩
  have R1 : RowAt h1 A (l.map byteV) := R.fr f1 hr
  simp -implicitDefEqProofs (disch := first | omega | (simp only [push_size, hset_size]; done) | (simp only [push_size, hset_size]; omega)) [go_sem]
  refine useC (version_ok D1 R1 rfl hcp hl2 hr (by rw [hen1]; exact hen) (by rw [hen1]; exact hat1)) ?_
  rintro _ h2 ⟨w, X, x, Y, y, d2, rfl, V, oX, oY, D2, f2, hen2, hne2, hcmp2⟩
  have hs2 := f2.size
  have hLn : ¬ (L = r ∨ h1.size ≤ L) := by omega
  have cL2 := (f2.cell (by omega) hLn).trans cL1
  have zL2 : ∀ o, hfrz h2 ⟨L, o, none⟩ = false := fun o => (f2.frz (by omega) hLn).trans ((f1.frz (by omega) hLr).trans (zL o))
  refine ⟨cL2, ?_⟩
  unfold verV verC
  simp -implicitDefEqProofs (disch := first | omega | (simp only [push_size, hset_size]; done) | (simp only [push_size, hset_size]; omega)) [go_sem]
  refine build6 ?_
  obtain ⟨p, hp⟩ : ∃ p : PinS, p = ⟨nm, w⟩ := ⟨_, rfl⟩
  have pn : p.name = nm := by rw [hp]
  have pv : p.v = w := by rw [hp]
  have e6 : ([S nm, .int .u64 w.maj, .int .u64 w.min, .int .u64 w.pat, .slice X w.pre.length x, .slice Y w.build.length y] : List Value) = pin6 p X x Y y := by rw [hp]; rfl
  obtain ⟨H3, hH3⟩ : ∃ H3, H3 = h2.push (.cells #[S nm, .int .u64 w.maj, .int .u64 w.min, .int .u64 w.pat, .slice X w.pre.length x, .slice Y w.build.length y] 100) := ⟨_, rfl⟩
  have q3 : Gr h2 H3 := by rw [hH3]; exact (Fr.refl _ _).push
  have S3 : SlAt H3 (some ⟨h2.size, 0, none⟩) 6 (pin6 p X x Y y) := by rw [hH3, ← e6]; exact SlAt.new (vs := [S nm, .int .u64 w.maj, .int .u64 w.min, .int .u64 w.pat, .slice X w.pre.length x, .slice Y w.build.length y])
  have hs3 : H3.size = h2.size + 1 := by rw [hH3, push_size]
  rw [← hH3]
  clear hH3
  have cL3 := (q3.cell (by omega) id).trans cL2
  have zL3 : ∀ o, hfrz H3 ⟨L, o, none⟩ = false := fun o => (q3.frz (by omega) id).trans (zL2 o)
  refine ⟨cL3, ?_⟩
  simp -implicitDefEqProofs (disch := first | omega | (simp only [push_size, hset_size]; done) | (simp only [push_size, hset_size]; omega)) [go_sem]
  refine appendN (sz := 6) (vs := []) (ws := pin6 p X x Y y) (SlAt.nil H3) rfl S3.row rfl (by omega) (by simp [pin6, verC, Value.oneCell', S]) (by omega) (by omega) ?_
  intro P pc h4 S4 f4 own4
  have hs4 := f4.size
  have nb : ∀ z, ¬ blk (none : Option Addr) z := fun z ⟨a, ha, _⟩ => nomatch ha
  have cL4 := (f4.cell (by omega) (nb _)).trans cL3
  have zL4 : ∀ o, hfrz h4 ⟨L, o, none⟩ = false := fun o => (f4.frz (by omega) (nb _)).trans (zL3 o)
  refine ⟨cL4, ?_⟩
  have V3 : VerR H3 p.v X x Y y := by rw [pv]; exact V.1.gr q3
  have apX : Apart H3 h.size none p.v.pre X := fun e z hz => by
    obtain ⟨bk, off, hX, hc⟩ := V3.pre.get (by rw [strs_len]; exact List.length_pos_iff.2 e)
    obtain ⟨a, ha, rfl⟩ := hz
    rw [ha] at hX
    cases hX
    refine ⟨?_, nb _, ?_⟩
    · have h0 : 0 < p.v.pre.length := List.length_pos_iff.2 e
      have := hc 0 _ (strs_at (List.getElem?_eq_getElem h0))
      exact hcell_lt this
    · have := oX bk ⟨_, ha, rfl⟩
      show h.size ≤ bk
      omega
  have apY : Apart H3 h.size none p.v.build Y := fun e z hz => by
    obtain ⟨bk, off, hX, hc⟩ := V3.build.get (by rw [strs_len]; exact List.length_pos_iff.2 e)
    obtain ⟨a, ha, rfl⟩ := hz
    rw [ha] at hX
    cases hX
    refine ⟨?_, nb _, ?_⟩
    · have h0 : 0 < p.v.build.length := List.length_pos_iff.2 e
      have := hc 0 _ (strs_at (List.getElem?_eq_getElem h0))
      exact hcell_lt this
    · have := oY bk ⟨_, ha, rfl⟩
      show h.size ≤ bk
      omega
  have W4 := (PnW.nil (h := H3) (N := h.size)).snoc (p := p) S4 f4 own4 (by omega) V3 apX apY
  simp -implicitDefEqProofs (disch := first | omega | (simp only [push_size, hset_size]; done) | (simp only [push_size, hset_size]; omega)) [go_sem, cL4, zL4]
  obtain ⟨H5, hH5⟩ : ∃ H5, H5 = hset h4 ⟨L, 0, none⟩ (.slice P 1 pc) := ⟨_, rfl⟩
  have f5 : Fr (fun y => y = L) h4 H5 := by rw [hH5]; refine Fr.setA (Fr.refl _ _) ?_; rfl
  have cL5 : hcell H5 ⟨L, 0, none⟩ = some (.slice P 1 pc) := by rw [hH5]; simp [hcell_hset, cL4]
  have zL5 : ∀ o, hfrz H5 ⟨L, o, none⟩ = false := fun o => by rw [hH5, hfrz_hset]; exact zL4 o
  rw [← hH5]
  clear hH5
  have hrL : ¬ r = L := fun e => hLr e.symm
  have D5 : RdAt H5 r A l.length cp d2 := ((D2.fr' q3 id).fr' f4 (nb _)).fr' f5 hrL
  have W5 := W4.fr f5 (fun y hy e => by have := W4.own y hy; omega) fun y _ hy _ e => by omega
  have hf : Fr (fun y => y = r ∨ y = L ∨ h.size ≤ y) h H5 := by
    refine ((((f1.mono fun y _ hy => .inl hy).trans (f2.mono fun y _ hy => ?_)).trans (q3.mono fun y _ hy => hy.elim)).trans (f4.mono fun y _ hy => (nb y hy).elim)).trans (f5.mono fun y _ hy => .inr (.inl hy))
    rcases hy with hy | hy
    · exact .inl hy
    · exact .inr (.inr (by omega))
  refine ⟨p, P, pc, _, d2, D5, by rw [hen2, hen1], cL5, zL5, W5, ⟨by rw [pn]; omega, by rw [pv]; exact V.2.1, by rw [pv]; exact V.2.2.1, by rw [pv]; exact V.2.2.2.1, by rw [pv]; exact V.2.2.2.2⟩, hf, fun z hz1 hz2 hat' hz3 => ?_⟩
  obtain ⟨g1, g2, g3⟩ := hcmp1 z.name (verText z.v) hz1 hat' hz3
  have hlen := congrArg List.length hz3
  rw [List.length_drop, List.length_append, List.length_cons] at hlen
  have hvp : 0 < (verText z.v).length := by unfold verText; simp only [List.length_append, List.length_cons]; omega
  have hdr : l.drop (d1.at' + 1) = verText z.v := by
    rw [g3, show d.at' + 1 + z.name.length + 1 = d.at' + 1 + (z.name.length + 1) by omega, ← List.drop_drop, hz3, ← List.drop_drop, List.drop_left' rfl]
    rfl
  obtain ⟨k1, k2⟩ := hcmp2 z.v hz2 g2 (by omega) hdr
  refine ⟨?_, k2⟩
  rw [hp, g1, k1]
end
end Xe
