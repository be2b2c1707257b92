/- Reading pins: one line, from its beginning to its end. -/
import Derived.Test.YtgebeiaffjpcaaaGreatDoorE45
namespace Xe
open Go Go.Proofs
set_option maxRecDepth 16000
set_option maxHeartbeats 4000000
/-- a map of one entry, whose key is a text -/
def OneAt (h : Heap) (m : Nat) (x : List UInt8) (v : Value) : Prop := ∃ b c, h[m]? = some (.map #[⟨S x, v, b⟩] c)
theorem OneAt.fr {U : Nat → Prop} {h h' : Heap} {m : Nat} {x : List UInt8} {v : Value} (K : OneAt h m x v) (f : Fr U h h') (hu : ¬ U m) : OneAt h' m x v := by
  obtain ⟨b, c, h1⟩ := K
  exact ⟨b, c, by rw [f.same m (Array.getElem?_eq_some_iff.1 h1).1 hu]; exact h1⟩
theorem same_str (x a : List UInt8) : Instr.sameNow .string (S x) (S a) = some (decide (x = a)) := by
  show some ((⟨x.toArray⟩ : ByteArray) == ⟨a.toArray⟩) = _
  rw [beq_toListBytes, ByteArray.toList_eq, ByteArray.toList_eq, Bool.beq_eq_decide_eq]
theorem OneAt.look {P : Program} {h : Heap} {m t : Nat} {x : List UInt8} {kt e : TypeId} {v z : Value} (K : OneAt h m x v) (ht : mapS P t = some (kt, e)) (hz : zeroOf P e = some z) (y : List UInt8) :
    lookSV P t (.map (some m)) ⟨y.toArray⟩ true h = some (.tuple #[if y = x then v else z, .bool (decide (y = x))]) := by
  obtain ⟨b, c, h1⟩ := K
  have hm : mapOf h (.map (some m)) = some (m, #[⟨S x, v, b⟩], c) := by unfold mapOf; simp only [h1]
  have hs := same_str y x
  by_cases e : y = x
  · subst e
    have hf : findS #[⟨S y, v, b⟩] ⟨y.toArray⟩ = some (some (0, v)) := by
      show Instr.findNow .string (S y) [⟨S y, v, b⟩] 0 = _
      unfold Instr.findNow
      rw [hs, decide_eq_true rfl]
    unfold lookSV
    rw [ht, hm]
    simp only [Option.bind_some, hz, hf, Option.map_some, if_true, decide_true]
    rfl
  · have hf : findS #[⟨S x, v, b⟩] ⟨y.toArray⟩ = some none := by
      show Instr.findNow .string (S y) [⟨S x, v, b⟩] 0 = _
      unfold Instr.findNow
      rw [hs, decide_eq_false e]
      rfl
    unfold lookSV
    rw [ht, hm]
    simp only [Option.bind_some, hz, hf, Option.map_some, if_true, if_neg e, decide_eq_false e]
    rfl
theorem map_put1 {P : Program} {h : Heap} {r t : Nat} {kt e : TypeId} {k : Heap → Prop} {v : Value} (K : h[r]? = some (.map #[] 0)) (ht : mapS P t = some (kt, e)) (x : List UInt8)
    (hk : ∀ h', OneAt h' r x v → h'.size = h.size → (∀ y, y ≠ r → h'[y]? = h[y]?) → k h') : mapUpQ P t (.map (some r)) (S x) v h k := by
  show mapUpSX P t (.map (some r)) ⟨x.toArray⟩ v h k
  have hm : mapOf h (.map (some r)) = some (r, #[], 0) := by unfold mapOf; simp only [K]
  refine ⟨kt, e, r, #[], 0, none, ht, hm, rfl, (fun i u hh => by cases hh), hk _ ⟨0, 1, by rw [Array.getElem?_setIfInBounds_self_of_lt (Array.getElem?_eq_some_iff.1 K).1]; rfl⟩ (by simp) fun y hy => ?_⟩
  rw [Array.getElem?_setIfInBounds_ne (fun e => hy e.symm)]
/-- what pins are read of a line -/
def PinsJ (L N : Nat) (h : Heap) (ps : List PinS) : Prop := ∃ X x vs, hcell h ⟨L, 0, none⟩ = some (.slice X ps.length x) ∧ PnW h N X x ps vs ∧ (∀ p ∈ ps, PinFew p) ∧ ps.length ≤ 1
/-- of a good pin whose line it is -/
def LineOf (l : List UInt8) (ps : List PinS) (e : Nat) : Prop := ∀ z, nameOk z.name = true → verOk z.v = true → l = pinLine z → ps = [z] ∧ e = 0
theorem pinLine_split {z : PinS} : pinLine z = [112, 105, 110, 32] ++ (z.name ++ 32 :: verText z.v) := by unfold pinLine; simp
theorem wordOf_pin {z : PinS} : wordOf (pinLine z) = [112, 105, 110] := by
  rw [pinLine_split]
  have h1 : (32 : UInt8) ∈ ([112, 105, 110, 32] ++ (z.name ++ 32 :: verText z.v) : List UInt8) := by simp
  unfold wordOf
  rw [if_pos h1]
  rfl
theorem LineOf.no {l : List UInt8} {ps : List PinS} {e : Nat} (h : wordOf l ≠ [112, 105, 110]) : LineOf l ps e := fun z _ _ hz => absurd (by rw [hz]; exact wordOf_pin) h
theorem wordOf_le (l : List UInt8) : (wordOf l).length ≤ l.length := by
  unfold wordOf
  split
  · rw [List.length_take]; omega
  · exact Nat.le_refl _
def ReadPins (L N : Nat) (l : List UInt8) (h h' : Heap) (v : Value) : Prop := ∃ (ps : List PinS) (fa e : Nat), v = .tuple #[.int .i64 fa, .int .i64 e] ∧ PinsJ L N h' ps ∧ (∀ o, hfrz h' ⟨L, o, none⟩ = false) ∧ Fr (fun y => y = L ∨ N ≤ y) h h' ∧ LineOf l ps e
section
variable {h : Heap} {m L : Nat} {A : Option Addr} {n cp : Nat} {l : List UInt8}
/-- behind the line, or ahead of it -/
def RdJ (L r : Nat) (N : Nat) (A : Option Addr) (cp : Nat) (l : List UInt8) (H h' : Heap) : Prop := h' = H ∨ ∃ ps d, RdAt h' r A l.length cp d ∧ d.en = l.length ∧ PinsJ L N h' ps ∧ (∀ o, hfrz h' ⟨L, o, none⟩ = false) ∧ Fr (fun y => y = L ∨ N ≤ y) H h' ∧ LineOf l ps d.e
def lefts (l : List UInt8) (r : Nat) (h' : Heap) : Nat := ((l.length : Int) - intOf ((hcell h' ⟨r, 3, none⟩).getD .nilIface)).toNat
theorem read_ok (R : RowAt h A (l.map byteV)) (hn : n = l.length) (hcp : n ≤ cp) (h10 : (10 : UInt8) ∉ l) (hl2 : l.length < 2 ^ 20) (cL : hcell h ⟨L, 0, none⟩ = some (.slice none 0 0)) (zL : ∀ o, hfrz h ⟨L, o, none⟩ = false) (hLA : ∀ y, blk A y → y ≠ L ∧ y < h.size)
    (K : OneAt h m [112, 105, 110] (.func (.func 97) #[] #[.pointer (some ⟨L, 0, none⟩)])) (hmL : m ≠ L) :
    CallsH Tryz.prog 96 [.slice A n cp, .map (some m)] h fun v h' => ReadPins L h.size l h h' v := by
  subst hn
  have hLl := hcell_lt cL
  refine calls_of 51 [.tmp 4, .tmp 5] Go.Proofs.Tryz.func96 rfl rfl rfl ?_
  simp -implicitDefEqProofs (disch := first | omega | (simp only [push_size, hset_size]; done) | (simp only [push_size, hset_size]; omega)) [go_sem]
  obtain ⟨H, hH⟩ : ∃ H, H = h.push (.cells #[.slice A l.length cp, .int .i64 0, .int .i64 0, .int .i64 (-1), .int .i64 0, .int .i64 0] 192) := ⟨_, rfl⟩
  have q : Gr h H := by rw [hH]; exact (Fr.refl _ _).push
  have hHs : H.size = h.size + 1 := by rw [hH, push_size]
  have D0 : Rd0 H h.size A l.length cp := by
    rw [hH]
    exact ⟨hcell_push_lit, hcell_push_lit, hcell_push_lit, hcell_push_lit, hcell_push_lit, hcell_push_lit, fun o => hfrz_push_new⟩
  rw [← hH]
  clear hH
  have cL0 := (q.cell (by omega) id).trans cL
  have zL0 : ∀ o, hfrz H ⟨L, o, none⟩ = false := fun o => (q.frz (by omega) id).trans (zL o)
  have RH : RowAt H A (l.map byteV) := R.fr0 q
  have KH := K.fr q id
  have hA : ∀ y, blk A y → y ≠ h.size := fun y hy => by have := (hLA y hy).2; omega
  have hm : m < h.size := by obtain ⟨b, c, h1⟩ := K; exact (Array.getElem?_eq_some_iff.1 h1).1
  have ld : lefts l h.size H = l.length + 1 := by unfold lefts; rw [D0.c3]; show ((l.length : Int) - (-1)).toNat = _; omega
  have out : ∀ {H' : Heap} {ps : List PinS} {d : Rd}, PinsJ L h.size H' ps → (∀ o, hfrz H' ⟨L, o, none⟩ = false) → Fr (fun y => y = L ∨ h.size ≤ y) H H' → LineOf l ps d.e → ReadPins L h.size l h H' (.tuple #[.int .i64 d.fa, .int .i64 d.e]) :=
    fun {H' ps d} h1 h2 h3 h4 => ⟨ps, d.fa, d.e, rfl, h1, h2, (q.mono fun _ _ g => g.elim).trans h3, h4⟩
  have J0 : PinsJ L h.size H [] := ⟨none, 0, [], cL0, .nil, fun p hp => by simp at hp, Nat.zero_le _⟩
  refine loopK (fun ρ h' => ρ 1 = .map (some m) ∧ ρ 6 = .pointer (some ⟨h.size, 0, none⟩) ∧ RdJ L h.size h.size A cp l H h') (fun ρ h' => lefts l h.size h') (by kernel_rfl) ?_ ?_
  · exact ⟨rfl, rfl, .inl rfl⟩
  rintro ρ h1 ⟨r1, r6, rfl | ⟨ps, d, D, hen, J, zJ, fJ, hcmp⟩⟩
  · obtain ⟨c0, c1, c2, c3, c4, c5, z⟩ := id D0
    simp -implicitDefEqProofs (disch := first | omega | (simp only [push_size, hset_size]; done) | (simp only [push_size, hset_size]; omega)) [go_sem, r1, r6, c3]
    by_cases hl0 : l = []
    · have hl1 : l.length = 0 := by rw [hl0]; rfl
      refine useC (lineEnd_ok c0 (by omega) 0 (by omega) (by omega)) ?_
      rintro _ h2 ⟨rfl, rfl⟩
      simp -implicitDefEqProofs (disch := first | omega | (simp only [push_size, hset_size]; done) | (simp only [push_size, hset_size]; omega)) [go_sem, r1, r6]
      refine drawK [(0, 0), (1, 0), (2, 0), (3, 1), (4, 0), (5, 0), (6, 0), (7, 1), (8, 0), (9, 0)] ?_
      simp -implicitDefEqProofs (disch := first | omega | (simp only [push_size, hset_size]; done) | (simp only [push_size, hset_size]; omega)) [go_sem, r1, r6, c4, c5]
      exact out (d := ⟨0, 0, 0, 0, 0⟩) J0 zL0 (Fr.refl _ _) (.no (by rw [hl0]; decide))
    refine useC (line0_ok D0 RH rfl hcp hl0 h10 (by omega) hA) ?_
    rintro _ h2 ⟨rfl, D2, f2⟩
    have hLr : ¬ L = h.size := by omega
    have cL2 := (f2.cell (by omega) hLr).trans cL0
    have zL2 : ∀ o, hfrz h2 ⟨L, o, none⟩ = false := fun o => (f2.frz (by omega) hLr).trans (zL0 o)
    have hs2 := f2.size
    by_cases h35 : l[0]? = some 35
    · obtain ⟨k0, k1, k2, k3, k4, k5, kz⟩ := id D2
      simp only at k4 k5
      rw [decide_eq_true h35]
      simp -implicitDefEqProofs (disch := first | omega | (simp only [push_size, hset_size]; done) | (simp only [push_size, hset_size]; omega)) [go_sem, r1, r6]
      refine drawK [(0, 0), (1, 0), (2, 0), (3, 1), (4, 0), (5, 0), (6, 0), (7, 1), (8, 0), (9, 0)] ?_
      simp -implicitDefEqProofs (disch := first | omega | (simp only [push_size, hset_size]; done) | (simp only [push_size, hset_size]; omega)) [go_sem, r1, r6, k4, k5]
      refine out (d := ⟨0, 0, 0, 0, 0⟩) (ps := []) ⟨none, 0, [], cL2, .nil, fun p hp => by simp at hp, Nat.zero_le _⟩ zL2 (f2.mono fun y _ hy => .inr (by omega)) fun z _ _ hz => ?_
      rw [hz, pinLine_split] at h35
      cases h35
    rw [decide_eq_false h35]
    have R2 := RH.fr f2 hA
    simp -implicitDefEqProofs (disch := first | omega | (simp only [push_size, hset_size]; done) | (simp only [push_size, hset_size]; omega)) [go_sem, r1, r6]
    refine useC (word_ok D2 R2 rfl hcp hl0 (by omega) hA rfl rfl) ?_
    rintro _ h3 ⟨rfl, D3, f3⟩
    have hs3 := f3.size
    have R3 := R2.fr f3 hA
    have cL3 := (f3.cell (by omega) hLr).trans cL2
    have zL3 : ∀ o, hfrz h3 ⟨L, o, none⟩ = false := fun o => (f3.frz (by omega) hLr).trans (zL2 o)
    have f13 := f2.trans f3
    have K3 := KH.fr f13 (by omega)
    have hlv := OneAt.look (P := Tryz.prog) (z := .nilFunc) K3 ms162 (by kernel_rfl) (wordOf l)
    simp -implicitDefEqProofs (disch := first | omega | (simp only [push_size, hset_size]; done) | (simp only [push_size, hset_size]; omega)) [go_sem, r1, r6, hlv]
    have hwl := wordOf_le l
    have down : ∀ {H' : Heap} {ps : List PinS} {d : Rd}, RdAt H' h.size A l.length cp d → d.en = l.length → PinsJ L h.size H' ps → (∀ o, hfrz H' ⟨L, o, none⟩ = false) → Fr (fun y => y = L ∨ h.size ≤ y) h1 H' → LineOf l ps d.e →
        RdJ L h.size h.size A cp l h1 H' ∧ lefts l h.size H' < lefts l h.size h1 := fun {H' ps d} h1' h2' h3' h4' h5' h6' => by
      refine ⟨.inr ⟨ps, d, h1', h2', h3', h4', h5', h6'⟩, ?_⟩
      rw [ld]
      unfold lefts
      rw [h1'.c3, h2']
      show ((l.length : Int) - (l.length : Int)).toNat < _
      omega
    by_cases hw : wordOf l = [112, 105, 110]
    · rw [hw] at D3 hwl
      simp -implicitDefEqProofs (disch := first | omega | (simp only [push_size, hset_size]; done) | (simp only [push_size, hset_size]; omega)) [go_sem, r1, r6, hw]
      refine useC (pinLine_ok (L := L) D3 R3 rfl hcp (by omega) hA rfl hwl rfl cL3 zL3 (by omega) fun y hy => (hLA y hy).1) ?_
      rintro _ h4 ⟨rfl, p, X, x, vs, d4, D4, hen4, cL4, zL4, W4, F4, f4, hcmp4⟩
      simp -implicitDefEqProofs (disch := first | omega | (simp only [push_size, hset_size]; done) | (simp only [push_size, hset_size]; omega)) [go_sem, r1, r6, hw]
      have W4' : PnW h4 h.size X x [p] vs := ⟨W4.S, W4.len, fun y hy => by have := W4.own y hy; omega, fun i s hs => by
        obtain ⟨A1, a1, B1, b1, g1, g2, g3, g4⟩ := W4.at' i s hs
        exact ⟨A1, a1, B1, b1, g1, g2, fun e y hy => ⟨(g3 e y hy).1, (g3 e y hy).2.1, by have := (g3 e y hy).2.2; omega⟩, fun e y hy => ⟨(g4 e y hy).1, (g4 e y hy).2.1, by have := (g4 e y hy).2.2; omega⟩⟩⟩
      refine down (ps := [p]) D4 (by rw [hen4]) ⟨X, x, vs, cL4, W4', fun q hq => by rw [List.mem_singleton] at hq; subst hq; exact F4, Nat.le_refl _⟩ zL4 ((f13.mono fun y _ hy => .inr (by omega)).trans (f4.mono fun y _ hy => ?_)) fun z hz1 hz2 hz3 => ?_
      · rcases hy with hy | hy | hy
        · exact .inr (by omega)
        · exact .inl hy
        · exact .inr (by omega)
      · have hlen := congrArg List.length hz3
        rw [pinLine_len] at hlen
        have hdr : l.drop 4 = z.name ++ 32 :: verText z.v := by rw [hz3, pinLine_split]; rfl
        obtain ⟨k1, k2⟩ := hcmp4 z hz1 hz2 (by show 3 < l.length; omega) hdr
        exact ⟨by rw [k1], k2⟩
    · obtain ⟨k0, k1, k2, k3, k4, k5, kz⟩ := id D3
      simp only at k1
      simp -implicitDefEqProofs (disch := first | omega | (simp only [push_size, hset_size]; done) | (simp only [push_size, hset_size]; omega)) [go_sem, r1, r6, hw, k1]
      refine useC (fail_ok D3 0 13) ?_
      rintro _ h4 ⟨D4, f4, -⟩
      simp -implicitDefEqProofs (disch := first | omega | (simp only [push_size, hset_size]; done) | (simp only [push_size, hset_size]; omega)) [go_sem, r1, r6, hw]
      have cL4 := (f4.cell (by omega) hLr).trans cL3
      have zL4 : ∀ o, hfrz h4 ⟨L, o, none⟩ = false := fun o => (f4.frz (by omega) hLr).trans (zL3 o)
      exact down (ps := []) D4 (by unfold Rd.fail; split <;> rfl) ⟨none, 0, [], cL4, .nil, fun p hp => by simp at hp, Nat.zero_le _⟩ zL4 ((f13.trans f4).mono fun y _ hy => .inr (by omega)) (.no hw)
  · obtain ⟨c0, c1, c2, c3, c4, c5, z⟩ := id D
    rw [hen] at c3
    simp -implicitDefEqProofs (disch := first | omega | (simp only [push_size, hset_size]; done) | (simp only [push_size, hset_size]; omega)) [go_sem, r1, r6, c3]
    have C := lineEnd_ok c0 (by omega) (l.length + 1) (by omega) (by omega)
    rw [Int.natCast_add, Int.natCast_one] at C
    refine useC C ?_
    rintro _ h2 ⟨rfl, rfl⟩
    simp -implicitDefEqProofs (disch := first | omega | (simp only [push_size, hset_size]; done) | (simp only [push_size, hset_size]; omega)) [go_sem, r1, r6]
    refine drawK [(0, 0), (1, 0), (2, 0), (3, 1), (4, 0), (5, 0), (6, 0), (7, 1), (8, 0), (9, 0)] ?_
    simp -implicitDefEqProofs (disch := first | omega | (simp only [push_size, hset_size]; done) | (simp only [push_size, hset_size]; omega)) [go_sem, r1, r6, c4, c5]
    exact out J zJ fJ hcmp
end
end Xe

/- Reading pins: sheet.Pins of one line. -/
namespace Xe
open Go Go.Proofs
set_option maxRecDepth 16000
set_option maxHeartbeats 4000000
section
variable {h : Heap} {A : Option Addr} {n cp : Nat} {l : List UInt8}
/-- what sheet.Pins hands back -/
def SheetR (N : Nat) (l : List UInt8) (h' : Heap) (v : Value) : Prop := ∃ (ps : List PinS) (X : Option Addr) (x fa e : Nat) (vs : List Value), v = .tuple #[.slice X ps.length x, .int .i64 fa, .int .i64 e] ∧ PnW h' N X x ps vs ∧ (∀ p ∈ ps, PinFew p) ∧ ps.length ≤ 1 ∧ LineOf l ps e
theorem LineOf.bad {l : List UInt8} {ps qs : List PinS} {e : Nat} (h : LineOf l ps e) (he : e ≠ 0) : LineOf l qs e := fun z h1 h2 h3 => absurd (h z h1 h2 h3).2 he
theorem PnW.mono {h : Heap} {N N' : Nat} {P : Option Addr} {pc : Nat} {ps : List PinS} {vs : List Value} (W : PnW h N P pc ps vs) (hN : N' ≤ N) : PnW h N' P pc ps vs :=
  ⟨W.S, W.len, fun y hy => Nat.le_trans hN (W.own y hy), fun i s hs => by
    obtain ⟨A1, a1, B1, b1, g1, g2, g3, g4⟩ := W.at' i s hs
    exact ⟨A1, a1, B1, b1, g1, g2, fun e y hy => ⟨(g3 e y hy).1, (g3 e y hy).2.1, Nat.le_trans hN (g3 e y hy).2.2⟩, fun e y hy => ⟨(g4 e y hy).1, (g4 e y hy).2.1, Nat.le_trans hN (g4 e y hy).2.2⟩⟩⟩
theorem sheetPins_ok (R : RowAt h A (l.map byteV)) (hn : n = l.length) (hcp : n ≤ cp) (h10 : (10 : UInt8) ∉ l) (hl2 : l.length < 2 ^ 20) (hA : ∀ y, blk A y → y < h.size) :
    CallsH Tryz.prog 59 [.slice A n cp] h fun v h' => SheetR h.size l h' v ∧ Gr h h' := by
  subst hn
  refine calls_of 18 [.cell 2 22, .tmp 3, .tmp 4] Go.Proofs.Tryz.func59 rfl rfl rfl ?_
  simp -implicitDefEqProofs (disch := first | omega | (simp only [push_size, hset_size]; done) | (simp only [push_size, hset_size]; omega)) [go_sem]
  obtain ⟨H1, hH1⟩ : ∃ H1, H1 = h.push (.cells #[.slice none 0 0] 22) := ⟨_, rfl⟩
  have q1 : Gr h H1 := by rw [hH1]; exact (Fr.refl _ _).push
  have hs1 : H1.size = h.size + 1 := by rw [hH1, push_size]
  have cL1 : hcell H1 ⟨h.size, 0, none⟩ = some (.slice none 0 0) := by rw [hH1]; exact hcell_push_lit
  have zL1 : ∀ o, hfrz H1 ⟨h.size, o, none⟩ = false := fun o => by rw [hH1]; exact hfrz_push_new
  rw [← hH1]
  clear hH1
  obtain ⟨H2, hH2⟩ : ∃ H2, H2 = H1.push (.map #[] 0) := ⟨_, rfl⟩
  have q2 : Gr H1 H2 := by rw [hH2]; exact (Fr.refl _ _).push
  have hs2 : H2.size = h.size + 2 := by rw [hH2, push_size, hs1]
  have m2 : H2[h.size + 1]? = some (.map #[] 0) := by rw [hH2, ← hs1]; simp
  rw [← hH2]
  clear hH2
  refine map_put1 m2 ms162 [112, 105, 110] fun h3 K3 hs3 he3 => ?_
  have q3 : Fr (fun y => y = h.size + 1) H2 h3 := Fr.newB (Fr.refl _ _) hs3 he3 rfl
  have cL3 := (q3.cell (by omega) (by omega)).trans ((q2.cell (by omega) id).trans cL1)
  have zL3 : ∀ o, hfrz h3 ⟨h.size, o, none⟩ = false := fun o => (q3.frz (by omega) (by omega)).trans ((q2.frz (by omega) id).trans (zL1 o))
  have f3 : Gr h h3 := (q1.trans q2).trans' q3 fun y hy e => by omega
  have R3 := R.fr0 f3
  rw [← hs1] at K3
  simp -implicitDefEqProofs (disch := first | omega | (simp only [push_size, hset_size]; done) | (simp only [push_size, hset_size]; omega)) [go_sem]
  refine useC (read_ok (L := h.size) R3 rfl hcp h10 hl2 cL3 zL3 (fun y hy => by have := hA y hy; omega) K3 (by omega)) ?_
  rintro _ h4 ⟨ps, fa, e, rfl, ⟨X, x, vs, cL4, W4, F4, hlen⟩, zL4, f4, hcmp⟩
  have hs4 := f4.size
  have f04 : Gr h h4 := f3.trans' f4 fun y hy e => by omega
  have fin : ∀ {v : Value}, Fr (fun y => y = h.size) h4 (hset h4 ⟨h.size, 0, none⟩ v) ∧ Gr h (hset h4 ⟨h.size, 0, none⟩ v) := fun {v} => ⟨by refine Fr.setA (Fr.refl _ _) ?_; rfl, f04.newA (Nat.le_refl _)⟩
  by_cases he : e = 0
  · have he' : ((e : Nat) : Int) = 0 := by omega
    simp -implicitDefEqProofs (disch := first | omega | (simp only [push_size, hset_size]; done) | (simp only [push_size, hset_size]; omega)) [go_sem, he', cL4, zL4]
    have W5 := (W4.fr (fin (v := .slice X ps.length x)).1 (fun y hy e => by have := W4.own y hy; omega) fun y _ hy _ e => by omega).mono (N' := h.size) (by omega)
    exact ⟨⟨ps, X, x, 0, 0, vs, rfl, W5, F4, hlen, by rw [he] at hcmp; exact hcmp⟩, fin.2⟩
  · have he' : ((e : Nat) : Int) ≠ 0 := by omega
    simp -implicitDefEqProofs (disch := first | omega | (simp only [push_size, hset_size]; done) | (simp only [push_size, hset_size]; omega)) [go_sem, he', cL4, zL4]
    exact ⟨⟨[], none, 0, fa, e, [], rfl, .nil, fun p hp => by simp at hp, Nat.zero_le _, hcmp.bad he⟩, fin.2⟩
end
end Xe

/- How long the texts of good pins are. -/
namespace Xe
open Go Go.Proofs
set_option maxRecDepth 16000
theorem glue_bound {c : UInt8} {B : Nat} : ∀ {l : List (List UInt8)}, (∀ x ∈ l, x.length ≤ B) → (glue c l).length ≤ l.length * (B + 1)
  | [], _ => Nat.zero_le _
  | [a], h => by
    have := h a List.mem_cons_self
    show a.length ≤ 1 * (B + 1)
    omega
  | a :: b :: l, h => by
    have h1 := h a List.mem_cons_self
    have h2 := glue_bound (c := c) (l := b :: l) fun x hx => h x (List.mem_cons_of_mem _ hx)
    show (a ++ c :: glue c (b :: l)).length ≤ _
    rw [List.length_append, List.length_cons, List.length_cons, Nat.succ_mul]
    omega
theorem tail_bound {c : UInt8} {l : List (List UInt8)} (h : ∀ x ∈ l, x.length ≤ 255) (hl : l.length ≤ 16) : (tailT c l).length ≤ 4097 := by
  unfold tailT
  split
  · exact Nat.zero_le _
  · rw [List.length_cons]
    have := glue_bound (c := 46) h
    have : l.length * (255 + 1) ≤ 16 * (255 + 1) := Nat.mul_le_mul_right _ hl
    omega
theorem ver_bound {v : Ver} (h1 : v.maj < 18446744073709551616) (h2 : v.min < 18446744073709551616) (h3 : v.pat < 18446744073709551616) (hp : v.pre.length ≤ 16) (hb : v.build.length ≤ 16) (hpl : ∀ x ∈ v.pre, x.length ≤ 255) (hbl : ∀ x ∈ v.build, x.length ≤ 255) : (verText v).length ≤ 8300 := by
  have a1 := decDigits_le h1
  have a2 := decDigits_le h2
  have a3 := decDigits_le h3
  have a4 := tail_bound (c := 45) hpl hp
  have a5 := tail_bound (c := 43) hbl hb
  unfold verText
  simp only [List.length_append, List.length_cons]
  omega
theorem idsFrom_bound {pre : Bool} : ∀ {l : List (List UInt8)} {i : Nat}, idsFrom pre i l = true → (l ≠ [] → i + l.length ≤ 16) ∧ ∀ x ∈ l, x.length ≤ 255
  | [], i, _ => ⟨fun h => absurd rfl h, fun x hx => by simp at hx⟩
  | a :: l, i, h => by
    unfold idsFrom at h
    simp only [Bool.and_eq_true, decide_eq_true_eq] at h
    obtain ⟨⟨h1, h2⟩, h3⟩ := h
    have h4 : a.length ≤ 255 ∧ i ≤ 15 := by
      unfold wrongI at h1
      split at h1
      · cases h1
      · split at h1
        · cases h1
        · omega
    obtain ⟨h5, h6⟩ := idsFrom_bound h3
    refine ⟨fun _ => ?_, fun x hx => ?_⟩
    · by_cases e : l = []
      · subst e; simp; omega
      · have := h5 e
        rw [List.length_cons]; omega
    · rcases List.mem_cons.1 hx with rfl | hx
      · exact h4.1
      · exact h6 x hx
/-- a good version -/
theorem verOk_bound {v : Ver} (h : verOk v = true) : (verText v).length ≤ 8300 := by
  unfold verOk at h
  simp only [Bool.and_eq_true, decide_eq_true_eq] at h
  obtain ⟨⟨⟨⟨h1, h2⟩, h3⟩, h4⟩, h5⟩ := h
  obtain ⟨a1, a2⟩ := idsFrom_bound h4
  obtain ⟨b1, b2⟩ := idsFrom_bound h5
  refine ver_bound (by omega) (by omega) (by omega) ?_ ?_ a2 b2
  · by_cases e : v.pre = []
    · rw [e]; exact Nat.zero_le _
    · have := a1 e; omega
  · by_cases e : v.build = []
    · rw [e]; exact Nat.zero_le _
    · have := b1 e; omega
theorem pins_good {l : List PinS} (h : pinsOk l = true) : ∀ p ∈ l, nameOk p.name = true ∧ verOk p.v = true := fun p hp => by
  unfold pinsOk at h
  rw [Bool.and_eq_true, List.all_eq_true] at h
  have := h.1 p hp
  rwa [Bool.and_eq_true] at this
theorem pinLine_bound {p : PinS} (h1 : nameOk p.name = true) (h2 : verOk p.v = true) : (pinLine p).length ≤ 8560 := by
  rw [pinLine_len]
  have := (nameOk_len h1).2.2
  have := verOk_bound h2
  omega
theorem pinsText_bound : ∀ {l : List PinS}, (∀ p ∈ l, nameOk p.name = true ∧ verOk p.v = true) → (pinsText l).length ≤ 8561 * l.length
  | [], _ => Nat.zero_le _
  | p :: l, h => by
    have h1 := pinLine_bound (h p List.mem_cons_self).1 (h p List.mem_cons_self).2
    have h2 := pinsText_bound (l := l) fun q hq => h q (List.mem_cons_of_mem _ hq)
    show ((pinLine p ++ [10]) ++ pinsText l).length ≤ _
    rw [List.length_append, List.length_append, List.length_cons, List.length_nil, List.length_cons, Nat.mul_succ]
    omega
theorem pinsText_one {p : PinS} : pinsText [p] = pinLine p ++ [10] := by unfold pinsText; simp

end Xe

/- Reading the lines of pins: explain.pins. -/
namespace Xe
open Go Go.Proofs
set_option maxRecDepth 16000
set_option maxHeartbeats 4000000
/-- pins whose lines these are -/
def PinsIn (l : List (List UInt8)) (ps : List PinS) : Prop := pinsOk ps = true ∧ l.drop 1 = ps.map pinLine
/-- what explain.pins hands back -/
def PinsLR (N : Nat) (l : List (List UInt8)) (h' : Heap) (v : Value) : Prop :=
  (∃ ps X x vs, PinsIn l ps ∧ v = .tuple #[.slice X ps.length x, .int .i64 0] ∧ PnW h' N X x ps vs ∧ (∀ p ∈ ps, PinFew p) ∧ ∀ qs, PinsIn l qs → qs = ps) ∨
  ((¬ ∃ qs, PinsIn l qs) ∧ ∃ k : Nat, v = .tuple #[.slice none 0 0, .int .i64 k] ∧ 1 ≤ k ∧ k ≤ l.length + 1)
/-- so many lines are read -/
structure PinsTo' (l : List (List UInt8)) (i : Nat) (ps : List PinS) : Prop where
  len : ps.length + 1 = i
  ok : pinsOk ps = true
  lines : ∀ (k : Nat) p, ps[k]? = some p → l[k + 1]? = some (pinLine p)
  few : ∀ p ∈ ps, PinFew p
  uniq : ∀ qs, PinsIn l qs → qs.take ps.length = ps
theorem PinsIn.at' {l : List (List UInt8)} {qs : List PinS} (h : PinsIn l qs) {i : Nat} {s : List UInt8} (hs : l[i + 1]? = some s) : ∃ q, qs[i]? = some q ∧ s = pinLine q ∧ nameOk q.name = true ∧ verOk q.v = true := by
  have h1 : (l.drop 1)[i]? = some s := by rw [List.getElem?_drop, Nat.add_comm]; exact hs
  rw [h.2, List.getElem?_map, Option.map_eq_some_iff] at h1
  obtain ⟨q, hq, e⟩ := h1
  exact ⟨q, hq, e.symm, pins_good h.1 q (List.mem_of_getElem? hq)⟩
theorem PinsTo'.zero {l : List (List UInt8)} : PinsTo' l 1 [] := ⟨rfl, rfl, fun k p hp => by simp at hp, fun p hp => by simp at hp, fun qs _ => rfl⟩
theorem PinsTo'.pre {l : List (List UInt8)} {i : Nat} {ps : List PinS} {p : PinS} {s : List UInt8} (I : PinsTo' l i ps) (hs : l[i]? = some s) {e : Nat} (hL : LineOf s [p] e) (hp : pinLine p = s) {qs : List PinS} (hq : PinsIn l qs) : qs.take (ps.length + 1) = ps ++ [p] := by
  have hi : i = ps.length + 1 := I.len.symm
  subst hi
  obtain ⟨q, h1, h2, h3, h4⟩ := hq.at' hs
  obtain ⟨h5, _⟩ := hL q h3 h4 h2
  rw [List.take_add_one, h1, I.uniq qs hq]
  injection h5 with h5
  rw [h5]; rfl
theorem PinsTo'.next {l : List (List UInt8)} {i : Nat} {ps : List PinS} {p : PinS} {s : List UInt8} (I : PinsTo' l i ps) (hs : l[i]? = some s) {e : Nat} (hL : LineOf s [p] e) (hp : pinLine p = s) (hf : PinFew p) (hok : pinsOk (ps ++ [p]) = true) : PinsTo' l (i + 1) (ps ++ [p]) := by
  have hi : i = ps.length + 1 := I.len.symm
  have hlen : (ps ++ [p]).length = ps.length + 1 := by simp
  refine ⟨by omega, hok, fun k q hq => ?_, fun q hq => ?_, fun qs hq => by rw [hlen]; exact I.pre hs hL hp hq⟩
  · by_cases hk : k < ps.length
    · rw [List.getElem?_append_left hk] at hq
      exact I.lines k q hq
    · have e : k = ps.length := by
        have := (List.getElem?_eq_some_iff.1 hq).1
        omega
      subst e
      rw [List.getElem?_append_right (Nat.le_refl _), Nat.sub_self] at hq
      cases hq
      rw [← hi, hs, hp]
  · rcases List.mem_append.1 hq with hq | hq
    · exact I.few q hq
    · rw [List.mem_singleton] at hq; subst hq; exact hf
theorem PinsTo'.bad {l : List (List UInt8)} {i : Nat} {ps : List PinS} {p : PinS} {s : List UInt8} (I : PinsTo' l i ps) (hs : l[i]? = some s) {e : Nat} (hL : LineOf s [p] e) (hp : pinLine p = s) (hok : pinsOk (ps ++ [p]) = false) : ¬ ∃ qs, PinsIn l qs := by
  rintro ⟨qs, hq⟩
  have h1 := I.pre hs hL hp hq
  have h2 := pinsOk_take (l := qs) (i := ps.length + 1) (by rw [h1]; exact hok)
  rw [hq.1] at h2
  cases h2
/-- no good pin has this line -/
theorem PinsTo'.none' {l : List (List UInt8)} {i : Nat} {ps qs : List PinS} {s : List UInt8} (I : PinsTo' l i ps) (hs : l[i]? = some s) {e : Nat} (hL : LineOf s qs e) (hne : e ≠ 0 ∨ qs.length ≠ 1 ∨ pinsText qs ≠ s ++ [10]) : ¬ ∃ qs, PinsIn l qs := by
  rintro ⟨zs, hz⟩
  have hi : i = ps.length + 1 := I.len.symm
  subst hi
  obtain ⟨q, h1, h2, h3, h4⟩ := hz.at' hs
  obtain ⟨h5, h6⟩ := hL q h3 h4 h2
  subst h5
  rcases hne with h | h | h
  · exact h h6
  · exact h rfl
  · exact h (by rw [pinsText_one, h2])
theorem PinsTo'.fin {l : List (List UInt8)} {i : Nat} {ps : List PinS} (I : PinsTo' l i ps) (hi : i = l.length) : PinsIn l ps ∧ ∀ qs, PinsIn l qs → qs = ps := by
  have hl := I.len
  have hd : l.drop 1 = ps.map pinLine := by
    apply List.ext_getElem?
    intro k
    rw [List.getElem?_drop, List.getElem?_map]
    by_cases hk : k < ps.length
    · obtain ⟨p, hp⟩ : ∃ p, ps[k]? = some p := ⟨_, List.getElem?_eq_getElem hk⟩
      rw [hp, Nat.add_comm, I.lines k p hp]; rfl
    · rw [List.getElem?_eq_none (by omega), List.getElem?_eq_none (by omega)]; rfl
  refine ⟨⟨I.ok, hd⟩, fun qs hq => ?_⟩
  have h1 := I.uniq qs hq
  have h2 := congrArg List.length hq.2
  rw [List.length_drop, List.length_map] at h2
  rw [← h1, List.take_of_length_le (by omega)]
/-- a floating load that is left out -/
theorem float2x {P : Program} {ops : Array Oper} {Q : Exit → Env → Heap → Prop} {C : Heap → Prop} {rest : List (Nat × Nat)} {ρ : Env} {h : Heap} {d j : Nat} {want : Bool} {op : Op} {ty : TypeId} {pos : String} {after : Array Edge}
    (hg : yieldX ops ρ j = some (!want)) (hn : seqX P ops Q C rest (put ρ d undef) h) : @seqY ⟨P, ops, Q, C, rest, ρ, h⟩ 2 (some ⟨some d, op, ty, pos, after, some (j, want)⟩) := by
  rw [seqY_2]
  show gX ops ρ (some (j, want)) _ _
  unfold gX
  have : ¬ (some (!want) : Option Bool) = some want := by cases want <;> simp
  simp only [hg]
  rw [if_neg this]
  exact hn
section
variable {h : Heap} {A : Option Addr} {n cp : Nat} {l : List (List UInt8)}
def PnJ (l : List (List UInt8)) (N : Nat) (h' : Heap) (v4 v2 : Value) : Prop := ∃ (i : Nat) (ps : List PinS) (X : Option Addr) (x : Nat) (vs : List Value), v4 = .int .i64 i ∧ i ≤ l.length ∧ v2 = .slice X ps.length x ∧ PnW h' N X x ps vs ∧ PinsTo' l i ps
theorem pinsLines_ok (G : Glob h) (R : RowAt h A (strs l)) (hn : n = l.length) (h1l : 1 ≤ n) (hl : n < 2 ^ 20) (hs : ∀ s ∈ l, s.length < 2 ^ 16 ∧ (10 : UInt8) ∉ s) :
    CallsH Tryz.prog 33 [.slice A n cp] h fun v h' => PinsLR h.size l h' v ∧ Gr h h' := by
  subst hn
  refine calls_of 58 [.tmp 2, .tmp 3] Go.Proofs.Tryz.func33 rfl rfl rfl ?_
  simp -implicitDefEqProofs (disch := first | omega | (simp only [push_size, hset_size]; done) | (simp only [push_size, hset_size]; omega)) [go_sem]
  refine loopK (fun ρ h' => ρ 0 = .slice A l.length cp ∧ Gr h h' ∧ PnJ l h.size h' (ρ 4) (ρ 2))
    (fun ρ _ => l.length - (intOf (ρ 4)).toNat) (by kernel_rfl) ?_ ?_
  · exact ⟨rfl, Fr.refl _ _, 1, [], none, 0, [], rfl, h1l, rfl, .nil, .zero⟩
  rintro ρ h1 ⟨r0, f1, i, ps, X, x, vs, r4, hi, r2, W, I⟩
  have hs1 := f1.size
  by_cases hin : i < l.length
  · obtain ⟨s, hsi⟩ : ∃ s, l[i]? = some s := ⟨_, List.getElem?_eq_getElem hin⟩
    obtain ⟨hsl, hs10⟩ := hs s (List.mem_of_getElem? hsi)
    obtain ⟨bk, off, rfl, hc⟩ := (R.fr0 f1).get (by rw [strs_len]; omega)
    have c0 := hc i _ (strs_at hsi)
    simp -implicitDefEqProofs (disch := first | omega | (simp only [push_size, hset_size]; done) | (simp only [push_size, hset_size]; omega)) [go_sem, r0, r2, r4, c0]
    intro rest
    simp -implicitDefEqProofs (disch := first | omega | (simp only [push_size, hset_size]; done) | (simp only [push_size, hset_size]; omega)) [go_sem, r0, r2, r4]
    obtain ⟨H2, hH2⟩ : ∃ H2, H2 = h1.push (.cells (s.map byteV ++ rest).toArray 5 (s.length + rest.length, s.length + rest.length + 1)) := ⟨_, rfl⟩
    have R2 : RowAt H2 (some ⟨h1.size, 0, none⟩) (s.map byteV) := by rw [hH2]; exact push_row
    have q2 : Gr h1 H2 := by rw [hH2]; exact (Fr.refl _ _).push
    have hs2 : H2.size = h1.size + 1 := by rw [hH2, push_size]
    have C := sheetPins_ok R2 rfl (show s.length ≤ s.length + rest.length by omega) hs10 (by omega) (fun y ⟨a, ha, hy⟩ => by cases ha; subst hy; rw [hs2]; exact Nat.lt_succ_self _)
    rw [hH2] at C
    refine useC C ?_
    rw [← hH2]
    clear C hH2
    rintro _ h3 ⟨⟨qs, Y, y, fa, e, ws, rfl, W3, F3, hlen3, hL⟩, f3⟩
    have f13 := q2.trans f3
    have c3 := (f13.cell (hcell_lt c0) id).trans c0
    have f03 := f1.trans f13
    have hs3 := f3.size
    simp -implicitDefEqProofs (disch := first | omega | (simp only [push_size, hset_size]; done) | (simp only [push_size, hset_size]; omega)) [go_sem, r0, r2, r4]
    refine drawC [(0, 0), (1, 0), (2, 0), (3, 0), (4, 0), (5, 0), (6, 0), (7, 0), (8, 0), (10, 0), (11, 0), (12, 0), (13, 2), (14, 0), (9, 3), (15, 0), (16, 0)] (fun h' => hcell h' ⟨bk, off + i, none⟩ = some (S s)) c3 ?_
    by_cases he : e = 0
    case neg =>
      have he' : ((e : Nat) : Int) ≠ 0 := by omega
      simp -implicitDefEqProofs (disch := first | omega | (simp only [push_size, hset_size]; done) | (simp only [push_size, hset_size]; omega)) [go_sem, r0, r2, r4, he']
      refine float2x (by rfl) ?_
      simp -implicitDefEqProofs (disch := first | omega | (simp only [push_size, hset_size]; done) | (simp only [push_size, hset_size]; omega)) [go_sem, r0, r2, r4, he']
      exact ⟨.inr ⟨I.none' hsi hL (.inl he), i + 1, rfl, by omega, by omega⟩, f03⟩
    subst he
    by_cases hq1 : qs.length = 1
    case neg =>
      have hq1' : ¬ ((qs.length : Nat) : Int) = 1 := by omega
      simp -implicitDefEqProofs (disch := first | omega | (simp only [push_size, hset_size]; done) | (simp only [push_size, hset_size]; omega)) [go_sem, r0, r2, r4, hq1']
      refine float2x (by rfl) ?_
      simp -implicitDefEqProofs (disch := first | omega | (simp only [push_size, hset_size]; done) | (simp only [push_size, hset_size]; omega)) [go_sem, r0, r2, r4, hq1']
      exact ⟨.inr ⟨I.none' hsi hL (.inr (.inl hq1)), i + 1, rfl, by omega, by omega⟩, f03⟩
    obtain ⟨q, rfl⟩ : ∃ q, qs = [q] := by
      match qs, hq1 with
      | [q], _ => exact ⟨q, rfl⟩
    have Fq := F3 q List.mem_cons_self
    obtain ⟨C, c, D, d, hv, V, aC, aD⟩ := W3.at' 0 q rfl
    have hvb := ver_bound V.m1 V.m2 V.m3 Fq.2.1 Fq.2.2.1 Fq.2.2.2.1 Fq.2.2.2.2
    have hlb : (pinsText [q]).length ≤ 2 ^ 39 := by
      rw [pinsText_one, List.length_append, pinLine_len]
      have := Fq.1
      simp only [List.length_cons, List.length_nil]
      omega
    simp -implicitDefEqProofs (disch := first | omega | (simp only [push_size, hset_size]; done) | (simp only [push_size, hset_size]; omega)) [go_sem, r0, r2, r4]
    refine float2g (S s) (by rfl) (fun h' hC => by simp -implicitDefEqProofs (disch := first | omega | (simp only [push_size, hset_size]; done) | (simp only [push_size, hset_size]; omega)) [go_sem, r0, r2, r4, hC]) ?_
    have sa := sadd (P := Tryz.prog) (t := 9) (x := s) (y := [10]) (by simp only [List.length_cons, List.length_nil]; omega)
    simp -implicitDefEqProofs (disch := first | omega | (simp only [push_size, hset_size]; done) | (simp only [push_size, hset_size]; omega)) [go_sem, r0, r2, r4, sa]
    refine useC (ptextP_ok (G.gr f03) W3.pins rfl (by show 1 < _; omega) hlb) ?_
    rintro _ h4 ⟨rfl, f4⟩
    have f04 := f03.trans f4
    refine ⟨(f4.cell (hcell_lt c3) id).trans c3, ?_⟩
    have hps := I.len
    by_cases ht : pinsText [q] = s ++ [10]
    case neg =>
      simp -implicitDefEqProofs (disch := first | omega | (simp only [push_size, hset_size]; done) | (simp only [push_size, hset_size]; omega)) [go_sem, r0, r2, r4, ht]
      exact ⟨.inr ⟨I.none' hsi hL (.inr (.inr ht)), i + 1, rfl, by omega, by omega⟩, f04⟩
    have hpl : pinLine q = s := by
      rw [pinsText_one] at ht
      exact List.append_cancel_right ht
    simp -implicitDefEqProofs (disch := first | omega | (simp only [push_size, hset_size]; done) | (simp only [push_size, hset_size]; omega)) [go_sem, r0, r2, r4, ht]
    have hws : ws = pin6 q C c D d := by
      apply List.ext_getElem?
      intro j
      have hl6 := W3.len
      by_cases hj : j < 6
      · obtain ⟨v, hv'⟩ : ∃ v, (pin6 q C c D d)[j]? = some v := ⟨_, List.getElem?_eq_getElem (by rw [pin6_len]; exact hj)⟩
        have := hv j v hv'
        rw [Nat.zero_mul, Nat.zero_add] at this
        rw [this, hv']
      · rw [List.getElem?_eq_none (by simp at hl6; omega), List.getElem?_eq_none (by rw [pin6_len]; omega)]
    subst hws
    have W1 := (W.gr f13).gr f4
    have W4 := W3.gr f4
    have hs4 := f4.size
    have hxl : ∀ z, blk X z → z < h1.size := fun z hz => W.S.blk_lt hz
    refine appendN (sz := 6) (vs := vs) (ws := pin6 q C c D d) W1.S (by rw [W1.len]) W4.S.row rfl (by omega) (by simp [pin6, verC, Value.oneCell', S]) (by omega) (by omega) ?_
    intro P pc h5 S5 f5 own5
    have hs5 := f5.size
    have ap : ∀ {L : List (List UInt8)} {E : Option Addr}, Apart h3 H2.size Y L E → Apart h4 h.size X L E := fun hh e y hy => by
      obtain ⟨g1, g2, g3⟩ := hh e y hy
      exact ⟨by omega, fun hb => by have := hxl y hb; omega, by omega⟩
    have W5 := W1.snoc (p := q) S5 f5 own5 (by omega) (V.gr f4) (ap aC) (ap aD)
    have hxo : ∀ z, blk X z → h.size ≤ z := fun z hz => W.own z hz
    have f05 : Gr h h5 := f04.trans' f5 fun z hz hb => by have := hxo z hb; omega
    have hlen1 : (ps ++ [q]).length = ps.length + 1 := by simp
    simp -implicitDefEqProofs (disch := first | omega | (simp only [push_size, hset_size]; done) | (simp only [push_size, hset_size]; omega)) [go_sem, r0, r2, r4]
    refine useC (pinsM_ok W5.pins hlen1.symm (by omega) fun p hp => ?_) ?_
    · rcases List.mem_append.1 hp with hp | hp
      · have := (I.few p hp).1; omega
      · rw [List.mem_singleton] at hp; subst hp; have := Fq.1; omega
    rintro _ h6 ⟨⟨a, e, rfl, he⟩, f6⟩
    have f06 := f05.trans f6
    by_cases hok : pinsOk (ps ++ [q]) = true
    · have he0 := he.2 hok
      subst he0
      simp -implicitDefEqProofs (disch := first | omega | (simp only [push_size, hset_size]; done) | (simp only [push_size, hset_size]; omega)) [go_sem, r0, r2, r4]
      refine ⟨⟨f06, i + 1, ps ++ [q], P, pc, _, by rw [Int.natCast_add]; rfl, by omega, by rw [hlen1], W5.gr f6, I.next hsi hL hpl Fq hok⟩, by omega⟩
    · have he0 : e ≠ 0 := fun g => hok (he.1 g)
      simp -implicitDefEqProofs (disch := first | omega | (simp only [push_size, hset_size]; done) | (simp only [push_size, hset_size]; omega)) [go_sem, r0, r2, r4, he0]
      exact ⟨.inr ⟨I.bad hsi hL hpl (by simpa using hok), i + 1, rfl, by omega, by omega⟩, f06⟩
  · have e : i = l.length := by omega
    simp -implicitDefEqProofs (disch := first | omega | (simp only [push_size, hset_size]; done) | (simp only [push_size, hset_size]; omega)) [go_sem, r0, r2, r4, e]
    obtain ⟨h2, h3⟩ := I.fin e
    exact ⟨.inl ⟨ps, X, x, vs, h2, rfl, W, I.few, h3⟩, f1⟩
end
end Xe

/- The lines of good outcomes, plainly. -/
namespace Xe
open Go Go.Proofs
set_option maxRecDepth 16000
def wSol : List UInt8 := [115, 111, 108, 117, 116, 105, 111, 110]
def wNon : List UInt8 := [110, 111, 110, 101]
def unl (ls : List (List UInt8)) : List UInt8 := (ls.map fun a => a ++ [10]).flatten
theorem unl_cons (a : List UInt8) (ls : List (List UInt8)) : unl (a :: ls) = a ++ 10 :: unl ls := by unfold unl; simp
theorem unl_split : ∀ {ls : List (List UInt8)}, (∀ a ∈ ls, (10 : UInt8) ∉ a) → splitOn 10 (unl ls) = ls ++ [[]]
  | [], _ => rfl
  | a :: ls, h => by rw [unl_cons, splitOn_cut _ (h a List.mem_cons_self), unl_split fun b hb => h b (List.mem_cons_of_mem _ hb)]; rfl
/-- an outcome's lines -/
def linesO (o : Outc) : List (List UInt8) :=
  if o.kind = 0 then wSol :: o.pins.map pinLine
  else if o.kind = 1 then wNon :: certL o.cert
  else if o.kind = 2 then [wParse ++ numsT [o.text, o.at', o.e]]
  else if o.kind = 3 then [wInvalid ++ numsT [o.text, o.at', o.e, o.wp, o.wr, o.wd]]
  else [wLimit ++ numsT [o.e]]
theorem unl_pins : ∀ {ps : List PinS}, unl (ps.map pinLine) = pinsText ps
  | [] => rfl
  | p :: ps => by
    rw [List.map_cons, unl_cons, unl_pins]
    show _ = (pinLine p ++ [10]) ++ pinsText ps
    simp
theorem unl_steps : ∀ {ss : List StepS}, unl (ss.map stepL) = stepsT ss
  | [] => rfl
  | s :: ss => by
    rw [List.map_cons, unl_cons, unl_steps]
    show _ = rowT (wordT s.kind) s.lits ++ stepsT ss
    unfold stepL rowT
    simp
theorem goodT_unl (o : Outc) : goodT o = unl (linesO o) := by
  unfold goodT linesO
  by_cases h0 : o.kind = 0
  · rw [if_pos h0, if_pos h0, unl_cons, unl_pins]; rfl
  rw [if_neg h0, if_neg h0]
  by_cases h1 : o.kind = 1
  · rw [if_pos h1, if_pos h1, unl_cons]
    unfold certL
    rw [unl_cons, unl_steps]
    unfold rowT wNone wNon
    simp
  rw [if_neg h1, if_neg h1]
  by_cases h2 : o.kind = 2
  · rw [if_pos h2, if_pos h2, unl_cons]; unfold rowT unl; simp
  rw [if_neg h2, if_neg h2]
  by_cases h3 : o.kind = 3
  · rw [if_pos h3, if_pos h3, unl_cons]; unfold rowT unl; simp
  rw [if_neg h3, if_neg h3, unl_cons]; unfold rowT unl; simp
/-! ### No line has a newline -/
theorem nums_no10 {l : List Int} : (10 : UInt8) ∉ numsT l := fun h => by
  unfold numsT at h
  rw [List.mem_flatten] at h
  obtain ⟨a, h1, h2⟩ := h
  obtain ⟨n, _, rfl⟩ := List.mem_map.1 h1
  rcases List.mem_cons.1 h2 with h2 | h2
  · cases h2
  · exact itoa_no (by decide) h2
theorem row_no10 {w : List UInt8} {l : List Int} (h : (10 : UInt8) ∉ w) : (10 : UInt8) ∉ w ++ numsT l := fun g => (List.mem_append.1 g).elim h nums_no10
theorem dec_no10 (u : Nat) : (10 : UInt8) ∉ Lib.decDigits u := fun h => by
  have := decDigits_dig u 10 h
  have e : (10 : UInt8).toNat = 10 := rfl
  omega
theorem glue_no {c d : UInt8} (hc : d ≠ c) : ∀ {l : List (List UInt8)}, (∀ a ∈ l, d ∉ a) → d ∉ glue c l
  | [], _ => by simp [glue]
  | [a], h => h a List.mem_cons_self
  | a :: b :: l, h => fun g => by
    rcases List.mem_append.1 (show d ∈ a ++ c :: glue c (b :: l) from g) with g | g
    · exact h a List.mem_cons_self g
    · rcases List.mem_cons.1 g with g | g
      · exact hc g
      · exact glue_no hc (l := b :: l) (fun x hx => h x (List.mem_cons_of_mem _ hx)) g
theorem ids_all {pre : Bool} : ∀ {l : List (List UInt8)} {i : Nat}, idsFrom pre i l = true → ∀ a ∈ l, a.all idB = true
  | [], _, _, a, ha => by simp at ha
  | b :: l, i, h, a, ha => by
    unfold idsFrom at h
    simp only [Bool.and_eq_true] at h
    rcases List.mem_cons.1 ha with rfl | ha
    · exact h.1.2
    · exact ids_all h.2 a ha
theorem tail_no10 {pre : Bool} {c : UInt8} {l : List (List UInt8)} (h : idsFrom pre 0 l = true) (hc : (10 : UInt8) ≠ c) : (10 : UInt8) ∉ tailT c l := by
  unfold tailT
  split
  · simp
  · intro g
    rcases List.mem_cons.1 g with g | g
    · exact hc g
    · refine glue_no (by decide) (fun a ha hx => ?_) g
      have := List.all_eq_true.1 (ids_all h a ha) 10 hx
      revert this; decide
theorem ver_no10 {v : Ver} (h : verOk v = true) : (10 : UInt8) ∉ verText v := by
  unfold verOk at h
  simp only [Bool.and_eq_true] at h
  obtain ⟨⟨_, h4⟩, h5⟩ := h
  unfold verText
  simp only [List.mem_append, List.mem_cons, not_or]
  exact ⟨dec_no10 _, by decide, dec_no10 _, by decide, dec_no10 _, tail_no10 h4 (by decide), tail_no10 h5 (by decide)⟩
theorem name_no10 {z : List UInt8} (h : nameOk z = true) : (10 : UInt8) ∉ z := by
  obtain ⟨h1, h2, _⟩ := nameOk_len h
  cases z with
  | nil => simp
  | cons c z =>
    unfold nameLen at h1
    simp only at h1
    by_cases hf : firstB c = true
    · rw [if_pos hf] at h1
      have h5 := (List.takeWhile_prefix nameB (l := c :: z)).eq_of_length h1
      intro g
      rw [← h5] at g
      have := List.all_eq_true.1 (List.all_takeWhile (p := nameB) (l := c :: z)) 10 g
      revert this; decide
    · rw [if_neg hf] at h1; simp at h1
theorem pinLine_no10 {p : PinS} (h1 : nameOk p.name = true) (h2 : verOk p.v = true) : (10 : UInt8) ∉ pinLine p := by
  unfold pinLine
  simp only [List.mem_append, not_or]
  exact ⟨⟨⟨by decide, name_no10 h1⟩, by decide⟩, ver_no10 h2⟩
theorem wordT_no10 {k : Int} : (10 : UInt8) ∉ wordT k := by
  unfold wordT
  split
  · decide
  · split <;> decide
theorem lines_no10 {o : Outc} (h : GoodO o) : ∀ a ∈ linesO o, (10 : UInt8) ∉ a := fun a ha => by
  unfold linesO at ha
  split at ha
  · rcases List.mem_cons.1 ha with rfl | ha
    · decide
    · obtain ⟨p, hp, rfl⟩ := List.mem_map.1 ha
      have := pins_good h.2.2.1 p hp
      exact pinLine_no10 this.1 this.2
  split at ha
  · rcases List.mem_cons.1 ha with rfl | ha
    · decide
    · unfold certL at ha
      rcases List.mem_cons.1 ha with rfl | ha
      · exact row_no10 (by decide)
      · obtain ⟨p, hp, rfl⟩ := List.mem_map.1 ha
        exact row_no10 wordT_no10
  split at ha
  · rw [List.mem_singleton] at ha; subst ha; exact row_no10 (by decide)
  split at ha
  · rw [List.mem_singleton] at ha; subst ha; exact row_no10 (by decide)
  · rw [List.mem_singleton] at ha; subst ha; exact row_no10 (by decide)
/-- a text is an outcome's just if its lines are -/
theorem text_lines {s z : List UInt8} {l : List (List UInt8)} (hs : splitOn 10 s = l ++ [z]) {o : Outc} (g : GoodO o) : goodT o = s ↔ l = linesO o ∧ z = [] := by
  have h1 : splitOn 10 (goodT o) = linesO o ++ [[]] := by rw [goodT_unl]; exact unl_split (lines_no10 g)
  constructor
  · intro e
    rw [e, hs] at h1
    have := List.append_inj' h1 rfl
    exact ⟨this.1, by simpa using this.2⟩
  · rintro ⟨rfl, rfl⟩
    rw [← glue_split 10 s, hs, ← h1, glue_split]
end Xe

/- Which outcome has these lines, plainly. -/
namespace Xe
open Go Go.Proofs
set_option maxRecDepth 16000
def OutIn (l : List (List UInt8)) (o : Outc) : Prop := GoodO o ∧ l = linesO o
def oSol (ps : List PinS) : Outc := ⟨0, ps, ⟨[], []⟩, 0, 0, 0, 0, 0, 0⟩
def oNon (c : CertS) : Outc := ⟨1, [], c, 0, 0, 0, 0, 0, 0⟩
theorem row_32 {w : List UInt8} {x : Int} {l : List Int} : (32 : UInt8) ∈ w ++ numsT (x :: l) := by unfold numsT; simp

theorem certOk_nil : CertOk ⟨[], []⟩ := ⟨by simp, by simp, .zero, .zero⟩
theorem numO_zero : NumO 0 := by unfold NumO; omega
theorem pinsOk_nil : pinsOk [] = true := by decide
theorem lines_ne {o : Outc} : linesO o ≠ [] := by
  unfold linesO
  split
  · simp
  split
  · simp
  split
  · simp
  split <;> simp
theorem head_kind {o : Outc} {a : List UInt8} {t : List (List UInt8)} (h : a :: t = linesO o) : (o.kind = 0 ∧ a = wSol ∧ t = o.pins.map pinLine) ∨ (o.kind ≠ 0 ∧ o.kind = 1 ∧ a = wNon ∧ t = certL o.cert) ∨ (o.kind ≠ 0 ∧ o.kind ≠ 1 ∧ (32 : UInt8) ∈ a ∧ t = []) := by
  unfold linesO at h
  by_cases h0 : o.kind = 0
  · rw [if_pos h0] at h; injection h with h1 h2; exact .inl ⟨h0, h1, h2⟩
  rw [if_neg h0] at h
  by_cases h1 : o.kind = 1
  · rw [if_pos h1] at h; injection h with h2 h3; exact .inr (.inl ⟨h0, h1, h2, h3⟩)
  rw [if_neg h1] at h
  refine .inr (.inr ⟨h0, h1, ?_⟩)
  by_cases h2 : o.kind = 2
  · rw [if_pos h2] at h; injection h with h3 h4; subst h3; exact ⟨row_32, h4⟩
  rw [if_neg h2] at h
  by_cases h3 : o.kind = 3
  · rw [if_pos h3] at h; injection h with h4 h5; subst h4; exact ⟨row_32, h5⟩
  rw [if_neg h3] at h; injection h with h4 h5; subst h4; exact ⟨row_32, h5⟩
theorem good_sol {o : Outc} (g : GoodO o) (hk : o.kind = 0) : o = oSol o.pins := by
  have := g.2.2.2.2.2.2.2.2.2.2
  obtain ⟨k, ps, c, t, a, e, wp, wr, wd⟩ := o
  simp only at hk
  subst hk
  simpa [blankO, oSol] using this
theorem good_non {o : Outc} (g : GoodO o) (hk : o.kind = 1) : o = oNon o.cert := by
  have := g.2.2.2.2.2.2.2.2.2.2
  obtain ⟨k, ps, c, t, a, e, wp, wr, wd⟩ := o
  simp only at hk
  subst hk
  simpa [blankO, oNon] using this
theorem out_sol {t : List (List UInt8)} {o : Outc} : OutIn (wSol :: t) o ↔ ∃ ps, PinsIn (wSol :: t) ps ∧ o = oSol ps := by
  constructor
  · rintro ⟨g, h⟩
    rcases head_kind h with ⟨h0, _, h2⟩ | ⟨_, _, h1, _⟩ | ⟨_, _, h1, _⟩
    · exact ⟨o.pins, ⟨g.2.2.1, h2⟩, good_sol g h0⟩
    · exact absurd h1 (by decide)
    · exact absurd h1 (by decide)
  · rintro ⟨ps, ⟨h1, h2⟩, rfl⟩
    refine ⟨⟨by show (0 : Int) ≤ 0; omega, by show (0 : Int) ≤ 4; omega, h1, certOk_nil, numO_zero, numO_zero, numO_zero, numO_zero, numO_zero, numO_zero, by simp [blankO, oSol]⟩, ?_⟩
    show wSol :: t = wSol :: ps.map pinLine
    rw [← h2]; rfl
theorem out_non {t : List (List UInt8)} {o : Outc} : OutIn (wNon :: t) o ↔ ∃ c, CertIn t c ∧ o = oNon c := by
  constructor
  · rintro ⟨g, h⟩
    rcases head_kind h with ⟨_, h1, _⟩ | ⟨_, h0, _, h2⟩ | ⟨_, _, h1, _⟩
    · exact absurd h1 (by decide)
    · exact ⟨o.cert, ⟨g.2.2.2.1, h2⟩, good_non g h0⟩
    · exact absurd h1 (by decide)
  · rintro ⟨c, ⟨h1, h2⟩, rfl⟩
    refine ⟨⟨by show (0 : Int) ≤ 1; omega, by show (1 : Int) ≤ 4; omega, pinsOk_nil, h1, numO_zero, numO_zero, numO_zero, numO_zero, numO_zero, numO_zero, by simp [blankO, oNon]⟩, ?_⟩
    show wNon :: t = wNon :: certL c
    rw [h2]
theorem num_i {n : Int} (h : NumO n) : I64 n := by unfold NumO at h; unfold I64; omega
theorem out_plain {a : List UInt8} {t : List (List UInt8)} {o : Outc} (h1 : a ≠ wSol) (h2 : a ≠ wNon) : OutIn (a :: t) o ↔ PlainO a o ∧ GoodO o ∧ t = [] := by
  constructor
  · rintro ⟨g, h⟩
    rcases head_kind h with ⟨_, h3, _⟩ | ⟨_, _, h3, _⟩ | ⟨k0, k1, _, h3⟩
    · exact absurd h3 h1
    · exact absurd h3 h2
    refine ⟨?_, g, h3⟩
    have hb := g.2.2.2.2.2.2.2.2.2.2
    obtain ⟨g0, g4, _, _, n1, n2, n3, n4, n5, n6, _⟩ := g
    have i1 := num_i n1
    have i2 := num_i n2
    have i3 := num_i n3
    have i4 := num_i n4
    have i5 := num_i n5
    have i6 := num_i n6
    unfold linesO at h
    rw [if_neg k0, if_neg k1] at h
    obtain ⟨k, ps, c, te, at', e, wp, wr, wd⟩ := o
    simp only at k0 k1 g0 g4 h i1 i2 i3 i4 i5 i6
    rcases (show k = 2 ∨ k = 3 ∨ k = 4 by omega) with rfl | rfl | rfl
    · rw [if_pos rfl] at h
      injection h with h4 h5
      refine .inl ⟨te, at', e, ⟨h4, fun n hn => ?_⟩, ?_⟩
      · simp only [List.mem_cons, List.not_mem_nil, or_false] at hn
        rcases hn with rfl | rfl | rfl <;> assumption
      · simpa [blankO, o2] using hb
    · rw [if_neg (by decide), if_pos rfl] at h
      injection h with h4 h5
      refine .inr (.inl ⟨te, at', e, wp, wr, wd, ⟨h4, fun n hn => ?_⟩, ?_⟩)
      · simp only [List.mem_cons, List.not_mem_nil, or_false] at hn
        rcases hn with rfl | rfl | rfl | rfl | rfl | rfl <;> assumption
      · simpa [blankO, o3] using hb
    · rw [if_neg (by decide), if_neg (by decide)] at h
      injection h with h4 h5
      refine .inr (.inr ⟨e, ⟨h4, fun n hn => ?_⟩, ?_⟩)
      · simp only [List.mem_cons, List.not_mem_nil, or_false] at hn
        subst hn; assumption
      · simpa [blankO, o4] using hb
  · rintro ⟨hp, g, rfl⟩
    refine ⟨g, ?_⟩
    rcases hp with ⟨x, y, z, hN, rfl⟩ | ⟨x, y, z, u, v, w, hN, rfl⟩ | ⟨x, hN, rfl⟩
    · rw [hN.1]; rfl
    · rw [hN.1]; rfl
    · rw [hN.1]; rfl
theorem PlainO.uniq {a : List UInt8} {o o' : Outc} (h : PlainO a o) (h' : PlainO a o') : o = o' := by
  have hP : (32 : UInt8) ∉ wParse := by decide
  have hI : (32 : UInt8) ∉ wInvalid := by decide
  have hL : (32 : UInt8) ∉ wLimit := by decide
  rcases h with ⟨x, y, z, hN, rfl⟩ | ⟨x, y, z, u, v, w, hN, rfl⟩ | ⟨x, hN, rfl⟩ <;> rcases h' with ⟨x', y', z', hN', rfl⟩ | ⟨x', y', z', u', v', w', hN', rfl⟩ | ⟨x', hN', rfl⟩
  · have := (NumsIn.uniq hP hP hN hN').2
    simp only [List.cons.injEq, and_true] at this
    obtain ⟨rfl, rfl, rfl⟩ := this; rfl
  · exact absurd (NumsIn.uniq hP hI hN hN').1 (by decide)
  · exact absurd (NumsIn.uniq hP hL hN hN').1 (by decide)
  · exact absurd (NumsIn.uniq hI hP hN hN').1 (by decide)
  · have := (NumsIn.uniq hI hI hN hN').2
    simp only [List.cons.injEq, and_true] at this
    obtain ⟨rfl, rfl, rfl, rfl, rfl, rfl⟩ := this; rfl
  · exact absurd (NumsIn.uniq hI hL hN hN').1 (by decide)
  · exact absurd (NumsIn.uniq hL hP hN hN').1 (by decide)
  · exact absurd (NumsIn.uniq hL hI hN hN').1 (by decide)
  · have := (NumsIn.uniq hL hL hN hN').2
    simp only [List.cons.injEq, and_true] at this
    subst this; rfl
theorem CertIn.uniq {l : List (List UInt8)} {c c' : CertS} (h : CertIn l c) (h' : CertIn l c') : c = c' := by
  have hl : c.steps.length = c'.steps.length := by
    have := h.2.symm.trans h'.2
    have := congrArg List.length this
    simp only [certL, List.length_cons, List.length_map] at this
    omega
  obtain ⟨a, t, rfl⟩ : ∃ a t, l = a :: t := ⟨_, _, h.2⟩
  have e1 : c.core = c'.core := (NumsIn.uniq (by decide) (by decide) (core_in h).1 (core_in h').1).2
  have e2 : c.steps = c'.steps := steps_eq hl fun k p q hp hq => by
    have hi : (a :: t)[k + 1]? = some (stepL p) := by
      rw [h.2, certL, List.getElem?_cons_succ, List.getElem?_map, hp]; rfl
    obtain ⟨s, hs, hS⟩ := step_in h hi
    obtain ⟨s', hs', hS'⟩ := step_in h' hi
    rw [hp] at hs
    rw [hq] at hs'
    cases hs
    cases hs'
    exact hS.uniq hS'
  cases c
  cases c'
  simp only at e1 e2
  rw [e1, e2]
end Xe
