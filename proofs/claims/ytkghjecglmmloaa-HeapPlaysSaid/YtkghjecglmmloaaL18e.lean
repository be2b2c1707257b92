/- HeapPlays. -/
import Derived.Test.YtkghjecglmmloaaL18d
import Derived.Test.YtkghjecglmmloaaMono
namespace Xe
open Go Hp Go.Proofs
set_option maxRecDepth 16000
section
variable {h : Heap} {b vars n : Nat} {O : Nat → Prop} {act : Nat → Int} {S : Nat → Prop}

/-- how many of the first so many are in -/
def cntN (s : Nat → Bool) : Nat → Nat
  | 0 => 0
  | v + 1 => cntN s v + if s (v + 1) = true then 1 else 0
theorem cntN_t {s : Nat → Bool} {v : Nat} (h : s (v + 1) = true) : cntN s (v + 1) = cntN s v + 1 := by rw [cntN, if_pos h]
theorem cntN_f {s : Nat → Bool} {v : Nat} (h : ¬ s (v + 1) = true) : cntN s (v + 1) = cntN s v := by rw [cntN, if_neg h]; rfl
theorem cntN_filter (s : Nat → Bool) : ∀ v, cntN s v = ((List.range' 1 v).filter s).length
  | 0 => rfl
  | v + 1 => by
    rw [cntN, cntN_filter s v, List.range'_concat, List.filter_append, List.length_append, Nat.one_mul, Nat.add_comm 1 v]
    by_cases h : s (v + 1) = true <;> simp [h]
theorem cntN_le (s : Nat → Bool) : ∀ v, cntN s v ≤ v
  | 0 => Nat.le_refl _
  | v + 1 => by have := cntN_le s v; unfold cntN; split <;> omega

theorem HeapOk.count {s : Nat → Bool} (H : HeapOk h b O vars n act (Inn vars s)) : n = cntN s vars := by
  obtain ⟨kb, lb, pb, kc, lc, pc, A, l, pl, H1, W, Od, hin, hO⟩ := H.ex
  rw [cntN_filter]
  have key : ∀ v, v ∈ (List.range n).map l ↔ v ∈ (List.range' 1 vars).filter s := by
    intro v
    rw [List.mem_filter, List.mem_range'_1, List.mem_map]
    constructor
    · rintro ⟨i, hi, rfl⟩
      have := (hin _).1 ⟨i, List.mem_range.1 hi, rfl⟩
      exact ⟨⟨this.1, by have := this.2.1; omega⟩, this.2.2⟩
    · rintro ⟨⟨h1, h2⟩, h3⟩
      obtain ⟨i, hi, rfl⟩ := (hin v).2 ⟨h1, by omega, h3⟩
      exact ⟨i, List.mem_range.2 hi, rfl⟩
  have nd : ((List.range n).map l).Nodup := nodup_map List.nodup_range fun x hx y hy e => W.inj (List.mem_range.1 hx) (List.mem_range.1 hy) e
  have e1 := nodup_le nd (fun x hx => (key x).1 hx)
  have e2 := nodup_le ((List.nodup_range' (step := 1)).filter s) (fun x hx => (key x).2 hx)
  rw [List.length_map, List.length_range] at e1 e2
  omega

theorem front_cong {a : Nat → Int} (hS : ∀ v, S v → 1 ≤ v ∧ v ≤ vars) (e : ∀ v, 1 ≤ v → v ≤ vars → a v = act v) : front a S vars = front act S vars := by
  refine sorted_eq front_lt front_lt fun w => ?_
  rw [mem_front hS, mem_front hS]
  constructor
  · rintro ⟨h1, h2⟩
    refine ⟨h1, fun u hu => ?_⟩
    have := h2 u hu
    rw [e u (hS u hu).1 (hS u hu).2, e w (hS w h1).1 (hS w h1).2] at this
    exact this
  · rintro ⟨h1, h2⟩
    refine ⟨h1, fun u hu => ?_⟩
    rw [e u (hS u hu).1 (hS u hu).2, e w (hS w h1).1 (hS w h1).2]
    exact h2 u hu

/-- an argument: acts -/
structure ActRow (h : Heap) (A : Option Addr) (m : Nat) : Prop where
  small : m < 2 ^ 63
  at' : ∀ i, i < m → ∃ bk off, ∃ k x y : Int, A = some ⟨bk, off, none⟩ ∧ hcell h ⟨bk, off + i * 3, none⟩ = some (.int .i64 k) ∧ hcell h ⟨bk, off + i * 3 + 1, none⟩ = some (.int .i64 x) ∧ hcell h ⟨bk, off + i * 3 + 2, none⟩ = some (.int .i64 y) ∧
    -9223372036854775808 ≤ y ∧ y ≤ 9223372036854775807
theorem ActRow.fr {A : Option Addr} {m : Nat} (R : ActRow h A m) {h' : Heap} (f : Fr (fun _ => False) h h') : ActRow h' A m :=
  ⟨R.small, fun i hi => by
    obtain ⟨bk, off, k, x, y, h1, h2, h3, h4, h5⟩ := R.at' i hi
    exact ⟨bk, off, k, x, y, h1, (f.cell (hcell_lt h2) id).trans h2, (f.cell (hcell_lt h3) id).trans h3, (f.cell (hcell_lt h4) id).trans h4, h5⟩⟩

/-- the state of the play -/
structure Play (h0 h : Heap) (b xb vars : Nat) : Prop where
  ex : ∃ O ab ib n act a s, HeapOk h b O vars n act (Inn vars s) ∧ RefAt h ab ib vars a s ∧ (∀ v, 1 ≤ v → v ≤ vars → a v = act v) ∧
    hcell h ⟨xb, 0, none⟩ = some (.slice (some ⟨ab, 0, none⟩) (vars + 1) (vars + 1)) ∧ hcell h ⟨xb, 1, none⟩ = some (.slice (some ⟨ib, 0, none⟩) (vars + 1) (vars + 1)) ∧
    ¬ O ab ∧ ¬ O ib ∧ ¬ O xb ∧ xb ≠ ab ∧ xb ≠ ib ∧ (∀ x, O x → h0.size ≤ x) ∧ h0.size ≤ ab ∧ h0.size ≤ ib ∧ h0.size ≤ xb
  fr : Fr (fun _ => False) h0 h

theorem plays_walk (a0 a2 : Int) (w0 : -9223372036854775808 ≤ a0 ∧ a0 ≤ 9223372036854775807) (w2 : -9223372036854775808 ≤ a2 ∧ a2 ≤ 9223372036854775807) (A : Option Addr) (m c : Nat) (R : ActRow h A m) :
    CallsH Try.prog 4 [.int .i64 a0, .slice A m c, .int .i64 a2] h fun r h' => r = .bool true ∧ Fr (fun _ => False) h h' := by
  have hms := R.small
  refine calls_of 224 [.tmp 6] Go.Proofs.Try.func4 rfl rfl rfl (by kernel_rfl) (Nat.le_of_ble_eq_true rfl) ?_
  simp -implicitDefEqProofs (disch := omega) [go_sem]
  refine useC awake18 ?_
  rintro _ h1 ⟨rfl, fr1⟩
  by_cases hm : 60 < m
  · by_cases hv : 0 ≤ a0
    · simp -implicitDefEqProofs (disch := omega) [go_sem]
      exact fr1
    · simp -implicitDefEqProofs (disch := omega) [go_sem]
      refine useC (new_ok _) ?_
      rintro _ h2 hb
      obtain ⟨_, rfl, rfl⟩ := hb.resolve_right (fun ⟨k, hk, _⟩ => by omega)
      simp -implicitDefEqProofs (disch := omega) [go_sem]
      exact fr1
  by_cases hv1 : 30 < a0
  · simp -implicitDefEqProofs (disch := omega) [go_sem]
    exact fr1
  by_cases hv0 : a0 < 0
  · simp -implicitDefEqProofs (disch := omega) [go_sem]
    refine useC (new_ok _) ?_
    rintro _ h2 hb
    obtain ⟨_, rfl, rfl⟩ := hb.resolve_right (fun ⟨k, hk, _⟩ => by omega)
    simp -implicitDefEqProofs (disch := omega) [go_sem]
    exact fr1
  obtain ⟨vars, rfl⟩ : ∃ v : Nat, a0 = v := ⟨a0.toNat, by omega⟩
  simp -implicitDefEqProofs (disch := omega) [go_sem]
  refine useC (new_ok _) ?_
  rintro _ h2 hor
  obtain ⟨k, hk, _, rfl, O, H, nx⟩ := hor.resolve_left (fun ⟨hb, _⟩ => by omega)
  clear hor
  obtain rfl : k = vars := by omega
  simp -implicitDefEqProofs (disch := omega) [go_sem]
  refine useC (rnew_h (by omega)) ?_
  rintro _ h3 ⟨ab, ib, rfl, lab, lib, RA, fr3⟩
  simp -implicitDefEqProofs (disch := omega) [go_sem, refV]
  have P0 : Play h (hset (hset (Array.push h3 (.cells #[.slice none 0 0, .slice none 0 0] 35 (0, 0))) ⟨h3.size, 0, none⟩ (.slice (some ⟨ab, 0, none⟩) (k + 1) (k + 1))) ⟨h3.size, 1, none⟩ (.slice (some ⟨ib, 0, none⟩) (k + 1) (k + 1))) h1.size h3.size k := by
    have z1 := fr1.size
    have z2 := nx.fr.size
    have z3 := fr3.size
    have f4 : Fr (fun _ => False) h3 (hset (hset (Array.push h3 (.cells #[.slice none 0 0, .slice none 0 0] 35 (0, 0))) ⟨h3.size, 0, none⟩ (.slice (some ⟨ab, 0, none⟩) (k + 1) (k + 1))) ⟨h3.size, 1, none⟩ (.slice (some ⟨ib, 0, none⟩) (k + 1) (k + 1))) :=
      (((Fr.refl _ _).push).new (Nat.le_refl _)).new (Nat.le_refl _)
    obtain ⟨ta, ti⟩ := RA.lts
    have hO : ∀ x, O x → h1.size ≤ x ∧ x < h2.size := fun x hx => ⟨(nx.own x hx).resolve_left id, H.low x hx⟩
    refine ⟨⟨O, ab, ib, k, _, _, _, ((H.fr fr3 (fun _ _ => id)).fr f4 (fun _ _ => id)).cong (fun v => ?_), RA.fr f4 id id, fun _ _ _ => rfl, ?_, ?_, ?_, ?_, ?_, ?_, ?_, ?_, ?_, ?_, ?_⟩, ((fr1.trans nx.fr).trans fr3).trans f4⟩
    · unfold Inn; rw [decide_eq_true_eq]; exact ⟨fun h => ⟨h.1, h.2, h.1⟩, fun h => ⟨h.1, h.2.1⟩⟩
    · simp -implicitDefEqProofs (disch := omega) [go_sem]
    · simp -implicitDefEqProofs (disch := omega) [go_sem]
    · exact fun hx => by have := hO _ hx; omega
    · exact fun hx => by have := hO _ hx; omega
    · exact fun hx => by have := hO _ hx; omega
    · omega
    · omega
    · exact fun x hx => by have := hO _ hx; omega
    · omega
    · omega
    · omega
  obtain ⟨xb, hxb⟩ : ∃ xb, xb = h3.size := ⟨_, rfl⟩
  obtain ⟨hb, hhb⟩ : ∃ hb, hb = h1.size := ⟨_, rfl⟩
  refine loopK (fun ρ h' => ρ 0 = .int .i64 k ∧ ρ 1 = .slice A m c ∧ ρ 2 = .int .i64 a2 ∧ ρ 7 = .pointer (some ⟨hb, 0, none⟩) ∧ ρ 8 = .pointer (some ⟨xb, 0, none⟩) ∧ (∃ i : Nat, ρ 9 = .int .i64 i ∧ i ≤ m) ∧ Play h h' hb xb k) (fun ρ _ => m - (intOf (ρ 9)).toNat) (by kernel_rfl) ?_ ?_
  · subst hxb hhb
    exact ⟨rfl, rfl, rfl, rfl, rfl, ⟨0, rfl, by omega⟩, P0⟩
  · clear P0
    rintro ρ h4 ⟨r0, r1, r2, r7, r8, ⟨i, r9, hi⟩, PL⟩
    by_cases him : i = m
    · subst him
      simp -implicitDefEqProofs (disch := omega) [go_sem, r0, r1, r2, r7, r8, r9]
      exact PL.fr
    · obtain ⟨bk, off, kd, x, y, rfl, e0, e1, e2, y0, y1⟩ := (R.fr PL.fr).at' i (by omega)
      simp -implicitDefEqProofs (disch := omega) [go_sem, r0, r1, r2, r7, r8, r9, e0, e1, e2, ↓ stop_block (id := 2)]
      have hr9 : (intOf (ρ 9)).toNat = i := by rw [r9]; rfl
      refine cutK (fun ρ h' => ρ 0 = .int .i64 k ∧ ρ 1 = .slice (some ⟨bk, off, none⟩) m c ∧ ρ 2 = .int .i64 a2 ∧ ρ 7 = .pointer (some ⟨hb, 0, none⟩) ∧ ρ 8 = .pointer (some ⟨xb, 0, none⟩) ∧ ρ 9 = .int .i64 i ∧ Play h h' hb xb k) ?_ ?_
      · obtain ⟨tb, htb⟩ : ∃ tb, tb = h4.size := ⟨_, rfl⟩
        rw [← htb]
        obtain ⟨h5, hh5⟩ : ∃ h5, h5 = hset (hset (hset (Array.push h4 (.cells #[.int .i64 0, .int .i64 0, .int .i64 0] 38 (0, 0))) ⟨tb, 0, none⟩ (.int .i64 kd)) ⟨tb, 1, none⟩ (.int .i64 x)) ⟨tb, 2, none⟩ (.int .i64 y) := ⟨_, rfl⟩
        have f45 : Fr (fun _ => False) h4 h5 := by rw [hh5]; exact ((((Fr.refl _ _).push).new (by rw [htb]; exact Nat.le_refl _)).new (by rw [htb]; exact Nat.le_refl _)).new (by rw [htb]; exact Nat.le_refl _)
        have t0 : hcell h5 ⟨tb, 0, none⟩ = some (.int .i64 kd) := by rw [hh5, htb]; simp -implicitDefEqProofs (disch := omega) [go_sem]
        have t1 : hcell h5 ⟨tb, 1, none⟩ = some (.int .i64 x) := by rw [hh5, htb]; simp -implicitDefEqProofs (disch := omega) [go_sem]
        have t2 : hcell h5 ⟨tb, 2, none⟩ = some (.int .i64 y) := by rw [hh5, htb]; simp -implicitDefEqProofs (disch := omega) [go_sem]
        rw [← hh5]
        obtain ⟨⟨O, ab, ib, n, act, a, s, H, RA, ha, k0, k1, oa, oi, ox, xa, xi, hO, za, zi, zx⟩, fr⟩ := PL
        have H5 := H.fr f45 (fun _ _ => id)
        have RA5 := RA.fr f45 id id
        have k05 := (f45.cell (o := 0) (hcell_lt k0) id).trans k0
        have k15 := (f45.cell (o := 1) (hcell_lt k1) id).trans k1
        have tO : ¬ O tb := fun h => by have := H.low tb h; omega
        have tab : tb ≠ ab := by have := RA.lts; omega
        have tib : tb ≠ ib := by have := RA.lts; omega
        have txb : tb ≠ xb := by have := hcell_lt k0; omega
        have fr5 := fr.trans f45
        have P5 : Play h h5 hb xb k := ⟨⟨O, ab, ib, n, act, a, s, H5, RA5, ha, k05, k15, oa, oi, ox, xa, xi, hO, za, zi, zx⟩, fr5⟩
        have hkv := H5.vars_le
        by_cases c0 : kd = 0 ∨ kd = 1
        · rcases c0 with rfl | rfl
          · simp -implicitDefEqProofs (disch := omega) [go_sem, r0, r1, r2, r7, r8, r9, k05, k15, t0, t1, t2]
            refine useC (show CallsH Try.prog 20 [refV ab ib k, .int .i64 x] h5 _ from rthere_h x) ?_
            rintro _ h6 ⟨rfl, fr6⟩
            have H6 := H5.fr fr6 (fun _ _ => id)
            have RA6 := RA5.fr fr6 id id
            have k06 := (fr6.cell (o := 0) (hcell_lt k05) id).trans k05
            have k16 := (fr6.cell (o := 1) (hcell_lt k15) id).trans k15
            have t16 := (fr6.cell (o := 1) (hcell_lt t1) id).trans t1
            have t26 := (fr6.cell (o := 2) (hcell_lt t2) id).trans t2
            have P6 : Play h h6 hb xb k := ⟨⟨O, ab, ib, n, act, a, s, H6, RA6, ha, k06, k16, oa, oi, ox, xa, xi, hO, za, zi, zx⟩, fr5.trans fr6⟩
            by_cases hl : (1 ≤ x ∧ x ≤ k) ∧ 1 ≤ y ∧ y ≤ 1048576
            · obtain ⟨⟨hl1, hl2⟩, hy1, hy2⟩ := hl
              obtain ⟨u, rfl⟩ : ∃ u : Nat, x = u := ⟨x.toNat, by omega⟩
              have hl : 1 ≤ (u : Int) ∧ (u : Int) ≤ k := ⟨hl1, hl2⟩
              simp -implicitDefEqProofs (disch := omega) [go_sem, r0, r1, r2, r7, r8, r9, k06, k16, t16, t26, hl]
              have cA := RA6.ca u (by omega)
              have hau := ha u (by omega) (by omega)
              have hb1 := H6.acts u (by omega)
              refine useC (bump_ok H6 _ _) ?_
              rintro _ h7 hor
              obtain ⟨v, hv, rfl, _, _, _, _, H7, fr7⟩ := hor.resolve_right (fun ⟨hb7, _⟩ => hb7 ⟨by omega, by omega, hy1, hy2⟩)
              obtain rfl : v = u := by omega
              have RA7 := RA6.fr fr7 oa oi
              have k07 := (fr7.cell (o := 0) (hcell_lt k06) ox).trans k06
              have k17 := (fr7.cell (o := 1) (hcell_lt k16) ox).trans k16
              have t17 := (fr7.cell (o := 1) (hcell_lt t16) tO).trans t16
              have t27 := (fr7.cell (o := 2) (hcell_lt t26) tO).trans t26
              have cA7 := RA7.ca v (by omega)
              simp -implicitDefEqProofs (disch := omega) [go_sem, r0, r1, r2, r7, r8, r9, k07, k17, t17, t27, hl]
              refine drawK [(0, 0), (1, 1), (2, 0), (3, 1), (4, 0), (5, 1), (6, 0), (7, 1), (8, 0), (9, 1), (10, 0), (11, 1), (12, 0), (13, 0), (14, 0), (15, 3)] mixed (by kernel_rfl) ?_
              simp -implicitDefEqProofs (disch := omega) [go_sem, r0, r1, r2, r7, r8, r9, k07, k17, t17, t27, cA7, RA7.fa]
              have f8 : Fr (fun z => z = ab) h7 (hset h7 ⟨ab, v, none⟩ (.int .i64 (min (a v + y) 1099511627776))) := by
                refine Fr.set (Fr.refl _ _) ?_
                rfl
              have zz6 := fr5.trans fr6
              have z7 := zz6.trans' fr7 (fun z hz h => by have := hO z h; omega)
              refine ⟨⟨O, ab, ib, n, bumped act v y, upd a v (min (a v + y) 1099511627776), s, H7.fr f8 (fun z hz e => oa (e ▸ hz)), RA7.setA (by omega) _, fun z z1 z2 => ?_, (f8.cell (o := 0) (hcell_lt k07) xa).trans k07, (f8.cell (o := 1) (hcell_lt k17) xa).trans k17,
                oa, oi, ox, xa, xi, hO, za, zi, zx⟩, z7.trans' f8 (fun z hz e => by omega)⟩
              unfold bumped upd
              by_cases e : z = v
              · rw [if_pos e, if_pos e, hau]
              · rw [if_neg e, if_neg e]; exact ha z z1 z2
            · by_cases hl1 : 1 ≤ x ∧ x ≤ k
              · by_cases hy1 : 1 ≤ y
                · have hy2 : 1048576 < y := by omega
                  simp -implicitDefEqProofs (disch := omega) [go_sem, r0, r1, r2, r7, r8, r9, k06, k16, t16, t26, hl1]
                  refine useC (bump_ok H6 _ _) ?_
                  rintro _ h7 hor
                  obtain ⟨_, rfl, rfl⟩ := hor.resolve_left (fun ⟨v, hv, _, g1, g2, g3, g4, _⟩ => hl ⟨⟨by omega, by omega⟩, g3, g4⟩)
                  simp -implicitDefEqProofs (disch := omega) [go_sem, r0, r1, r2, r7, r8, r9, k06, k16, t16, t26, hl1]
                  exact P6
                · simp -implicitDefEqProofs (disch := omega) [go_sem, r0, r1, r2, r7, r8, r9, k06, k16, t16, t26, hl1]
                  refine useC (bump_ok H6 _ _) ?_
                  rintro _ h7 hor
                  obtain ⟨_, rfl, rfl⟩ := hor.resolve_left (fun ⟨v, hv, _, g1, g2, g3, g4, _⟩ => hl ⟨⟨by omega, by omega⟩, g3, g4⟩)
                  simp -implicitDefEqProofs (disch := omega) [go_sem, r0, r1, r2, r7, r8, r9, k06, k16, t16, t26, hl1]
                  exact P6
              · simp -implicitDefEqProofs (disch := omega) [go_sem, r0, r1, r2, r7, r8, r9, k06, k16, t16, t26, hl1]
                refine useC (bump_ok H6 _ _) ?_
                rintro _ h7 hor
                obtain ⟨_, rfl, rfl⟩ := hor.resolve_left (fun ⟨v, hv, _, g1, g2, g3, g4, _⟩ => hl ⟨⟨by omega, by omega⟩, g3, g4⟩)
                simp -implicitDefEqProofs (disch := omega) [go_sem, r0, r1, r2, r7, r8, r9, k06, k16, t16, t26, hl1]
                exact P6
          · simp -implicitDefEqProofs (disch := omega) [go_sem, r0, r1, r2, r7, r8, r9, k05, k15, t0, t1, t2]
            refine useC (show CallsH Try.prog 20 [refV ab ib k, .int .i64 x] h5 _ from rthere_h x) ?_
            rintro _ h6 ⟨rfl, fr6⟩
            have H6 := H5.fr fr6 (fun _ _ => id)
            have RA6 := RA5.fr fr6 id id
            have k06 := (fr6.cell (o := 0) (hcell_lt k05) id).trans k05
            have k16 := (fr6.cell (o := 1) (hcell_lt k15) id).trans k15
            have t16 := (fr6.cell (o := 1) (hcell_lt t1) id).trans t1
            have t26 := (fr6.cell (o := 2) (hcell_lt t2) id).trans t2
            have P6 : Play h h6 hb xb k := ⟨⟨O, ab, ib, n, act, a, s, H6, RA6, ha, k06, k16, oa, oi, ox, xa, xi, hO, za, zi, zx⟩, fr5.trans fr6⟩
            by_cases hl : (1 ≤ x ∧ x ≤ k) ∧ 1 ≤ y ∧ y ≤ 1048576
            · obtain ⟨⟨hl1, hl2⟩, hy1, hy2⟩ := hl
              obtain ⟨u, rfl⟩ : ∃ u : Nat, x = u := ⟨x.toNat, by omega⟩
              have hl : 1 ≤ (u : Int) ∧ (u : Int) ≤ k := ⟨hl1, hl2⟩
              simp -implicitDefEqProofs (disch := omega) [go_sem, r0, r1, r2, r7, r8, r9, k06, k16, t16, t26, hl]
              have cA := RA6.ca u (by omega)
              have hau := ha u (by omega) (by omega)
              have hb1 := H6.acts u (by omega)
              refine useC (bump_ok H6 _ _) ?_
              rintro _ h7 hor
              obtain ⟨v, hv, rfl, _, _, _, _, H7, fr7⟩ := hor.resolve_right (fun ⟨hb7, _⟩ => hb7 ⟨by omega, by omega, hy1, hy2⟩)
              obtain rfl : v = u := by omega
              have RA7 := RA6.fr fr7 oa oi
              have k07 := (fr7.cell (o := 0) (hcell_lt k06) ox).trans k06
              have k17 := (fr7.cell (o := 1) (hcell_lt k16) ox).trans k16
              have t17 := (fr7.cell (o := 1) (hcell_lt t16) tO).trans t16
              have t27 := (fr7.cell (o := 2) (hcell_lt t26) tO).trans t26
              have cA7 := RA7.ca v (by omega)
              simp -implicitDefEqProofs (disch := omega) [go_sem, r0, r1, r2, r7, r8, r9, k07, k17, t17, t27, hl]
              refine drawK [(0, 0), (1, 1), (2, 0), (3, 1), (4, 0), (5, 1), (6, 0), (7, 1), (8, 0), (9, 1), (10, 0), (11, 1), (12, 0), (13, 0), (14, 0), (15, 3)] mixed (by kernel_rfl) ?_
              simp -implicitDefEqProofs (disch := omega) [go_sem, r0, r1, r2, r7, r8, r9, k07, k17, t17, t27, cA7, RA7.fa]
              have f8 : Fr (fun z => z = ab) h7 (hset h7 ⟨ab, v, none⟩ (.int .i64 (min (a v + y) 1099511627776))) := by
                refine Fr.set (Fr.refl _ _) ?_
                rfl
              have zz6 := fr5.trans fr6
              have z7 := zz6.trans' fr7 (fun z hz h => by have := hO z h; omega)
              refine ⟨⟨O, ab, ib, n, bumped act v y, upd a v (min (a v + y) 1099511627776), s, H7.fr f8 (fun z hz e => oa (e ▸ hz)), RA7.setA (by omega) _, fun z z1 z2 => ?_, (f8.cell (o := 0) (hcell_lt k07) xa).trans k07, (f8.cell (o := 1) (hcell_lt k17) xa).trans k17,
                oa, oi, ox, xa, xi, hO, za, zi, zx⟩, z7.trans' f8 (fun z hz e => by omega)⟩
              unfold bumped upd
              by_cases e : z = v
              · rw [if_pos e, if_pos e, hau]
              · rw [if_neg e, if_neg e]; exact ha z z1 z2
            · by_cases hl1 : 1 ≤ x ∧ x ≤ k
              · by_cases hy1 : 1 ≤ y
                · have hy2 : 1048576 < y := by omega
                  simp -implicitDefEqProofs (disch := omega) [go_sem, r0, r1, r2, r7, r8, r9, k06, k16, t16, t26, hl1]
                  refine useC (bump_ok H6 _ _) ?_
                  rintro _ h7 hor
                  obtain ⟨_, rfl, rfl⟩ := hor.resolve_left (fun ⟨v, hv, _, g1, g2, g3, g4, _⟩ => hl ⟨⟨by omega, by omega⟩, g3, g4⟩)
                  simp -implicitDefEqProofs (disch := omega) [go_sem, r0, r1, r2, r7, r8, r9, k06, k16, t16, t26, hl1]
                  exact P6
                · simp -implicitDefEqProofs (disch := omega) [go_sem, r0, r1, r2, r7, r8, r9, k06, k16, t16, t26, hl1]
                  refine useC (bump_ok H6 _ _) ?_
                  rintro _ h7 hor
                  obtain ⟨_, rfl, rfl⟩ := hor.resolve_left (fun ⟨v, hv, _, g1, g2, g3, g4, _⟩ => hl ⟨⟨by omega, by omega⟩, g3, g4⟩)
                  simp -implicitDefEqProofs (disch := omega) [go_sem, r0, r1, r2, r7, r8, r9, k06, k16, t16, t26, hl1]
                  exact P6
              · simp -implicitDefEqProofs (disch := omega) [go_sem, r0, r1, r2, r7, r8, r9, k06, k16, t16, t26, hl1]
                refine useC (bump_ok H6 _ _) ?_
                rintro _ h7 hor
                obtain ⟨_, rfl, rfl⟩ := hor.resolve_left (fun ⟨v, hv, _, g1, g2, g3, g4, _⟩ => hl ⟨⟨by omega, by omega⟩, g3, g4⟩)
                simp -implicitDefEqProofs (disch := omega) [go_sem, r0, r1, r2, r7, r8, r9, k06, k16, t16, t26, hl1]
                exact P6
        · by_cases c2 : kd = 2
          · subst c2
            simp -implicitDefEqProofs (disch := omega) [go_sem, r0, r1, r2, r7, r8, r9, k05, k15, t0, t1, t2]
            refine useC (decay_ok H5) ?_
            rintro _ h6 ⟨rfl, H6, fr6⟩
            simp -implicitDefEqProofs (disch := omega) [go_sem, r0, r1, r2, r7, r8, r9, k05, k15, t0, t1, t2]
            have H6' := H6
            have RA6 := RA5.fr fr6 oa oi
            have k06 := (fr6.cell (o := 0) (hcell_lt k05) ox).trans k05
            have k16 := (fr6.cell (o := 1) (hcell_lt k15) ox).trans k15
            have g6 := fr5.trans' fr6 (fun x hx ho => by have := hO x ho; omega)
            refine loopK (fun ρ h' => ρ 0 = .int .i64 k ∧ ρ 1 = .slice (some ⟨bk, off, none⟩) m c ∧ ρ 2 = .int .i64 a2 ∧ ρ 7 = .pointer (some ⟨hb, 0, none⟩) ∧ ρ 8 = .pointer (some ⟨xb, 0, none⟩) ∧ ρ 9 = .int .i64 i ∧
              ∃ v : Nat, ρ 12 = .int .i64 ((v + 1 : Nat) : Int) ∧ v ≤ k ∧ HeapOk h' hb O k n (halved act (k + 1)) (Inn k s) ∧ RefAt h' ab ib k (fun u => if 1 ≤ u ∧ u ≤ v then a u / 2 else a u) s ∧
                hcell h' ⟨xb, 0, none⟩ = some (.slice (some ⟨ab, 0, none⟩) (k + 1) (k + 1)) ∧ hcell h' ⟨xb, 1, none⟩ = some (.slice (some ⟨ib, 0, none⟩) (k + 1) (k + 1)) ∧ Fr (fun _ => False) h h')
              (fun ρ _ => k + 1 - (intOf (ρ 12)).toNat) (by kernel_rfl) ?_ ?_
            · exact ⟨r0, r1, r2, r7, r8, r9, 0, rfl, by omega, H6, RA6.cong (fun u _ => (if_neg (by omega)).symm) (fun _ _ => rfl), k06, k16, g6⟩
            · clear r0 r1 r2 r7 r8 r9 H6 H6' RA6 k06 k16 g6 fr6
              rintro ρ h7 ⟨r0, r1, r2, r7, r8, r9, v, r12, hv, H7, RA7, k07, k17, fr7⟩
              by_cases hvk : v = k
              · subst hvk
                simp -implicitDefEqProofs (disch := omega) [go_sem, r0, r1, r2, r7, r8, r9, r12]
                refine ⟨⟨O, ab, ib, n, _, _, s, H7, RA7, fun u u1 u2 => ?_, k07, k17, oa, oi, ox, xa, xi, hO, za, zi, zx⟩, fr7⟩
                rw [if_pos ⟨u1, u2⟩, ha u u1 u2]
                unfold halved
                rw [if_pos (by omega)]
              · have ev : ((v + 1 : Nat) : Int).toNat = v + 1 := by omega
                have cA := RA7.ca (v + 1) (by omega)
                rw [if_neg (by omega)] at cA
                have hb1 := H.acts (v + 1) (by omega)
                have hb2 := ha (v + 1) (by omega) (by omega)
                have R8 := RA7.setA (v := v + 1) (by omega) (a (v + 1) / 2)
                simp -implicitDefEqProofs (disch := omega) [go_sem, r0, r1, r2, r7, r8, r9, r12]
                refine drawK [(0, 0), (1, 1), (2, 0), (3, 0), (4, 1), (5, 0), (6, 0), (7, 1), (8, 0), (9, 0), (10, 3)] mixed (by kernel_rfl) ?_
                simp -implicitDefEqProofs (disch := omega) [go_sem, r0, r1, r2, r7, r8, r9, r12, k07, k17, ev, cA, RA7.fa, xa]
                have f8 : Fr (fun x => x = ab) h7 (hset h7 ⟨ab, v + 1, none⟩ (.int .i64 (a (v + 1) / 2))) := by
                  refine Fr.set (Fr.refl _ _) ?_
                  rfl
                refine ⟨⟨v + 1, by omega, by omega, H7.fr f8 (fun u hu e => oa (e ▸ hu)), R8.cong (fun u hu => ?_) (fun _ _ => rfl), fr7.trans' f8 (fun u hu e => by omega)⟩, by omega⟩
                unfold upd
                by_cases e : u = v + 1
                · subst e; rw [if_pos rfl, if_pos (by omega)]
                · rw [if_neg e]
                  show (if 1 ≤ u ∧ u ≤ v then a u / 2 else a u) = _
                  by_cases e2 : 1 ≤ u ∧ u ≤ v
                  · rw [if_pos e2, if_pos (by omega)]
                  · rw [if_neg e2, if_neg (by omega)]
          · by_cases c3 : kd = 3 ∨ kd = 4
            · rcases c3 with rfl | rfl
              · simp -implicitDefEqProofs (disch := omega) [go_sem, r0, r1, r2, r7, r8, r9, k05, k15, t0, t1, t2]
                refine useC (show CallsH Try.prog 23 [refV ab ib k, .int .i64 x] h5 _ from rpop_h RA5 x) ?_
                rintro _ h6 ⟨rfl, fr6⟩
                have H6 := H5.fr fr6 (fun _ _ => id)
                have RA6 := RA5.fr fr6 id id
                have k06 := (fr6.cell (o := 0) (hcell_lt k05) id).trans k05
                have k16 := (fr6.cell (o := 1) (hcell_lt k15) id).trans k15
                have t16 := (fr6.cell (o := 1) (hcell_lt t1) id).trans t1
                have hfl : frL a s k = front act (Inn k s) k := by rw [frL_front, front_cong (fun u hu => ⟨hu.1, hu.2.1⟩) ha]
                rw [hfl]
                simp -implicitDefEqProofs (disch := omega) [go_sem, r0, r1, r2, r7, r8, r9, k06, k16, t16]
                refine useC (pop_ok H6 x) ?_
                rintro _ h7 (⟨hn, rfl, rfl⟩ | ⟨v, rfl, hn, hF, O', H7, nx7⟩)
                · subst hn
                  have hf0 := H6.front_none
                  have hp : popN (front act (Inn k s) k) x = 0 := by
                    rw [List.eq_nil_of_length_eq_zero hf0]; rfl
                  rw [hp]
                  have cI := RA6.ci 0 (by omega)
                  simp -implicitDefEqProofs (disch := omega) [go_sem, r0, r1, r2, r7, r8, r9, k06, k16, t16, cI, RA6.fi]
                  have f8 : Fr (fun z => z = ib) h7 (hset h7 ⟨ib, 0, none⟩ (.bool false)) := by
                    refine Fr.set (Fr.refl _ _) ?_
                    rfl
                  refine ⟨⟨O, ab, ib, 0, act, a, upd s 0 false, (H6.fr f8 (fun z hz e => oi (e ▸ hz))).cong (fun z => ?_), RA6.setI (by omega) false, ha, (f8.cell (o := 0) (hcell_lt k06) xi).trans k06, (f8.cell (o := 1) (hcell_lt k16) xi).trans k16, oa, oi, ox, xa, xi, hO, za, zi, zx⟩,
                    (fr5.trans fr6).trans' f8 (fun z hz e => by omega)⟩
                  unfold Inn upd
                  by_cases e : z = 0
                  · subst e; simp
                  · simp [e]
                · have hp : popN (front act (Inn k s) k) x = v := by
                    unfold popN; rw [hF]; rfl
                  rw [hp]
                  have hvr := H6.range (show Inn k s v from ((mem_front (fun u hu => ⟨hu.1, hu.2.1⟩)).1 (List.mem_of_getElem? hF)).1)
                  have RA7 := RA6.fr nx7.fr oa oi
                  have k07 := (nx7.fr.cell (o := 0) (hcell_lt k06) ox).trans k06
                  have k17 := (nx7.fr.cell (o := 1) (hcell_lt k16) ox).trans k16
                  have cI := RA7.ci v (by omega)
                  simp -implicitDefEqProofs (disch := omega) [go_sem, r0, r1, r2, r7, r8, r9, k07, k17, cI, RA7.fi]
                  have f8 : Fr (fun z => z = ib) h7 (hset h7 ⟨ib, v, none⟩ (.bool false)) := by
                    refine Fr.set (Fr.refl _ _) ?_
                    rfl
                  have own7 : ∀ z, O' z → O z ∨ h6.size ≤ z := nx7.own
                  have lt6 := RA6.lts
                  have lx6 := hcell_lt k06
                  have zz6 := fr5.trans fr6
                  refine ⟨⟨O', ab, ib, n - 1, act, a, upd s v false, (H7.fr f8 (fun z hz e => ?_)).cong (fun z => ?_), RA7.setI (by omega) false, ha, (f8.cell (o := 0) (hcell_lt k07) xi).trans k07, (f8.cell (o := 1) (hcell_lt k17) xi).trans k17,
                    fun h => (own7 _ h).elim oa (by omega), fun h => (own7 _ h).elim oi (by omega), fun h => (own7 _ h).elim ox (by omega), xa, xi, fun z hz => (own7 z hz).elim (hO z) (fun h => by have := zz6.size; omega), za, zi, zx⟩, ?_⟩
                  · subst e; exact (own7 _ hz).elim oi (by omega)
                  · unfold Inn upd
                    by_cases e : z = v
                    · subst e; simp
                    · simp [e]
                  · exact (zz6.trans' nx7.fr (fun z hz h => by have := hO z h; omega)).trans' f8 (fun z hz e => by omega)
              · simp -implicitDefEqProofs (disch := omega) [go_sem, r0, r1, r2, r7, r8, r9, k05, k15, t0, t1, t2]
                refine useC (show CallsH Try.prog 23 [refV ab ib k, .int .i64 x] h5 _ from rpop_h RA5 x) ?_
                rintro _ h6 ⟨rfl, fr6⟩
                have H6 := H5.fr fr6 (fun _ _ => id)
                have RA6 := RA5.fr fr6 id id
                have k06 := (fr6.cell (o := 0) (hcell_lt k05) id).trans k05
                have k16 := (fr6.cell (o := 1) (hcell_lt k15) id).trans k15
                have t16 := (fr6.cell (o := 1) (hcell_lt t1) id).trans t1
                have hfl : frL a s k = front act (Inn k s) k := by rw [frL_front, front_cong (fun u hu => ⟨hu.1, hu.2.1⟩) ha]
                rw [hfl]
                simp -implicitDefEqProofs (disch := omega) [go_sem, r0, r1, r2, r7, r8, r9, k06, k16, t16]
                refine useC (pop_ok H6 x) ?_
                rintro _ h7 (⟨hn, rfl, rfl⟩ | ⟨v, rfl, hn, hF, O', H7, nx7⟩)
                · subst hn
                  have hf0 := H6.front_none
                  have hp : popN (front act (Inn k s) k) x = 0 := by
                    rw [List.eq_nil_of_length_eq_zero hf0]; rfl
                  rw [hp]
                  have cI := RA6.ci 0 (by omega)
                  simp -implicitDefEqProofs (disch := omega) [go_sem, r0, r1, r2, r7, r8, r9, k06, k16, t16, cI, RA6.fi]
                  have f8 : Fr (fun z => z = ib) h7 (hset h7 ⟨ib, 0, none⟩ (.bool false)) := by
                    refine Fr.set (Fr.refl _ _) ?_
                    rfl
                  refine ⟨⟨O, ab, ib, 0, act, a, upd s 0 false, (H6.fr f8 (fun z hz e => oi (e ▸ hz))).cong (fun z => ?_), RA6.setI (by omega) false, ha, (f8.cell (o := 0) (hcell_lt k06) xi).trans k06, (f8.cell (o := 1) (hcell_lt k16) xi).trans k16, oa, oi, ox, xa, xi, hO, za, zi, zx⟩,
                    (fr5.trans fr6).trans' f8 (fun z hz e => by omega)⟩
                  unfold Inn upd
                  by_cases e : z = 0
                  · subst e; simp
                  · simp [e]
                · have hp : popN (front act (Inn k s) k) x = v := by
                    unfold popN; rw [hF]; rfl
                  rw [hp]
                  have hvr := H6.range (show Inn k s v from ((mem_front (fun u hu => ⟨hu.1, hu.2.1⟩)).1 (List.mem_of_getElem? hF)).1)
                  have RA7 := RA6.fr nx7.fr oa oi
                  have k07 := (nx7.fr.cell (o := 0) (hcell_lt k06) ox).trans k06
                  have k17 := (nx7.fr.cell (o := 1) (hcell_lt k16) ox).trans k16
                  have cI := RA7.ci v (by omega)
                  simp -implicitDefEqProofs (disch := omega) [go_sem, r0, r1, r2, r7, r8, r9, k07, k17, cI, RA7.fi]
                  have f8 : Fr (fun z => z = ib) h7 (hset h7 ⟨ib, v, none⟩ (.bool false)) := by
                    refine Fr.set (Fr.refl _ _) ?_
                    rfl
                  have own7 : ∀ z, O' z → O z ∨ h6.size ≤ z := nx7.own
                  have lt6 := RA6.lts
                  have lx6 := hcell_lt k06
                  have zz6 := fr5.trans fr6
                  refine ⟨⟨O', ab, ib, n - 1, act, a, upd s v false, (H7.fr f8 (fun z hz e => ?_)).cong (fun z => ?_), RA7.setI (by omega) false, ha, (f8.cell (o := 0) (hcell_lt k07) xi).trans k07, (f8.cell (o := 1) (hcell_lt k17) xi).trans k17,
                    fun h => (own7 _ h).elim oa (by omega), fun h => (own7 _ h).elim oi (by omega), fun h => (own7 _ h).elim ox (by omega), xa, xi, fun z hz => (own7 z hz).elim (hO z) (fun h => by have := zz6.size; omega), za, zi, zx⟩, ?_⟩
                  · subst e; exact (own7 _ hz).elim oi (by omega)
                  · unfold Inn upd
                    by_cases e : z = v
                    · subst e; simp
                    · simp [e]
                  · exact (zz6.trans' nx7.fr (fun z hz h => by have := hO z h; omega)).trans' f8 (fun z hz e => by omega)
            · by_cases c5 : kd = 5
              · subst c5
                simp -implicitDefEqProofs (disch := omega) [go_sem, r0, r1, r2, r7, r8, r9, k05, k15, t0, t1, t2]
                have hR : CallsH Try.prog 20 [refV ab ib k, .int .i64 x] h5 fun r h' => r = .bool (decide (1 ≤ x ∧ x ≤ k)) ∧ Fr (fun _ => False) h5 h' := rthere_h x
                refine useC hR ?_
                rintro _ h6 ⟨rfl, fr6⟩
                have H6 := H5.fr fr6 (fun _ _ => id)
                have RA6 := RA5.fr fr6 id id
                have k06 := (fr6.cell (o := 0) (hcell_lt k05) id).trans k05
                have k16 := (fr6.cell (o := 1) (hcell_lt k15) id).trans k15
                have t16 := (fr6.cell (o := 1) (hcell_lt t1) id).trans t1
                have P6 : Play h h6 hb xb k := ⟨⟨O, ab, ib, n, act, a, s, H6, RA6, ha, k06, k16, oa, oi, ox, xa, xi, hO, za, zi, zx⟩, fr5.trans fr6⟩
                by_cases hl : 1 ≤ x ∧ x ≤ k
                · obtain ⟨u, rfl⟩ : ∃ u : Nat, x = u := ⟨x.toNat, by omega⟩
                  have cI := RA6.ci u (by omega)
                  simp -implicitDefEqProofs (disch := omega) [go_sem, r0, r1, r2, r7, r8, r9, k06, k16, t16, hl, cI]
                  refine useC (put_ok H6 _) ?_
                  have hS : Inn k s (u : Int).toNat ↔ s u = true := by
                    rw [Int.toNat_natCast]; exact ⟨fun h => h.2.2, fun h => ⟨by omega, by omega, h⟩⟩
                  rintro _ h7 (⟨v, hv, rfl, _, _, hns, O', H7, nx7⟩ | ⟨hb7, rfl, rfl⟩)
                  · obtain rfl : v = u := by omega
                    have hs : s v = false := by
                      cases h : s v with
                      | false => rfl
                      | true => exact absurd ⟨by omega, by omega, h⟩ hns
                    have RA7 := RA6.fr nx7.fr oa oi
                    have k07 := (nx7.fr.cell (o := 0) (hcell_lt k06) ox).trans k06
                    have k17 := (nx7.fr.cell (o := 1) (hcell_lt k16) ox).trans k16
                    have t17 := (nx7.fr.cell (o := 1) (hcell_lt t16) tO).trans t16
                    have cI7 := RA7.ci v (by omega)
                    rw [hs] at cI7
                    simp -implicitDefEqProofs (disch := omega) [go_sem, r0, r1, r2, r7, r8, r9, k07, k17, t17, hs, cI7, RA7.fi]
                    have f8 : Fr (fun z => z = ib) h7 (hset h7 ⟨ib, v, none⟩ (.bool true)) := by
                      refine Fr.set (Fr.refl _ _) ?_
                      rfl
                    have own7 : ∀ z, O' z → O z ∨ h6.size ≤ z := nx7.own
                    have lt6 := RA6.lts
                    have lx6 := hcell_lt k06
                    have zz6 := fr.trans' (f45.trans fr6) (fun z hz h => h)
                    refine ⟨⟨O', ab, ib, n + 1, act, a, upd s v true, (H7.fr f8 (fun z hz e => ?_)).cong (fun z => ?_), RA7.setI (by omega) true, ha, (f8.cell (o := 0) (hcell_lt k07) xi).trans k07, (f8.cell (o := 1) (hcell_lt k17) xi).trans k17,
                      fun h => (own7 _ h).elim oa (by omega), fun h => (own7 _ h).elim oi (by omega), fun h => (own7 _ h).elim ox (by omega), xa, xi, fun z hz => (own7 z hz).elim (hO z) (fun h => by have := zz6.size; omega), za, zi, zx⟩, ?_⟩
                    · subst e; exact (own7 _ hz).elim oi (by omega)
                    · unfold Inn upd
                      by_cases e : z = v
                      · subst e; simp; omega
                      · simp [e]
                    · exact (zz6.trans' nx7.fr (fun z hz h => by have := hO z h; omega)).trans' f8 (fun z hz e => by omega)
                  · have hs : s u = true := by
                      rcases hb7 with h | h
                      · exact absurd hl h
                      · exact hS.1 h
                    simp -implicitDefEqProofs (disch := omega) [go_sem, r0, r1, r2, r7, r8, r9, k06, k16, t16, hs]
                    exact P6
                · simp -implicitDefEqProofs (disch := omega) [go_sem, r0, r1, r2, r7, r8, r9, k06, k16, t16, hl]
                  refine useC (put_ok H6 _) ?_
                  rintro _ h7 hor
                  obtain ⟨_, rfl, rfl⟩ := hor.resolve_left (fun ⟨v, hv, _, h1, h2, _⟩ => hl (by omega))
                  simp -implicitDefEqProofs (disch := omega) [go_sem, r0, r1, r2, r7, r8, r9, k06, k16, t16, hl]
                  exact P6
              · simp -implicitDefEqProofs (disch := omega) [go_sem]
                exact ⟨r0, r1, r2, r7, r8, r9, P5⟩
      · clear r0 r1 r2 r7 r8 r9 e0 e1 e2 PL
        rintro ρ h5 ⟨r0, r1, r2, r7, r8, r9, ⟨⟨O, ab, ib, n, act, a, s, H, RA, ha, k0, k1, oa, oi, ox, xa, xi, hO, za, zi, zx⟩, fr⟩⟩
        simp -implicitDefEqProofs (disch := omega) [go_sem, r0, r1, r2, r7, r8, r9]
        have hkv := H.vars_le
        refine loopK (fun ρ h' => h' = h5 ∧ ρ 0 = .int .i64 k ∧ ρ 1 = .slice (some ⟨bk, off, none⟩) m c ∧ ρ 2 = .int .i64 a2 ∧ ρ 7 = .pointer (some ⟨hb, 0, none⟩) ∧ ρ 8 = .pointer (some ⟨xb, 0, none⟩) ∧ ρ 9 = .int .i64 i ∧
          ∃ v : Nat, ρ 18 = .int .i64 ((v + 1 : Nat) : Int) ∧ ρ 17 = .int .i64 (cntN s v) ∧ v ≤ k) (fun ρ _ => k + 1 - (intOf (ρ 18)).toNat) (by kernel_rfl) ?_ ?_
        · exact ⟨rfl, r0, r1, r2, r7, r8, r9, 0, rfl, rfl, by omega⟩
        · clear r0 r1 r2 r7 r8 r9
          rintro ρ h5 ⟨rfl, r0, r1, r2, r7, r8, r9, v, r18, r17, hv⟩
          have hcn := cntN_le s v
          by_cases hvk : v = k
          · subst hvk
            simp -implicitDefEqProofs (disch := omega) [go_sem, r0, r1, r2, r7, r8, r9, r17, r18, k0, k1]
            have hR : CallsH Try.prog 20 [refV ab ib v, .int .i64 a2] h5 fun r h' => r = .bool (decide (1 ≤ a2 ∧ a2 ≤ v)) ∧ Fr (fun _ => False) h5 h' := rthere_h a2
            refine useC hR ?_
            rintro _ h6 ⟨rfl, fr6⟩
            have H6 := H.fr fr6 (fun _ _ => id)
            have RA6 := RA.fr fr6 id id
            have k06 := (fr6.cell (o := 0) (hcell_lt k0) id).trans k0
            have k16 := (fr6.cell (o := 1) (hcell_lt k1) id).trans k1
            by_cases hl : 1 ≤ a2 ∧ a2 ≤ v
            · obtain ⟨u, rfl⟩ : ∃ u : Nat, a2 = u := ⟨a2.toNat, by omega⟩
              have cA := RA6.ca u (by omega)
              have cI := RA6.ci u (by omega)
              have hau : act u = a u := (ha u (by omega) (by omega)).symm
              simp -implicitDefEqProofs (disch := omega) [go_sem, r0, r1, r2, r7, r8, r9, r17, r18, k06, k16, hl, cA, cI]
              refine drawC [(0, 0), (2, 0), (1, 3), (3, 0), (4, 0), (5, 0), (7, 2), (6, 3), (8, 3), (9, 0), (10, 0), (11, 0), (12, 0), (13, 0), (14, 0), (16, 0), (15, 3), (17, 0), (18, 0), (19, 0), (20, 0), (21, 0), (23, 0), (22, 3), (24, 0), (25, 0)] (fun h' => Fr (fun _ => False) h6 h') mixed (by kernel_rfl) (Fr.refl _ _) ?_
              simp -implicitDefEqProofs (disch := omega) [go_sem, r0, r1, r2, r7, r8, r9, r17, r18, k06, k16, hl, cA, cI]
              refine useC (len_ok H6) ?_
              rintro _ h6 ⟨rfl, rfl⟩
              rw [H6.count]
              simp -implicitDefEqProofs (disch := omega) [go_sem, r0, r1, r2, r7, r8, r9, r17, r18, k06, k16, hl, cA, cI]
              refine ⟨Fr.refl _ _, float2g (refV ab ib v) (by rfl) (fun h' hC => ?_) ?_⟩
              · have q0 := (hC.cell (o := 0) (hcell_lt k06) id).trans k06
                have q1 := (hC.cell (o := 1) (hcell_lt k16) id).trans k16
                simp -implicitDefEqProofs (disch := omega) [go_sem, r8, q0, q1, refV]
              simp -implicitDefEqProofs (disch := omega) [go_sem, r0, r1, r2, r7, r8, r9, r17, r18, k06, k16, hl, cA, cI]
              refine useC (ties_ok H6) ?_
              rintro _ h6 ⟨rfl, rfl⟩
              have hfl : (front act (Inn v s) v).length = (frL a s v).length := by rw [frL_front, front_cong (fun u hu => ⟨hu.1, hu.2.1⟩) ha]
              have hfl2 : (frL a s v).length ≤ v := frL_le v
              rw [hfl]
              simp -implicitDefEqProofs (disch := omega) [go_sem, r0, r1, r2, r7, r8, r9, r17, r18, k06, k16, hl, cA, cI]
              refine ⟨Fr.refl _ _, ?_⟩
              refine useC (foremost_h RA6) ?_
              rintro _ h7 ⟨A7, c7, rfl, S7, b7, fr7⟩
              have H7 := H6.fr fr7 (fun _ _ => id)
              simp -implicitDefEqProofs (disch := omega) [go_sem, r0, r1, r2, r7, r8, r9, r17, r18, k06, k16, hl, cA, cI]
              refine ⟨fr7, ?_⟩
              refine useC (activity_ok H7 _) ?_
              rintro _ h7 ⟨rfl, rfl⟩
              simp -implicitDefEqProofs (disch := omega) [go_sem, r0, r1, r2, r7, r8, r9, r17, r18, k06, k16, hl, cA, cI, hau]
              refine ⟨fr7, ?_⟩
              refine useC (in_ok H7 _) ?_
              rintro _ h7 ⟨w, rfl, hw, rfl⟩
              have hw2 : w = s u := by
                have hu : (0 ≤ (u : Int) ∧ Inn v s (u : Int).toNat) ↔ s u = true := by
                  rw [Int.toNat_natCast]
                  exact ⟨fun h => h.2.2.2, fun h => ⟨by omega, by omega, by omega, h⟩⟩
                rw [hu] at hw
                cases w <;> cases hsu : s u <;> simp_all
              subst hw2
              simp -implicitDefEqProofs (disch := omega) [go_sem, r0, r1, r2, r7, r8, r9, r17, r18, k06, k16, hl, cA, cI]
              have P7 : Play h h7 hb xb v := ⟨⟨O, ab, ib, n, act, a, s, H7, RA6.fr fr7 id id, ha, (fr7.cell (o := 0) (hcell_lt k06) id).trans k06, (fr7.cell (o := 1) (hcell_lt k16) id).trans k16, oa, oi, ox, xa, xi, hO, za, zi, zx⟩, (fr.trans fr6).trans fr7⟩
              exact ⟨fr7, ⟨⟨i + 1, by omega, by omega⟩, P7⟩, by rw [hr9]; omega⟩
            · simp -implicitDefEqProofs (disch := omega) [go_sem, r0, r1, r2, r7, r8, r9, r17, r18, k06, k16, hl]
              refine drawC [(0, 0), (2, 0), (1, 3), (3, 0), (4, 0), (5, 0), (7, 2), (6, 3), (8, 3), (9, 0), (10, 0), (11, 0), (12, 0), (13, 0), (14, 0), (16, 0), (15, 3), (17, 0), (18, 0), (19, 0), (20, 0), (21, 0), (23, 0), (22, 3), (24, 0), (25, 0)] (fun h' => Fr (fun _ => False) h6 h') mixed (by kernel_rfl) (Fr.refl _ _) ?_
              simp -implicitDefEqProofs (disch := omega) [go_sem, r0, r1, r2, r7, r8, r9, r17, r18, k06, k16, hl]
              refine useC (len_ok H6) ?_
              rintro _ h6 ⟨rfl, rfl⟩
              rw [H6.count]
              simp -implicitDefEqProofs (disch := omega) [go_sem, r0, r1, r2, r7, r8, r9, r17, r18, k06, k16, hl]
              refine ⟨Fr.refl _ _, float2g (refV ab ib v) (by rfl) (fun h' hC => ?_) ?_⟩
              · have q0 := (hC.cell (o := 0) (hcell_lt k06) id).trans k06
                have q1 := (hC.cell (o := 1) (hcell_lt k16) id).trans k16
                simp -implicitDefEqProofs (disch := omega) [go_sem, r8, q0, q1, refV]
              simp -implicitDefEqProofs (disch := omega) [go_sem, r0, r1, r2, r7, r8, r9, r17, r18, k06, k16, hl]
              refine useC (ties_ok H6) ?_
              rintro _ h6 ⟨rfl, rfl⟩
              have hfl : (front act (Inn v s) v).length = (frL a s v).length := by rw [frL_front, front_cong (fun u hu => ⟨hu.1, hu.2.1⟩) ha]
              have hfl2 : (frL a s v).length ≤ v := frL_le v
              rw [hfl]
              simp -implicitDefEqProofs (disch := omega) [go_sem, r0, r1, r2, r7, r8, r9, r17, r18, k06, k16, hl]
              refine ⟨Fr.refl _ _, ?_⟩
              refine useC (foremost_h RA6) ?_
              rintro _ h7 ⟨A7, c7, rfl, S7, b7, fr7⟩
              have H7 := H6.fr fr7 (fun _ _ => id)
              simp -implicitDefEqProofs (disch := omega) [go_sem, r0, r1, r2, r7, r8, r9, r17, r18, k06, k16, hl]
              refine ⟨fr7, ?_⟩
              refine useC (activity_ok H7 _) ?_
              rintro _ h7 ⟨rfl, rfl⟩
              rw [if_neg hl]
              simp -implicitDefEqProofs (disch := omega) [go_sem, r0, r1, r2, r7, r8, r9, r17, r18, k06, k16, hl]
              refine ⟨fr7, ?_⟩
              refine useC (in_ok H7 _) ?_
              rintro _ h7 ⟨w, rfl, hw, rfl⟩
              have hw2 : w = false := by
                cases w with
                | false => rfl
                | true => obtain ⟨h1, h2⟩ := hw.1 rfl; exact absurd ⟨by have := h2.1; omega, by have := h2.2.1; omega⟩ hl
              subst hw2
              simp -implicitDefEqProofs (disch := omega) [go_sem, r0, r1, r2, r7, r8, r9, r17, r18, k06, k16, hl]
              have P7 : Play h h7 hb xb v := ⟨⟨O, ab, ib, n, act, a, s, H7, RA6.fr fr7 id id, ha, (fr7.cell (o := 0) (hcell_lt k06) id).trans k06, (fr7.cell (o := 1) (hcell_lt k16) id).trans k16, oa, oi, ox, xa, xi, hO, za, zi, zx⟩, (fr.trans fr6).trans fr7⟩
              exact ⟨fr7, ⟨⟨i + 1, by omega, by omega⟩, P7⟩, by rw [hr9]; omega⟩
          · have cI := RA.ci (v + 1) (by omega)
            have ev : ((v + 1 : Nat) : Int).toNat = v + 1 := by omega
            by_cases hs : s (v + 1) = true
            · rw [hs] at cI
              simp -implicitDefEqProofs (disch := omega) [go_sem, r0, r1, r2, r7, r8, r9, r17, r18, k0, k1, cI, ev]
              exact ⟨⟨v + 1, by omega, by rw [cntN_t hs]; omega, by omega⟩, by omega⟩
            · have hs0 : s (v + 1) = false := by simpa using hs
              rw [hs0] at cI
              simp -implicitDefEqProofs (disch := omega) [go_sem, r0, r1, r2, r7, r8, r9, r17, r18, k0, k1, cI, ev]
              exact ⟨⟨v + 1, by omega, by rw [cntN_f hs], by omega⟩, by omega⟩
end
end Xe
