/- Reading an outcome: explain.Read. -/
import Derived.Test.YtgebeiaffjpcaaaGreatDoorE51
namespace Xe
open Go Go.Proofs
set_option maxRecDepth 16000
set_option maxHeartbeats 4000000
/-- what explain.Read hands back -/
def ReadR (s : List UInt8) (h' : Heap) (v : Value) : Prop :=
  (∃ o P, GoodO o ∧ goodT o = s ∧ v = .tuple #[outV o P, .int .i64 0, .bool true] ∧ OutcR h' o P ∧ ∀ o', GoodO o' → goodT o' = s → o' = o) ∨
  ((∀ o, GoodO o → goodT o ≠ s) ∧ ∃ k : Nat, v = .tuple #[outV zeroO zeroA, .int .i64 k, .bool false] ∧ 1 ≤ k ∧ k ≤ s.count 10 + 1)
/-- behind the first line's arms -/
structure RdM (l : List (List UInt8)) (z : List UInt8) (N : Nat) (X : Option Addr) (x : Nat) (h : Heap) (ρ : Env) (h' : Heap) (line : Nat) : Prop where
  r2 : ρ 2 = .pointer (some ⟨N, 0, none⟩)
  r3 : ρ 3 = .int .i64 line
  r5 : ρ 5 = .slice X l.length x
  r6 : ρ 6 = .bool (decide (z = []))
  gr : Gr h h'
  fz : ∀ o, hfrz h' ⟨N, o, none⟩ = false
  ex : (line = 0 ∧ ∃ o P, OutAt h' N o P ∧ OutcR h' o P ∧ OutIn l o ∧ ∀ o', OutIn l o' → o' = o) ∨ (1 ≤ line ∧ line ≤ l.length + 1 ∧ (∀ o, ¬ OutIn l o) ∧ ∃ v0 v1 v2 v3 v4 v5 v6 v7 v8 v9, ListB h' N [v0, v1, v2, v3, v4, v5, v6, v7, v8, v9])
theorem hset_same {h : Heap} {a : Addr} {v : Value} (hv : hcell h a = some v) : hset h a v = h := by
  unfold hcell at hv
  split at hv
  case h_2 => cases hv
  rename_i c e f hb
  split at hv
  · cases hv
  rename_i hs
  unfold hset
  apply Array.ext_getElem?
  intro i
  rw [Array.getElem?_modify]
  by_cases hi : a.block = i
  · subst hi
    rw [if_pos rfl, hb]
    simp only [Option.map_some, hs]
    have : c.setIfInBounds a.off v = c := by
      apply Array.ext_getElem?
      intro j
      rw [Array.getElem?_setIfInBounds]
      by_cases hj : a.off = j
      · subst hj
        rw [if_pos rfl]
        have := (Array.getElem?_eq_some_iff.1 hv).1
        rw [if_pos this, hv]
      · rw [if_neg hj]
    simp [this]
  · rw [if_neg hi]
theorem ListB.ten {h : Heap} {b : Nat} {v0 v1 v2 v3 v4 v5 v6 v7 v8 v9 : Value} (c0 : hcell h ⟨b, 0, none⟩ = some v0) (c1 : hcell h ⟨b, 1, none⟩ = some v1) (c2 : hcell h ⟨b, 2, none⟩ = some v2) (c3 : hcell h ⟨b, 3, none⟩ = some v3) (c4 : hcell h ⟨b, 4, none⟩ = some v4)
    (c5 : hcell h ⟨b, 5, none⟩ = some v5) (c6 : hcell h ⟨b, 6, none⟩ = some v6) (c7 : hcell h ⟨b, 7, none⟩ = some v7) (c8 : hcell h ⟨b, 8, none⟩ = some v8) (c9 : hcell h ⟨b, 9, none⟩ = some v9) (z : ∀ o, hfrz h ⟨b, o, none⟩ = false) : ListB h b [v0, v1, v2, v3, v4, v5, v6, v7, v8, v9] :=
  ⟨fun i v hv => by
    match i, hv with
    | 0, hv => cases hv; exact c0
    | 1, hv => cases hv; exact c1
    | 2, hv => cases hv; exact c2
    | 3, hv => cases hv; exact c3
    | 4, hv => cases hv; exact c4
    | 5, hv => cases hv; exact c5
    | 6, hv => cases hv; exact c6
    | 7, hv => cases hv; exact c7
    | 8, hv => cases hv; exact c8
    | 9, hv => cases hv; exact c9
    | i + 10, hv => simp at hv, z, hcell_lt c0⟩
theorem PlainO.mem {a : List UInt8} {o : Outc} (hp : PlainO a o) {h : Heap} : OutcR h o zeroA := by
  have h1 : I64 2 ∧ I64 3 ∧ I64 4 := by unfold I64; omega
  rcases hp with ⟨x, y, z, hN, rfl⟩ | ⟨x, y, z, u, v, w, hN, rfl⟩ | ⟨x, hN, rfl⟩
  · have g := hN.2
    simp only [List.mem_cons, List.not_mem_nil, or_false, forall_eq_or_imp, forall_eq] at g
    exact ⟨.nil, .nil, by show 0 < _; omega, Nat.le_refl _, fun p hp => by simp [o2] at hp, h1.1, g.1, g.2.1, g.2.2, i64_zero, i64_zero, i64_zero⟩
  · have g := hN.2
    simp only [List.mem_cons, List.not_mem_nil, or_false, forall_eq_or_imp, forall_eq] at g
    exact ⟨.nil, .nil, by show 0 < _; omega, Nat.le_refl _, fun p hp => by simp [o3] at hp, h1.2.1, g.1, g.2.1, g.2.2.1, g.2.2.2.1, g.2.2.2.2.1, g.2.2.2.2.2⟩
  · have g := hN.2 x List.mem_cons_self
    exact ⟨.nil, .nil, by show 0 < _; omega, Nat.le_refl _, fun p hp => by simp [o4] at hp, h1.2.2, i64_zero, i64_zero, g, i64_zero, i64_zero, i64_zero⟩
section
variable {h : Heap}
theorem read29_ok (G : Glob h) (s : List UInt8) (hl : s.length < 2 ^ 20) (hls : ∀ a ∈ splitOn 10 s, a.length < 2 ^ 16) :
    CallsH Tryz.prog 11 [S s] h fun v h' => ReadR s h' v ∧ Gr h h' := by
  obtain ⟨l, z, hs⟩ : ∃ l z, splitOn 10 s = l ++ [z] := ⟨_, _, (List.dropLast_concat_getLast (splitOn_ne 10 s)).symm⟩
  have hcnt : l.length = s.count 10 := by
    have := splitOn_len 10 s
    rw [hs, List.length_append] at this
    simp only [List.length_cons, List.length_nil] at this
    omega
  have hcl := List.count_le_length (a := (10 : UInt8)) (l := s)
  refine calls_of 77 [.cell 2 31, .tmp 3, .tmp 4] Go.Proofs.Tryz.func11 rfl rfl rfl ?_
  simp -implicitDefEqProofs (disch := first | omega | (simp only [push_size, hset_size]; done) | (simp only [push_size, hset_size]; omega)) [↓ stop_block (id := 0), go_sem]
  obtain ⟨H, hH⟩ : ∃ H, H = h.push (.cells (outC zeroO zeroA).toArray 31) := ⟨_, rfl⟩
  have f0 : Gr h H := by rw [hH]; exact (Fr.refl _ _).push
  have O0 : OutAt H h.size zeroO zeroA := by rw [hH]; exact OutAt.new
  have hHs : H.size = h.size + 1 := by rw [hH, push_size]
  have Z0 : ∀ o, hfrz H ⟨h.size, o, none⟩ = false := fun o => by rw [hH]; exact hfrz_push_new
  have C := lines_ok (G.gr f0) s (by omega) hs
  simp only [outC, zeroO, zeroA, List.length_nil] at hH
  rw [hH] at C
  refine useC C ?_
  rw [← hH]
  clear hH C
  rintro _ h1 ⟨⟨X, x, rfl, R⟩, f1⟩
  have f01 := f0.trans f1
  simp -implicitDefEqProofs (disch := first | omega | (simp only [push_size, hset_size]; done) | (simp only [push_size, hset_size]; omega)) [↓ stop_block (id := 0), go_sem]
  refine cutK (fun ρ h' => ∃ line, RdM l z h.size X x h ρ h' line) ?_ ?_
  · have hs1 := f1.size
    obtain ⟨c0, c1, c2, c3, c4, c5, c6, c7, c8, c9⟩ := O0.gr f1
    simp only [zeroO, zeroA, List.length_nil] at c0 c1 c2 c3 c4 c5 c6 c7 c8 c9
    have z1 : ∀ o, hfrz h1 ⟨h.size, o, none⟩ = false := fun o => (f1.frz (by omega) id).trans (Z0 o)
    by_cases hl0 : l = []
    · have hn0 : l.length = 0 := by rw [hl0]; rfl
      simp -implicitDefEqProofs (disch := first | omega | (simp only [push_size, hset_size]; done) | (simp only [push_size, hset_size]; omega)) [go_sem, hn0, c0, c1, c2, c3, c4, c5, c6, c7, c8, c9, z1]
      rw [hset_same c0, hset_same c1, hset_same c2, hset_same c3, hset_same c4, hset_same c5, hset_same c6, hset_same c7, hset_same c8, hset_same c9]
      refine ⟨.inr ⟨fun o g e => lines_ne (((text_lines hs g).1 e).1.symm.trans hl0), 1, rfl, by omega, by omega⟩, f01⟩
    obtain ⟨a, t, hat⟩ := List.exists_cons_of_ne_nil hl0
    have hlp : 0 < l.length := List.length_pos_iff.2 hl0
    obtain ⟨bk, off, hX, hc⟩ := R.get (by rw [strs_len]; exact hlp)
    subst hX
    have d0 := hc 0 _ (strs_at (l := l) (a := a) (by rw [hat]; rfl))
    rw [Nat.add_zero] at d0
    have hta : ∀ b ∈ l, b.length < 2 ^ 16 ∧ (10 : UInt8) ∉ b := fun b hb => ⟨hls b (by rw [hs]; exact List.mem_append_left _ hb), splitOn_mem 10 s b (by rw [hs]; exact List.mem_append_left _ hb)⟩
    have hln : ¬ ((l.length : Int) = 0) := by omega
    by_cases e0 : a = wSol
    · have e0' : a = [115, 111, 108, 117, 116, 105, 111, 110] := e0
      have hsol : ∀ o, OutIn l o ↔ ∃ ps, PinsIn l ps ∧ o = oSol ps := fun o => by rw [hat, e0]; exact out_sol
      simp -implicitDefEqProofs (disch := first | omega | (simp only [push_size, hset_size]; done) | (simp only [push_size, hset_size]; omega)) [go_sem, hln, hl0, d0, e0']
      refine useC (pinsLines_ok (G.gr f01) R rfl (by omega) (by omega) hta) ?_
      rintro _ h2 ⟨hP, f2⟩
      have f02 := f01.trans f2
      have hs2 := f2.size
      have k0 := (f2.cell (by omega) id).trans c0
      have k1 := (f2.cell (by omega) id).trans c1
      have k2 := (f2.cell (by omega) id).trans c2
      have k3 := (f2.cell (by omega) id).trans c3
      have k4 := (f2.cell (by omega) id).trans c4
      have k5 := (f2.cell (by omega) id).trans c5
      have k6 := (f2.cell (by omega) id).trans c6
      have k7 := (f2.cell (by omega) id).trans c7
      have k8 := (f2.cell (by omega) id).trans c8
      have k9 := (f2.cell (by omega) id).trans c9
      have kz : ∀ o, hfrz h2 ⟨h.size, o, none⟩ = false := fun o => (f2.frz (by omega) id).trans (z1 o)
      rcases hP with ⟨ps, Y, y, vs, hI, rfl, W, F, hu⟩ | ⟨hno, k, rfl, hk1, hk2⟩
      · simp -implicitDefEqProofs (disch := first | omega | (simp only [push_size, hset_size]; done) | (simp only [push_size, hset_size]; omega)) [go_sem, k1, kz]
        obtain ⟨H3, hH3⟩ : ∃ H3, H3 = hset h2 ⟨h.size, 1, none⟩ (.slice Y ps.length y) := ⟨_, rfl⟩
        rw [← hH3]
        have f3 : Fr (fun y => y = h.size) h2 H3 := by rw [hH3]; refine Fr.setA (Fr.refl _ _) ?_; rfl
        have W3 := W.fr f3 (fun y hy e => by have := W.own y hy; omega) fun y _ hy _ e => by omega
        have O3 : OutAt H3 h.size (oSol ps) ⟨Y, y, none, 0, none, 0⟩ := by
          rw [hH3]
          refine ⟨?_, ?_, ?_, ?_, ?_, ?_, ?_, ?_, ?_, ?_⟩ <;> simp [hcell_hset, oSol, k0, k1, k2, k3, k4, k5, k6, k7, k8, k9]
        have hpl : ps.length < 2 ^ 40 := by
          have := congrArg List.length hI.2
          rw [List.length_map, List.length_drop] at this
          omega
        have V3 : OutcR H3 (oSol ps) ⟨Y, y, none, 0, none, 0⟩ := ⟨W3.pins, .nil, hpl, W3.cap, fun p hp => by have := (F p hp).1; omega, i64_zero, i64_zero, i64_zero, i64_zero, i64_zero, i64_zero, i64_zero⟩
        refine ⟨0, rfl, rfl, rfl, rfl, by rw [hH3]; exact f02.newA (Nat.le_refl _), fun o => by rw [hH3, hfrz_hset]; exact kz o, .inl ⟨rfl, oSol ps, ⟨Y, y, none, 0, none, 0⟩, O3, V3, (hsol _).2 ⟨ps, hI, rfl⟩, fun o' ho' => ?_⟩⟩
        obtain ⟨qs, hq, rfl⟩ := (hsol o').1 ho'
        rw [hu qs hq]
      · simp -implicitDefEqProofs (disch := first | omega | (simp only [push_size, hset_size]; done) | (simp only [push_size, hset_size]; omega)) [go_sem, k1, kz]
        rw [hset_same k1]
        exact ⟨k, rfl, rfl, rfl, rfl, f02, kz, .inr ⟨hk1, hk2, fun o ho => by obtain ⟨ps, hp, _⟩ := (hsol o).1 ho; exact hno ⟨ps, hp⟩, _, _, _, _, _, _, _, _, _, _, .ten k0 k1 k2 k3 k4 k5 k6 k7 k8 k9 kz⟩⟩
    by_cases e1 : a = wNon
    · have e1' : a = [110, 111, 110, 101] := e1
      have hnon : ∀ o, OutIn l o ↔ ∃ c, CertIn (l.drop 1) c ∧ o = oNon c := fun o => by rw [hat, e1]; exact out_non
      simp -implicitDefEqProofs (disch := first | omega | (simp only [push_size, hset_size]; done) | (simp only [push_size, hset_size]; omega)) [go_sem, hln, hl0, d0, e1', c0, z1]
      obtain ⟨H2, hH2⟩ : ∃ H2, H2 = hset h1 ⟨h.size, 0, none⟩ (.int .i64 1) := ⟨_, rfl⟩
      rw [← hH2]
      have f2 : Gr h H2 := by rw [hH2]; exact f01.newA (Nat.le_refl _)
      have q0 : hcell H2 ⟨h.size, 0, none⟩ = some (.int .i64 1) := by rw [hH2]; simp [hcell_hset, c0]
      have q1 : hcell H2 ⟨h.size, 1, none⟩ = some (.slice none 0 0) := by rw [hH2]; simp [hcell_hset, c1]
      have q2 : hcell H2 ⟨h.size, 2, none⟩ = some (.slice none 0 0) := by rw [hH2]; simp [hcell_hset, c2]
      have q3 : hcell H2 ⟨h.size, 3, none⟩ = some (.slice none 0 0) := by rw [hH2]; simp [hcell_hset, c3]
      have q4 : hcell H2 ⟨h.size, 4, none⟩ = some (.int .i64 0) := by rw [hH2]; simp [hcell_hset, c4]
      have q5 : hcell H2 ⟨h.size, 5, none⟩ = some (.int .i64 0) := by rw [hH2]; simp [hcell_hset, c5]
      have q6 : hcell H2 ⟨h.size, 6, none⟩ = some (.int .i64 0) := by rw [hH2]; simp [hcell_hset, c6]
      have q7 : hcell H2 ⟨h.size, 7, none⟩ = some (.int .i64 0) := by rw [hH2]; simp [hcell_hset, c7]
      have q8 : hcell H2 ⟨h.size, 8, none⟩ = some (.int .i64 0) := by rw [hH2]; simp [hcell_hset, c8]
      have q9 : hcell H2 ⟨h.size, 9, none⟩ = some (.int .i64 0) := by rw [hH2]; simp [hcell_hset, c9]
      have qz : ∀ o, hfrz H2 ⟨h.size, o, none⟩ = false := fun o => by rw [hH2, hfrz_hset]; exact z1 o
      have hs2 : H2.size = h1.size := by rw [hH2, hset_size]
      have R2 : RowAt H2 (some ⟨bk, off, none⟩) (strs l) := by
        rw [hH2]
        refine R.keepS fun b o s hv => ?_
        have : ¬ (b = h.size ∧ o = 0) := by rintro ⟨rfl, rfl⟩; rw [c0] at hv; cases hv
        rw [hcell_hset, if_neg this]
        exact hv
      clear hH2
      refine useC (proof_ok (G.gr f2) R2 rfl (by omega) (by omega) fun b hb => (hta b hb).1) ?_
      rintro _ h3 ⟨hP, f3⟩
      have f03 := f2.trans f3
      have hs3 := f3.size
      have k0 := (f3.cell (by omega) id).trans q0
      have k1 := (f3.cell (by omega) id).trans q1
      have k2 := (f3.cell (by omega) id).trans q2
      have k3 := (f3.cell (by omega) id).trans q3
      have k4 := (f3.cell (by omega) id).trans q4
      have k5 := (f3.cell (by omega) id).trans q5
      have k6 := (f3.cell (by omega) id).trans q6
      have k7 := (f3.cell (by omega) id).trans q7
      have k8 := (f3.cell (by omega) id).trans q8
      have k9 := (f3.cell (by omega) id).trans q9
      have kz : ∀ o, hfrz h3 ⟨h.size, o, none⟩ = false := fun o => (f3.frz (by omega) id).trans (qz o)
      rcases hP with ⟨c, B, b, C, d, hI, rfl, V, oB, vs, W⟩ | ⟨hno, B, n, b, C, m, d, k, rfl, hk1, hk2⟩
      · unfold certV
        simp -implicitDefEqProofs (disch := first | omega | (simp only [push_size, hset_size]; done) | (simp only [push_size, hset_size]; omega)) [go_sem, k2, k3, kz]
        obtain ⟨H4, hH4⟩ : ∃ H4, H4 = hset (hset h3 ⟨h.size, 2, none⟩ (.slice B c.core.length b)) ⟨h.size, 3, none⟩ (.slice C c.steps.length d) := ⟨_, rfl⟩
        rw [← hH4]
        have f4 : Fr (fun y => y = h.size) h3 H4 := by rw [hH4]; refine Fr.setA (Fr.setA (Fr.refl _ _) ?_) ?_ <;> rfl
        have W4 := W.fr f4 (fun y hy e => by have := W.own y hy; omega) fun y _ hy _ e => by omega
        have O4 : OutAt H4 h.size (oNon c) ⟨none, 0, B, b, C, d⟩ := by
          rw [hH4]
          refine ⟨?_, ?_, ?_, ?_, ?_, ?_, ?_, ?_, ?_, ?_⟩ <;> simp [hcell_hset, oNon, k0, k1, k2, k3, k4, k5, k6, k7, k8, k9]
        have V4 : OutcR H4 (oNon c) ⟨none, 0, B, b, C, d⟩ := ⟨.nil, ⟨V.core.fr f4 fun y hy e => by have := oB y hy; omega, W4.steps, V.ca, V.cb, V.la, V.lb, V.ia⟩, by show 0 < _; omega, Nat.le_refl _, fun p hp => by simp [oNon] at hp, by show I64 1; unfold I64; omega, i64_zero, i64_zero, i64_zero, i64_zero, i64_zero, i64_zero⟩
        refine ⟨0, rfl, rfl, rfl, rfl, by rw [hH4]; exact (f03.newA (Nat.le_refl _)).newA (Nat.le_refl _), fun o => by rw [hH4, hfrz_hset, hfrz_hset]; exact kz o, .inl ⟨rfl, oNon c, ⟨none, 0, B, b, C, d⟩, O4, V4, (hnon _).2 ⟨c, hI, rfl⟩, fun o' ho' => ?_⟩⟩
        obtain ⟨c', hc', rfl⟩ := (hnon o').1 ho'
        rw [hI.uniq hc']
      · simp -implicitDefEqProofs (disch := first | omega | (simp only [push_size, hset_size]; done) | (simp only [push_size, hset_size]; omega)) [go_sem, k2, k3, kz]
        obtain ⟨H4, hH4⟩ : ∃ H4, H4 = hset (hset h3 ⟨h.size, 2, none⟩ (.slice B n b)) ⟨h.size, 3, none⟩ (.slice C m d) := ⟨_, rfl⟩
        rw [← hH4]
        have L4 : ListB H4 h.size [.int .i64 1, .slice none 0 0, .slice B n b, .slice C m d, .int .i64 0, .int .i64 0, .int .i64 0, .int .i64 0, .int .i64 0, .int .i64 0] := by
          rw [hH4]
          refine .ten ?_ ?_ ?_ ?_ ?_ ?_ ?_ ?_ ?_ ?_ (fun o => by rw [hfrz_hset, hfrz_hset]; exact kz o) <;> simp [hcell_hset, k0, k1, k2, k3, k4, k5, k6, k7, k8, k9]
        exact ⟨k, rfl, rfl, rfl, rfl, by rw [hH4]; exact (f03.newA (Nat.le_refl _)).newA (Nat.le_refl _), L4.fz, .inr ⟨hk1, hk2, fun o ho => by obtain ⟨c, hc, _⟩ := (hnon o).1 ho; exact hno ⟨c, hc⟩, _, _, _, _, _, _, _, _, _, _, L4⟩⟩
    · have e0' : ¬ a = [115, 111, 108, 117, 116, 105, 111, 110] := e0
      have e1' : ¬ a = [110, 111, 110, 101] := e1
      simp -implicitDefEqProofs (disch := first | omega | (simp only [push_size, hset_size]; done) | (simp only [push_size, hset_size]; omega)) [go_sem, hln, hl0, d0, e0', e1']
      have hal := (hta a (by rw [hat]; exact List.mem_cons_self)).1
      have hpln : ∀ o, OutIn l o ↔ PlainO a o ∧ GoodO o ∧ t = [] := fun o => by rw [hat]; exact out_plain e0 e1
      have htl : l.length = t.length + 1 := by rw [hat]; rfl
      refine useC (plain_ok (G.gr f01) a (by omega)) ?_
      rintro _ h2 ⟨hP, f2⟩
      have f02 := f01.trans f2
      have hs2 := f2.size
      have k0 := (f2.cell (by omega) id).trans c0
      have k1 := (f2.cell (by omega) id).trans c1
      have k2 := (f2.cell (by omega) id).trans c2
      have k3 := (f2.cell (by omega) id).trans c3
      have k4 := (f2.cell (by omega) id).trans c4
      have k5 := (f2.cell (by omega) id).trans c5
      have k6 := (f2.cell (by omega) id).trans c6
      have k7 := (f2.cell (by omega) id).trans c7
      have k8 := (f2.cell (by omega) id).trans c8
      have k9 := (f2.cell (by omega) id).trans c9
      have kz : ∀ o, hfrz h2 ⟨h.size, o, none⟩ = false := fun o => (f2.frz (by omega) id).trans (z1 o)
      rcases hP with ⟨o, hp, rfl⟩ | ⟨hno, rfl⟩
      · have M := fun h => PlainO.mem hp (h := h)
        have C := fun h => goodP29_ok (PlainO.mem hp (h := h))
        unfold outV outC zeroA at C
        unfold outV outC zeroA
        simp -implicitDefEqProofs (disch := first | omega | (simp only [push_size, hset_size]; done) | (simp only [push_size, hset_size]; omega)) [go_sem, k0, k1, k2, k3, k4, k5, k6, k7, k8, k9, kz]
        obtain ⟨H3, hH3⟩ : ∃ H3, H3 = hset (hset (hset (hset (hset (hset (hset (hset (hset (hset h2 ⟨h.size, 0, none⟩ (.int .i64 o.kind)) ⟨h.size, 1, none⟩ (.slice none o.pins.length 0)) ⟨h.size, 2, none⟩ (.slice none o.cert.core.length 0)) ⟨h.size, 3, none⟩ (.slice none o.cert.steps.length 0)) ⟨h.size, 4, none⟩ (.int .i64 o.text)) ⟨h.size, 5, none⟩ (.int .i64 o.at')) ⟨h.size, 6, none⟩ (.int .i64 o.e)) ⟨h.size, 7, none⟩ (.int .i64 o.wp)) ⟨h.size, 8, none⟩ (.int .i64 o.wr)) ⟨h.size, 9, none⟩ (.int .i64 o.wd) := ⟨_, rfl⟩
        rw [← hH3]
        have f3 : Gr h H3 := by
          rw [hH3]
          iterate 10 refine Fr.newA ?_ (Nat.le_refl _)
          exact f02
        have O3 : OutAt H3 h.size o zeroA := by
          rw [hH3]
          refine ⟨?_, ?_, ?_, ?_, ?_, ?_, ?_, ?_, ?_, ?_⟩ <;> simp [hcell_hset, zeroA, k0, k1, k2, k3, k4, k5, k6, k7, k8, k9]
        have hz3 : ∀ o, hfrz H3 ⟨h.size, o, none⟩ = false := fun o => by rw [hH3]; simp only [hfrz_hset]; exact kz o
        have hs3 : H3.size = h2.size := by rw [hH3]; simp only [hset_size]
        clear hH3
        refine useC (C H3) ?_
        rintro _ h4 ⟨⟨b, rfl, hb⟩, f4⟩
        have O4 := O3.gr f4
        have z4 : ∀ o, hfrz h4 ⟨h.size, o, none⟩ = false := fun o => (f4.frz (by omega) id).trans (hz3 o)
        have f04 := f3.trans f4
        have L4 : ListB h4 h.size [_, _, _, _, _, _, _, _, _, _] := .ten O4.c0 O4.c1 O4.c2 O4.c3 O4.c4 O4.c5 O4.c6 O4.c7 O4.c8 O4.c9 z4
        cases b with
        | false =>
          simp -implicitDefEqProofs (disch := first | omega | (simp only [push_size, hset_size]; done) | (simp only [push_size, hset_size]; omega)) [go_sem]
          refine ⟨1, rfl, rfl, rfl, rfl, f04, z4, .inr ⟨Nat.le_refl _, by omega, fun o' ho' => ?_, _, _, _, _, _, _, _, _, _, _, L4⟩⟩
          obtain ⟨g1, g2, _⟩ := (hpln o').1 ho'
          have := hp.uniq g1
          subst this
          cases hb.2 g2
        | true =>
          by_cases ht : l.length = 1
          · have ht' : ¬ (1 < (l.length : Int)) := by omega
            simp -implicitDefEqProofs (disch := first | omega | (simp only [push_size, hset_size]; done) | (simp only [push_size, hset_size]; omega)) [go_sem, ht']
            have htn : t = [] := by
              cases t with
              | nil => rfl
              | cons b t => rw [List.length_cons] at htl; omega
            refine ⟨0, rfl, rfl, rfl, rfl, f04, z4, .inl ⟨rfl, o, zeroA, O4, M h4, (hpln o).2 ⟨hp, hb.1 rfl, htn⟩, fun o' ho' => ?_⟩⟩
            exact ((hpln o').1 ho').1.uniq hp
          · have ht' : 1 < (l.length : Int) := by omega
            simp -implicitDefEqProofs (disch := first | omega | (simp only [push_size, hset_size]; done) | (simp only [push_size, hset_size]; omega)) [go_sem, ht']
            refine ⟨2, rfl, rfl, rfl, rfl, f04, z4, .inr ⟨by omega, by omega, fun o' ho' => ?_, _, _, _, _, _, _, _, _, _, _, L4⟩⟩
            have := ((hpln o').1 ho').2.2
            rw [this] at htl
            exact ht htl
      · unfold outV outC zeroA zeroO
        simp -implicitDefEqProofs (disch := first | omega | (simp only [push_size, hset_size]; done) | (simp only [push_size, hset_size]; omega)) [go_sem, k0, k1, k2, k3, k4, k5, k6, k7, k8, k9, kz]
        rw [hset_same k0, hset_same k1, hset_same k2, hset_same k3, hset_same k4, hset_same k5, hset_same k6, hset_same k7, hset_same k8, hset_same k9]
        exact ⟨1, rfl, rfl, rfl, rfl, f02, kz, .inr ⟨Nat.le_refl _, by omega, fun o' ho' => hno ⟨o', ((hpln o').1 ho').1⟩, _, _, _, _, _, _, _, _, _, _, .ten k0 k1 k2 k3 k4 k5 k6 k7 k8 k9 kz⟩⟩
  · rintro ρ h2 ⟨line, r2, r3, r5, r6, gr, fz, ex⟩
    have hg2 := gr.size
    have no : (∀ o, ¬ OutIn l o) ∨ z ≠ [] → ∀ o, GoodO o → goodT o ≠ s := fun hh o g e => by
      obtain ⟨e1, e2⟩ := (text_lines hs g).1 e
      rcases hh with hh | hh
      · exact hh o ⟨g, e1⟩
      · exact hh e2
    rcases ex with ⟨rfl, o, P, O, V, hI, hu⟩ | ⟨hl1, hl2, hno, v0, v1, v2, v3, v4, v5, v6, v7, v8, v9, L⟩
    · obtain ⟨c0, c1, c2, c3, c4, c5, c6, c7, c8, c9⟩ := id O
      by_cases hz : z = []
      · simp -implicitDefEqProofs (disch := first | omega | (simp only [push_size, hset_size]; done) | (simp only [push_size, hset_size]; omega)) [go_sem, r2, r3, r5, r6, hz, c0, c1, c2, c3, c4, c5, c6, c7, c8, c9]
        refine useC (goodP29_ok V) ?_
        rintro _ h3 ⟨⟨b, rfl, hb⟩, f3⟩
        have hb : b = true := hb.2 hI.1
        subst hb
        obtain ⟨k0, k1, k2, k3, k4, k5, k6, k7, k8, k9⟩ := O.gr f3
        have z3 : ∀ o, hfrz h3 ⟨h.size, o, none⟩ = false := fun o => (f3.frz (hcell_lt c0) id).trans (fz o)
        have fin : ReadR s h3 (.tuple #[outV o P, .int .i64 0, .bool true]) ∧ Gr h h3 := ⟨.inl ⟨o, P, hI.1, (text_lines hs hI.1).2 ⟨hI.2, hz⟩, rfl, V.gr f3, fun o' g e => hu o' ⟨g, ((text_lines hs g).1 e).1⟩⟩, gr.trans f3⟩
        simp -implicitDefEqProofs (disch := first | omega | (simp only [push_size, hset_size]; done) | (simp only [push_size, hset_size]; omega)) [go_sem, r2, r3, r5, r6, k0, k1, k2, k3, k4, k5, k6, k7, k8, k9, z3]
        rw [hset_same k0, hset_same k1, hset_same k2, hset_same k3, hset_same k4, hset_same k5, hset_same k6, hset_same k7, hset_same k8, hset_same k9]
        exact fin
      · simp -implicitDefEqProofs (disch := first | omega | (simp only [push_size, hset_size]; done) | (simp only [push_size, hset_size]; omega)) [go_sem, r2, r3, r5, r6, hz, c0, c1, c2, c3, c4, c5, c6, c7, c8, c9, fz]
        refine ⟨.inr ⟨no (.inr hz), l.length + 1, ?_, by omega, by omega⟩, ?_⟩
        · rw [show max ((l.length : Int) + 1) 1 = ((l.length + 1 : Nat) : Int) by omega]; rfl
        · iterate 10 refine Fr.newA ?_ (Nat.le_refl _)
          exact gr
    · have c0 := L.at' 0 _ rfl
      have c1 := L.at' 1 _ rfl
      have c2 := L.at' 2 _ rfl
      have c3 := L.at' 3 _ rfl
      have c4 := L.at' 4 _ rfl
      have c5 := L.at' 5 _ rfl
      have c6 := L.at' 6 _ rfl
      have c7 := L.at' 7 _ rfl
      have c8 := L.at' 8 _ rfl
      have c9 := L.at' 9 _ rfl
      have hl0 : ¬ ((line : Int) = 0) := by omega
      simp -implicitDefEqProofs (disch := first | omega | (simp only [push_size, hset_size]; done) | (simp only [push_size, hset_size]; omega)) [go_sem, r2, r3, r5, r6, hl0, c0, c1, c2, c3, c4, c5, c6, c7, c8, c9, fz]
      refine ⟨.inr ⟨no (.inl hno), line, ?_, hl1, by omega⟩, ?_⟩
      · rw [show max (line : Int) 1 = (line : Int) by omega]; rfl
      · iterate 10 refine Fr.newA ?_ (Nat.le_refl _)
        exact gr
end
end Xe

/- An outcome that came in; is it few and short? -/
namespace Xe
open Go Go.Proofs
set_option maxRecDepth 16000
set_option maxHeartbeats 2000000
/-- pins that came in: nothing is known of how many there are, or how long -/
structure PinsW (h : Heap) (A : Option Addr) (ps : List PinS) : Prop where
  at' : ∀ (i : Nat) p, ps[i]? = some p → ∃ bk off C c D d, A = some ⟨bk, off, none⟩ ∧ hcell h ⟨bk, off + i * 6, none⟩ = some (S p.name) ∧ hcell h ⟨bk, off + i * 6 + 1, none⟩ = some (.int .u64 p.v.maj) ∧
    hcell h ⟨bk, off + i * 6 + 2, none⟩ = some (.int .u64 p.v.min) ∧ hcell h ⟨bk, off + i * 6 + 3, none⟩ = some (.int .u64 p.v.pat) ∧
    hcell h ⟨bk, off + i * 6 + 4, none⟩ = some (.slice C p.v.pre.length c) ∧ hcell h ⟨bk, off + i * 6 + 5, none⟩ = some (.slice D p.v.build.length d) ∧
    RowAt h C (strs p.v.pre) ∧ RowAt h D (strs p.v.build) ∧ p.v.pre.length ≤ c ∧ p.v.build.length ≤ d ∧ c < 2 ^ 63 ∧ d < 2 ^ 63 ∧ p.name.length < 2 ^ 63 ∧ p.v.maj < 18446744073709551616 ∧ p.v.min < 18446744073709551616 ∧ p.v.pat < 18446744073709551616
structure StepsW (h : Heap) (A : Option Addr) (ss : List StepS) : Prop where
  at' : ∀ (i : Nat) s, ss[i]? = some s → ∃ bk off X x, A = some ⟨bk, off, none⟩ ∧ hcell h ⟨bk, off + i * 2, none⟩ = some (.int .i64 s.kind) ∧ hcell h ⟨bk, off + i * 2 + 1, none⟩ = some (.slice X s.lits.length x) ∧
    RowAt h X (ints s.lits) ∧ s.lits.length ≤ x ∧ x < 2 ^ 63 ∧ I64 s.kind ∧ ∀ y ∈ s.lits, I64 y
structure OutcW (h : Heap) (o : Outc) (P : OutA) : Prop where
  pins : PinsW h P.A o.pins
  core : RowAt h P.B (ints o.cert.core)
  steps : StepsW h P.C o.cert.steps
  ca : o.pins.length ≤ P.a
  cb : o.cert.core.length ≤ P.b
  cc : o.cert.steps.length ≤ P.c
  la : P.a < 2 ^ 63
  lb : P.b < 2 ^ 63
  lc : P.c < 2 ^ 63
  ia : ∀ x ∈ o.cert.core, I64 x
  i1 : I64 o.kind
  i2 : I64 o.text
  i3 : I64 o.at'
  i4 : I64 o.e
  i5 : I64 o.wp
  i6 : I64 o.wr
  i7 : I64 o.wd
theorem RowAt.grw {h h' : Heap} {A : Option Addr} {vs : List Value} (R : RowAt h A vs) (f : Gr h h') : RowAt h' A vs := R.fr f fun _ _ => id
theorem PinsW.gr {h h' : Heap} {A : Option Addr} {ps : List PinS} (R : PinsW h A ps) (f : Gr h h') : PinsW h' A ps := ⟨fun i p hp => by
  obtain ⟨bk, off, C, c, D, d, e, c0, c1, c2, c3, c4, c5, r1, r2, rest⟩ := R.at' i p hp
  have g : ∀ {j v}, hcell h ⟨bk, j, none⟩ = some v → hcell h' ⟨bk, j, none⟩ = some v := fun hv => (f.cell (hcell_lt hv) id).trans hv
  exact ⟨bk, off, C, c, D, d, e, g c0, g c1, g c2, g c3, g c4, g c5, r1.grw f, r2.grw f, rest⟩⟩
theorem StepsW.gr {h h' : Heap} {A : Option Addr} {ps : List StepS} (R : StepsW h A ps) (f : Gr h h') : StepsW h' A ps := ⟨fun i p hp => by
  obtain ⟨bk, off, X, x, e, c0, c1, r1, rest⟩ := R.at' i p hp
  have g : ∀ {j v}, hcell h ⟨bk, j, none⟩ = some v → hcell h' ⟨bk, j, none⟩ = some v := fun hv => (f.cell (hcell_lt hv) id).trans hv
  exact ⟨bk, off, X, x, e, g c0, g c1, r1.grw f, rest⟩⟩
theorem OutcW.gr {h h' : Heap} {o : Outc} {P : OutA} (V : OutcW h o P) (f : Gr h h') : OutcW h' o P :=
  ⟨V.pins.gr f, V.core.grw f, V.steps.gr f, V.ca, V.cb, V.cc, V.la, V.lb, V.lc, V.ia, V.i1, V.i2, V.i3, V.i4, V.i5, V.i6, V.i7⟩
/-- few, and short -/
structure FewO (o : Outc) : Prop where
  pins : o.pins.length ≤ 8
  core : o.cert.core.length ≤ 20
  steps : o.cert.steps.length ≤ 12
  lits : ∀ s ∈ o.cert.steps, s.lits.length ≤ 12
  parts : ∀ p ∈ o.pins, p.name.length ≤ 300 ∧ p.v.pre.length ≤ 20 ∧ p.v.build.length ≤ 20
theorem OutcW.few {h : Heap} {o : Outc} {P : OutA} (V : OutcW h o P) (F : FewO o) : OutcR h o P where
  pins := ⟨fun i p hp => by
    obtain ⟨bk, off, C, c, D, d, e, c0, c1, c2, c3, c4, c5, r1, r2, k1, k2, k3, k4, k5, m1, m2, m3⟩ := V.pins.at' i p hp
    obtain ⟨f1, f2, f3⟩ := F.parts p (List.mem_of_getElem? hp)
    exact ⟨bk, off, C, c, D, d, e, c0, c1, c2, c3, c4, c5, r1, r2, k1, k2, by omega, by omega, m1, m2, m3⟩⟩
  cert := ⟨V.core, ⟨fun i s hs => by
    obtain ⟨bk, off, X, x, e, c0, c1, r1, k1, k2, i1, i2⟩ := V.steps.at' i s hs
    have := F.lits s (List.mem_of_getElem? hs)
    exact ⟨bk, off, X, x, e, c0, c1, r1, k1, by omega, i1, i2⟩⟩, V.cb, V.cc, by have := F.core; omega, by have := F.steps; omega, V.ia⟩
  lp := by have := F.pins; omega
  cp := V.ca
  ln := fun p hp => by have := (F.parts p hp).1; omega
  i1 := V.i1
  i2 := V.i2
  i3 := V.i3
  i4 := V.i4
  i5 := V.i5
  i6 := V.i6
  i7 := V.i7
section
variable {h : Heap}
theorem deps0_ok : CallsH Tryz.prog 42 [.slice none 0 0] h fun r h' => r = .bool true ∧ h' = h := by
  refine calls_of 29 [.tmp 2] Go.Proofs.Tryz.func42 rfl rfl rfl ?_
  simp -implicitDefEqProofs (disch := first | omega | (simp only [push_size, hset_size]; done) | (simp only [push_size, hset_size]; omega)) [go_sem]
  refine loopK (fun ρ h' => ρ 0 = .slice none 0 0 ∧ ρ 3 = .int .i64 0 ∧ h' = h) (fun _ _ => 0) (by kernel_rfl) ⟨rfl, rfl, rfl⟩ ?_
  rintro ρ h1 ⟨r0, r3, rfl⟩
  simp -implicitDefEqProofs (disch := first | omega | (simp only [push_size, hset_size]; done) | (simp only [push_size, hset_size]; omega)) [go_sem, r0, r3]
variable {A : Option Addr} {n c : Nat} {ps : List PinS}
def PartsTo (ps : List PinS) (i : Nat) : Prop := ∀ p ∈ ps.take i, p.name.length ≤ 300 ∧ p.v.pre.length ≤ 20 ∧ p.v.build.length ≤ 20
theorem PartsTo.next {i : Nat} {p : PinS} (I : PartsTo ps i) (hp : ps[i]? = some p) (h1 : p.name.length ≤ 300) (h2 : p.v.pre.length ≤ 20) (h3 : p.v.build.length ≤ 20) : PartsTo ps (i + 1) := fun q hq => by
  rw [List.take_add_one, hp] at hq
  rcases List.mem_append.1 hq with hq | hq
  · exact I q hq
  · simp at hq; subst hq; exact ⟨h1, h2, h3⟩
theorem few09_ok (R : PinsW h A ps) (hn : n = ps.length) (hl : n < 2 ^ 63) :
    CallsH Tryz.prog 15 [.agg #[.slice none 0 0], .slice none 0 0, .slice A n c] h fun r h' => (∃ e : Nat, r = .int .i64 e ∧ (e = 0 → ps.length ≤ 8 ∧ PartsTo ps ps.length)) ∧ Gr h h' := by
  subst hn
  refine calls_of 117 [.tmp 6] Go.Proofs.Tryz.func15 rfl rfl rfl ?_
  simp -implicitDefEqProofs (disch := first | omega | (simp only [push_size, hset_size]; done) | (simp only [push_size, hset_size]; omega)) [go_sem]
  obtain ⟨H, hH⟩ : ∃ H, H = h.push (.cells #[.slice none 0 0] 50) := ⟨_, rfl⟩
  have f0 : Gr h H := by rw [hH]; exact (Fr.refl _ _).push
  have hHs : H.size = h.size + 1 := by rw [hH, push_size]
  have b0 : hcell H ⟨h.size, 0, none⟩ = some (.slice none 0 0) := by rw [hH]; exact hcell_push_lit
  rw [← hH]
  clear hH
  by_cases h8 : 8 < ps.length
  · have h8' : (8 : Int) < (ps.length : Int) := by omega
    simp -implicitDefEqProofs (disch := first | omega | (simp only [push_size, hset_size]; done) | (simp only [push_size, hset_size]; omega)) [go_sem, h8']
    exact ⟨⟨1, rfl, fun e => by omega⟩, f0⟩
  have h8' : ¬ (8 : Int) < (ps.length : Int) := by omega
  simp -implicitDefEqProofs (disch := first | omega | (simp only [push_size, hset_size]; done) | (simp only [push_size, hset_size]; omega)) [go_sem, h8']
  refine useC deps0_ok ?_
  rintro _ h1 ⟨rfl, rfl⟩
  simp -implicitDefEqProofs (disch := first | omega | (simp only [push_size, hset_size]; done) | (simp only [push_size, hset_size]; omega)) [go_sem, h8']
  refine loopK (fun ρ h' => ρ 2 = .slice A ps.length c ∧ ρ 3 = .pointer (some ⟨h.size, 0, none⟩) ∧ h' = h1 ∧ ∃ i : Nat, ρ 7 = .int .i64 i ∧ i ≤ ps.length ∧ PartsTo ps i) (fun ρ _ => ps.length - (intOf (ρ 7)).toNat) (by kernel_rfl) ?_ ?_
  · exact ⟨rfl, rfl, rfl, 0, rfl, Nat.zero_le _, fun p hp => by simp at hp⟩
  rintro ρ h' ⟨r2, r3, rfl, i, r7, hi, I⟩
  by_cases hin : i < ps.length
  · obtain ⟨p, hp⟩ : ∃ p, ps[i]? = some p := ⟨_, List.getElem?_eq_getElem hin⟩
    obtain ⟨bk, off, C, cc, D, d, rfl, c0, c1, c2, c3, c4, c5, q1, q2, k1, k2, k3, k4, k5, m1, m2, m3⟩ := (R.gr f0).at' i p hp
    simp -implicitDefEqProofs (disch := first | omega | (simp only [push_size, hset_size]; done) | (simp only [push_size, hset_size]; omega)) [go_sem, r2, r3, r7, c0, c1, c2, c3, c4, c5]
    by_cases g1 : 300 < p.name.length
    · have g1' : (300 : Int) < (p.name.length : Int) := by omega
      simp -implicitDefEqProofs (disch := first | omega | (simp only [push_size, hset_size]; done) | (simp only [push_size, hset_size]; omega)) [go_sem, r2, r3, r7, c0, c1, c2, c3, c4, c5, g1']
      exact ⟨⟨2, rfl, fun e => by omega⟩, f0⟩
    have g1' : ¬ (300 : Int) < (p.name.length : Int) := by omega
    by_cases g2 : 20 < p.v.pre.length
    · have g2' : (20 : Int) < (p.v.pre.length : Int) := by omega
      simp -implicitDefEqProofs (disch := first | omega | (simp only [push_size, hset_size]; done) | (simp only [push_size, hset_size]; omega)) [go_sem, r2, r3, r7, c0, c1, c2, c3, c4, c5, g1', g2']
      exact ⟨⟨2, rfl, fun e => by omega⟩, f0⟩
    have g2' : ¬ (20 : Int) < (p.v.pre.length : Int) := by omega
    by_cases g3 : 20 < p.v.build.length
    · have g3' : (20 : Int) < (p.v.build.length : Int) := by omega
      simp -implicitDefEqProofs (disch := first | omega | (simp only [push_size, hset_size]; done) | (simp only [push_size, hset_size]; omega)) [go_sem, r2, r3, r7, c0, c1, c2, c3, c4, c5, g1', g2', g3']
      exact ⟨⟨2, rfl, fun e => by omega⟩, f0⟩
    have g3' : ¬ (20 : Int) < (p.v.build.length : Int) := by omega
    simp -implicitDefEqProofs (disch := first | omega | (simp only [push_size, hset_size]; done) | (simp only [push_size, hset_size]; omega)) [go_sem, r2, r3, r7, c0, c1, c2, c3, c4, c5, g1', g2', g3']
    exact ⟨⟨i + 1, by omega, by omega, I.next hp (by omega) (by omega) (by omega)⟩, by omega⟩
  · have e : i = ps.length := by omega
    subst e
    simp -implicitDefEqProofs (disch := first | omega | (simp only [push_size, hset_size]; done) | (simp only [push_size, hset_size]; omega)) [go_sem, r2, r3, r7]
    refine loopK (fun ρ h2 => ρ 3 = .pointer (some ⟨h.size, 0, none⟩) ∧ h2 = h' ∧ ρ 8 = .int .i64 0) (fun _ _ => 0) (by kernel_rfl) ⟨by simp [put, r3], rfl, rfl⟩ ?_
    rintro ρ' h2 ⟨t3, rfl, t8⟩
    simp -implicitDefEqProofs (disch := first | omega | (simp only [push_size, hset_size]; done) | (simp only [push_size, hset_size]; omega)) [go_sem, t3, t8, b0]
    exact ⟨⟨0, rfl, fun _ => ⟨by omega, I⟩⟩, f0⟩
variable {o : Outc} {P : OutA}
theorem few29_ok (V : OutcW h o P) : CallsH Tryz.prog 6 [outV o P] h fun r h' => (∃ b, r = .bool b ∧ (b = true → FewO o)) ∧ Gr h h' := by
  have ha := V.ca
  have hb := V.cb
  have hc := V.cc
  have la := V.la
  have lb := V.lb
  have lc := V.lc
  obtain ⟨H, hH⟩ : ∃ H, H = h.push (.cells (outC o P).toArray 31) := ⟨_, rfl⟩
  have f0 : Gr h H := by rw [hH]; exact (Fr.refl _ _).push
  have O0 : OutAt H h.size o P := by rw [hH]; exact OutAt.new
  simp only [outC] at hH
  obtain ⟨c0, c1, c2, c3, c4, c5, c6, c7, c8, c9⟩ := id O0
  refine calls_of 44 [.tmp 2] Go.Proofs.Tryz.func6 rfl rfl rfl ?_
  unfold outV outC
  simp -implicitDefEqProofs (disch := first | omega | (simp only [push_size, hset_size]; done) | (simp only [push_size, hset_size]; omega)) [go_sem]
  rw [← hH]
  clear hH
  by_cases g1 : 8 < o.pins.length
  · have g1' : (8 : Int) < (o.pins.length : Int) := by omega
    simp -implicitDefEqProofs (disch := first | omega | (simp only [push_size, hset_size]; done) | (simp only [push_size, hset_size]; omega)) [go_sem, c1, c2, c3, g1']
    exact f0
  have g1' : ¬ (8 : Int) < (o.pins.length : Int) := by omega
  by_cases g2 : 20 < o.cert.core.length
  · have g2' : (20 : Int) < (o.cert.core.length : Int) := by omega
    simp -implicitDefEqProofs (disch := first | omega | (simp only [push_size, hset_size]; done) | (simp only [push_size, hset_size]; omega)) [go_sem, c1, c2, c3, g1', g2']
    exact f0
  have g2' : ¬ (20 : Int) < (o.cert.core.length : Int) := by omega
  by_cases g3 : 12 < o.cert.steps.length
  · have g3' : (12 : Int) < (o.cert.steps.length : Int) := by omega
    simp -implicitDefEqProofs (disch := first | omega | (simp only [push_size, hset_size]; done) | (simp only [push_size, hset_size]; omega)) [go_sem, c1, c2, c3, g1', g2', g3']
    exact f0
  have g3' : ¬ (12 : Int) < (o.cert.steps.length : Int) := by omega
  simp -implicitDefEqProofs (disch := first | omega | (simp only [push_size, hset_size]; done) | (simp only [push_size, hset_size]; omega)) [go_sem, c1, c2, c3, g1', g2', g3']
  refine loopK (fun ρ h' => ρ 1 = .pointer (some ⟨h.size, 0, none⟩) ∧ h' = H ∧ ∃ i : Nat, ρ 3 = .int .i64 i ∧ i ≤ o.cert.steps.length ∧ ∀ s ∈ o.cert.steps.take i, s.lits.length ≤ 12) (fun ρ _ => o.cert.steps.length - (intOf (ρ 3)).toNat) (by kernel_rfl) ?_ ?_
  · exact ⟨rfl, rfl, 0, rfl, Nat.zero_le _, fun s hs => by simp at hs⟩
  rintro ρ h' ⟨r1, rfl, i, r3, hi, I⟩
  by_cases hin : i < o.cert.steps.length
  · obtain ⟨s, hs⟩ : ∃ s, o.cert.steps[i]? = some s := ⟨_, List.getElem?_eq_getElem hin⟩
    obtain ⟨bk, off, X, x, hX, d0, d1, q1, k1, k2, i1, i2⟩ := (V.steps.gr f0).at' i s hs
    rw [hX] at c3
    simp -implicitDefEqProofs (disch := first | omega | (simp only [push_size, hset_size]; done) | (simp only [push_size, hset_size]; omega)) [go_sem, r1, r3, c3, d0, d1]
    by_cases g4 : 12 < s.lits.length
    · have g4' : (12 : Int) < (s.lits.length : Int) := by omega
      simp -implicitDefEqProofs (disch := first | omega | (simp only [push_size, hset_size]; done) | (simp only [push_size, hset_size]; omega)) [go_sem, r1, r3, g4']
      exact f0
    have g4' : ¬ (12 : Int) < (s.lits.length : Int) := by omega
    simp -implicitDefEqProofs (disch := first | omega | (simp only [push_size, hset_size]; done) | (simp only [push_size, hset_size]; omega)) [go_sem, r1, r3, g4']
    refine ⟨⟨i + 1, by omega, by omega, fun t ht => ?_⟩, by omega⟩
    rw [List.take_add_one, hs] at ht
    rcases List.mem_append.1 ht with ht | ht
    · exact I t ht
    · simp at ht; subst ht; omega
  · have e : i = o.cert.steps.length := by omega
    subst e
    rw [List.take_length] at I
    simp -implicitDefEqProofs (disch := first | omega | (simp only [push_size, hset_size]; done) | (simp only [push_size, hset_size]; omega)) [go_sem, r1, r3, c1, c3]
    refine useC (few09_ok (V.pins.gr f0) rfl (by omega)) ?_
    rintro _ h2 ⟨⟨e, rfl, he⟩, f2⟩
    have f02 := f0.trans f2
    by_cases e0 : e = 0
    · have e0' : ((e : Nat) : Int) = 0 := by omega
      simp -implicitDefEqProofs (disch := first | omega | (simp only [push_size, hset_size]; done) | (simp only [push_size, hset_size]; omega)) [go_sem, e0']
      obtain ⟨p1, p2⟩ := he e0
      exact ⟨⟨p1, by omega, by omega, I, fun p hp => p2 p (by rw [List.take_length]; exact hp)⟩, f02⟩
    · have e0' : ¬ ((e : Nat) : Int) = 0 := by omega
      simp -implicitDefEqProofs (disch := first | omega | (simp only [push_size, hset_size]; done) | (simp only [push_size, hset_size]; omega)) [go_sem, e0']
      exact f02
end
end Xe

/- The law 'what is read', walked (but for awake). -/
namespace Xe
open Go Go.Proofs
set_option maxRecDepth 16000
set_option maxHeartbeats 4000000

section
variable {h : Heap}

end
end Xe

/- The law 'which outcomes are good, and their texts', walked (but for awake). -/
namespace Xe
open Go Go.Proofs
set_option maxRecDepth 16000
set_option maxHeartbeats 4000000
theorem nums_bound {w : List UInt8} {l : List Int} {k : Nat} (hw : w.length ≤ 10) (hl : l.length ≤ k) (hk : k ≤ 20) (hi : ∀ x ∈ l, I64 x) : (w ++ numsT l).length ≤ 8560 := by
  have := numsT_len hi
  rw [List.length_append]
  omega
theorem lines_bound {o : Outc} (g : GoodO o) (F : FewO o) : ∀ a ∈ linesO o, a.length ≤ 8560 := fun a ha => by
  obtain ⟨k0, k4, hpk, hck, n1, n2, n3, n4, n5, n6, hbl⟩ := id g
  have i1 := num_i n1
  have i2 := num_i n2
  have i3 := num_i n3
  have i4 := num_i n4
  have i5 := num_i n5
  have i6 := num_i n6
  unfold linesO at ha
  split at ha
  · rcases List.mem_cons.1 ha with rfl | ha
    · decide
    · obtain ⟨p, hp, rfl⟩ := List.mem_map.1 ha
      have := pins_good hpk p hp
      exact pinLine_bound this.1 this.2
  split at ha
  · rcases List.mem_cons.1 ha with rfl | ha
    · decide
    · unfold certL at ha
      rcases List.mem_cons.1 ha with rfl | ha
      · exact nums_bound (by decide) F.core (Nat.le_refl _) fun x hx => by have := core_all hck.2.2.1 x hx; unfold I64; omega
      · obtain ⟨p, hp, rfl⟩ := List.mem_map.1 ha
        have hw : (wordT p.kind).length ≤ 10 := by have := wordT_len (k := p.kind); omega
        exact nums_bound hw (F.lits p hp) (by omega) fun x hx => by have := lits_small (steps_all hck.2.2.2 p hp) x hx; unfold I64; omega
  split at ha
  · rw [List.mem_singleton] at ha; subst ha
    refine nums_bound (k := 20) (by decide) (by simp) (Nat.le_refl _) fun x hx => ?_
    simp only [List.mem_cons, List.not_mem_nil, or_false] at hx
    rcases hx with rfl | rfl | rfl <;> assumption
  split at ha
  · rw [List.mem_singleton] at ha; subst ha
    refine nums_bound (k := 20) (by decide) (by simp) (Nat.le_refl _) fun x hx => ?_
    simp only [List.mem_cons, List.not_mem_nil, or_false] at hx
    rcases hx with rfl | rfl | rfl | rfl | rfl | rfl <;> assumption
  · rw [List.mem_singleton] at ha; subst ha
    refine nums_bound (k := 20) (by decide) (by simp) (Nat.le_refl _) fun x hx => ?_
    simp only [List.mem_cons, List.not_mem_nil, or_false] at hx
    subst hx; assumption
theorem lines_few {o : Outc} (F : FewO o) : (linesO o).length ≤ 14 := by
  have h1 := F.pins
  have h2 := F.steps
  unfold linesO
  split
  · rw [List.length_cons, List.length_map]; omega
  split
  · unfold certL; rw [List.length_cons, List.length_cons, List.length_map]; omega
  split
  · simp
  split <;> simp
theorem unl_len {B : Nat} : ∀ {l : List (List UInt8)}, (∀ a ∈ l, a.length ≤ B) → (unl l).length ≤ l.length * (B + 1)
  | [], _ => Nat.zero_le _
  | a :: l, h => by
    have h1 := h a List.mem_cons_self
    have h2 := unl_len (l := l) fun x hx => h x (List.mem_cons_of_mem _ hx)
    rw [unl_cons, List.length_append, List.length_cons, List.length_cons, Nat.succ_mul]
    omega
theorem text_bound {o : Outc} (g : GoodO o) (F : FewO o) : (goodT o).length < 2 ^ 20 ∧ ∀ a ∈ splitOn 10 (goodT o), a.length < 2 ^ 16 := by
  have h1 := lines_bound g F
  have h2 := unl_len h1
  have h3 := lines_few F
  have h4 : (linesO o).length * (8560 + 1) ≤ 14 * (8560 + 1) := Nat.mul_le_mul_right _ h3
  rw [goodT_unl]
  refine ⟨by omega, fun a ha => ?_⟩
  rw [unl_split (lines_no10 g)] at ha
  rcases List.mem_append.1 ha with ha | ha
  · have := h1 a ha; omega
  · rw [List.mem_singleton] at ha; subst ha; simp
section
variable {h : Heap} {o : Outc} {P : OutA}
theorem texts29_walk (G : Glob h) (aw : ∀ h, Glob h → CallsH Tryz.prog 5 [] h fun r h' => r = .bool true ∧ Gr h h') (V : OutcW h o P) :
    CallsH Tryz.prog 3 [outV o P] h fun r h' => r = .bool true ∧ Gr h h' := by
  obtain ⟨H, hH⟩ : ∃ H, H = h.push (.cells (outC o P).toArray 31) := ⟨_, rfl⟩
  have f0 : Gr h H := by rw [hH]; exact (Fr.refl _ _).push
  have O0 : OutAt H h.size o P := by rw [hH]; exact OutAt.new
  have hHs : H.size = h.size + 1 := by rw [hH, push_size]
  simp only [outC] at hH
  have A0 := aw H (G.gr f0)
  refine calls_of 45 [.tmp 2] Go.Proofs.Tryz.func3 rfl rfl rfl ?_
  unfold outV outC
  simp -implicitDefEqProofs (disch := first | omega | (simp only [push_size, hset_size]; done) | (simp only [push_size, hset_size]; omega)) [go_sem]
  rw [← hH]
  clear hH
  refine useC A0 ?_
  rintro _ h1 ⟨rfl, f1⟩
  have f01 := f0.trans f1
  have O1 := O0.gr f1
  obtain ⟨c0, c1, c2, c3, c4, c5, c6, c7, c8, c9⟩ := id O1
  simp -implicitDefEqProofs (disch := first | omega | (simp only [push_size, hset_size]; done) | (simp only [push_size, hset_size]; omega)) [go_sem, c0, c1, c2, c3, c4, c5, c6, c7, c8, c9]
  refine useC (few29_ok (V.gr f01)) ?_
  rintro _ h2 ⟨⟨b, rfl, hb⟩, f2⟩
  have f02 := f01.trans f2
  have O2 := O1.gr f2
  cases b with
  | false =>
    simp -implicitDefEqProofs (disch := first | omega | (simp only [push_size, hset_size]; done) | (simp only [push_size, hset_size]; omega)) [go_sem]
    exact f02
  | true =>
    have F := hb rfl
    have V2 := (V.few F).gr f02
    obtain ⟨c0, c1, c2, c3, c4, c5, c6, c7, c8, c9⟩ := id O2
    simp -implicitDefEqProofs (disch := first | omega | (simp only [push_size, hset_size]; done) | (simp only [push_size, hset_size]; omega)) [go_sem, c0, c1, c2, c3, c4, c5, c6, c7, c8, c9]
    refine useC (good29_ok V2) ?_
    rintro _ h3 ⟨⟨g, rfl, hg⟩, f3⟩
    have O3 := O2.gr f3
    have V3 := V2.gr f3
    have hpb : GoodO o → (pinsText o.pins).length ≤ 2 ^ 39 := fun g => by
      have := pinsText_bound (pins_good g.2.2.1)
      have := F.pins
      omega
    obtain ⟨c0, c1, c2, c3, c4, c5, c6, c7, c8, c9⟩ := id O3
    simp -implicitDefEqProofs (disch := first | omega | (simp only [push_size, hset_size]; done) | (simp only [push_size, hset_size]; omega)) [go_sem, c0, c1, c2, c3, c4, c5, c6, c7, c8, c9]
    refine useC (textP29_ok (G.gr (f02.trans f3)) V3 hpb) ?_
    rintro _ h4 ⟨hT, f4⟩
    have O4 := O3.gr f4
    have V4 := V3.gr f4
    obtain ⟨s, rfl⟩ : ∃ s, _ = S s := by
      by_cases gg : GoodO o
      · exact ⟨_, hT.1 gg⟩
      · exact ⟨_, hT.2 gg⟩
    obtain ⟨c0, c1, c2, c3, c4, c5, c6, c7, c8, c9⟩ := id O4
    simp -implicitDefEqProofs (disch := first | omega | (simp only [push_size, hset_size]; done) | (simp only [push_size, hset_size]; omega)) [go_sem, c0, c1, c2, c3, c4, c5, c6, c7, c8, c9]
    refine useC (goodP29_ok V4) ?_
    rintro _ h5 ⟨⟨g', rfl, hg'⟩, f5⟩
    obtain rfl : g' = g := by
      cases g <;> cases g'
      · rfl
      · exact absurd (hg.2 (hg'.1 rfl)) (by simp)
      · exact absurd (hg'.2 (hg.1 rfl)) (by simp)
      · rfl
    have O5 := O4.gr f5
    have V5 := V4.gr f5
    have f05 := ((f02.trans f3).trans f4).trans f5
    obtain ⟨c0, c1, c2, c3, c4, c5, c6, c7, c8, c9⟩ := id O5
    simp -implicitDefEqProofs (disch := first | omega | (simp only [push_size, hset_size]; done) | (simp only [push_size, hset_size]; omega)) [go_sem, c0, c1, c2, c3, c4, c5, c6, c7, c8, c9]
    refine useC (text29_ok V5 hpb) ?_
    rintro _ h6 ⟨hT', f6⟩
    have f06 := f05.trans f6
    have O6 := O5.gr f6
    have V6 := V5.gr f6
    obtain ⟨c0, c1, c2, c3, c4, c5, c6, c7, c8, c9⟩ := id O6
    cases g' with
    | false =>
      have ng : ¬ GoodO o := fun x => by cases hg.2 x
      have e1 := hT.2 ng
      have e2 := hT'.2 ng
      subst e2
      rw [e1]
      simp -implicitDefEqProofs (disch := first | omega | (simp only [push_size, hset_size]; done) | (simp only [push_size, hset_size]; omega)) [go_sem]
      exact f06
    | true =>
      have gg := hg.1 rfl
      have e1 := hT.1 gg
      have e2 := hT'.1 gg
      subst e2
      rw [e1]
      simp -implicitDefEqProofs (disch := first | omega | (simp only [push_size, hset_size]; done) | (simp only [push_size, hset_size]; omega)) [go_sem]
      obtain ⟨t1, t2⟩ := text_bound gg F
      refine useC (read29_ok (G.gr f06) (goodT o) t1 t2) ?_
      rintro _ h7 ⟨hR, f7⟩
      have f07 := f06.trans f7
      have O7 := O6.gr f7
      have V7 := V6.gr f7
      rcases hR with ⟨o', P', g', ht, rfl, W, hu⟩ | ⟨hno, _⟩
      · have eo := hu o gg rfl
        subst eo
        obtain ⟨H8, hH8⟩ : ∃ H, H = h7.push (.cells (outC o P').toArray 31) := ⟨_, rfl⟩
        have q8 : Gr h7 H8 := by rw [hH8]; exact (Fr.refl _ _).push
        have O8 : OutAt H8 h7.size o P' := by rw [hH8]; exact OutAt.new
        have O8' := O7.gr q8
        have C := out28_ok (V7.gr q8) (W.gr q8)
        obtain ⟨c0, c1, c2, c3, c4, c5, c6, c7, c8, c9⟩ := id O8'
        obtain ⟨k0, k1, k2, k3, k4, k5, k6, k7, k8, k9⟩ := id O8
        simp only [outC] at hH8
        unfold outV outC at C ⊢
        simp -implicitDefEqProofs (disch := first | omega | (simp only [push_size, hset_size]; done) | (simp only [push_size, hset_size]; omega)) [go_sem]
        rw [← hH8]
        clear hH8
        simp -implicitDefEqProofs (disch := first | omega | (simp only [push_size, hset_size]; done) | (simp only [push_size, hset_size]; omega)) [go_sem, c0, c1, c2, c3, c4, c5, c6, c7, c8, c9, k0, k1, k2, k3, k4, k5, k6, k7, k8, k9]
        refine useC C ?_
        rintro _ h9 ⟨rfl, f9⟩
        simp -implicitDefEqProofs (disch := first | omega | (simp only [push_size, hset_size]; done) | (simp only [push_size, hset_size]; omega)) [go_sem]
        exact (f07.trans q8).trans f9
      · exact absurd rfl (hno o gg)
end
end Xe
