/- Reading an outcome: explain.Read. -/
import Derived.Test.YtgebeiaffjpcaaaGreatDoorE51
import Derived.Test.YtgebeiaffjpcaaaGreatDoorGG
namespace Xe
open Go Go.Proofs
set_option maxRecDepth 16000
set_option maxHeartbeats 4000000
/-- what explain.Read hands back -/
def ReadR (s : List UInt8) (h' : Heap) (v : Value) : Prop :=
  (∃ o P, GoodO o ∧ goodT o = s ∧ v = .tuple #[outV o P, .int .i64 0, .bool true] ∧ OutcR h' o P ∧ ∀ o', GoodO o' → goodT o' = s → o' = o) ∨
  ((∀ o, GoodO o → goodT o ≠ s) ∧ ∃ k : Nat, v = .tuple #[outV zeroO zeroA, .int .i64 k, .bool false] ∧ 1 ≤ k ∧ k ≤ s.count 10 + 1)
/-- behind the first line's arms -/
structure RdM (l : List (List UInt8)) (z : List UInt8) (N : Nat) (X : Option Addr) (x : Nat) (h : Heap) (ρ : Env) (h' : Heap) (line : Nat) : Prop where
  r2 : ρ 2 = .pointer (some ⟨N, 0, none⟩)
  r3 : ρ 3 = .int .i64 line
  r5 : ρ 5 = .slice X l.length x
  r6 : ρ 6 = .bool (decide (z = []))
  gr : Gr h h'
  fz : ∀ o, hfrz h' ⟨N, o, none⟩ = false
  ex : (line = 0 ∧ ∃ o P, OutAt h' N o P ∧ OutcR h' o P ∧ OutIn l o ∧ ∀ o', OutIn l o' → o' = o) ∨ (1 ≤ line ∧ line ≤ l.length + 1 ∧ (∀ o, ¬ OutIn l o) ∧ ∃ v0 v1 v2 v3 v4 v5 v6 v7 v8 v9, ListB h' N [v0, v1, v2, v3, v4, v5, v6, v7, v8, v9])
theorem hset_same {h : Heap} {a : Addr} {v : Value} (hv : hcell h a = some v) : hset h a v = h := by
  unfold hcell at hv
  split at hv
  case h_2 => cases hv
  rename_i c e f hb
  split at hv
  · cases hv
  rename_i hs
  unfold hset
  apply Array.ext_getElem?
  intro i
  rw [Array.getElem?_modify]
  by_cases hi : a.block = i
  · subst hi
    rw [if_pos rfl, hb]
    simp only [Option.map_some, hs]
    have : c.setIfInBounds a.off v = c := by
      apply Array.ext_getElem?
      intro j
      rw [Array.getElem?_setIfInBounds]
      by_cases hj : a.off = j
      · subst hj
        rw [if_pos rfl]
        have := (Array.getElem?_eq_some_iff.1 hv).1
        rw [if_pos this, hv]
      · rw [if_neg hj]
    simp [this]
  · rw [if_neg hi]
theorem ListB.ten {h : Heap} {b : Nat} {v0 v1 v2 v3 v4 v5 v6 v7 v8 v9 : Value} (c0 : hcell h ⟨b, 0, none⟩ = some v0) (c1 : hcell h ⟨b, 1, none⟩ = some v1) (c2 : hcell h ⟨b, 2, none⟩ = some v2) (c3 : hcell h ⟨b, 3, none⟩ = some v3) (c4 : hcell h ⟨b, 4, none⟩ = some v4)
    (c5 : hcell h ⟨b, 5, none⟩ = some v5) (c6 : hcell h ⟨b, 6, none⟩ = some v6) (c7 : hcell h ⟨b, 7, none⟩ = some v7) (c8 : hcell h ⟨b, 8, none⟩ = some v8) (c9 : hcell h ⟨b, 9, none⟩ = some v9) (z : ∀ o, hfrz h ⟨b, o, none⟩ = false) : ListB h b [v0, v1, v2, v3, v4, v5, v6, v7, v8, v9] :=
  ⟨fun i v hv => by
    match i, hv with
    | 0, hv => cases hv; exact c0
    | 1, hv => cases hv; exact c1
    | 2, hv => cases hv; exact c2
    | 3, hv => cases hv; exact c3
    | 4, hv => cases hv; exact c4
    | 5, hv => cases hv; exact c5
    | 6, hv => cases hv; exact c6
    | 7, hv => cases hv; exact c7
    | 8, hv => cases hv; exact c8
    | 9, hv => cases hv; exact c9
    | i + 10, hv => simp at hv, z, hcell_lt c0⟩
theorem PlainO.mem {a : List UInt8} {o : Outc} (hp : PlainO a o) {h : Heap} : OutcR h o zeroA := by
  have h1 : I64 2 ∧ I64 3 ∧ I64 4 := by unfold I64; omega
  rcases hp with ⟨x, y, z, hN, rfl⟩ | ⟨x, y, z, u, v, w, hN, rfl⟩ | ⟨x, hN, rfl⟩
  · have g := hN.2
    simp only [List.mem_cons, List.not_mem_nil, or_false, forall_eq_or_imp, forall_eq] at g
    exact ⟨.nil, .nil, by show 0 < _; omega, Nat.le_refl _, fun p hp => by simp [o2] at hp, h1.1, g.1, g.2.1, g.2.2, i64_zero, i64_zero, i64_zero⟩
  · have g := hN.2
    simp only [List.mem_cons, List.not_mem_nil, or_false, forall_eq_or_imp, forall_eq] at g
    exact ⟨.nil, .nil, by show 0 < _; omega, Nat.le_refl _, fun p hp => by simp [o3] at hp, h1.2.1, g.1, g.2.1, g.2.2.1, g.2.2.2.1, g.2.2.2.2.1, g.2.2.2.2.2⟩
  · have g := hN.2 x List.mem_cons_self
    exact ⟨.nil, .nil, by show 0 < _; omega, Nat.le_refl _, fun p hp => by simp [o4] at hp, h1.2.2, i64_zero, i64_zero, g, i64_zero, i64_zero, i64_zero⟩
section
variable {h : Heap}
theorem read29_ok (G : Glob h) (s : List UInt8) (hl : s.length < 2 ^ 20) (hls : ∀ a ∈ splitOn 10 s, a.length < 2 ^ 16) :
    CallsH Tryz.prog 11 [S s] h fun v h' => ReadR s h' v ∧ Gr h h' := by
  obtain ⟨l, z, hs⟩ : ∃ l z, splitOn 10 s = l ++ [z] := ⟨_, _, (List.dropLast_concat_getLast (splitOn_ne 10 s)).symm⟩
  have hcnt : l.length = s.count 10 := by
    have := splitOn_len 10 s
    rw [hs, List.length_append] at this
    simp only [List.length_cons, List.length_nil] at this
    omega
  have hcl := List.count_le_length (a := (10 : UInt8)) (l := s)
  refine calls_of 77 [.cell 2 31, .tmp 3, .tmp 4] Go.Proofs.Tryz.func11 rfl rfl rfl ?_
  simp -implicitDefEqProofs (disch := first | omega | (simp only [push_size, hset_size]; done) | (simp only [push_size, hset_size]; omega)) [↓ stop_block (id := 0), go_sem]
  obtain ⟨H, hH⟩ : ∃ H, H = h.push (.cells (outC zeroO zeroA).toArray 31) := ⟨_, rfl⟩
  have f0 : Gr h H := by rw [hH]; exact (Fr.refl _ _).push
  have O0 : OutAt H h.size zeroO zeroA := by rw [hH]; exact OutAt.new
  have hHs : H.size = h.size + 1 := by rw [hH, push_size]
  have Z0 : ∀ o, hfrz H ⟨h.size, o, none⟩ = false := fun o => by rw [hH]; exact hfrz_push_new
  have C := lines_ok (G.gr f0) s (by omega) hs
  simp only [outC, zeroO, zeroA, List.length_nil] at hH
  rw [hH] at C
  refine useC C ?_
  rw [← hH]
  clear hH C
  rintro _ h1 ⟨⟨X, x, rfl, R⟩, f1⟩
  have f01 := f0.trans f1
  simp -implicitDefEqProofs (disch := first | omega | (simp only [push_size, hset_size]; done) | (simp only [push_size, hset_size]; omega)) [↓ stop_block (id := 0), go_sem]
  refine cutK (fun ρ h' => ∃ line, RdM l z h.size X x h ρ h' line) ?_ ?_
  · have hs1 := f1.size
    obtain ⟨c0, c1, c2, c3, c4, c5, c6, c7, c8, c9⟩ := O0.gr f1
    simp only [zeroO, zeroA, List.length_nil] at c0 c1 c2 c3 c4 c5 c6 c7 c8 c9
    have z1 : ∀ o, hfrz h1 ⟨h.size, o, none⟩ = false := fun o => (f1.frz (by omega) id).trans (Z0 o)
    by_cases hl0 : l = []
    · have hn0 : l.length = 0 := by rw [hl0]; rfl
      simp -implicitDefEqProofs (disch := first | omega | (simp only [push_size, hset_size]; done) | (simp only [push_size, hset_size]; omega)) [go_sem, hn0, c0, c1, c2, c3, c4, c5, c6, c7, c8, c9, z1]
      rw [hset_same c0, hset_same c1, hset_same c2, hset_same c3, hset_same c4, hset_same c5, hset_same c6, hset_same c7, hset_same c8, hset_same c9]
      refine ⟨.inr ⟨fun o g e => lines_ne (((text_lines hs g).1 e).1.symm.trans hl0), 1, rfl, by omega, by omega⟩, f01⟩
    obtain ⟨a, t, hat⟩ := List.exists_cons_of_ne_nil hl0
    have hlp : 0 < l.length := List.length_pos_iff.2 hl0
    obtain ⟨bk, off, hX, hc⟩ := R.get (by rw [strs_len]; exact hlp)
    subst hX
    have d0 := hc 0 _ (strs_at (l := l) (a := a) (by rw [hat]; rfl))
    rw [Nat.add_zero] at d0
    have hta : ∀ b ∈ l, b.length < 2 ^ 16 ∧ (10 : UInt8) ∉ b := fun b hb => ⟨hls b (by rw [hs]; exact List.mem_append_left _ hb), splitOn_mem 10 s b (by rw [hs]; exact List.mem_append_left _ hb)⟩
    have hln : ¬ ((l.length : Int) = 0) := by omega
    by_cases e0 : a = wSol
    · have e0' : a = [115, 111, 108, 117, 116, 105, 111, 110] := e0
      have hsol : ∀ o, OutIn l o ↔ ∃ ps, PinsIn l ps ∧ o = oSol ps := fun o => by rw [hat, e0]; exact out_sol
      simp -implicitDefEqProofs (disch := first | omega | (simp only [push_size, hset_size]; done) | (simp only [push_size, hset_size]; omega)) [go_sem, hln, hl0, d0, e0']
      refine useC (pinsLines_ok (G.gr f01) R rfl (by omega) (by omega) hta) ?_
      rintro _ h2 ⟨hP, f2⟩
      have f02 := f01.trans f2
      have hs2 := f2.size
      have k0 := (f2.cell (by omega) id).trans c0
      have k1 := (f2.cell (by omega) id).trans c1
      have k2 := (f2.cell (by omega) id).trans c2
      have k3 := (f2.cell (by omega) id).trans c3
      have k4 := (f2.cell (by omega) id).trans c4
      have k5 := (f2.cell (by omega) id).trans c5
      have k6 := (f2.cell (by omega) id).trans c6
      have k7 := (f2.cell (by omega) id).trans c7
      have k8 := (f2.cell (by omega) id).trans c8
      have k9 := (f2.cell (by omega) id).trans c9
      have kz : ∀ o, hfrz h2 ⟨h.size, o, none⟩ = false := fun o => (f2.frz (by omega) id).trans (z1 o)
      rcases hP with ⟨ps, Y, y, vs, hI, rfl, W, F, hu⟩ | ⟨hno, k, rfl, hk1, hk2⟩
      · simp -implicitDefEqProofs (disch := first | omega | (simp only [push_size, hset_size]; done) | (simp only [push_size, hset_size]; omega)) [go_sem, k1, kz]
        obtain ⟨H3, hH3⟩ : ∃ H3, H3 = hset h2 ⟨h.size, 1, none⟩ (.slice Y ps.length y) := ⟨_, rfl⟩
        rw [← hH3]
        have f3 : Fr (fun y => y = h.size) h2 H3 := by rw [hH3]; refine Fr.setA (Fr.refl _ _) ?_; rfl
        have W3 := W.fr f3 (fun y hy e => by have := W.own y hy; omega) fun y _ hy _ e => by omega
        have O3 : OutAt H3 h.size (oSol ps) ⟨Y, y, none, 0, none, 0⟩ := by
          rw [hH3]
          refine ⟨?_, ?_, ?_, ?_, ?_, ?_, ?_, ?_, ?_, ?_⟩ <;> simp [hcell_hset, oSol, k0, k1, k2, k3, k4, k5, k6, k7, k8, k9]
        have hpl : ps.length < 2 ^ 40 := by
          have := congrArg List.length hI.2
          rw [List.length_map, List.length_drop] at this
          omega
        have V3 : OutcR H3 (oSol ps) ⟨Y, y, none, 0, none, 0⟩ := ⟨W3.pins, .nil, hpl, W3.cap, fun p hp => by have := (F p hp).1; omega, i64_zero, i64_zero, i64_zero, i64_zero, i64_zero, i64_zero, i64_zero⟩
        refine ⟨0, rfl, rfl, rfl, rfl, by rw [hH3]; exact f02.newA (Nat.le_refl _), fun o => by rw [hH3, hfrz_hset]; exact kz o, .inl ⟨rfl, oSol ps, ⟨Y, y, none, 0, none, 0⟩, O3, V3, (hsol _).2 ⟨ps, hI, rfl⟩, fun o' ho' => ?_⟩⟩
        obtain ⟨qs, hq, rfl⟩ := (hsol o').1 ho'
        rw [hu qs hq]
      · simp -implicitDefEqProofs (disch := first | omega | (simp only [push_size, hset_size]; done) | (simp only [push_size, hset_size]; omega)) [go_sem, k1, kz]
        rw [hset_same k1]
        exact ⟨k, rfl, rfl, rfl, rfl, f02, kz, .inr ⟨hk1, hk2, fun o ho => by obtain ⟨ps, hp, _⟩ := (hsol o).1 ho; exact hno ⟨ps, hp⟩, _, _, _, _, _, _, _, _, _, _, .ten k0 k1 k2 k3 k4 k5 k6 k7 k8 k9 kz⟩⟩
    by_cases e1 : a = wNon
    · have e1' : a = [110, 111, 110, 101] := e1
      have hnon : ∀ o, OutIn l o ↔ ∃ c, CertIn (l.drop 1) c ∧ o = oNon c := fun o => by rw [hat, e1]; exact out_non
      simp -implicitDefEqProofs (disch := first | omega | (simp only [push_size, hset_size]; done) | (simp only [push_size, hset_size]; omega)) [go_sem, hln, hl0, d0, e1', c0, z1]
      obtain ⟨H2, hH2⟩ : ∃ H2, H2 = hset h1 ⟨h.size, 0, none⟩ (.int .i64 1) := ⟨_, rfl⟩
      rw [← hH2]
      have f2 : Gr h H2 := by rw [hH2]; exact f01.newA (Nat.le_refl _)
      have q0 : hcell H2 ⟨h.size, 0, none⟩ = some (.int .i64 1) := by rw [hH2]; simp [hcell_hset, c0]
      have q1 : hcell H2 ⟨h.size, 1, none⟩ = some (.slice none 0 0) := by rw [hH2]; simp [hcell_hset, c1]
      have q2 : hcell H2 ⟨h.size, 2, none⟩ = some (.slice none 0 0) := by rw [hH2]; simp [hcell_hset, c2]
      have q3 : hcell H2 ⟨h.size, 3, none⟩ = some (.slice none 0 0) := by rw [hH2]; simp [hcell_hset, c3]
      have q4 : hcell H2 ⟨h.size, 4, none⟩ = some (.int .i64 0) := by rw [hH2]; simp [hcell_hset, c4]
      have q5 : hcell H2 ⟨h.size, 5, none⟩ = some (.int .i64 0) := by rw [hH2]; simp [hcell_hset, c5]
      have q6 : hcell H2 ⟨h.size, 6, none⟩ = some (.int .i64 0) := by rw [hH2]; simp [hcell_hset, c6]
      have q7 : hcell H2 ⟨h.size, 7, none⟩ = some (.int .i64 0) := by rw [hH2]; simp [hcell_hset, c7]
      have q8 : hcell H2 ⟨h.size, 8, none⟩ = some (.int .i64 0) := by rw [hH2]; simp [hcell_hset, c8]
      have q9 : hcell H2 ⟨h.size, 9, none⟩ = some (.int .i64 0) := by rw [hH2]; simp [hcell_hset, c9]
      have qz : ∀ o, hfrz H2 ⟨h.size, o, none⟩ = false := fun o => by rw [hH2, hfrz_hset]; exact z1 o
      have hs2 : H2.size = h1.size := by rw [hH2, hset_size]
      have R2 : RowAt H2 (some ⟨bk, off, none⟩) (strs l) := by
        rw [hH2]
        refine R.keepS fun b o s hv => ?_
        have : ¬ (b = h.size ∧ o = 0) := by rintro ⟨rfl, rfl⟩; rw [c0] at hv; cases hv
        rw [hcell_hset, if_neg this]
        exact hv
      clear hH2
      refine useC (proof_ok (G.gr f2) R2 rfl (by omega) (by omega) fun b hb => (hta b hb).1) ?_
      rintro _ h3 ⟨hP, f3⟩
      have f03 := f2.trans f3
      have hs3 := f3.size
      have k0 := (f3.cell (by omega) id).trans q0
      have k1 := (f3.cell (by omega) id).trans q1
      have k2 := (f3.cell (by omega) id).trans q2
      have k3 := (f3.cell (by omega) id).trans q3
      have k4 := (f3.cell (by omega) id).trans q4
      have k5 := (f3.cell (by omega) id).trans q5
      have k6 := (f3.cell (by omega) id).trans q6
      have k7 := (f3.cell (by omega) id).trans q7
      have k8 := (f3.cell (by omega) id).trans q8
      have k9 := (f3.cell (by omega) id).trans q9
      have kz : ∀ o, hfrz h3 ⟨h.size, o, none⟩ = false := fun o => (f3.frz (by omega) id).trans (qz o)
      rcases hP with ⟨c, B, b, C, d, hI, rfl, V, oB, vs, W⟩ | ⟨hno, B, n, b, C, m, d, k, rfl, hk1, hk2⟩
      · unfold certV
        simp -implicitDefEqProofs (disch := first | omega | (simp only [push_size, hset_size]; done) | (simp only [push_size, hset_size]; omega)) [go_sem, k2, k3, kz]
        obtain ⟨H4, hH4⟩ : ∃ H4, H4 = hset (hset h3 ⟨h.size, 2, none⟩ (.slice B c.core.length b)) ⟨h.size, 3, none⟩ (.slice C c.steps.length d) := ⟨_, rfl⟩
        rw [← hH4]
        have f4 : Fr (fun y => y = h.size) h3 H4 := by rw [hH4]; refine Fr.setA (Fr.setA (Fr.refl _ _) ?_) ?_ <;> rfl
        have W4 := W.fr f4 (fun y hy e => by have := W.own y hy; omega) fun y _ hy _ e => by omega
        have O4 : OutAt H4 h.size (oNon c) ⟨none, 0, B, b, C, d⟩ := by
          rw [hH4]
          refine ⟨?_, ?_, ?_, ?_, ?_, ?_, ?_, ?_, ?_, ?_⟩ <;> simp [hcell_hset, oNon, k0, k1, k2, k3, k4, k5, k6, k7, k8, k9]
        have V4 : OutcR H4 (oNon c) ⟨none, 0, B, b, C, d⟩ := ⟨.nil, ⟨V.core.fr f4 fun y hy e => by have := oB y hy; omega, W4.steps, V.ca, V.cb, V.la, V.lb, V.ia⟩, by show 0 < _; omega, Nat.le_refl _, fun p hp => by simp [oNon] at hp, by show I64 1; unfold I64; omega, i64_zero, i64_zero, i64_zero, i64_zero, i64_zero, i64_zero⟩
        refine ⟨0, rfl, rfl, rfl, rfl, by rw [hH4]; exact (f03.newA (Nat.le_refl _)).newA (Nat.le_refl _), fun o => by rw [hH4, hfrz_hset, hfrz_hset]; exact kz o, .inl ⟨rfl, oNon c, ⟨none, 0, B, b, C, d⟩, O4, V4, (hnon _).2 ⟨c, hI, rfl⟩, fun o' ho' => ?_⟩⟩
        obtain ⟨c', hc', rfl⟩ := (hnon o').1 ho'
        rw [hI.uniq hc']
      · simp -implicitDefEqProofs (disch := first | omega | (simp only [push_size, hset_size]; done) | (simp only [push_size, hset_size]; omega)) [go_sem, k2, k3, kz]
        obtain ⟨H4, hH4⟩ : ∃ H4, H4 = hset (hset h3 ⟨h.size, 2, none⟩ (.slice B n b)) ⟨h.size, 3, none⟩ (.slice C m d) := ⟨_, rfl⟩
        rw [← hH4]
        have L4 : ListB H4 h.size [.int .i64 1, .slice none 0 0, .slice B n b, .slice C m d, .int .i64 0, .int .i64 0, .int .i64 0, .int .i64 0, .int .i64 0, .int .i64 0] := by
          rw [hH4]
          refine .ten ?_ ?_ ?_ ?_ ?_ ?_ ?_ ?_ ?_ ?_ (fun o => by rw [hfrz_hset, hfrz_hset]; exact kz o) <;> simp [hcell_hset, k0, k1, k2, k3, k4, k5, k6, k7, k8, k9]
        exact ⟨k, rfl, rfl, rfl, rfl, by rw [hH4]; exact (f03.newA (Nat.le_refl _)).newA (Nat.le_refl _), L4.fz, .inr ⟨hk1, hk2, fun o ho => by obtain ⟨c, hc, _⟩ := (hnon o).1 ho; exact hno ⟨c, hc⟩, _, _, _, _, _, _, _, _, _, _, L4⟩⟩
    · have e0' : ¬ a = [115, 111, 108, 117, 116, 105, 111, 110] := e0
      have e1' : ¬ a = [110, 111, 110, 101] := e1
      simp -implicitDefEqProofs (disch := first | omega | (simp only [push_size, hset_size]; done) | (simp only [push_size, hset_size]; omega)) [go_sem, hln, hl0, d0, e0', e1']
      have hal := (hta a (by rw [hat]; exact List.mem_cons_self)).1
      have hpln : ∀ o, OutIn l o ↔ PlainO a o ∧ GoodO o ∧ t = [] := fun o => by rw [hat]; exact out_plain e0 e1
      have htl : l.length = t.length + 1 := by rw [hat]; rfl
      refine useC (plain_ok (G.gr f01) a (by omega)) ?_
      rintro _ h2 ⟨hP, f2⟩
      have f02 := f01.trans f2
      have hs2 := f2.size
      have k0 := (f2.cell (by omega) id).trans c0
      have k1 := (f2.cell (by omega) id).trans c1
      have k2 := (f2.cell (by omega) id).trans c2
      have k3 := (f2.cell (by omega) id).trans c3
      have k4 := (f2.cell (by omega) id).trans c4
      have k5 := (f2.cell (by omega) id).trans c5
      have k6 := (f2.cell (by omega) id).trans c6
      have k7 := (f2.cell (by omega) id).trans c7
      have k8 := (f2.cell (by omega) id).trans c8
      have k9 := (f2.cell (by omega) id).trans c9
      have kz : ∀ o, hfrz h2 ⟨h.size, o, none⟩ = false := fun o => (f2.frz (by omega) id).trans (z1 o)
      rcases hP with ⟨o, hp, rfl⟩ | ⟨hno, rfl⟩
      · have M := fun h => PlainO.mem hp (h := h)
        have C := fun h => goodP29_ok (PlainO.mem hp (h := h))
        unfold outV outC zeroA at C
        unfold outV outC zeroA
        simp -implicitDefEqProofs (disch := first | omega | (simp only [push_size, hset_size]; done) | (simp only [push_size, hset_size]; omega)) [go_sem, k0, k1, k2, k3, k4, k5, k6, k7, k8, k9, kz]
        obtain ⟨H3, hH3⟩ : ∃ H3, H3 = hset (hset (hset (hset (hset (hset (hset (hset (hset (hset h2 ⟨h.size, 0, none⟩ (.int .i64 o.kind)) ⟨h.size, 1, none⟩ (.slice none o.pins.length 0)) ⟨h.size, 2, none⟩ (.slice none o.cert.core.length 0)) ⟨h.size, 3, none⟩ (.slice none o.cert.steps.length 0)) ⟨h.size, 4, none⟩ (.int .i64 o.text)) ⟨h.size, 5, none⟩ (.int .i64 o.at')) ⟨h.size, 6, none⟩ (.int .i64 o.e)) ⟨h.size, 7, none⟩ (.int .i64 o.wp)) ⟨h.size, 8, none⟩ (.int .i64 o.wr)) ⟨h.size, 9, none⟩ (.int .i64 o.wd) := ⟨_, rfl⟩
        rw [← hH3]
        have f3 : Gr h H3 := by
          rw [hH3]
          iterate 10 refine Fr.newA ?_ (Nat.le_refl _)
          exact f02
        have O3 : OutAt H3 h.size o zeroA := by
          rw [hH3]
          refine ⟨?_, ?_, ?_, ?_, ?_, ?_, ?_, ?_, ?_, ?_⟩ <;> simp [hcell_hset, zeroA, k0, k1, k2, k3, k4, k5, k6, k7, k8, k9]
        have hz3 : ∀ o, hfrz H3 ⟨h.size, o, none⟩ = false := fun o => by rw [hH3]; simp only [hfrz_hset]; exact kz o
        have hs3 : H3.size = h2.size := by rw [hH3]; simp only [hset_size]
        clear hH3
        refine useC (C H3) ?_
        rintro _ h4 ⟨⟨b, rfl, hb⟩, f4⟩
        have O4 := O3.gr f4
        have z4 : ∀ o, hfrz h4 ⟨h.size, o, none⟩ = false := fun o => (f4.frz (by omega) id).trans (hz3 o)
        have f04 := f3.trans f4
        have L4 : ListB h4 h.size [_, _, _, _, _, _, _, _, _, _] := .ten O4.c0 O4.c1 O4.c2 O4.c3 O4.c4 O4.c5 O4.c6 O4.c7 O4.c8 O4.c9 z4
        cases b with
        | false =>
          simp -implicitDefEqProofs (disch := first | omega | (simp only [push_size, hset_size]; done) | (simp only [push_size, hset_size]; omega)) [go_sem]
          refine ⟨1, rfl, rfl, rfl, rfl, f04, z4, .inr ⟨Nat.le_refl _, by omega, fun o' ho' => ?_, _, _, _, _, _, _, _, _, _, _, L4⟩⟩
          obtain ⟨g1, g2, _⟩ := (hpln o').1 ho'
          have := hp.uniq g1
          subst this
          cases hb.2 g2
        | true =>
          by_cases ht : l.length = 1
          · have ht' : ¬ (1 < (l.length : Int)) := by omega
            simp -implicitDefEqProofs (disch := first | omega | (simp only [push_size, hset_size]; done) | (simp only [push_size, hset_size]; omega)) [go_sem, ht']
            have htn : t = [] := by
              cases t with
              | nil => rfl
              | cons b t => rw [List.length_cons] at htl; omega
            refine ⟨0, rfl, rfl, rfl, rfl, f04, z4, .inl ⟨rfl, o, zeroA, O4, M h4, (hpln o).2 ⟨hp, hb.1 rfl, htn⟩, fun o' ho' => ?_⟩⟩
            exact ((hpln o').1 ho').1.uniq hp
          · have ht' : 1 < (l.length : Int) := by omega
            simp -implicitDefEqProofs (disch := first | omega | (simp only [push_size, hset_size]; done) | (simp only [push_size, hset_size]; omega)) [go_sem, ht']
            refine ⟨2, rfl, rfl, rfl, rfl, f04, z4, .inr ⟨by omega, by omega, fun o' ho' => ?_, _, _, _, _, _, _, _, _, _, _, L4⟩⟩
            have := ((hpln o').1 ho').2.2
            rw [this] at htl
            exact ht htl
      · unfold outV outC zeroA zeroO
        simp -implicitDefEqProofs (disch := first | omega | (simp only [push_size, hset_size]; done) | (simp only [push_size, hset_size]; omega)) [go_sem, k0, k1, k2, k3, k4, k5, k6, k7, k8, k9, kz]
        rw [hset_same k0, hset_same k1, hset_same k2, hset_same k3, hset_same k4, hset_same k5, hset_same k6, hset_same k7, hset_same k8, hset_same k9]
        exact ⟨1, rfl, rfl, rfl, rfl, f02, kz, .inr ⟨Nat.le_refl _, by omega, fun o' ho' => hno ⟨o', ((hpln o').1 ho').1⟩, _, _, _, _, _, _, _, _, _, _, .ten k0 k1 k2 k3 k4 k5 k6 k7 k8 k9 kz⟩⟩
  · rintro ρ h2 ⟨line, r2, r3, r5, r6, gr, fz, ex⟩
    have hg2 := gr.size
    have no : (∀ o, ¬ OutIn l o) ∨ z ≠ [] → ∀ o, GoodO o → goodT o ≠ s := fun hh o g e => by
      obtain ⟨e1, e2⟩ := (text_lines hs g).1 e
      rcases hh with hh | hh
      · exact hh o ⟨g, e1⟩
      · exact hh e2
    rcases ex with ⟨rfl, o, P, O, V, hI, hu⟩ | ⟨hl1, hl2, hno, v0, v1, v2, v3, v4, v5, v6, v7, v8, v9, L⟩
    · obtain ⟨c0, c1, c2, c3, c4, c5, c6, c7, c8, c9⟩ := id O
      by_cases hz : z = []
      · simp -implicitDefEqProofs (disch := first | omega | (simp only [push_size, hset_size]; done) | (simp only [push_size, hset_size]; omega)) [go_sem, r2, r3, r5, r6, hz, c0, c1, c2, c3, c4, c5, c6, c7, c8, c9]
        refine useC (goodP29_ok V) ?_
        rintro _ h3 ⟨⟨b, rfl, hb⟩, f3⟩
        have hb : b = true := hb.2 hI.1
        subst hb
        obtain ⟨k0, k1, k2, k3, k4, k5, k6, k7, k8, k9⟩ := O.gr f3
        have z3 : ∀ o, hfrz h3 ⟨h.size, o, none⟩ = false := fun o => (f3.frz (hcell_lt c0) id).trans (fz o)
        have fin : ReadR s h3 (.tuple #[outV o P, .int .i64 0, .bool true]) ∧ Gr h h3 := ⟨.inl ⟨o, P, hI.1, (text_lines hs hI.1).2 ⟨hI.2, hz⟩, rfl, V.gr f3, fun o' g e => hu o' ⟨g, ((text_lines hs g).1 e).1⟩⟩, gr.trans f3⟩
        simp -implicitDefEqProofs (disch := first | omega | (simp only [push_size, hset_size]; done) | (simp only [push_size, hset_size]; omega)) [go_sem, r2, r3, r5, r6, k0, k1, k2, k3, k4, k5, k6, k7, k8, k9, z3]
        rw [hset_same k0, hset_same k1, hset_same k2, hset_same k3, hset_same k4, hset_same k5, hset_same k6, hset_same k7, hset_same k8, hset_same k9]
        exact fin
      · simp -implicitDefEqProofs (disch := first | omega | (simp only [push_size, hset_size]; done) | (simp only [push_size, hset_size]; omega)) [go_sem, r2, r3, r5, r6, hz, c0, c1, c2, c3, c4, c5, c6, c7, c8, c9, fz]
        refine ⟨.inr ⟨no (.inr hz), l.length + 1, ?_, by omega, by omega⟩, ?_⟩
        · rw [show max ((l.length : Int) + 1) 1 = ((l.length + 1 : Nat) : Int) by omega]; rfl
        · iterate 10 refine Fr.newA ?_ (Nat.le_refl _)
          exact gr
    · have c0 := L.at' 0 _ rfl
      have c1 := L.at' 1 _ rfl
      have c2 := L.at' 2 _ rfl
      have c3 := L.at' 3 _ rfl
      have c4 := L.at' 4 _ rfl
      have c5 := L.at' 5 _ rfl
      have c6 := L.at' 6 _ rfl
      have c7 := L.at' 7 _ rfl
      have c8 := L.at' 8 _ rfl
      have c9 := L.at' 9 _ rfl
      have hl0 : ¬ ((line : Int) = 0) := by omega
      simp -implicitDefEqProofs (disch := first | omega | (simp only [push_size, hset_size]; done) | (simp only [push_size, hset_size]; omega)) [go_sem, r2, r3, r5, r6, hl0, c0, c1, c2, c3, c4, c5, c6, c7, c8, c9, fz]
      refine ⟨.inr ⟨no (.inl hno), line, ?_, hl1, by omega⟩, ?_⟩
      · rw [show max (line : Int) 1 = (line : Int) by omega]; rfl
      · iterate 10 refine Fr.newA ?_ (Nat.le_refl _)
        exact gr
end
end Xe

/- An outcome that came in; is it few and short? -/
namespace Xe
open Go Go.Proofs
set_option maxRecDepth 16000
set_option maxHeartbeats 2000000

section
variable {h : Heap}

variable {A : Option Addr} {n c : Nat} {ps : List PinS}

variable {o : Outc} {P : OutA}

end
end Xe

/- The law 'what is read', walked (but for awake). -/
namespace Xe
open Go Go.Proofs
set_option maxRecDepth 16000
set_option maxHeartbeats 4000000
theorem pins_le {o : Outc} (g : GoodO o) : (pinsText o.pins).length ≤ (goodT o).length := by
  by_cases hk : o.kind = 0
  · unfold goodT
    rw [if_pos hk, List.length_append]
    omega
  · have h1 : o.pins = [] := by
      have := g.2.2.2.2.2.2.2.2.2.2
      rw [this]
      show (if o.kind = 0 then o.pins else []) = []
      rw [if_neg hk]
    rw [h1]
    exact Nat.zero_le _
section
variable {h : Heap}
def CntJ (s : List UInt8) (v6 : Value) (i : Nat) : Prop := v6 = .int .i64 (1 + (s.take i).count 10 : Nat)
theorem zero_good {h : Heap} : OutcR h zeroO zeroA := ⟨.nil, .nil, by show 0 < _; omega, Nat.le_refl _, fun p hp => by simp [zeroO] at hp, i64_zero, i64_zero, i64_zero, i64_zero, i64_zero, i64_zero, i64_zero⟩
theorem reads29_walk (G : Glob h) (aw : CallsH Tryz.prog 5 [] h fun r h' => r = .bool true ∧ Gr h h') (s : List UInt8) (hs : s.length < 2 ^ 63) :
    CallsH Tryz.prog 4 [S s] h fun r h' => r = .bool true ∧ Gr h h' := by
  refine calls_of 56 [.tmp 2] Go.Proofs.Tryz.func4 rfl rfl rfl ?_
  simp -implicitDefEqProofs (disch := first | omega | (simp only [push_size, hset_size]; done) | (simp only [push_size, hset_size]; omega)) [go_sem]
  refine useC aw ?_
  rintro _ h1 ⟨rfl, f1⟩
  simp -implicitDefEqProofs (disch := first | omega | (simp only [push_size, hset_size]; done) | (simp only [push_size, hset_size]; omega)) [go_sem]
  by_cases h4 : 400 < s.length
  · have h4' : (400 : Int) < (s.length : Int) := by omega
    simp -implicitDefEqProofs (disch := first | omega | (simp only [push_size, hset_size]; done) | (simp only [push_size, hset_size]; omega)) [go_sem, h4']
    exact f1
  have h4' : ¬ (400 : Int) < (s.length : Int) := by omega
  simp -implicitDefEqProofs (disch := first | omega | (simp only [push_size, hset_size]; done) | (simp only [push_size, hset_size]; omega)) [go_sem, h4']
  refine useC (read29_ok (G.gr f1) s (by omega) fun a ha => by have := splitOn_size 10 s a ha; omega) ?_
  rintro _ h2 ⟨hR, f2⟩
  have f02 := f1.trans f2
  rcases hR with ⟨o, P, g, ht, rfl, V, hu⟩ | ⟨hno, k, rfl, hk1, hk2⟩
  · obtain ⟨H, hH⟩ : ∃ H, H = h2.push (.cells (outC o P).toArray 31) := ⟨_, rfl⟩
    have q : Gr h2 H := by rw [hH]; exact (Fr.refl _ _).push
    have O : OutAt H h2.size o P := by rw [hH]; exact OutAt.new
    have hHs : H.size = h2.size + 1 := by rw [hH, push_size]
    obtain ⟨c0, c1, c2, c3, c4, c5, c6, c7, c8, c9⟩ := id O
    simp only [outC] at hH
    have C1 := good29_ok (V.gr q)
    unfold outV outC at C1 ⊢
    simp -implicitDefEqProofs (disch := first | omega | (simp only [push_size, hset_size]; done) | (simp only [push_size, hset_size]; omega)) [go_sem]
    rw [← hH]
    clear hH
    refine useC C1 ?_
    rintro _ h3 ⟨⟨b, rfl, hb⟩, f3⟩
    have hb : b = true := hb.2 g
    subst hb
    obtain ⟨k0, k1, k2, k3, k4, k5, k6, k7, k8, k9⟩ := O.gr f3
    have C2 := text29_ok ((V.gr q).gr f3) fun g => by have := pins_le g; rw [ht] at this; omega
    unfold outV outC at C2
    simp -implicitDefEqProofs (disch := first | omega | (simp only [push_size, hset_size]; done) | (simp only [push_size, hset_size]; omega)) [go_sem, k0, k1, k2, k3, k4, k5, k6, k7, k8, k9]
    refine useC C2 ?_
    rintro _ h5 ⟨hT, f5⟩
    have e := hT.1 g
    subst e
    rw [ht]
    simp -implicitDefEqProofs (disch := first | omega | (simp only [push_size, hset_size]; done) | (simp only [push_size, hset_size]; omega)) [go_sem]
    exact ((f02.trans q).trans f3).trans f5
  · obtain ⟨H, hH⟩ : ∃ H, H = h2.push (.cells (outC zeroO zeroA).toArray 31) := ⟨_, rfl⟩
    have q : Gr h2 H := by rw [hH]; exact (Fr.refl _ _).push
    have O : OutAt H h2.size zeroO zeroA := by rw [hH]; exact OutAt.new
    obtain ⟨c0, c1, c2, c3, c4, c5, c6, c7, c8, c9⟩ := id O
    have C1 := out28_ok (zero_good (h := H)) (zero_good (h := H))
    simp only [outC, zeroO, zeroA, List.length_nil] at hH c0 c1 c2 c3 c4 c5 c6 c7 c8 c9
    simp only [outV, outC, zeroO, zeroA, List.length_nil] at C1
    unfold outV outC zeroO zeroA
    simp -implicitDefEqProofs (disch := first | omega | (simp only [push_size, hset_size]; done) | (simp only [push_size, hset_size]; omega)) [go_sem]
    rw [← hH]
    clear hH
    refine loopK (fun ρ h' => ρ 0 = S s ∧ ρ 3 = .pointer (some ⟨h2.size, 0, none⟩) ∧ ρ 4 = .int .i64 k ∧ h' = H ∧ ∃ i : Nat, ρ 7 = .int .i64 i ∧ i ≤ s.length ∧ CntJ s (ρ 6) i) (fun ρ _ => s.length - (intOf (ρ 7)).toNat) (by kernel_rfl) ?_ ?_
    · exact ⟨rfl, rfl, rfl, rfl, 0, rfl, Nat.zero_le _, rfl⟩
    rintro ρ h' ⟨r0, r3, r4, rfl, i, r7, hi, r6⟩
    by_cases hin : i < s.length
    · obtain ⟨c, hc⟩ : ∃ c, s[i]? = some c := ⟨_, List.getElem?_eq_getElem hin⟩
      have hix := strIx_at (kd := .i64) hc
      have hct : (s.take (i + 1)).count 10 = (s.take i).count 10 + if c = 10 then 1 else 0 := by
        rw [List.take_add_one, hc, List.count_append]
        congr 1
        by_cases e : c = 10
        · subst e; rfl
        · simp [e]
      have hcl := List.count_le_length (a := (10 : UInt8)) (l := s.take i)
      rw [List.length_take] at hcl
      unfold CntJ at r6
      simp -implicitDefEqProofs (disch := first | omega | (simp only [push_size, hset_size]; done) | (simp only [push_size, hset_size]; omega)) [go_sem, r0, r3, r4, r6, r7, hix]
      by_cases e : (c.toNat : Int) = 10
      · have hc10 : c = 10 := (byte_eq (n := 10) (by omega)).1 e
        rw [if_pos hc10] at hct
        simp -implicitDefEqProofs (disch := first | omega | (simp only [push_size, hset_size]; done) | (simp only [push_size, hset_size]; omega)) [go_sem, r0, r3, r4, r6, r7, e]
        refine ⟨⟨i + 1, by omega, by omega, ?_⟩, by omega⟩
        unfold CntJ
        rw [hct]
        congr 1
      · have hc10 : ¬ c = 10 := fun g => e (by rw [g]; rfl)
        rw [if_neg hc10] at hct
        simp -implicitDefEqProofs (disch := first | omega | (simp only [push_size, hset_size]; done) | (simp only [push_size, hset_size]; omega)) [go_sem, r0, r3, r4, r6, r7, e]
        refine ⟨⟨i + 1, by omega, by omega, ?_⟩, by omega⟩
        unfold CntJ
        rw [hct, Nat.add_zero, Int.natCast_add]; rfl
    · have e : i = s.length := by omega
      subst e
      unfold CntJ at r6
      rw [List.take_length] at r6
      have g1 : (1 : Int) ≤ (k : Int) := by omega
      have g2 : (k : Int) ≤ ((1 + s.count 10 : Nat) : Int) := by omega
      rw [Int.natCast_add, Int.natCast_one] at g2 r6
      simp -implicitDefEqProofs (disch := first | omega | (simp only [push_size, hset_size]; done) | (simp only [push_size, hset_size]; omega)) [go_sem, r0, r3, r4, r6, r7, g1, g2, c0, c1, c2, c3, c4, c5, c6, c7, c8, c9]
      refine useC C1 ?_
      rintro _ h3 ⟨rfl, f3⟩
      simp -implicitDefEqProofs (disch := first | omega | (simp only [push_size, hset_size]; done) | (simp only [push_size, hset_size]; omega)) [go_sem]
      exact (f02.trans q).trans f3
end
end Xe

/- The law 'which outcomes are good, and their texts', walked (but for awake). -/
namespace Xe
open Go Go.Proofs
set_option maxRecDepth 16000
set_option maxHeartbeats 4000000

section
variable {h : Heap} {o : Outc} {P : OutA}

end
end Xe

/- Package atoms (of another seat: A1 A2 A3 in part). -/
namespace Xe
open Go Go.Proofs
set_option maxRecDepth 16000
set_option maxHeartbeats 4000000
/-- how many variables a package of so many ranks has -/
def wid (z : Nat) : Nat := 1 + z + (z - 1)
def wsum : List Nat → Nat
  | [] => 0
  | z :: r => wid z + wsum r
/-- where each package's variables begin -/
def begs : List Nat → Nat → List Int
  | [], _ => []
  | z :: r, s => (s : Int) :: begs r (s + wid z)
theorem wsum_snoc {l : List Nat} {z : Nat} : wsum (l ++ [z]) = wsum l + wid z := by
  induction l with
  | nil => simp [wsum]
  | cons a l ih => simp only [List.cons_append, wsum, ih]; omega
theorem wsum_take {zs : List Nat} {p z : Nat} (h : zs[p]? = some z) : wsum (zs.take (p + 1)) = wsum (zs.take p) + wid z := by
  rw [List.take_add_one, h]; exact wsum_snoc
theorem wsum_take_le {zs : List Nat} {p : Nat} : wsum (zs.take p) ≤ wsum zs := by
  induction zs generalizing p with
  | nil => simp
  | cons a l ih =>
    cases p with
    | zero => simp [wsum]
    | succ p => simp only [List.take_succ_cons, wsum]; have := ih (p := p); omega

theorem begs_snoc {l : List Nat} {s z : Nat} : begs (l ++ [z]) s = begs l s ++ [((s + wsum l : Nat) : Int)] := by
  induction l generalizing s with
  | nil => rfl
  | cons a l ih => simp only [List.cons_append, begs, wsum, ih, Nat.add_assoc]
theorem begs_len {l : List Nat} {s : Nat} : (begs l s).length = l.length := by
  induction l generalizing s with
  | nil => rfl
  | cons a l ih => simp [begs, ih]
theorem begs_at {zs : List Nat} {s p : Nat} (h : p < zs.length) : (begs zs s)[p]? = some ((s + wsum (zs.take p) : Nat) : Int) := by
  induction zs generalizing s p with
  | nil => simp at h
  | cons a l ih =>
    cases p with
    | zero => simp [begs, wsum]
    | succ p =>
      simp only [List.length_cons] at h
      simp only [begs, List.getElem?_cons_succ, List.take_succ_cons, wsum]
      rw [ih (by omega), Nat.add_assoc]

/-- few packages, of few ranks -/
structure Few (zs : List Nat) : Prop where
  len : zs.length ≤ 4
  le : ∀ z ∈ zs, z ≤ 4
theorem wsum_le {zs : List Nat} (h : ∀ z ∈ zs, z ≤ 4) : wsum zs ≤ zs.length * 8 := by
  induction zs with
  | nil => simp [wsum]
  | cons a l ih =>
    have h1 := h a List.mem_cons_self
    have h2 := ih fun z hz => h z (List.mem_cons_of_mem _ hz)
    simp only [wsum, List.length_cons, wid]; omega
theorem Few.sum {zs : List Nat} (F : Few zs) : wsum zs ≤ 32 := by have h1 := wsum_le F.le; have h2 := F.len; omega

/-- an atom -/
structure At where
  k : Nat
  p : Nat
  i : Nat
/-- a package's atom, by its number -/
def atOf (z p u : Nat) : At := if u = 0 then ⟨0, p, 0⟩ else if u - 1 < z - 1 then ⟨1, p, u - 1⟩ else ⟨2, p, u - 1 - (z - 1)⟩
/-- a table's atom, by its variable less one -/
def atN : List Nat → Nat → Nat → At
  | [], _, _ => ⟨0, 0, 0⟩
  | z :: r, p, u => if u < wid z then atOf z p u else atN r (p + 1) (u - wid z)
theorem atN_eq {zs : List Nat} {p q z u : Nat} (h : zs[p]? = some z) (h1 : wsum (zs.take p) ≤ u) (h2 : u < wsum (zs.take p) + wid z) : atN zs q u = atOf z (q + p) (u - wsum (zs.take p)) := by
  induction zs generalizing p q u with
  | nil => simp at h
  | cons a l ih =>
    cases p with
    | zero =>
      simp only [List.getElem?_cons_zero, Option.some.injEq] at h
      subst h
      simp only [List.take_zero, wsum] at h1 h2 ⊢
      unfold atN
      rw [if_pos (by omega)]; rfl
    | succ p =>
      simp only [List.getElem?_cons_succ] at h
      simp only [List.take_succ_cons, wsum] at h1 h2 ⊢
      unfold atN
      rw [if_neg (by omega), ih h (by omega) (by omega)]
      congr 1 <;> omega

def nts (zs : List Nat) : List Int := zs.map fun z : Nat => (z : Int)
theorem nts_len {zs : List Nat} : (nts zs).length = zs.length := by simp [nts]
theorem nts_at {zs : List Nat} {p z : Nat} (h : zs[p]? = some z) : (nts zs)[p]? = some (z : Int) := by simp [nts, h]
/-- a table, in memory; its blocks are some of T -/
structure TabM (h : Heap) (T : Nat → Prop) (tb : Nat) (zs : List Nat) : Prop where
  ex : ∃ A1 c1 A2 c2, ListB h tb [.slice A1 zs.length c1, .slice A2 zs.length c2, .int .i64 (wsum zs : Nat)] ∧ RowAt h A1 (ints (begs zs 1)) ∧ RowAt h A2 (ints (nts zs)) ∧ T tb ∧ (∀ y, blk A1 y → T y) ∧ ∀ y, blk A2 y → T y
theorem TabM.fr {h h' : Heap} {T : Nat → Prop} {tb : Nat} {zs : List Nat} (M : TabM h T tb zs) {S : Nat → Prop} (f : Fr S h h') (hs : ∀ y, T y → ¬ S y) : TabM h' T tb zs := by
  obtain ⟨A1, c1, A2, c2, B, R1, R2, t0, t1, t2⟩ := M.ex
  exact ⟨A1, c1, A2, c2, B.fr f (hs _ t0), R1.fr f fun y hy => hs y (t1 y hy), R2.fr f fun y hy => hs y (t2 y hy), t0, t1, t2⟩
theorem TabM.fr0 {h h' : Heap} {T : Nat → Prop} {tb : Nat} {zs : List Nat} (M : TabM h T tb zs) (f : Fr (fun _ => False) h h') : TabM h' T tb zs := M.fr f fun _ _ h => h

theorem width_ok {h : Heap} {z : Nat} (hz : z ≤ 16777216) : CallsH Tryz.prog 103 [.int .i64 z] h fun r h' => r = .int .i64 (wid z : Nat) ∧ h' = h := by
  have hm : max ((z : Int) - 1) 0 = ((z - 1 : Nat) : Int) := by omega
  have e : 1 + (z : Int) + ((z - 1 : Nat) : Int) = (wid z : Nat) := by unfold wid; omega
  refine calls_of 9 [.tmp 2] Go.Proofs.Tryz.func103 rfl rfl rfl ?_
  simp -implicitDefEqProofs (disch := omega) [go_sem, hm, e]

/-- what stands in the loop that makes a table -/
structure TnJ (h0 : Heap) (A : Option Addr) (c tb : Nat) (zs : List Nat) (ρ : Env) (h : Heap) : Prop where
  r13 : ρ 13 = .slice A zs.length c
  r14 : ρ 14 = .int .i64 zs.length
  r3 : ρ 3 = .pointer (some ⟨tb, 0, none⟩)
  fr : Fr (fun _ => False) h0 h
  htb : h0.size ≤ tb
  ex : ∃ (i : Nat) (B : Option Addr) (bc : Nat) (S : Option Addr) (sc : Nat), ρ 15 = .int .i64 i ∧ i ≤ zs.length ∧ ListB h tb [.slice B i bc, .slice S zs.length sc, .int .i64 (wsum (zs.take i) : Nat)] ∧ SlAt h B bc (ints (begs (zs.take i) 1)) ∧ RowAt h S (ints (nts zs)) ∧
    (∀ y, blk B y → h0.size ≤ y ∧ y ≠ tb) ∧ ∀ y, blk S y → h0.size ≤ y ∧ y ≠ tb ∧ ¬ blk B y ∧ y < h.size
theorem anew_ok {h : Heap} {A : Option Addr} {c : Nat} {zs : List Nat} (F : Few zs) (R : RowAt h A (ints (nts zs))) :
    CallsH Tryz.prog 62 [.slice A zs.length c] h fun r h' => Fr (fun _ => False) h h' ∧ ∃ tb, r = .pointer (some ⟨tb, 0, none⟩) ∧ TabM h' (fun y => h.size ≤ y ∧ y < h'.size) tb zs := by
  have hl := F.len
  refine calls_of 60 [.tmp 2] Go.Proofs.Tryz.func62 rfl rfl rfl ?_
  simp -implicitDefEqProofs (disch := omega) [go_sem]
  refine useC (clone_ok R (by rw [ints_len, nts_len]) ints_one (by omega)) ?_
  rintro _ h1 ⟨S, sc, rfl, SS, ownS, f1⟩
  simp -implicitDefEqProofs (disch := omega) [go_sem]
  obtain ⟨h2, e2⟩ : ∃ h2, h2 = h1.push (.cells #[.slice none 0 0, .slice S zs.length sc, .int .i64 0] 166) := ⟨_, rfl⟩
  have f2 : Fr (fun _ => False) h1 h2 := by rw [e2]; exact (Fr.refl _ _).push
  have V2 : ListB h2 h1.size [.slice none 0 0, .slice S zs.length sc, .int .i64 0] := by rw [e2]; exact ListB.new
  rw [← e2]
  have z1 := f1.size
  refine loopK (TnJ h A c h1.size zs) (fun ρ _ => zs.length - (intOf (ρ 15)).toNat) (by kernel_rfl) ?_ ?_
  · exact ⟨rfl, rfl, rfl, f1.trans f2, z1, 0, none, 0, S, sc, rfl, Nat.zero_le _, V2, SlAt.nil _, SS.row.fr0 f2, fun y ⟨_, h, _⟩ => (nomatch h), fun y hy => ⟨ownS y hy, by have := SS.blk_lt hy; omega, fun ⟨_, h, _⟩ => (nomatch h), by have := SS.blk_lt hy; have := f2.size; omega⟩⟩
  · clear V2 e2 f2 SS ownS
    clear h2
    rintro ρ h2 ⟨r13, r14, r3, f02, htb, i, B, bc, S, sc, r15, hi, V, SB, RS, hB, hS⟩
    by_cases hin : i < zs.length
    · obtain ⟨z, hz⟩ : ∃ z, zs[i]? = some z := ⟨_, List.getElem?_eq_getElem hin⟩
      have hz4 := F.le z (List.mem_of_getElem? hz)
      obtain ⟨bk, off, hA, hc⟩ := (R.fr0 f02).get (by rw [ints_len, nts_len]; omega)
      have c0 := hc _ _ (ints_at (nts_at hz))
      have hw : wsum (zs.take i) ≤ 32 := Nat.le_trans wsum_take_le F.sum
      have hwz : wid z ≤ 8 := by unfold wid; omega
      have hww := wsum_take hz
      obtain ⟨u, hu⟩ : ∃ u, u = wsum (zs.take i) := ⟨_, rfl⟩
      rw [← hu] at V hw hww
      have b0 := V.at' 0 _ rfl
      have b2 := V.at' 2 _ rfl
      subst hA
      simp -implicitDefEqProofs (disch := omega) [go_sem, r3, r13, r14, r15, c0]
      refine drawC [(0, 0), (1, 0), (2, 0), (3, 0), (4, 0), (5, 0), (6, 0), (7, 0), (9, 0), (10, 0), (11, 0), (12, 2), (13, 0), (8, 3), (14, 0), (15, 0)] (fun h' => hcell h' ⟨h1.size, 2, none⟩ = some (.int .i64 u)) b2 ?_
      simp -implicitDefEqProofs (disch := omega) [go_sem, r3, r13, r14, r15]
      refine float2g (.int .i64 u) (by rfl) (fun h' hC => by simp -implicitDefEqProofs (disch := omega) [go_sem, r3, hC]) ?_
      simp -implicitDefEqProofs (disch := omega) [go_sem, r3, r13, r14, r15]
      refine useC (width_ok (z := z) (by omega)) ?_
      rintro _ h3 ⟨rfl, rfl⟩
      refine ⟨b2, ?_⟩
      simp -implicitDefEqProofs (disch := omega) [go_sem, r3, r13, r14, r15]
      refine drawC [(0, 0), (1, 0), (2, 0), (3, 0), (4, 2), (5, 0), (6, 0), (7, 0), (8, 1), (9, 0), (10, 3), (11, 3), (12, 0), (13, 0), (14, 4)] (fun h' => hcell h' ⟨h1.size, 0, none⟩ = some (.slice B i bc)) b0 ?_
      simp -implicitDefEqProofs (disch := omega) [go_sem, r3, r13, r14, r15, b2]
      refine float2 (.slice B i bc) (fun h' hC => by simp -implicitDefEqProofs (disch := omega) [go_sem, r3, hC]) ?_
      simp -implicitDefEqProofs (disch := omega) [go_sem, r3, r13, r14, r15, b2]
      refine build1 rfl rfl ?_
      have f4 : Fr (fun _ => False) h3 (h3.push (.cells #[.int .i64 ((u : Int) + 1)] 3)) := (Fr.refl _ _).push
      have V4 := V.fr f4 fun h => h
      have SB4 := SB.fr f4 fun _ _ h => h
      have RS4 := RS.fr0 f4
      have f04 := f02.trans f4
      have z4 := f4.size
      obtain ⟨h4, e4⟩ : ∃ h4, h4 = h3.push (.cells #[.int .i64 ((u : Int) + 1)] 3) := ⟨_, rfl⟩
      have W4 : SlAt h4 (some ⟨h3.size, 0, none⟩) 1 [.int .i64 ((u : Int) + 1)] := by rw [e4]; exact SlAt.new (vs := [.int .i64 ((u : Int) + 1)])
      rw [← e4] at f4 V4 SB4 RS4 f04 z4
      rw [← e4]
      refine ⟨V4.at' 0 _ rfl, ?_⟩
      simp -implicitDefEqProofs (disch := omega) [go_sem, r3, r13, r14, r15]
      refine appendB (vs := ints (begs (zs.take i) 1)) (ws := [.int .i64 ((u : Int) + 1)]) SB4 (by rw [ints_len, begs_len, List.length_take]; omega) W4.row rfl (by simp [Value.oneCell']) (by omega) (by omega) ?_
      intro B5 bc5 h5 S5 f5 hB5
      have nB : ¬ blk B h1.size := fun h => (hB _ h).2 rfl
      have V5 := V4.fr f5 nB
      have RS5 : RowAt h5 S (ints (nts zs)) := RS4.fr f5 fun y hy => (hS y hy).2.2.1
      have b05 := V5.at' 0 _ rfl
      have b25 := V5.at' 2 _ rfl
      have fz5 := V5.fz
      refine ⟨b05, ?_⟩
      simp -implicitDefEqProofs (disch := omega) [go_sem, r3, r13, r14, r15, b05, fz5]
      obtain ⟨h6, e6⟩ : ∃ h6, h6 = hset h5 ⟨h1.size, 0, none⟩ (.slice B5 (i + 1) bc5) := ⟨_, rfl⟩
      have V6 : ListB h6 h1.size [.slice B5 (i + 1) bc5, .slice S zs.length sc, .int .i64 u] := by rw [e6]; exact V5.set (i := 0) _ (by simp)
      have f56 : Fr (fun y => y = h1.size) h5 h6 := by rw [e6]; exact (Fr.refl _ _).set rfl
      rw [← e6]
      have b26 := V6.at' 2 _ rfl
      refine drawC [(0, 0), (1, 0), (2, 0), (3, 2), (4, 0), (5, 3), (6, 0), (7, 0), (8, 0), (9, 4)] (fun h' => hcell h' ⟨h1.size, 2, none⟩ = some (.int .i64 u)) b26 ?_
      simp -implicitDefEqProofs (disch := omega) [go_sem, r3, r13, r14, r15]
      refine float2 (.int .i64 u) (fun h' hC => by simp -implicitDefEqProofs (disch := omega) [go_sem, r3, hC]) ?_
      simp -implicitDefEqProofs (disch := omega) [go_sem, r3, r13, r14, r15]
      refine useC (width_ok (z := z) (by omega)) ?_
      rintro _ h7 ⟨rfl, rfl⟩
      refine ⟨b26, ?_⟩
      have fz6 := V6.fz
      have eu : (u : Int) + (wid z : Nat) = (wsum (zs.take (i + 1)) : Nat) := by rw [hww]; push_cast; rfl
      simp -implicitDefEqProofs (disch := omega) [go_sem, r3, r13, r14, r15, b26, fz6, eu]
      obtain ⟨h8, e8⟩ : ∃ h8, h8 = hset h7 ⟨h1.size, 2, none⟩ (.int .i64 (wsum (zs.take (i + 1)) : Nat)) := ⟨_, rfl⟩
      have V8 : ListB h8 h1.size [.slice B5 (i + 1) bc5, .slice S zs.length sc, .int .i64 (wsum (zs.take (i + 1)) : Nat)] := by rw [e8]; exact V6.set (i := 2) _ (by simp)
      have f78 : Fr (fun y => y = h1.size) h7 h8 := by rw [e8]; exact (Fr.refl _ _).set rfl
      rw [← e8]
      have f58 := f56.trans f78
      have hB8 : ∀ y, blk B5 y → h.size ≤ y ∧ y ≠ h1.size := fun y hy => by
        rcases hB5 y hy with h | h
        · exact hB y h
        · have := V4.lt; have := f02.size; omega
      have hS8 : ∀ y, blk S y → h.size ≤ y ∧ y ≠ h1.size ∧ ¬ blk B5 y ∧ y < h8.size := fun y hy => by
        obtain ⟨g1, g2, g3, g4⟩ := hS y hy
        have := f5.size; have := f58.size
        exact ⟨g1, g2, fun h => (hB5 y h).elim g3 fun h => by omega, by omega⟩
      have f08 : Fr (fun _ => False) h h8 := (f04.trans' f5 fun y hy hb => by have := (hB y hb).1; omega).trans' f58 fun y hy hb => by omega
      have e9 : ints (begs (zs.take i) 1) ++ [.int .i64 ((u : Int) + 1)] = ints (begs (zs.take (i + 1)) 1) := by
        rw [List.take_add_one, hz]
        show _ = ints (begs (zs.take i ++ [z]) 1)
        rw [begs_snoc, ← hu]
        unfold ints
        rw [List.map_append]
        simp [Int.add_comm]
      rw [e9] at S5
      exact ⟨⟨r13, r14, r3, f08, htb, i + 1, B5, bc5, S, sc, rfl, by omega, V8, S5.fr f58 (fun y hy h => (hB8 y hy).2 h), RS5.fr f58 (fun y hy h => (hS y hy).2.1 h), hB8, hS8⟩, by omega⟩
    · obtain rfl : i = zs.length := by omega
      simp -implicitDefEqProofs (disch := omega) [go_sem, r3, r13, r14, r15]
      rw [List.take_length] at V SB
      exact ⟨f02, ⟨B, bc, S, sc, V, SB.row, RS, ⟨htb, V.lt⟩, fun y hy => ⟨(hB y hy).1, SB.blk_lt hy⟩, fun y hy => ⟨(hS y hy).1, (hS y hy).2.2.2⟩⟩⟩

section
variable {P : Program} {a b : Int} {t : Nat}
theorem cmp_ge : (some (compare a b) == some Ordering.gt || some (compare a b) == some Ordering.eq) = decide (b ≤ a) := by
  rw [cmp_gt, cmp_eq, Bool.eq_iff_iff]
  simp
  omega
theorem cmpV_fge (h1 : -9007199254740992 < a) (h2 : a < 9007199254740992) (h3 : -9007199254740992 < b) (h4 : b < 9007199254740992) :
    cmpV P .geq t (.float .f64 (Fx.enc a)) (.float .f64 (Fx.enc b)) = some (.bool (decide (b ≤ a))) := by
  simp only [cmpV, binV, if_true, ford h1 h2 h3 h4, cmp_ge]
end
section
variable {h : Heap} {T : Nat → Prop} {tb : Nat} {zs : List Nat}
theorem avars_ok (M : TabM h T tb zs) : CallsH Tryz.prog 64 [.pointer (some ⟨tb, 0, none⟩)] h fun r h' => r = .int .i64 (wsum zs : Nat) ∧ h' = h := by
  obtain ⟨A1, c1, A2, c2, B, R1, R2, _⟩ := M.ex
  have b2 := B.at' 2 _ rfl
  refine calls_of 7 [.tmp 2] Go.Proofs.Tryz.func64 rfl rfl rfl ?_
  simp -implicitDefEqProofs (disch := omega) [go_sem, b2]
theorem aends_ok (M : TabM h T tb zs) (F : Few zs) {p z : Nat} (hz : zs[p]? = some z) :
    CallsH Tryz.prog 106 [.pointer (some ⟨tb, 0, none⟩), .int .i64 p] h fun r h' => r = .complex .f64 (Fx.enc ((1 + wsum (zs.take p) : Nat) : Int)) (Fx.enc ((1 + wsum (zs.take p) + wid z : Nat) : Int)) ∧ h' = h := by
  obtain ⟨A1, c1, A2, c2, B, R1, R2, _⟩ := M.ex
  have hl := F.len
  have hp := (List.getElem?_eq_some_iff.1 hz).1
  have hz4 := F.le z (List.mem_of_getElem? hz)
  have hw : wsum (zs.take p) ≤ 32 := Nat.le_trans wsum_take_le F.sum
  have hwz : wid z ≤ 8 := by unfold wid; omega
  have b0 := B.at' 0 _ rfl
  have b1 := B.at' 1 _ rfl
  obtain ⟨bk, off, rfl, hc⟩ := R2.get (by rw [ints_len, nts_len]; omega)
  have c0 := hc _ _ (ints_at (nts_at hz))
  obtain ⟨bk1, off1, rfl, hc1⟩ := R1.get (by rw [ints_len, begs_len]; omega)
  have d0 := hc1 _ _ (ints_at (begs_at (s := 1) hp))
  obtain ⟨u, hu⟩ : ∃ u, u = 1 + wsum (zs.take p) := ⟨_, rfl⟩
  rw [← hu] at d0 ⊢
  refine calls_of 31 [.tmp 4] Go.Proofs.Tryz.func106 rfl rfl rfl ?_
  simp -implicitDefEqProofs (disch := omega) [go_sem]
  refine drawC [(0, 0), (1, 0), (2, 0), (3, 2), (4, 0), (5, 0), (6, 2), (7, 0), (8, 0), (9, 0), (10, 0), (11, 2), (12, 0), (13, 0), (14, 2), (15, 0), (16, 0), (17, 0), (18, 1), (19, 0), (20, 0), (21, 1), (22, 3), (23, 0), (24, 0), (25, 0), (26, 0)] (Eq h) rfl ?_
  simp -implicitDefEqProofs (disch := omega) [go_sem, b0, b1, c0, d0]
  refine useC (width_ok (z := z) (by omega)) ?_
  rintro _ h2 ⟨rfl, rfl⟩
  refine ⟨rfl, ?_⟩
  simp -implicitDefEqProofs (disch := omega) [go_sem, b0, b1, c0, d0]
/-- an atom, as a value -/
def atV (a : At) : Value := .agg #[.int .i64 a.k, .int .i64 a.p, .int .i64 a.i]
/-- what stands in the loop that looks for a variable's package -/
structure AtJ (h1 : Heap) (tb : Nat) (zs : List Nat) (u rb : Nat) (m : Nat) (ρ : Env) (h : Heap) : Prop where
  r0 : ρ 0 = .pointer (some ⟨tb, 0, none⟩)
  r1 : ρ 1 = .int .i64 ((u : Int) + 1)
  r4 : ρ 4 = .pointer (some ⟨rb, 0, none⟩)
  r7 : ρ 7 = .float .f64 (Fx.enc ((u : Int) + 1))
  he : h = h1
  ex : ∃ p : Nat, ρ 6 = .int .i64 p ∧ p + m = zs.length ∧ wsum (zs.take p) ≤ u
theorem aatom_ok (M : TabM h T tb zs) (F : Few zs) {u : Nat} (hu : u < wsum zs) :
    CallsH Tryz.prog 65 [.pointer (some ⟨tb, 0, none⟩), .int .i64 ((u : Int) + 1)] h fun r h' => r = .tuple #[atV (atN zs 0 u), .bool true] ∧ Fr (fun _ => False) h h' := by
  have hl := F.len
  have hsum := F.sum
  refine calls_of 69 [.cell 4 122, .tmp 5] Go.Proofs.Tryz.func65 rfl rfl rfl ?_
  simp -implicitDefEqProofs (disch := omega) [go_sem]
  obtain ⟨h1, e1⟩ : ∃ h1, h1 = h.push (.cells #[.int .i64 0, .int .i64 0, .int .i64 0] 122) := ⟨_, rfl⟩
  have f1 : Fr (fun _ => False) h h1 := by rw [e1]; exact (Fr.refl _ _).push
  have V1 : ListB h1 h.size [.int .i64 0, .int .i64 0, .int .i64 0] := by rw [e1]; exact ListB.new
  rw [← e1]
  have M1 := M.fr0 f1
  obtain ⟨A1, c1, A2, c2, B, R1, R2, _⟩ := M1.ex
  have b0 := B.at' 0 _ rfl
  have b1 := B.at' 1 _ rfl
  have b2 := B.at' 2 _ rfl
  refine scopeMG 0 (AtJ h1 tb zs u h.size) rfl rfl (by kernel_rfl) ?_ ?_
  · simp -implicitDefEqProofs (disch := omega) [go_sem, b2]
    exact ⟨zs.length, rfl, rfl, rfl, rfl, rfl, 0, rfl, by omega, by simp [wsum]⟩
  · rintro m ρ h2 ⟨r0, r1, r4, r7, rfl, p, r6, hpm, hle⟩
    have hp : p < zs.length := by
      refine Classical.byContradiction fun h => ?_
      have : zs.take p = zs := List.take_of_length_le (by omega)
      rw [this] at hle; omega
    obtain ⟨z, hz⟩ : ∃ z, zs[p]? = some z := ⟨_, List.getElem?_eq_getElem hp⟩
    have hz4 := F.le z (List.mem_of_getElem? hz)
    have hwz : wid z ≤ 8 := by unfold wid; omega
    have hww := wsum_take hz
    simp -implicitDefEqProofs (disch := omega) [go_sem, r0, r1, r4, r6, r7]
    refine useC (aends_ok M1 F hz) ?_
    rintro _ h3 ⟨rfl, rfl⟩
    by_cases hin : wsum (zs.take p) + wid z ≤ u
    · simp -implicitDefEqProofs (disch := omega) [go_sem, r0, r1, r4, r6, r7, cmpV_fge]
      exact ⟨m - 1, by omega, r0, r1, r4, r7, rfl, p + 1, rfl, by omega, by omega⟩
    · obtain ⟨w, hw⟩ : ∃ w, w = wsum (zs.take p) := ⟨_, rfl⟩
      have hat := atN_eq (q := 0) hz hle (by omega)
      rw [Nat.zero_add] at hat
      have hw32 : w ≤ 32 := by rw [hw]; exact Nat.le_trans wsum_take_le hsum
      have hbeg := begs_at (s := 1) hp
      rw [← hw] at hle hin hat hbeg
      obtain ⟨e, rfl⟩ : ∃ e, u = w + e := ⟨u - w, by omega⟩
      rw [Nat.add_sub_cancel_left] at hat
      rw [hat]
      obtain ⟨bk, off, rfl, hc⟩ := R2.get (by rw [ints_len, nts_len]; omega)
      have c0 := hc _ _ (ints_at (nts_at hz))
      obtain ⟨bk1, off1, rfl, hc1⟩ := R1.get (by rw [ints_len, begs_len]; omega)
      have d0 := hc1 _ _ (ints_at hbeg)
      have q0 := V1.at' 0 _ rfl
      have q1 := V1.at' 1 _ rfl
      have q2 := V1.at' 2 _ rfl
      have fz := V1.fz
      have hmx : max ((z : Int) - 1) 0 = ((z - 1 : Nat) : Int) := by omega
      have ek : (w : Int) + (e : Int) + 1 - (1 + (w : Int)) - 1 = (e : Int) - 1 := by omega
      simp -implicitDefEqProofs (disch := omega) [go_sem, r0, r1, r4, r6, r7, cmpV_fge]
      refine drawK [(0, 0), (1, 0), (2, 0), (3, 0), (4, 1), (5, 0), (6, 0), (7, 1), (8, 0), (9, 0), (10, 0), (11, 0), (12, 0), (13, 1), (14, 0), (15, 0), (16, 1), (17, 0), (18, 0), (19, 0), (20, 0)] ?_
      simp -implicitDefEqProofs (disch := omega) [go_sem, r0, r1, r4, r6, r7, b0, b1, c0, d0, hmx, ek]
      have f3 : ∀ {a b c : Value}, Fr (fun _ => False) h (hset (hset (hset h3 ⟨h.size, 0, none⟩ a) ⟨h.size, 1, none⟩ b) ⟨h.size, 2, none⟩ c) := ((f1.new (Nat.le_refl _)).new (Nat.le_refl _)).new (Nat.le_refl _)
      by_cases g0 : e = 0
      · subst g0
        simp -implicitDefEqProofs (disch := omega) [go_sem, r0, r1, r4, r6, r7, q0, q1, q2, fz]
        exact ⟨rfl, f3⟩
      · have g0' : ¬ (e : Int) - 1 < 0 := by omega
        by_cases g1 : e - 1 < z - 1
        · have g1' : (e : Int) - 1 < ((z - 1 : Nat) : Int) := by omega
          have ea : atOf z p e = ⟨1, p, e - 1⟩ := by unfold atOf; rw [if_neg g0, if_pos g1]
          have ei : (e : Int) - 1 = ((e - 1 : Nat) : Int) := by omega
          simp -implicitDefEqProofs (disch := omega) [go_sem, r0, r1, r4, r6, r7, q0, q1, q2, fz, g0', g1']
          rw [ea, ei]
          exact ⟨rfl, f3⟩
        · have g1' : ¬ (e : Int) - 1 < ((z - 1 : Nat) : Int) := by omega
          have ea : atOf z p e = ⟨2, p, e - 1 - (z - 1)⟩ := by unfold atOf; rw [if_neg g0, if_neg g1]
          have ei : (e : Int) - 1 - ((z - 1 : Nat) : Int) = ((e - 1 - (z - 1) : Nat) : Int) := by omega
          simp -implicitDefEqProofs (disch := omega) [go_sem, r0, r1, r4, r6, r7, q0, q1, q2, fz, g0', g1']
          rw [ea, ei]
          exact ⟨rfl, f3⟩
end
end Xe
