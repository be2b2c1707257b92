/- Reading a certificate's lines. -/
import Derived.Test.YtgebeiaffjpcaaaGreatDoorE29
namespace Xe
open Go Go.Proofs
set_option maxRecDepth 16000
set_option maxHeartbeats 4000000

section
variable {h : Heap}
def ProofR (N : Nat) (l : List (List UInt8)) (h' : Heap) (r : Value) : Prop :=
  (∃ c B b C d, CertIn (l.drop 1) c ∧ r = .tuple #[certV c B b C d, .int .i64 0] ∧ CertR h' c B b C d ∧ (∀ y, blk B y → N ≤ y) ∧ ∃ vs, StW h' N C d c.steps vs) ∨
  ((¬ ∃ c, CertIn (l.drop 1) c) ∧ ∃ B n b C m d, ∃ k : Nat, r = .tuple #[.agg #[.slice B n b, .slice C m d], .int .i64 k] ∧ 1 ≤ k ∧ k ≤ l.length + 1)
theorem NumbersR.len {line w : List UInt8} {ns : List Int} (hw : (32 : UInt8) ∉ w) (hN : NumsIn line w ns) : ns.length ≤ line.length := by
  have h1 := splitOn_len 32 line
  rw [hN.split hw] at h1
  have := List.count_le_length (a := (32 : UInt8)) (l := line)
  simp only [List.length_cons, List.length_map] at h1
  omega
theorem Fr.setA {U : Nat → Prop} {a b : Heap} {bk o : Nat} {v : Value} (f : Fr U a b) (hs : U bk) : Fr U a (hset b ⟨bk, o, none⟩ v) := f.set hs
/-- what holds at the label: so many lines are read -/
def PrJ (l : List (List UInt8)) (N : Nat) (h' : Heap) (v : Value) : Prop := ∃ (co : List Int) (B : Option Addr) (b : Nat) (ss : List StepS) (C : Option Addr) (d : Nat) (vs : List Value) (line : List UInt8),
  l[1]? = some line ∧ NumsIn line wCore co ∧ CertOk ⟨co, []⟩ ∧ hcell h' ⟨N, 0, none⟩ = some (.slice B co.length b) ∧ RowAt h' B (ints co) ∧ co.length ≤ b ∧ (∀ y, blk B y → y < h'.size ∧ N < y ∧ ¬ blk C y) ∧
  hcell h' ⟨N, 1, none⟩ = some (.slice C ss.length d) ∧ StW h' (N + 1) C d ss vs ∧ ss.length + 2 ≤ l.length ∧ v = .int .i64 ((ss.length + 2 : Nat)) ∧ (∀ (i : Nat) s, ss[i]? = some s → ∃ x, l[i + 2]? = some x ∧ StepIn x s) ∧ (∀ o, hfrz h' ⟨N, o, none⟩ = false)
theorem build2i' {e : TypeId} {bt a c : Nat} {A : Option Addr} {g : Int} {h : Heap} {k : Value → Heap → Prop} (hk : k (.slice (some ⟨h.size, 0, none⟩) 1 1) (h.push (.cells #[.int .i64 g, .slice A a c] e))) :
    @buildSliceK (some (e, 2, bt, .agg #[.int .i64 0, .slice none 0 0])) 1 [(0, .agg #[.int .i64 g, .slice A a c])] ⟨h⟩ ⟨k⟩ := by
  refine ⟨by omega, #[.int .i64 g, .slice A a c], ?_, hk⟩
  have hz : (zerosOf (Value.agg #[Value.int .i64 0, Value.slice none 0 0]).cells (1 * 2)).size = 2 := by simp [zerosOf, Value.cells]
  obtain ⟨L, hL⟩ : ∃ L, zerosOf (Value.agg #[Value.int .i64 0, Value.slice none 0 0]).cells (1 * 2) = ⟨L⟩ := ⟨_, rfl⟩
  rw [hL] at hz ⊢
  match L, hz with
  | [p, q], _ => simp [Instr.fill, Value.cells, List.zipIdx]
theorem proof_ok (G : Glob h) {l : List (List UInt8)} {A : Option Addr} {n a : Nat} (R : RowAt h A (strs l)) (hn : n = l.length) (h1l : 1 ≤ n) (hl : n < 2 ^ 20) (hs : ∀ s ∈ l, s.length < 2 ^ 16) :
    CallsH Tryz.prog 34 [.slice A n a] h fun r h' => ProofR h.size l h' r ∧ Gr h h' := by
  subst hn
  refine calls_of 72 [.cell 2 26, .tmp 3] Go.Proofs.Tryz.func34 rfl rfl rfl ?_
  simp -implicitDefEqProofs (disch := first | omega | (simp only [push_size, hset_size]; done) | (simp only [push_size, hset_size]; omega)) [go_sem]
  obtain ⟨H, hH⟩ : ∃ H, H = h.push (.cells #[.slice none 0 0, .slice none 0 0] 26) := ⟨_, rfl⟩
  rw [← hH]
  have f0 : Gr h H := by rw [hH]; exact (Fr.refl _ _).push
  have g0 : hcell H ⟨h.size, 0, none⟩ = some (.slice none 0 0) := by rw [hH]; exact hcell_push_lit
  have g1 : hcell H ⟨h.size, 1, none⟩ = some (.slice none 0 0) := by rw [hH]; exact hcell_push_lit
  have gz : ∀ o, hfrz H ⟨h.size, o, none⟩ = false := fun o => by rw [hH]; exact hfrz_push_new
  have hHs : H.size = h.size + 1 := by rw [hH, push_size]
  clear hH
  refine scopeM 0 (fun ρ h' => ρ 0 = .slice A l.length a ∧ ρ 2 = .pointer (some ⟨h.size, 0, none⟩) ∧ Gr h h' ∧ PrJ l h.size h' (ρ 5))
    (fun ρ _ => l.length - (intOf (ρ 5)).toNat) rfl rfl (by kernel_rfl) ?_ ?_
  · by_cases h2 : l.length < 2
    · simp -implicitDefEqProofs (disch := first | omega | (simp only [push_size, hset_size]; done) | (simp only [push_size, hset_size]; omega)) [go_sem, g0, g1, gz]
      refine ⟨.inr ⟨?_, none, 0, 0, none, 0, 0, 2, rfl, by omega, by omega⟩, ?_⟩
      · rintro ⟨c, hc⟩
        have := congrArg List.length hc.2
        simp only [List.length_drop, certL, List.length_cons] at this
        omega
      · iterate 2 refine Fr.newA ?_ (by omega)
        exact f0
    · obtain ⟨line, hline⟩ : ∃ line, l[1]? = some line := ⟨_, List.getElem?_eq_getElem (by omega)⟩
      have hd1 : l.drop 1 = line :: l.drop 2 := by rw [List.drop_eq_getElem_cons (by omega)]; rw [List.getElem?_eq_getElem (by omega), Option.some.injEq] at hline; rw [hline]
      have hll := hs line (List.mem_of_getElem? hline)
      obtain ⟨bk, off, rfl, hc⟩ := (R.fr0 f0).get (by rw [strs_len]; omega)
      have c1 := hc 1 _ (strs_at hline)
      simp -implicitDefEqProofs (disch := first | omega | (simp only [push_size, hset_size]; done) | (simp only [push_size, hset_size]; omega)) [go_sem, g0, g1, gz, c1]
      refine useC (numbers_ok (G.gr f0) line wCore (by omega) (by decide) (by decide)) ?_
      rintro _ h1 ⟨R1, f1⟩
      have f01 := f0.trans f1
      have k0 := (f1.cell (by omega) id).trans g0
      have k1 := (f1.cell (by omega) id).trans g1
      have kz : ∀ o, hfrz h1 ⟨h.size, o, none⟩ = false := fun o => (f1.frz (by omega) id).trans (gz o)
      have hs1 := f1.size
      rcases R1 with ⟨ns, X, x, hN, rfl, SX, own⟩ | ⟨hno, rfl⟩
      · simp -implicitDefEqProofs (disch := first | omega | (simp only [push_size, hset_size]; done) | (simp only [push_size, hset_size]; omega)) [go_sem, k0, k1, kz]
        obtain ⟨H2, hH2⟩ : ∃ H2, H2 = hset h1 ⟨h.size, 0, none⟩ (.slice X ns.length x) := ⟨_, rfl⟩
        rw [← hH2]
        have e2 : Fr (fun y => y = h.size) h1 H2 := by rw [hH2]; exact (Fr.refl _ _).setA rfl
        have f2 : Gr h H2 := by rw [hH2]; exact f01.newA (by omega)
        have m0 : hcell H2 ⟨h.size, 0, none⟩ = some (.slice X ns.length x) := by rw [hH2, hcell_hset, if_pos ⟨rfl, rfl⟩, k0]; rfl
        have m1 : hcell H2 ⟨h.size, 1, none⟩ = some (.slice none 0 0) := by rw [hH2, hcell_hset, if_neg (by simp)]; exact k1
        have mz : ∀ o, hfrz H2 ⟨h.size, o, none⟩ = false := fun o => by rw [hH2, hfrz_hset]; exact kz o
        have hs2 : H2.size = h1.size := by rw [hH2, hset_size]
        clear hH2
        have RX : RowAt H2 X (ints ns) := SX.row.fr e2 fun y hy e => by have := own y hy; omega
        have hnl := NumbersR.len (by decide) hN
        have hcx : ns.length ≤ x := by have := SX.len; rw [ints_len] at this; exact this
        have CR : CertR H2 ⟨ns, []⟩ X x none 0 := ⟨RX, .nil, hcx, Nat.le_refl _, by show ns.length < _; omega, by show 0 < _; omega, hN.2⟩
        refine useC (goodCert_ok CR) ?_
        rintro _ h3 ⟨⟨b, rfl, hb⟩, f3⟩
        have hs3 := f3.size
        have n0 := (f3.cell (by omega) id).trans m0
        have n1 := (f3.cell (by omega) id).trans m1
        have nz : ∀ o, hfrz h3 ⟨h.size, o, none⟩ = false := fun o => (f3.frz (by omega) id).trans (mz o)
        have f03 := f2.trans f3
        cases b with
        | false =>
          simp -implicitDefEqProofs (disch := first | omega | (simp only [push_size, hset_size]; done) | (simp only [push_size, hset_size]; omega)) [go_sem, n0, n1, nz]
          refine ⟨.inr ⟨?_, X, ns.length, x, none, 0, 0, 2, rfl, by omega, by omega⟩, ?_⟩
          · rintro ⟨c, hc⟩
            rw [hd1] at hc
            obtain ⟨h5, h6⟩ := core_in hc
            have := (NumsIn.uniq (by decide) (by decide) hN h5).2
            subst this
            cases hb.2 h6
          · iterate 2 refine Fr.newA ?_ (by omega)
            exact f03
        | true =>
          simp -implicitDefEqProofs (disch := first | omega | (simp only [push_size, hset_size]; done) | (simp only [push_size, hset_size]; omega)) [go_sem, n0, n1, nz]
          exact ⟨f03, ns, X, x, [], none, 0, [], line, hline, hN, hb.1 rfl, n0, RX.fr0 f3, hcx, fun y hy => ⟨by have := SX.blk_lt hy; omega, by have := own y hy; omega, fun ⟨a, ha, _⟩ => (nomatch ha)⟩, n1, .nil, by show 0 + 2 ≤ _; omega, rfl, fun i s hs => by simp at hs, nz⟩
      · simp -implicitDefEqProofs (disch := first | omega | (simp only [push_size, hset_size]; done) | (simp only [push_size, hset_size]; omega)) [go_sem, k0, k1, kz]
        refine ⟨.inr ⟨?_, none, 0, 0, none, 0, 0, 2, rfl, by omega, by omega⟩, ?_⟩
        · rintro ⟨c, hc⟩
          rw [hd1] at hc
          exact hno ⟨_, (core_in hc).1⟩
        · iterate 3 refine Fr.newA ?_ (by omega)
          exact f01
  · rintro ρ h1 ⟨r0, r2, f01, co, B, b, ss, C, d, vs, line, hline, hN, hck, n0, RB, hb, ownB, n1, W, hle, r5, hall, nz⟩
    have hs1 := f01.size
    have hlt := hcell_lt n0
    have hnl := NumbersR.len (by decide) hN
    have hd1 : l.drop 1 = line :: l.drop 2 := by rw [List.drop_eq_getElem_cons (by omega)]; rw [List.getElem?_eq_getElem (by omega), Option.some.injEq] at hline; rw [hline]
    have hll := hs line (List.mem_of_getElem? hline)
    by_cases hend : ss.length + 2 = l.length
    · simp -implicitDefEqProofs (disch := first | omega | (simp only [push_size, hset_size]; done) | (simp only [push_size, hset_size]; omega)) [go_sem, r0, r2, r5, n0, n1, nz, hend]
      obtain ⟨H2, hH2⟩ : ∃ H2, H2 = hset (hset h1 ⟨h.size, 0, none⟩ (.slice B co.length b)) ⟨h.size, 1, none⟩ (.slice C ss.length d) := ⟨_, rfl⟩
      rw [← hH2]
      have e2 : Fr (fun y => y = h.size) h1 H2 := by rw [hH2]; refine Fr.setA (Fr.setA (Fr.refl _ _) ?_) ?_ <;> rfl
      have f2 : Gr h H2 := by rw [hH2]; exact (f01.newA (by omega)).newA (by omega)
      clear hH2
      refine ⟨.inl ⟨⟨co, ss⟩, B, b, C, d, ⟨?_, ?_⟩, rfl, ?_⟩, f2⟩
      · refine ⟨hck.1, by show ss.length ≤ _; omega, hck.2.2.1, fun i s hi hs => ?_⟩
        obtain ⟨x, _, hx⟩ := hall i s hs
        exact hx.2
      · rw [hd1]
        show _ = (wCore ++ numsT co) :: ss.map stepL
        rw [hN.1]
        congr 1
        apply List.ext_getElem?
        intro i
        rw [List.getElem?_drop, List.getElem?_map]
        by_cases hi : i < ss.length
        · obtain ⟨s, hs⟩ : ∃ s, ss[i]? = some s := ⟨_, List.getElem?_eq_getElem hi⟩
          obtain ⟨x, hx1, hx2⟩ := hall i s hs
          rw [hs, show 2 + i = i + 2 by omega, hx1, hx2.1.1]; rfl
        · rw [List.getElem?_eq_none (by omega), List.getElem?_eq_none (by omega)]; rfl
      · have W2 : StW H2 (h.size + 1) C d ss vs := W.fr e2 (fun y hy e => by have := W.own y hy; omega) fun y _ hy _ e => by omega
        refine ⟨⟨RB.fr e2 fun y hy e => by have := (ownB y hy).2.1; omega, W2.steps, hb, by have := W.S.len; have := W.len; show ss.length ≤ d; omega, by show co.length < _; omega, by show ss.length < _; omega, hN.2⟩, fun y hy => by have := (ownB y hy).2.1; omega, vs, ?_⟩
        exact ⟨W2.S, W2.len, fun y hy => by have := W2.own y hy; omega, fun i s hs => by
          obtain ⟨A1, d1, g1, g2, g3, g4, g5, g6⟩ := W2.at' i s hs
          exact ⟨A1, d1, g1, g2, g3, g4, fun y hy => ⟨(g5 y hy).1, (g5 y hy).2.1, by have := (g5 y hy).2.2; omega⟩, g6⟩⟩
    · obtain ⟨x, hx⟩ : ∃ x, l[ss.length + 2]? = some x := ⟨_, List.getElem?_eq_getElem (by omega)⟩
      have hxl := hs x (List.mem_of_getElem? hx)
      have G1 := G.gr f01
      obtain ⟨s0, s1, s2⟩ := G1.steps
      simp -implicitDefEqProofs (disch := first | omega | (simp only [push_size, hset_size]; done) | (simp only [push_size, hset_size]; omega)) [go_sem, r0, r2, r5, hend, s0, s1, s2]
      refine loopK (fun ρ h' => ρ 0 = .slice A l.length a ∧ ρ 2 = .pointer (some ⟨h.size, 0, none⟩) ∧ ρ 5 = .int .i64 ((ss.length + 2 : Nat)) ∧ ρ 36 = .agg #[S wTheory, S wFollow, S wGone] ∧ Gr h1 h' ∧ ∃ kd : Nat, ρ 37 = .int .i64 kd ∧ kd ≤ 3 ∧ ∀ s, StepIn x s → (kd : Int) ≤ s.kind) (fun ρ _ => 3 - (intOf (ρ 37)).toNat) (by kernel_rfl) ?_ ?_
      · exact ⟨by simp [put, r0], by simp [put, r2], by simp [put, r5], rfl, Fr.refl _ _, 0, rfl, by omega, fun s hs => hs.2.1⟩
      rintro ρ' h2 ⟨t0, t2, t5, t36, f2, kd, t37, hkd, hno⟩
      have hs2 := f2.size
      have f02 := f01.trans f2
      have p0 := (f2.cell (by omega) id).trans n0
      have p1 := (f2.cell (by omega) id).trans n1
      have pz : ∀ o, hfrz h2 ⟨h.size, o, none⟩ = false := fun o => (f2.frz (by omega) id).trans (nz o)
      by_cases hk3 : kd < 3
      · obtain ⟨bk, off, rfl, hc⟩ := (R.fr0 f02).get (by rw [strs_len]; omega)
        have c1 := hc _ _ (strs_at hx)
        rcases (show kd = 0 ∨ kd = 1 ∨ kd = 2 by omega) with rfl | rfl | rfl
        · have eT : ((ss.length : Int) + 2).toNat = ss.length + 2 := by omega
          simp -implicitDefEqProofs (disch := first | omega | (simp only [push_size, hset_size]; done) | (simp only [push_size, hset_size]; omega)) [go_sem, t0, t2, t5, t36, t37, eT, c1]
          refine useC (numbers_ok (G.gr f02) x wTheory (by omega) (by decide) (by decide)) ?_
          rintro _ h3 ⟨R3, f3⟩
          have f03 := f02.trans f3
          have hs3 := f3.size
          rcases R3 with ⟨ns, X, xc, hN3, rfl, SX, own⟩ | ⟨hno3, rfl⟩
          · simp -implicitDefEqProofs (disch := first | omega | (simp only [push_size, hset_size]; done) | (simp only [push_size, hset_size]; omega)) [go_sem, t0, t2, t5, t36, t37, eT]
            refine build2i' ?_
            obtain ⟨H4, hH4⟩ : ∃ H2, H2 = h3.push (.cells #[.int .i64 0, .slice X ns.length xc] 40) := ⟨_, rfl⟩
            have q4 : Gr h3 H4 := by rw [hH4]; exact (Fr.refl _ _).push
            have hH4s : H4.size = h3.size + 1 := by rw [hH4, push_size]
            have u0 : hcell H4 ⟨h3.size, 0, none⟩ = some (.int .i64 0) := by rw [hH4]; exact hcell_push_lit
            have u1 : hcell H4 ⟨h3.size, 1, none⟩ = some (.slice X ns.length xc) := by rw [hH4]; exact hcell_push_lit
            rw [← hH4]
            clear hH4
            obtain ⟨H5, hH5⟩ : ∃ H2, H2 = H4.push (.cells #[.int .i64 0, .slice X ns.length xc] 40) := ⟨_, rfl⟩
            have q5 : Gr H4 H5 := by rw [hH5]; exact (Fr.refl _ _).push
            have hH5s : H5.size = H4.size + 1 := by rw [hH5, push_size]
            have v0 : hcell H5 ⟨H4.size, 0, none⟩ = some (.int .i64 0) := by rw [hH5]; exact hcell_push_lit
            have v1 : hcell H5 ⟨H4.size, 1, none⟩ = some (.slice X ns.length xc) := by rw [hH5]; exact hcell_push_lit
            rw [← hH5]
            clear hH5
            have q35 := q4.trans q5
            have hnl3 := NumbersR.len (by decide) hN3
            have hxc : ns.length ≤ xc := by have := SX.len; rw [ints_len] at this; exact this
            have SR : StepsR H5 (some ⟨H4.size, 0, none⟩) [⟨0, ns⟩] := ⟨fun i s hs => by
              cases i with
              | zero =>
                cases hs
                exact ⟨H4.size, 0, X, xc, rfl, v0, v1, SX.row.fr0 q35, hxc, by show ns.length < _; omega, by show I64 0; unfold I64; omega, hN3.2⟩
              | succ i => simp at hs⟩
            have CR : CertR H5 ⟨[], [⟨0, ns⟩]⟩ none 0 (some ⟨H4.size, 0, none⟩) 1 := ⟨.nil, SR, Nat.le_refl _, Nat.le_refl _, by show 0 < _; omega, by show 1 < _; omega, fun x hx => by simp at hx⟩
            simp -implicitDefEqProofs (disch := first | omega | (simp only [push_size, hset_size]; done) | (simp only [push_size, hset_size]; omega)) [go_sem, t0, t2, t5, t36, t37, eT]
            refine useC (goodCert_ok CR) ?_
            rintro _ h6 ⟨⟨b, rfl, hb6⟩, f6⟩
            have hs6 := f6.size
            have f36 := (q35.trans f6)
            have f26 := f3.trans f36
            have hone : CertOk ⟨[], [⟨0, ns⟩]⟩ ↔ StepOk ⟨0, ns⟩ := ⟨fun g => g.2.2.2 0 _ (by simp) rfl, fun g => ⟨by simp, by simp, fun k y hk => by simp at hk, fun k t hk ht => by
              simp only [List.length_cons, List.length_nil] at hk
              obtain rfl : k = 0 := by omega
              cases ht; exact g⟩⟩
            cases b with
            | false =>
              simp -implicitDefEqProofs (disch := first | omega | (simp only [push_size, hset_size]; done) | (simp only [push_size, hset_size]; omega)) [go_sem, t0, t2, t5, t36, t37, eT]
              refine ⟨f2.trans f26, 1, by omega, by omega, fun s hs => ?_⟩
              have h1 := hno s hs
              by_cases e : s.kind = 0
              · exfalso
                have h2 := hs.1
                rw [e] at h2
                have h3 := (NumsIn.uniq (by decide) (by decide) hN3 h2).2
                obtain ⟨kk, ll⟩ := s
                simp only at e h3
                subst e h3
                cases hb6.2 (hone.2 hs.2)
              · omega
            | true =>
              have hso := hone.1 (hb6.1 rfl)
              have w0 := (((q5.trans f6).cell (by omega) id)).trans u0
              have w1 := (((q5.trans f6).cell (by omega) id)).trans u1
              have p0' := (f26.cell (by omega) id).trans p0
              have p1' := (f26.cell (by omega) id).trans p1
              have pz' : ∀ o, hfrz h6 ⟨h.size, o, none⟩ = false := fun o => (f26.frz (by omega) id).trans (pz o)
              simp -implicitDefEqProofs (disch := first | omega | (simp only [push_size, hset_size]; done) | (simp only [push_size, hset_size]; omega)) [go_sem, t0, t2, t5, t36, t37, eT, w0, w1, p0', p1']
              refine build2i' ?_
              obtain ⟨H7, hH7⟩ : ∃ H2, H2 = h6.push (.cells #[.int .i64 0, .slice X ns.length xc] 40) := ⟨_, rfl⟩
              have q7 : Gr h6 H7 := by rw [hH7]; exact (Fr.refl _ _).push
              have S7 : SlAt H7 (some ⟨h6.size, 0, none⟩) 2 [.int .i64 0, .slice X ns.length xc] := by rw [hH7]; exact SlAt.new (vs := [.int .i64 0, .slice X ns.length xc])
              have hH7s : H7.size = h6.size + 1 := by rw [hH7, push_size]
              rw [← hH7]
              clear hH7
              have f27 := f26.trans q7
              have W7 : StW H7 (h.size + 1) C d ss vs := W.gr (f2.trans f27)
              simp -implicitDefEqProofs (disch := first | omega | (simp only [push_size, hset_size]; done) | (simp only [push_size, hset_size]; omega)) [go_sem, t0, t2, t5, t36, t37, eT]
              refine appendN (sz := 2) (vs := vs) (ws := [.int .i64 0, .slice X ns.length xc]) W7.S (by rw [W7.len]) S7.row rfl (by omega) (by simp [Value.oneCell']) (by omega) (by omega) ?_
              intro C' d' h8 S8 f8 own8
              have hs8 := f8.size
              have nb : ¬ blk C h.size := fun hh => by have := W7.own _ hh; omega
              have x0 := (f8.cell (by omega) nb).trans ((q7.cell (by omega) id).trans p0')
              have x1 := (f8.cell (by omega) nb).trans ((q7.cell (by omega) id).trans p1')
              have xz : ∀ o, hfrz h8 ⟨h.size, o, none⟩ = false := fun o => (f8.frz (by omega) nb).trans ((q7.frz (by omega) id).trans (pz' o))
              simp -implicitDefEqProofs (disch := first | omega | (simp only [push_size, hset_size]; done) | (simp only [push_size, hset_size]; omega)) [go_sem, t0, t2, t5, t36, t37, eT, x0, x1, xz]
              obtain ⟨H9, hH9⟩ : ∃ H2, H2 = hset h8 ⟨h.size, 1, none⟩ (.slice C' (ss.length + 1) d') := ⟨_, rfl⟩
              rw [← hH9]
              have e9 : Fr (fun y => y = h.size) h8 H9 := by rw [hH9]; refine Fr.setA (Fr.refl _ _) ?_; rfl
              have f08 : Gr h h8 := (f02.trans f27).trans' f8 fun y hy hb => by have := W7.own y hb; omega
              have f09 : Gr h H9 := by rw [hH9]; exact f08.newA (by omega)
              have y0 : hcell H9 ⟨h.size, 0, none⟩ = some (.slice B co.length b) := by rw [hH9, hcell_hset, if_neg (by simp)]; exact x0
              have y1 : hcell H9 ⟨h.size, 1, none⟩ = some (.slice C' (ss.length + 1) d') := by rw [hH9, hcell_hset, if_pos ⟨rfl, rfl⟩, x1]; rfl
              have yz : ∀ o, hfrz H9 ⟨h.size, o, none⟩ = false := fun o => by rw [hH9, hfrz_hset]; exact xz o
              have hH9s : H9.size = h8.size := by rw [hH9, hset_size]
              clear hH9
              have hCl : ∀ y, blk C y → y < h1.size := fun y hy => W.S.blk_lt hy
              have W8 : StW h8 (h.size + 1) C' d' (ss ++ [⟨0, ns⟩]) (vs ++ [.int .i64 0, .slice X ns.length xc]) := W7.snoc (s := ⟨0, ns⟩) S8 f8 own8 (by omega) (SX.row.fr0 (f36.trans q7)) hxc
                (fun y hy => ⟨by have := SX.blk_lt hy; omega, fun hh => by have := hCl y hh; have := own y hy; omega, by have := own y hy; omega⟩) (by show ns.length < _; omega) (by show I64 0; unfold I64; omega) hN3.2
              have W9 := W8.fr e9 (fun y hy e => by have := W8.own y hy; omega) fun y _ hy _ e => by omega
              have hln : (ss ++ [(⟨0, ns⟩ : StepS)]).length = ss.length + 1 := by rw [List.length_append]; rfl
              refine ⟨⟨f09, co, B, b, ss ++ [⟨0, ns⟩], C', d', _, line, hline, hN, hck, y0, ?_, hb, fun y hy => ?_, by rw [hln]; exact y1, W9, by omega, by rw [hln]; rfl, fun i s hs => ?_, yz⟩, by omega⟩
              · exact (((RB.fr0 (f2.trans f27)).fr f8 fun y hy => (ownB y hy).2.2).fr e9 fun y hy e => by have := (ownB y hy).2.1; omega)
              · obtain ⟨z1, z2, z3⟩ := ownB y hy
                refine ⟨by omega, z2, fun hh => ?_⟩
                rcases own8 y hh with hh | hh
                · exact z3 hh
                · omega
              · by_cases hi : i < ss.length
                · rw [List.getElem?_append_left hi] at hs
                  exact hall i s hs
                · have e : i = ss.length := by
                    have := (List.getElem?_eq_some_iff.1 hs).1
                    omega
                  subst e
                  rw [List.getElem?_append_right (Nat.le_refl _), Nat.sub_self] at hs
                  cases hs
                  exact ⟨x, hx, hN3, hso⟩
          · simp -implicitDefEqProofs (disch := first | omega | (simp only [push_size, hset_size]; done) | (simp only [push_size, hset_size]; omega)) [go_sem, t0, t2, t5, t36, t37, eT]
            refine ⟨f2.trans (f3.trans (Fr.refl _ _).push), 1, by omega, by omega, fun s hs => ?_⟩
            have h1 := hno s hs
            by_cases e : s.kind = 0
            · exfalso
              refine hno3 ⟨s.lits, ?_⟩
              have := hs.1
              rw [e] at this
              exact this
            · omega
        · have eT : ((ss.length : Int) + 2).toNat = ss.length + 2 := by omega
          simp -implicitDefEqProofs (disch := first | omega | (simp only [push_size, hset_size]; done) | (simp only [push_size, hset_size]; omega)) [go_sem, t0, t2, t5, t36, t37, eT, c1]
          refine useC (numbers_ok (G.gr f02) x wFollow (by omega) (by decide) (by decide)) ?_
          rintro _ h3 ⟨R3, f3⟩
          have f03 := f02.trans f3
          have hs3 := f3.size
          rcases R3 with ⟨ns, X, xc, hN3, rfl, SX, own⟩ | ⟨hno3, rfl⟩
          · simp -implicitDefEqProofs (disch := first | omega | (simp only [push_size, hset_size]; done) | (simp only [push_size, hset_size]; omega)) [go_sem, t0, t2, t5, t36, t37, eT]
            refine build2i' ?_
            obtain ⟨H4, hH4⟩ : ∃ H2, H2 = h3.push (.cells #[.int .i64 1, .slice X ns.length xc] 40) := ⟨_, rfl⟩
            have q4 : Gr h3 H4 := by rw [hH4]; exact (Fr.refl _ _).push
            have hH4s : H4.size = h3.size + 1 := by rw [hH4, push_size]
            have u0 : hcell H4 ⟨h3.size, 0, none⟩ = some (.int .i64 1) := by rw [hH4]; exact hcell_push_lit
            have u1 : hcell H4 ⟨h3.size, 1, none⟩ = some (.slice X ns.length xc) := by rw [hH4]; exact hcell_push_lit
            rw [← hH4]
            clear hH4
            obtain ⟨H5, hH5⟩ : ∃ H2, H2 = H4.push (.cells #[.int .i64 1, .slice X ns.length xc] 40) := ⟨_, rfl⟩
            have q5 : Gr H4 H5 := by rw [hH5]; exact (Fr.refl _ _).push
            have hH5s : H5.size = H4.size + 1 := by rw [hH5, push_size]
            have v0 : hcell H5 ⟨H4.size, 0, none⟩ = some (.int .i64 1) := by rw [hH5]; exact hcell_push_lit
            have v1 : hcell H5 ⟨H4.size, 1, none⟩ = some (.slice X ns.length xc) := by rw [hH5]; exact hcell_push_lit
            rw [← hH5]
            clear hH5
            have q35 := q4.trans q5
            have hnl3 := NumbersR.len (by decide) hN3
            have hxc : ns.length ≤ xc := by have := SX.len; rw [ints_len] at this; exact this
            have SR : StepsR H5 (some ⟨H4.size, 0, none⟩) [⟨1, ns⟩] := ⟨fun i s hs => by
              cases i with
              | zero =>
                cases hs
                exact ⟨H4.size, 0, X, xc, rfl, v0, v1, SX.row.fr0 q35, hxc, by show ns.length < _; omega, by show I64 1; unfold I64; omega, hN3.2⟩
              | succ i => simp at hs⟩
            have CR : CertR H5 ⟨[], [⟨1, ns⟩]⟩ none 0 (some ⟨H4.size, 0, none⟩) 1 := ⟨.nil, SR, Nat.le_refl _, Nat.le_refl _, by show 0 < _; omega, by show 1 < _; omega, fun x hx => by simp at hx⟩
            simp -implicitDefEqProofs (disch := first | omega | (simp only [push_size, hset_size]; done) | (simp only [push_size, hset_size]; omega)) [go_sem, t0, t2, t5, t36, t37, eT]
            refine useC (goodCert_ok CR) ?_
            rintro _ h6 ⟨⟨b, rfl, hb6⟩, f6⟩
            have hs6 := f6.size
            have f36 := (q35.trans f6)
            have f26 := f3.trans f36
            have hone : CertOk ⟨[], [⟨1, ns⟩]⟩ ↔ StepOk ⟨1, ns⟩ := ⟨fun g => g.2.2.2 0 _ (by simp) rfl, fun g => ⟨by simp, by simp, fun k y hk => by simp at hk, fun k t hk ht => by
              simp only [List.length_cons, List.length_nil] at hk
              obtain rfl : k = 0 := by omega
              cases ht; exact g⟩⟩
            cases b with
            | false =>
              simp -implicitDefEqProofs (disch := first | omega | (simp only [push_size, hset_size]; done) | (simp only [push_size, hset_size]; omega)) [go_sem, t0, t2, t5, t36, t37, eT]
              refine ⟨f2.trans f26, 2, by omega, by omega, fun s hs => ?_⟩
              have h1 := hno s hs
              by_cases e : s.kind = 1
              · exfalso
                have h2 := hs.1
                rw [e] at h2
                have h3 := (NumsIn.uniq (by decide) (by decide) hN3 h2).2
                obtain ⟨kk, ll⟩ := s
                simp only at e h3
                subst e h3
                cases hb6.2 (hone.2 hs.2)
              · omega
            | true =>
              have hso := hone.1 (hb6.1 rfl)
              have w0 := (((q5.trans f6).cell (by omega) id)).trans u0
              have w1 := (((q5.trans f6).cell (by omega) id)).trans u1
              have p0' := (f26.cell (by omega) id).trans p0
              have p1' := (f26.cell (by omega) id).trans p1
              have pz' : ∀ o, hfrz h6 ⟨h.size, o, none⟩ = false := fun o => (f26.frz (by omega) id).trans (pz o)
              simp -implicitDefEqProofs (disch := first | omega | (simp only [push_size, hset_size]; done) | (simp only [push_size, hset_size]; omega)) [go_sem, t0, t2, t5, t36, t37, eT, w0, w1, p0', p1']
              refine build2i' ?_
              obtain ⟨H7, hH7⟩ : ∃ H2, H2 = h6.push (.cells #[.int .i64 1, .slice X ns.length xc] 40) := ⟨_, rfl⟩
              have q7 : Gr h6 H7 := by rw [hH7]; exact (Fr.refl _ _).push
              have S7 : SlAt H7 (some ⟨h6.size, 0, none⟩) 2 [.int .i64 1, .slice X ns.length xc] := by rw [hH7]; exact SlAt.new (vs := [.int .i64 1, .slice X ns.length xc])
              have hH7s : H7.size = h6.size + 1 := by rw [hH7, push_size]
              rw [← hH7]
              clear hH7
              have f27 := f26.trans q7
              have W7 : StW H7 (h.size + 1) C d ss vs := W.gr (f2.trans f27)
              simp -implicitDefEqProofs (disch := first | omega | (simp only [push_size, hset_size]; done) | (simp only [push_size, hset_size]; omega)) [go_sem, t0, t2, t5, t36, t37, eT]
              refine appendN (sz := 2) (vs := vs) (ws := [.int .i64 1, .slice X ns.length xc]) W7.S (by rw [W7.len]) S7.row rfl (by omega) (by simp [Value.oneCell']) (by omega) (by omega) ?_
              intro C' d' h8 S8 f8 own8
              have hs8 := f8.size
              have nb : ¬ blk C h.size := fun hh => by have := W7.own _ hh; omega
              have x0 := (f8.cell (by omega) nb).trans ((q7.cell (by omega) id).trans p0')
              have x1 := (f8.cell (by omega) nb).trans ((q7.cell (by omega) id).trans p1')
              have xz : ∀ o, hfrz h8 ⟨h.size, o, none⟩ = false := fun o => (f8.frz (by omega) nb).trans ((q7.frz (by omega) id).trans (pz' o))
              simp -implicitDefEqProofs (disch := first | omega | (simp only [push_size, hset_size]; done) | (simp only [push_size, hset_size]; omega)) [go_sem, t0, t2, t5, t36, t37, eT, x0, x1, xz]
              obtain ⟨H9, hH9⟩ : ∃ H2, H2 = hset h8 ⟨h.size, 1, none⟩ (.slice C' (ss.length + 1) d') := ⟨_, rfl⟩
              rw [← hH9]
              have e9 : Fr (fun y => y = h.size) h8 H9 := by rw [hH9]; refine Fr.setA (Fr.refl _ _) ?_; rfl
              have f08 : Gr h h8 := (f02.trans f27).trans' f8 fun y hy hb => by have := W7.own y hb; omega
              have f09 : Gr h H9 := by rw [hH9]; exact f08.newA (by omega)
              have y0 : hcell H9 ⟨h.size, 0, none⟩ = some (.slice B co.length b) := by rw [hH9, hcell_hset, if_neg (by simp)]; exact x0
              have y1 : hcell H9 ⟨h.size, 1, none⟩ = some (.slice C' (ss.length + 1) d') := by rw [hH9, hcell_hset, if_pos ⟨rfl, rfl⟩, x1]; rfl
              have yz : ∀ o, hfrz H9 ⟨h.size, o, none⟩ = false := fun o => by rw [hH9, hfrz_hset]; exact xz o
              have hH9s : H9.size = h8.size := by rw [hH9, hset_size]
              clear hH9
              have hCl : ∀ y, blk C y → y < h1.size := fun y hy => W.S.blk_lt hy
              have W8 : StW h8 (h.size + 1) C' d' (ss ++ [⟨1, ns⟩]) (vs ++ [.int .i64 1, .slice X ns.length xc]) := W7.snoc (s := ⟨1, ns⟩) S8 f8 own8 (by omega) (SX.row.fr0 (f36.trans q7)) hxc
                (fun y hy => ⟨by have := SX.blk_lt hy; omega, fun hh => by have := hCl y hh; have := own y hy; omega, by have := own y hy; omega⟩) (by show ns.length < _; omega) (by show I64 1; unfold I64; omega) hN3.2
              have W9 := W8.fr e9 (fun y hy e => by have := W8.own y hy; omega) fun y _ hy _ e => by omega
              have hln : (ss ++ [(⟨1, ns⟩ : StepS)]).length = ss.length + 1 := by rw [List.length_append]; rfl
              refine ⟨⟨f09, co, B, b, ss ++ [⟨1, ns⟩], C', d', _, line, hline, hN, hck, y0, ?_, hb, fun y hy => ?_, by rw [hln]; exact y1, W9, by omega, by rw [hln]; rfl, fun i s hs => ?_, yz⟩, by omega⟩
              · exact (((RB.fr0 (f2.trans f27)).fr f8 fun y hy => (ownB y hy).2.2).fr e9 fun y hy e => by have := (ownB y hy).2.1; omega)
              · obtain ⟨z1, z2, z3⟩ := ownB y hy
                refine ⟨by omega, z2, fun hh => ?_⟩
                rcases own8 y hh with hh | hh
                · exact z3 hh
                · omega
              · by_cases hi : i < ss.length
                · rw [List.getElem?_append_left hi] at hs
                  exact hall i s hs
                · have e : i = ss.length := by
                    have := (List.getElem?_eq_some_iff.1 hs).1
                    omega
                  subst e
                  rw [List.getElem?_append_right (Nat.le_refl _), Nat.sub_self] at hs
                  cases hs
                  exact ⟨x, hx, hN3, hso⟩
          · simp -implicitDefEqProofs (disch := first | omega | (simp only [push_size, hset_size]; done) | (simp only [push_size, hset_size]; omega)) [go_sem, t0, t2, t5, t36, t37, eT]
            refine ⟨f2.trans (f3.trans (Fr.refl _ _).push), 2, by omega, by omega, fun s hs => ?_⟩
            have h1 := hno s hs
            by_cases e : s.kind = 1
            · exfalso
              refine hno3 ⟨s.lits, ?_⟩
              have := hs.1
              rw [e] at this
              exact this
            · omega
        · have eT : ((ss.length : Int) + 2).toNat = ss.length + 2 := by omega
          simp -implicitDefEqProofs (disch := first | omega | (simp only [push_size, hset_size]; done) | (simp only [push_size, hset_size]; omega)) [go_sem, t0, t2, t5, t36, t37, eT, c1]
          refine useC (numbers_ok (G.gr f02) x wGone (by omega) (by decide) (by decide)) ?_
          rintro _ h3 ⟨R3, f3⟩
          have f03 := f02.trans f3
          have hs3 := f3.size
          rcases R3 with ⟨ns, X, xc, hN3, rfl, SX, own⟩ | ⟨hno3, rfl⟩
          · simp -implicitDefEqProofs (disch := first | omega | (simp only [push_size, hset_size]; done) | (simp only [push_size, hset_size]; omega)) [go_sem, t0, t2, t5, t36, t37, eT]
            refine build2i' ?_
            obtain ⟨H4, hH4⟩ : ∃ H2, H2 = h3.push (.cells #[.int .i64 2, .slice X ns.length xc] 40) := ⟨_, rfl⟩
            have q4 : Gr h3 H4 := by rw [hH4]; exact (Fr.refl _ _).push
            have hH4s : H4.size = h3.size + 1 := by rw [hH4, push_size]
            have u0 : hcell H4 ⟨h3.size, 0, none⟩ = some (.int .i64 2) := by rw [hH4]; exact hcell_push_lit
            have u1 : hcell H4 ⟨h3.size, 1, none⟩ = some (.slice X ns.length xc) := by rw [hH4]; exact hcell_push_lit
            rw [← hH4]
            clear hH4
            obtain ⟨H5, hH5⟩ : ∃ H2, H2 = H4.push (.cells #[.int .i64 2, .slice X ns.length xc] 40) := ⟨_, rfl⟩
            have q5 : Gr H4 H5 := by rw [hH5]; exact (Fr.refl _ _).push
            have hH5s : H5.size = H4.size + 1 := by rw [hH5, push_size]
            have v0 : hcell H5 ⟨H4.size, 0, none⟩ = some (.int .i64 2) := by rw [hH5]; exact hcell_push_lit
            have v1 : hcell H5 ⟨H4.size, 1, none⟩ = some (.slice X ns.length xc) := by rw [hH5]; exact hcell_push_lit
            rw [← hH5]
            clear hH5
            have q35 := q4.trans q5
            have hnl3 := NumbersR.len (by decide) hN3
            have hxc : ns.length ≤ xc := by have := SX.len; rw [ints_len] at this; exact this
            have SR : StepsR H5 (some ⟨H4.size, 0, none⟩) [⟨2, ns⟩] := ⟨fun i s hs => by
              cases i with
              | zero =>
                cases hs
                exact ⟨H4.size, 0, X, xc, rfl, v0, v1, SX.row.fr0 q35, hxc, by show ns.length < _; omega, by show I64 2; unfold I64; omega, hN3.2⟩
              | succ i => simp at hs⟩
            have CR : CertR H5 ⟨[], [⟨2, ns⟩]⟩ none 0 (some ⟨H4.size, 0, none⟩) 1 := ⟨.nil, SR, Nat.le_refl _, Nat.le_refl _, by show 0 < _; omega, by show 1 < _; omega, fun x hx => by simp at hx⟩
            simp -implicitDefEqProofs (disch := first | omega | (simp only [push_size, hset_size]; done) | (simp only [push_size, hset_size]; omega)) [go_sem, t0, t2, t5, t36, t37, eT]
            refine useC (goodCert_ok CR) ?_
            rintro _ h6 ⟨⟨b, rfl, hb6⟩, f6⟩
            have hs6 := f6.size
            have f36 := (q35.trans f6)
            have f26 := f3.trans f36
            have hone : CertOk ⟨[], [⟨2, ns⟩]⟩ ↔ StepOk ⟨2, ns⟩ := ⟨fun g => g.2.2.2 0 _ (by simp) rfl, fun g => ⟨by simp, by simp, fun k y hk => by simp at hk, fun k t hk ht => by
              simp only [List.length_cons, List.length_nil] at hk
              obtain rfl : k = 0 := by omega
              cases ht; exact g⟩⟩
            cases b with
            | false =>
              simp -implicitDefEqProofs (disch := first | omega | (simp only [push_size, hset_size]; done) | (simp only [push_size, hset_size]; omega)) [go_sem, t0, t2, t5, t36, t37, eT]
              refine ⟨f2.trans f26, 3, by omega, by omega, fun s hs => ?_⟩
              have h1 := hno s hs
              by_cases e : s.kind = 2
              · exfalso
                have h2 := hs.1
                rw [e] at h2
                have h3 := (NumsIn.uniq (by decide) (by decide) hN3 h2).2
                obtain ⟨kk, ll⟩ := s
                simp only at e h3
                subst e h3
                cases hb6.2 (hone.2 hs.2)
              · omega
            | true =>
              have hso := hone.1 (hb6.1 rfl)
              have w0 := (((q5.trans f6).cell (by omega) id)).trans u0
              have w1 := (((q5.trans f6).cell (by omega) id)).trans u1
              have p0' := (f26.cell (by omega) id).trans p0
              have p1' := (f26.cell (by omega) id).trans p1
              have pz' : ∀ o, hfrz h6 ⟨h.size, o, none⟩ = false := fun o => (f26.frz (by omega) id).trans (pz o)
              simp -implicitDefEqProofs (disch := first | omega | (simp only [push_size, hset_size]; done) | (simp only [push_size, hset_size]; omega)) [go_sem, t0, t2, t5, t36, t37, eT, w0, w1, p0', p1']
              refine build2i' ?_
              obtain ⟨H7, hH7⟩ : ∃ H2, H2 = h6.push (.cells #[.int .i64 2, .slice X ns.length xc] 40) := ⟨_, rfl⟩
              have q7 : Gr h6 H7 := by rw [hH7]; exact (Fr.refl _ _).push
              have S7 : SlAt H7 (some ⟨h6.size, 0, none⟩) 2 [.int .i64 2, .slice X ns.length xc] := by rw [hH7]; exact SlAt.new (vs := [.int .i64 2, .slice X ns.length xc])
              have hH7s : H7.size = h6.size + 1 := by rw [hH7, push_size]
              rw [← hH7]
              clear hH7
              have f27 := f26.trans q7
              have W7 : StW H7 (h.size + 1) C d ss vs := W.gr (f2.trans f27)
              simp -implicitDefEqProofs (disch := first | omega | (simp only [push_size, hset_size]; done) | (simp only [push_size, hset_size]; omega)) [go_sem, t0, t2, t5, t36, t37, eT]
              refine appendN (sz := 2) (vs := vs) (ws := [.int .i64 2, .slice X ns.length xc]) W7.S (by rw [W7.len]) S7.row rfl (by omega) (by simp [Value.oneCell']) (by omega) (by omega) ?_
              intro C' d' h8 S8 f8 own8
              have hs8 := f8.size
              have nb : ¬ blk C h.size := fun hh => by have := W7.own _ hh; omega
              have x0 := (f8.cell (by omega) nb).trans ((q7.cell (by omega) id).trans p0')
              have x1 := (f8.cell (by omega) nb).trans ((q7.cell (by omega) id).trans p1')
              have xz : ∀ o, hfrz h8 ⟨h.size, o, none⟩ = false := fun o => (f8.frz (by omega) nb).trans ((q7.frz (by omega) id).trans (pz' o))
              simp -implicitDefEqProofs (disch := first | omega | (simp only [push_size, hset_size]; done) | (simp only [push_size, hset_size]; omega)) [go_sem, t0, t2, t5, t36, t37, eT, x0, x1, xz]
              obtain ⟨H9, hH9⟩ : ∃ H2, H2 = hset h8 ⟨h.size, 1, none⟩ (.slice C' (ss.length + 1) d') := ⟨_, rfl⟩
              rw [← hH9]
              have e9 : Fr (fun y => y = h.size) h8 H9 := by rw [hH9]; refine Fr.setA (Fr.refl _ _) ?_; rfl
              have f08 : Gr h h8 := (f02.trans f27).trans' f8 fun y hy hb => by have := W7.own y hb; omega
              have f09 : Gr h H9 := by rw [hH9]; exact f08.newA (by omega)
              have y0 : hcell H9 ⟨h.size, 0, none⟩ = some (.slice B co.length b) := by rw [hH9, hcell_hset, if_neg (by simp)]; exact x0
              have y1 : hcell H9 ⟨h.size, 1, none⟩ = some (.slice C' (ss.length + 1) d') := by rw [hH9, hcell_hset, if_pos ⟨rfl, rfl⟩, x1]; rfl
              have yz : ∀ o, hfrz H9 ⟨h.size, o, none⟩ = false := fun o => by rw [hH9, hfrz_hset]; exact xz o
              have hH9s : H9.size = h8.size := by rw [hH9, hset_size]
              clear hH9
              have hCl : ∀ y, blk C y → y < h1.size := fun y hy => W.S.blk_lt hy
              have W8 : StW h8 (h.size + 1) C' d' (ss ++ [⟨2, ns⟩]) (vs ++ [.int .i64 2, .slice X ns.length xc]) := W7.snoc (s := ⟨2, ns⟩) S8 f8 own8 (by omega) (SX.row.fr0 (f36.trans q7)) hxc
                (fun y hy => ⟨by have := SX.blk_lt hy; omega, fun hh => by have := hCl y hh; have := own y hy; omega, by have := own y hy; omega⟩) (by show ns.length < _; omega) (by show I64 2; unfold I64; omega) hN3.2
              have W9 := W8.fr e9 (fun y hy e => by have := W8.own y hy; omega) fun y _ hy _ e => by omega
              have hln : (ss ++ [(⟨2, ns⟩ : StepS)]).length = ss.length + 1 := by rw [List.length_append]; rfl
              refine ⟨⟨f09, co, B, b, ss ++ [⟨2, ns⟩], C', d', _, line, hline, hN, hck, y0, ?_, hb, fun y hy => ?_, by rw [hln]; exact y1, W9, by omega, by rw [hln]; rfl, fun i s hs => ?_, yz⟩, by omega⟩
              · exact (((RB.fr0 (f2.trans f27)).fr f8 fun y hy => (ownB y hy).2.2).fr e9 fun y hy e => by have := (ownB y hy).2.1; omega)
              · obtain ⟨z1, z2, z3⟩ := ownB y hy
                refine ⟨by omega, z2, fun hh => ?_⟩
                rcases own8 y hh with hh | hh
                · exact z3 hh
                · omega
              · by_cases hi : i < ss.length
                · rw [List.getElem?_append_left hi] at hs
                  exact hall i s hs
                · have e : i = ss.length := by
                    have := (List.getElem?_eq_some_iff.1 hs).1
                    omega
                  subst e
                  rw [List.getElem?_append_right (Nat.le_refl _), Nat.sub_self] at hs
                  cases hs
                  exact ⟨x, hx, hN3, hso⟩
          · simp -implicitDefEqProofs (disch := first | omega | (simp only [push_size, hset_size]; done) | (simp only [push_size, hset_size]; omega)) [go_sem, t0, t2, t5, t36, t37, eT]
            refine ⟨f2.trans (f3.trans (Fr.refl _ _).push), 3, by omega, by omega, fun s hs => ?_⟩
            have h1 := hno s hs
            by_cases e : s.kind = 2
            · exfalso
              refine hno3 ⟨s.lits, ?_⟩
              have := hs.1
              rw [e] at this
              exact this
            · omega
      · have e : kd = 3 := by omega
        subst e
        simp -implicitDefEqProofs (disch := first | omega | (simp only [push_size, hset_size]; done) | (simp only [push_size, hset_size]; omega)) [go_sem, t0, t2, t5, t36, t37, p0, p1, pz]
        refine ⟨.inr ⟨?_, B, co.length, b, C, ss.length, d, ss.length + 3, rfl, by omega, by omega⟩, ?_⟩
        · rintro ⟨c, hc⟩
          obtain ⟨s, hs1, hs2⟩ := step_in hc (i := ss.length) (line := x) (by rw [List.getElem?_drop, show 1 + (ss.length + 1) = ss.length + 2 by omega]; exact hx)
          have := hno s hs2
          have := hs2.2.2.1
          omega
        · iterate 2 refine Fr.newA ?_ (by omega)
          exact f02
end
end Xe

/- Reading numerals in versions. -/
namespace Xe
open Go Go.Proofs
set_option maxRecDepth 16000
set_option maxHeartbeats 2000000

/-- what digits are worth -/
def dval (l : List UInt8) : Nat := l.foldl (fun a c => 10 * a + (c.toNat - 48)) 0
theorem dval_snoc (l : List UInt8) (c : UInt8) : dval (l ++ [c]) = 10 * dval l + (c.toNat - 48) := by unfold dval; rw [List.foldl_append]; rfl
theorem dval_dec : ∀ u : Nat, dval (Lib.decDigits u) = u := by
  intro u
  induction u using Nat.strongRecOn with
  | ind u ih =>
    by_cases hu : u < 10
    · rw [decDigits_small hu]
      show 10 * 0 + ((dgc u).toNat - 48) = u
      rw [dgc_nat hu]; omega
    · rw [decDigits_big hu, dval_snoc, ih (u / 10) (by omega), dgc_nat (by omega)]; omega
theorem dec_head : ∀ u : Nat, 10 ≤ u → ∀ c, (Lib.decDigits u)[0]? = some c → c.toNat ≠ 48 := by
  intro u
  induction u using Nat.strongRecOn with
  | ind u ih =>
    intro hu c hc
    rw [decDigits_big (by omega)] at hc
    by_cases h2 : u / 10 < 10
    · rw [decDigits_small h2] at hc
      simp only [List.cons_append, List.nil_append, List.getElem?_cons_zero, Option.some.injEq] at hc
      subst hc
      rw [dgc_nat h2]; omega
    · rw [List.getElem?_append_left (by have := decDigits_len (u / 10); omega)] at hc
      exact ih (u / 10) (by omega) (by omega) c hc
theorem dec_all (u : Nat) : (Lib.decDigits u).all dig = true := by
  rw [List.all_eq_true]
  intro c hc
  have := decDigits_dig u c hc
  unfold dig
  simp [this]
theorem dec_len1 {u : Nat} (h : 1 < (Lib.decDigits u).length) : 10 ≤ u := by
  by_cases hu : u < 10
  · rw [decDigits_small hu] at h; simp at h
  · omega
/-- the first that is none -/
def NoDig (l : List UInt8) : Prop := ∀ c, l[0]? = some c → dig c = false
theorem tw_dec {u : Nat} {rest : List UInt8} (h : NoDig rest) : ((Lib.decDigits u ++ rest).takeWhile dig).length = (Lib.decDigits u).length := by
  refine takeWhile_len (by simp) ?_ fun c hc => ?_
  · rw [List.take_left']; exact dec_all u; rfl
  · rw [List.getElem?_append_right (Nat.le_refl _), Nat.sub_self] at hc
    exact h c hc

section
variable {h : Heap} {A : Option Addr} {n cp at' : Nat} {l : List UInt8}
/-- what num.Parse hands back -/
def NumR (d : List UInt8) (r : Value) : Prop := ∃ x n e : Nat, r = .tuple #[.int .u64 x, .int .i64 n, .int .i64 e] ∧ x < 18446744073709551616 ∧ n ≤ d.length ∧
  ∀ v rest, v < 9223372036854775808 → d = Lib.decDigits v ++ rest → NoDig rest → x = v ∧ n = (Lib.decDigits v).length ∧ e = 0
def NumTo (d : List UInt8) (k x : Nat) (b : Bool) : Prop := k ≤ d.length ∧ AllT dig (d.take k) ∧ x < 18446744073709551616 ∧ (dval (d.take k) < 9223372036854775808 → x = dval (d.take k) ∧ b = false)
def NumJ (d : List UInt8) (v5 v4 v7 : Value) : Prop := ∃ k x b, v5 = .int .i64 (k : Nat) ∧ v4 = .int .u64 (x : Nat) ∧ v7 = .bool b ∧ NumTo d k x b
theorem wrap64 (v : Int) : IntKind.u64.wrap v = v % 18446744073709551616 := rfl
theorem NumTo.next {d : List UInt8} {k x : Nat} {b : Bool} {c : UInt8} (I : NumTo d k x b) (hc : d[k]? = some c) (hd : 48 ≤ c.toNat ∧ c.toNat ≤ 57) :
    ∃ x' : Nat, IntKind.u64.wrap (IntKind.u64.wrap (10 * (x : Int)) + ((c.toNat : Int) - 48)) = (x' : Int) ∧ NumTo d (k + 1) x' (b || decide (IntKind.u64.wrap ((9223372036854775807 - ((c.toNat : Int) - 48)).tdiv 10) < (x : Int))) := by
  obtain ⟨hk, hA, hx, hv⟩ := I
  have hs : dval (d.take (k + 1)) = 10 * dval (d.take k) + (c.toNat - 48) := by rw [List.take_add_one, hc, Option.toList_some, dval_snoc]
  have ht : (9223372036854775807 - ((c.toNat : Int) - 48)).tdiv 10 = (9223372036854775807 - ((c.toNat : Int) - 48)) / 10 := Int.tdiv_eq_ediv_of_nonneg (by omega)
  rw [ht]
  refine ⟨(((10 * (x : Int)) % 18446744073709551616 + ((c.toNat : Int) - 48)) % 18446744073709551616).toNat, by rw [wrap64, wrap64]; omega, (List.getElem?_eq_some_iff.1 hc).1, all_take hA hc (by unfold dig; simp [hd]), by omega, fun hlt => ?_⟩
  rw [hs] at hlt ⊢
  obtain ⟨h1, rfl⟩ := hv (by omega)
  refine ⟨by omega, ?_⟩
  rw [Bool.false_or]
  exact decide_eq_false (by rw [wrap64]; omega)
/-- where the digits end -/
theorem dec_end {d : List UInt8} {k v : Nat} {rest : List UInt8} (hk : k ≤ d.length) (hA : AllT dig (d.take k)) (he : ∀ c, d[k]? = some c → dig c = false) (hd : d = Lib.decDigits v ++ rest) (hr : NoDig rest) : k = (Lib.decDigits v).length ∧ d.take k = Lib.decDigits v := by
  have h1 := takeWhile_len hk hA he
  have h2 := tw_dec (u := v) hr
  rw [← hd, h1] at h2
  exact ⟨h2, by rw [hd, h2, List.take_left']; rfl⟩
theorem NumTo.fin0 {d : List UInt8} {x : Nat} {b : Bool} (I : NumTo d 0 x b) (he : ∀ c, d[0]? = some c → dig c = false) : NumR d (.tuple #[.int .u64 0, .int .i64 0, .int .i64 2]) :=
  ⟨0, 0, 2, rfl, by omega, by omega, fun v rest hv hd hr => by
    have := (dec_end I.1 I.2.1 he hd hr).1
    have := decDigits_len v
    omega⟩
theorem NumTo.fin1 {d : List UInt8} {k x : Nat} {b : Bool} (I : NumTo d k x b) (he : ∀ c, d[k]? = some c → dig c = false) (h1 : 1 < k) {c : UInt8} (h0 : d[0]? = some c) (hc : c.toNat = 48) : NumR d (.tuple #[.int .u64 0, .int .i64 0, .int .i64 3]) :=
  ⟨0, 0, 3, rfl, by omega, by omega, fun v rest hv hd hr => by
    exfalso
    have h2 := (dec_end I.1 I.2.1 he hd hr).1
    rw [hd, List.getElem?_append_left (by omega)] at h0
    exact dec_head v (dec_len1 (by omega)) c h0 hc⟩
theorem NumTo.fin2 {d : List UInt8} {k x : Nat} (I : NumTo d k x true) (he : ∀ c, d[k]? = some c → dig c = false) : NumR d (.tuple #[.int .u64 0, .int .i64 0, .int .i64 4]) :=
  ⟨0, 0, 4, rfl, by omega, by omega, fun v rest hv hd hr => by
    have h2 := (dec_end I.1 I.2.1 he hd hr).2
    have := I.2.2.2
    rw [h2, dval_dec] at this
    cases (this hv).2⟩
theorem NumTo.fin3 {d : List UInt8} {k x : Nat} {b : Bool} (I : NumTo d k x b) (he : ∀ c, d[k]? = some c → dig c = false) : NumR d (.tuple #[.int .u64 x, .int .i64 k, .int .i64 0]) :=
  ⟨x, k, 0, rfl, I.2.2.1, I.1, fun v rest hv hd hr => by
    have h2 := dec_end I.1 I.2.1 he hd hr
    have := I.2.2.2
    rw [h2.2, dval_dec] at this
    exact ⟨(this hv).1, h2.1, rfl⟩⟩
theorem numParse_ok (R : RowAt h A (l.map byteV)) (hn : n = l.length) (hat : at' ≤ l.length) (hl : l.length < 2 ^ 40) :
    CallsH Tryz.prog 217 [.slice A n cp, .int .i64 at'] h fun r h' => NumR (l.drop at') r ∧ h' = h := by
  subst hn
  refine calls_of 71 [.tmp 4, .tmp 5, .tmp 6] Go.Proofs.Tryz.func217 rfl rfl rfl ?_
  simp -implicitDefEqProofs (disch := first | omega | (simp only [push_size, hset_size]; done) | (simp only [push_size, hset_size]; omega)) [go_sem]
  refine scopeM 0 (fun ρ h' => ρ 0 = .slice A l.length cp ∧ ρ 1 = .int .i64 at' ∧ h' = h ∧ NumJ (l.drop at') (ρ 5) (ρ 4) (ρ 7))
    (fun ρ _ => l.length - (intOf (ρ 5)).toNat) rfl rfl (by kernel_rfl) ?_ ?_
  · simp -implicitDefEqProofs (disch := first | omega | (simp only [push_size, hset_size]; done) | (simp only [push_size, hset_size]; omega)) [go_sem]
    exact ⟨0, 0, false, rfl, rfl, rfl, by omega, AllT.zero, by omega, fun _ => ⟨rfl, rfl⟩⟩
  · rintro ρ h' ⟨r0, r1, rfl, k, x, b, r5, r4, r7, hk, hA, hx, hv⟩
    rw [List.length_drop] at hk
    have eT : ((at' : Int) + (k : Int)).toNat = at' + k := by omega
    by_cases hkl : at' + k < l.length
    · obtain ⟨c, hc⟩ : ∃ c, l[at' + k]? = some c := ⟨_, List.getElem?_eq_getElem hkl⟩
      have hc' : (l.drop at')[k]? = some c := by rw [List.getElem?_drop]; exact hc
      obtain ⟨bk, off, rfl, hcell⟩ := R.get (by simp; omega)
      have c0 := hcell _ _ (bytes_at hc)
      simp -implicitDefEqProofs (disch := first | omega | (simp only [push_size, hset_size]; done) | (simp only [push_size, hset_size]; omega)) [go_sem, r0, r1, r4, r5, r7, eT, c0]
      refine useC (digit_ok c) ?_
      rintro _ h2 ⟨rfl, rfl⟩
      cases hd : dig c with
      | true =>
        have hd' : 48 ≤ c.toNat ∧ c.toNat ≤ 57 := by unfold dig at hd; simpa using hd
        obtain ⟨x', e', I'⟩ := NumTo.next ⟨by rw [List.length_drop]; exact hk, hA, hx, hv⟩ hc' hd'
        cases b with
        | true =>
          simp -implicitDefEqProofs (disch := first | omega | (simp only [push_size, hset_size]; done) | (simp only [push_size, hset_size]; omega)) [go_sem, r0, r1, r4, r5, r7, eT, c0]
          exact ⟨⟨k + 1, x', true, rfl, by rw [e'], rfl, by simpa using I'⟩, by omega⟩
        | false =>
          simp -implicitDefEqProofs (disch := first | omega | (simp only [push_size, hset_size]; done) | (simp only [push_size, hset_size]; omega)) [go_sem, r0, r1, r4, r5, r7, eT, c0]
          exact ⟨⟨k + 1, x', _, rfl, by rw [e'], rfl, by simpa using I'⟩, by omega⟩
      | false =>
        have he : ∀ z, (l.drop at')[k]? = some z → dig z = false := fun z hz => by rw [hc'] at hz; cases hz; exact hd
        have I : NumTo (l.drop at') k x b := ⟨by rw [List.length_drop]; exact hk, hA, hx, hv⟩
        by_cases k0 : k = 0
        · subst k0
          simp -implicitDefEqProofs (disch := first | omega | (simp only [push_size, hset_size]; done) | (simp only [push_size, hset_size]; omega)) [go_sem, r0, r1, r4, r5, r7, eT]
          exact I.fin0 he
        · obtain ⟨c1, hc1⟩ : ∃ c, l[at']? = some c := ⟨_, List.getElem?_eq_getElem (by omega)⟩
          obtain ⟨bk1, off1, hbk, hcell1⟩ := R.get (by simp; omega)
          cases hbk
          have d1 := hcell1 _ _ (bytes_at hc1)
          have hc1' : (l.drop at')[0]? = some c1 := by rw [List.getElem?_drop]; exact hc1
          by_cases k1 : 1 < k
          · by_cases e48 : (c1.toNat : Int) = 48
            · simp -implicitDefEqProofs (disch := first | omega | (simp only [push_size, hset_size]; done) | (simp only [push_size, hset_size]; omega)) [go_sem, r0, r1, r4, r5, r7, eT, k0, k1, d1, e48]
              exact I.fin1 he k1 hc1' (by omega)
            · cases b with
              | true =>
                simp -implicitDefEqProofs (disch := first | omega | (simp only [push_size, hset_size]; done) | (simp only [push_size, hset_size]; omega)) [go_sem, r0, r1, r4, r5, r7, eT, k0, k1, d1, e48]
                exact I.fin2 he
              | false =>
                simp -implicitDefEqProofs (disch := first | omega | (simp only [push_size, hset_size]; done) | (simp only [push_size, hset_size]; omega)) [go_sem, r0, r1, r4, r5, r7, eT, k0, k1, d1, e48]
                exact I.fin3 he
          · cases b with
            | true =>
              simp -implicitDefEqProofs (disch := first | omega | (simp only [push_size, hset_size]; done) | (simp only [push_size, hset_size]; omega)) [go_sem, r0, r1, r4, r5, r7, eT, k0, k1]
              exact I.fin2 he
            | false =>
              simp -implicitDefEqProofs (disch := first | omega | (simp only [push_size, hset_size]; done) | (simp only [push_size, hset_size]; omega)) [go_sem, r0, r1, r4, r5, r7, eT, k0, k1]
              exact I.fin3 he
    · have he : ∀ z, (l.drop at')[k]? = some z → dig z = false := fun z hz => by
        rw [List.getElem?_drop, List.getElem?_eq_none (by omega)] at hz; cases hz
      have I : NumTo (l.drop at') k x b := ⟨by rw [List.length_drop]; exact hk, hA, hx, hv⟩
      by_cases k0 : k = 0
      · subst k0
        simp -implicitDefEqProofs (disch := first | omega | (simp only [push_size, hset_size]; done) | (simp only [push_size, hset_size]; omega)) [go_sem, r0, r1, r4, r5, r7, eT]
        exact I.fin0 he
      · obtain ⟨c1, hc1⟩ : ∃ c, l[at']? = some c := ⟨_, List.getElem?_eq_getElem (by omega)⟩
        obtain ⟨bk1, off1, hbk, hcell1⟩ := R.get (by simp; omega)
        cases hbk
        have d1 := hcell1 _ _ (bytes_at hc1)
        have hc1' : (l.drop at')[0]? = some c1 := by rw [List.getElem?_drop]; exact hc1
        by_cases k1 : 1 < k
        · by_cases e48 : (c1.toNat : Int) = 48
          · simp -implicitDefEqProofs (disch := first | omega | (simp only [push_size, hset_size]; done) | (simp only [push_size, hset_size]; omega)) [go_sem, r0, r1, r4, r5, r7, eT, k0, k1, d1, e48]
            exact I.fin1 he k1 hc1' (by omega)
          · cases b with
            | true =>
              simp -implicitDefEqProofs (disch := first | omega | (simp only [push_size, hset_size]; done) | (simp only [push_size, hset_size]; omega)) [go_sem, r0, r1, r4, r5, r7, eT, k0, k1, d1, e48]
              exact I.fin2 he
            | false =>
              simp -implicitDefEqProofs (disch := first | omega | (simp only [push_size, hset_size]; done) | (simp only [push_size, hset_size]; omega)) [go_sem, r0, r1, r4, r5, r7, eT, k0, k1, d1, e48]
              exact I.fin3 he
        · cases b with
          | true =>
            simp -implicitDefEqProofs (disch := first | omega | (simp only [push_size, hset_size]; done) | (simp only [push_size, hset_size]; omega)) [go_sem, r0, r1, r4, r5, r7, eT, k0, k1]
            exact I.fin2 he
          | false =>
            simp -implicitDefEqProofs (disch := first | omega | (simp only [push_size, hset_size]; done) | (simp only [push_size, hset_size]; omega)) [go_sem, r0, r1, r4, r5, r7, eT, k0, k1]
            exact I.fin3 he
end
end Xe

/- Reading rows of identifiers: parts of a row of bytes as strings. -/
namespace Xe
open Go Go.Proofs
set_option maxRecDepth 16000
set_option maxHeartbeats 2000000
section
variable {h : Heap} {A : Option Addr} {n cp : Nat} {l : List UInt8}
theorem loadN_off {b o : Nat} {l : List UInt8} : ∀ {k i : Nat}, (∀ j x, l[j]? = some x → hcell h ⟨b, o + (i + j), none⟩ = some (byteV x)) → k = l.length → loadN h ⟨b, o, none⟩ i k = some (l.map byteV) := by
  induction l with
  | nil => intro k i _ hk; subst hk; rfl
  | cons c l ih =>
    intro k i hc hk
    subst hk
    have h0 := hc 0 c rfl
    have h1 := ih (k := l.length) (i := i + 1) (fun j x hx => by rw [show i + 1 + j = i + (j + 1) by omega]; exact hc (j + 1) x (by simpa using hx)) rfl
    show (hcell h ((⟨b, o, none⟩ : Addr).add i)).bind _ = _
    rw [show (⟨b, o, none⟩ : Addr).add i = ⟨b, o + i, none⟩ by unfold Addr.add; by_cases e : i = 0 <;> simp [e]]
    rw [Nat.add_zero] at h0
    rw [h0, Option.bind_some, h1]; rfl
theorem b2s_off {b o cp n : Nat} {l : List UInt8} (hc : ∀ (j : Nat) x, l[j]? = some x → hcell h ⟨b, o + j, none⟩ = some (byteV x)) (hn : n = l.length) : b2s (.slice (some ⟨b, o, none⟩) n cp) h = some (S l) := by
  show (loadN h ⟨b, o, none⟩ 0 n).bind _ = _
  rw [loadN_off (l := l) (fun j x hx => by rw [Nat.zero_add]; exact hc j x hx) hn, Option.bind_some, bytesOf_byteV]; rfl
theorem sub_str {i j : Nat} (R : RowAt h A (l.map byteV)) (hcap : l.length ≤ cp) (hij : i ≤ j) (hj : j ≤ l.length) :
    ∃ A', sliceV (some (1, none)) (.slice A l.length cp) (some (.int .i64 i)) (some (.int .i64 j)) = some (.slice A' (j - i) (cp - i)) ∧ b2s (.slice A' (j - i) (cp - i)) h = some (S ((l.drop i).take (j - i))) := by
  have hs : sliceV (some (1, none)) (.slice A l.length cp) (some (.int .i64 i)) (some (.int .i64 j)) = some (.slice (if cp = i then A else A.map (·.add (i * 1))) (j - i) (cp - i)) := by
    unfold sliceV boundV
    simp only [Int.toNat_natCast]
    rw [if_pos (by omega), Option.bind_some, if_pos (by omega)]
    rfl
  refine ⟨_, hs, ?_⟩
  by_cases e : i = j
  · subst e
    rw [Nat.sub_self]
    have : (l.drop i).take 0 = [] := rfl
    rw [this]
    generalize (if cp = i then A else A.map (·.add (i * 1))) = B
    cases B <;> rfl
  · obtain ⟨bk, off, rfl, hc⟩ := R.get (by simp; omega)
    rw [if_neg (by omega), Option.map_some]
    rw [show (⟨bk, off, none⟩ : Addr).add (i * 1) = ⟨bk, off + i, none⟩ by unfold Addr.add; by_cases e : i = 0 <;> simp [e]]
    refine b2s_off (fun k x hx => ?_) (by rw [List.length_take, List.length_drop]; omega)
    have hk : k < j - i := by
      have := (List.getElem?_eq_some_iff.1 hx).1
      rw [List.length_take] at this; omega
    rw [List.getElem?_take, if_pos hk, List.getElem?_drop] at hx
    have := hc (i + k) _ (bytes_at hx)
    rwa [show off + i + k = off + (i + k) by omega]
end
end Xe
