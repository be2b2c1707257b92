/- The document's From, walked. -/
import Derived.Test.YtkghjecglmmloaaGreatL21
import Derived.Test.YtkghjecglmmloaaGreatRowL
namespace Xe
open Go Tp Go.Proofs
set_option maxRecDepth 16000
set_option maxHeartbeats 4000000

section
variable {h : Heap} {T CS GS : Option Addr} {n c q e0 gq e1 : Nat} {s : WS}
theorem from19R_ok (I : WInv s) (D : Dcs s.l) (hvs : s.vars ≤ 1000) (R : RowAt h T (stVs s.l)) (hn : n = s.l.length) (RC : RowsA h CS (s.cs.map (·.lits))) (hq : q = s.cs.length) (hqs : q < 2 ^ 40) (RG : RowAt h GS (bools (s.cs.map (·.gone)))) (hgq : gq = s.cs.length) {id : Int} (i0 : -9223372036854775808 ≤ id) (i1 : id ≤ 9223372036854775807) :
    CallsH Tryz.prog 26 [.slice CS q e0, .slice GS gq e1, .slice T n c, .int .i64 id] h fun r h' => Fr (fun _ => False) h h' ∧ GotR h.size h' r s id := by
  subst hn hq hgq
  have G := I.good
  have hv := I.hv
  have hln := G.len
  refine calls_of 203 [.cell 8 50] Go.Proofs.Tryz.func26 rfl rfl rfl (by kernel_rfl) (Nat.le_of_ble_eq_true rfl) ?_
  simp -implicitDefEqProofs (disch := omega) [go_sem]
  obtain ⟨h1, eh1⟩ : ∃ h1, h1 = h.push (.cells #[.slice none 0 0, .slice none 0 0, .int .i64 0, .int .i64 0] 50) := ⟨_, rfl⟩
  have f1 : Fr (fun _ => False) h h1 := by rw [eh1]; exact (Fr.refl _ _).push
  have B1 : ListB h1 h.size [.slice none 0 0, .slice none 0 0, .int .i64 0, .int .i64 0] := by rw [eh1]; exact ListB.new
  rw [← eh1]
  have bz1 := B1.fz
  have z0 := B1.at' 0 _ rfl
  have z1 := B1.at' 1 _ rfl
  have z2 := B1.at' 2 _ rfl
  have z3 := B1.at' 3 _ rfl
  have nilB : ∀ y, blk none y → h.size ≤ y := fun y ⟨_, h, _⟩ => (nomatch h)
  have none7 : NotThere s id → ∀ h', GotR h.size h' (.agg #[.slice none 0 0, .slice none 0 0, .int .i64 0, .int .i64 7]) s id := fun hn h' => ⟨none, 0, [], none, 0, [], 0, 7, rfl, .inl rfl, .inl rfl, nilB, nilB, by simp, by simp, .none hn, .none hn⟩
  have st4 : ∀ {h' : Heap} {a b c d : Value}, Fr (fun _ => False) h h' → Fr (fun _ => False) h (hset (hset (hset (hset h' ⟨h.size, 0, none⟩ a) ⟨h.size, 1, none⟩ b) ⟨h.size, 2, none⟩ c) ⟨h.size, 3, none⟩ d) := fun f => (((f.new (Nat.le_refl _)).new (Nat.le_refl _)).new (Nat.le_refl _)).new (Nat.le_refl _)
  by_cases h0 : id < 0
  · simp -implicitDefEqProofs (disch := omega) [go_sem, h0, z0, z1, z2, z3, bz1]
    exact ⟨st4 f1, none7 (fun h => by omega) _⟩
  by_cases h2 : (s.cs.length : Int) ≤ id
  · simp -implicitDefEqProofs (disch := omega) [go_sem, h0, h2, z0, z1, z2, z3, bz1]
    exact ⟨st4 f1, none7 (fun _ e he => by have := (List.getElem?_eq_some_iff.1 he).1; omega) _⟩
  obtain ⟨k, rfl⟩ : ∃ k : Nat, id = k := ⟨id.toNat, by omega⟩
  have hkl : k < s.cs.length := by omega
  obtain ⟨en, hen⟩ : ∃ en, s.cs[k]? = some en := ⟨_, List.getElem?_eq_getElem hkl⟩
  obtain ⟨bkG, offG, rfl, hcG⟩ := (RG.fr0 f1).get (by rw [bools_len, List.length_map]; omega)
  have cg := hcG k _ (bools_at (b := en.gone) (by rw [List.getElem?_map, hen]; rfl))
  cases hg : en.gone with
  | true =>
    rw [hg] at cg
    simp -implicitDefEqProofs (disch := omega) [go_sem, h0, h2, cg, z0, z1, z2, z3, bz1]
    exact ⟨st4 f1, none7 (fun _ e he => by rw [Int.toNat_natCast, hen] at he; cases he; exact hg) _⟩
  | false =>
    rw [hg] at cg
    obtain ⟨bkC, offC, Bc, dc, rfl, cc, RB⟩ := (RC.fr0 f1) k en.lits (by rw [List.getElem?_map, hen]; rfl)
    have hcl := I.cl en (List.mem_of_getElem? hen)
    have hel := rise_length (a := 0) (n := s.vars) hcl.1 fun x hx => ⟨(hcl.2 x hx).1, (hcl.2 x hx).2⟩
    have R1 := R.fr0 f1
    have RC1 := RC.fr0 f1
    simp -implicitDefEqProofs (disch := omega) [go_sem, h0, h2, cg, cc]
    refine loopK (fun ρ h' => h' = h1 ∧ ρ 0 = .slice (some ⟨bkC, offC, none⟩) s.cs.length e0 ∧ ρ 2 = .slice T s.l.length c ∧ ρ 8 = .pointer (some ⟨h.size, 0, none⟩) ∧ ρ 9 = .slice Bc en.lits.length dc ∧ ∃ i : Nat, ρ 10 = .int .i64 i ∧ i ≤ en.lits.length ∧ ∀ (j : Nat) y, j < i → en.lits[j]? = some y → trI s.l y = -1)
      (fun ρ _ => en.lits.length - (intOf (ρ 10)).toNat) (by kernel_rfl) ?_ ?_
    · exact ⟨rfl, rfl, rfl, rfl, rfl, 0, rfl, by omega, fun j y hj => by omega⟩
    · rintro ρ h2' ⟨rfl, r0, r2, r8, r9, i, r10, hi, hjj⟩
      by_cases hin : i < en.lits.length
      · obtain ⟨bkB, offB, rfl, hcB⟩ := RB.get (by rw [ints_len]; omega)
        obtain ⟨y, hy⟩ := some_at hin
        have c0 := hcB _ _ (ints_at hy)
        have hyr := hcl.2 y (List.mem_of_getElem? hy)
        simp -implicitDefEqProofs (disch := omega) [go_sem, r0, r2, r8, r9, r10, c0]
        refine useC (at19_ok R1 rfl (by omega) G hv (x := y) (by omega)) ?_
        rintro _ h3 ⟨rfl, rfl⟩
        have bad : trI s.l y ≠ -1 → ∀ h', GotR h.size h' (.agg #[.slice none 0 0, .slice none 0 0, .int .i64 0, .int .i64 10]) s k := fun hne h' =>
          have nf : ¬ FailAt s.l en.lits := fun hf => hne (hf y (List.mem_of_getElem? hy))
          ⟨none, 0, [], none, 0, [], 0, 10, rfl, .inl rfl, .inl rfl, nilB, nilB, by simp, by simp, .nofail rfl hen hg nf, .nofail rfl hen hg nf⟩
        simp -implicitDefEqProofs (disch := omega) [go_sem, r0, r2, r8, r9, r10]
        refine drawK [(0, 0), (1, 0), (2, 0), (3, 0), (4, 0), (5, 0), (6, 0), (7, 1), (8, 0), (9, 0), (10, 0), (11, 1), (12, 0), (13, 0)] mixed (by kernel_rfl) ?_
        rcases trI_cases s.l y with ht | ht | ht
        · obtain ⟨p, t, g1, g2, g3⟩ := true_at G ht
          obtain ⟨bkT, offT, rfl, hcT⟩ := R1.get (by rw [stVs_len]; have := (List.getElem?_eq_some_iff.1 g1).1; omega)
          have ct := hcT _ _ (stVs_at g1).1
          have hpl := (List.getElem?_eq_some_iff.1 g1).1
          have hp0 : ¬ (p : Int) < 0 := by omega
          simp -implicitDefEqProofs (disch := omega) [go_sem, r0, r2, r8, r9, r10, g3, hp0, ct, c0, g2, z0, z1, z2, z3, bz1]
          exact ⟨st4 f1, bad (by omega) _⟩
        · obtain ⟨p, t, g1, g2, g3, _⟩ := false_at G ht
          obtain ⟨bkT, offT, rfl, hcT⟩ := R1.get (by rw [stVs_len]; have := (List.getElem?_eq_some_iff.1 g1).1; omega)
          have ct := hcT _ _ (stVs_at g1).1
          have hpl := (List.getElem?_eq_some_iff.1 g1).1
          have hp0 : ¬ (p : Int) < 0 := by omega
          have hne : ¬ -y = y := by omega
          simp -implicitDefEqProofs (disch := omega) [go_sem, r0, r2, r8, r9, r10, g3, hp0, ct, c0, g2, hne]
          refine ⟨⟨i + 1, by omega, by omega, fun j z hj hz => ?_⟩, by omega⟩
          by_cases e : j = i
          · subst e; rw [hy] at hz; cases hz; exact ht
          · exact hjj j z (by omega) hz
        · have g3 := zero_at ht
          simp -implicitDefEqProofs (disch := omega) [go_sem, r0, r2, r8, r9, r10, g3, z0, z1, z2, z3, bz1]
          exact ⟨st4 f1, bad (by omega) _⟩
      · have hfa : FailAt s.l en.lits := fun y hy => by
          obtain ⟨j, hj⟩ := List.getElem?_of_mem hy
          exact hjj j y (by have := (List.getElem?_eq_some_iff.1 hj).1; omega) hj
        have F0 : Cf s.vars s.l en.lits := ⟨hcl.1, hcl.2, hfa⟩
        simp -implicitDefEqProofs (disch := omega) [go_sem, r0, r2, r8, r9, r10]
        refine useC (vars19_ok (u := []) (A := none) (c := 0) .nil rfl (by simp) RB rfl (by omega) (fun x hx => by have := hcl.2 x hx; omega) List.Pairwise.nil) ?_
        rintro _ h3 ⟨f3, w, U, ua, rfl, SU, ownU, hwp, hwl, hwm⟩
        have f03 := f1.trans f3
        have hwl' : w.length ≤ 1000 := by simp at hwl; omega
        have hwm' : ∀ v, v ∈ w ↔ v ∈ varsL en.lits := fun v => by rw [hwm v]; simp
        have ownU' : ∀ y, blk U y → h.size < y := fun y hy => Nat.lt_of_lt_of_le B1.lt (ownU y hy)
        have B3 := B1.fr f3 fun h => h
        have bz3 := B3.fz
        have y0 := B3.at' 0 _ rfl
        have y1 := B3.at' 1 _ rfl
        have y2 := B3.at' 2 _ rfl
        have y3 := B3.at' 3 _ rfl
        by_cases hnil : en.lits = []
        · simp -implicitDefEqProofs (disch := omega) [go_sem, r0, r2, r8, r9, r10, hnil, y0, y1, y2, y3, bz3]
          have hch : Ch s.cs s.l en.lits [] [] := by rw [hnil]; exact .nil
          exact ⟨st4 f03, none, 0, [], none, 0, [], 0, 0, rfl, .inl rfl, .inl rfl, nilB, nilB, by simp, by simp, .ground rfl hen hg hfa hch (.inl rfl) (.inl rfl), .used rfl hen hg hfa hch (.inl rfl) List.Pairwise.nil fun v => by rw [hnil]; simp [varsL]⟩
        · simp -implicitDefEqProofs (disch := omega) [go_sem, r0, r2, r8, r9, r10, hnil]
          refine useC (last19_ok (R1.fr0 f3) rfl (by omega) G hv (RB.fr0 f3) rfl (by omega) hfa hnil (fun x hx => by have := hcl.2 x hx; omega)) ?_
          rintro _ h4 ⟨rfl, x, rfl, hlat⟩
          have hxf := hfa x hlat.1
          have hxr := hcl.2 x hlat.1
          have R3 := R1.fr0 f3
          simp -implicitDefEqProofs (disch := omega) [go_sem, r0, r2, r8, r9, r10]
          refine useC (at19_ok R3 rfl (by omega) G hv (x := x) (by omega)) ?_
          rintro _ h5 ⟨rfl, rfl⟩
          have hln0 : 0 < s.l.length := by
            obtain ⟨p, t, g1, _⟩ := false_at G hxf
            have := (List.getElem?_eq_some_iff.1 g1).1; omega
          have R3' := R3
          obtain ⟨bkT, offT, rfl, hcT⟩ := R3.get (by rw [stVs_len]; omega)
          obtain ⟨p, t, hpl, hp, hlv, _, _, _, _, _, t2⟩ := step_cells G hcT hxf
          rw [hp]
          simp -implicitDefEqProofs (disch := omega) [go_sem, r0, r2, r8, r9, r10, t2]
          refine loopK (RfJ h s h.size (some ⟨bkT, offT, none⟩) (some ⟨bkC, offC, none⟩) s.l.length c s.cs.length e0 en (t.lv : Int)) (fun ρ _ => (plx s.l (intOf (ρ 13))).toNat) (by kernel_rfl) ?_ ?_
          · exact ⟨r0, r2, r8, rfl, f03, en.lits, [], w, x, _, U, dc, ua, r9, rfl, rfl, rfl, hlat, hlv, .nil, hwp, fun v => by rw [hwm' v]; simp [varsL], RB.fr0 f3, SU.row, ownU', B3⟩
          · clear r0 r2 r8 r9 r10 y0 y1 y2 y3 bz3 z0 z1 z2 z3 bz1
            rintro ρ h6 ⟨r0, r2, r8, r15, f6, k1, rs, w1, x1, A, U1, ka, ua1, r9, r12, r13, r14, hlat1, hlv1, hch, hwp1, hwm1, RA, RU, ownU1, B6⟩
            have F1 := hch.cf I D F0
            have hk1 := F1.len
            have hxf1 := F1.fail x1 hlat1.1
            have hxr1 := F1.rng x1 hlat1.1
            have R6 := R.fr0 f6
            obtain ⟨bT, oT, eT, hc6⟩ := R6.get (by rw [stVs_len]; omega)
            cases eT
            obtain ⟨p1, u1, hpl1, hp1, hlu1, hrs1, _, _, _, q1, q2⟩ := step_cells G hc6 hxf1
            have hw1r : ∀ v ∈ w1, 1 ≤ v ∧ v ≤ s.vars := fun v hv => by
              rcases (hwm1 v).1 hv with h | h
              · obtain ⟨y, hy, rfl⟩ := List.mem_map.1 h
                have := hcl.2 y hy; omega
              · obtain ⟨y, hy, rfl⟩ := List.mem_map.1 h
                obtain ⟨r, hr, hyr⟩ := List.mem_flatten.1 hy
                have := hch.rng I D F0 r hr y hyr; omega
            have hw1l : w1.length ≤ s.vars := by
              have := rise_length (c := w1) (a := 0) (n := s.vars) (List.Pairwise.imp_of_mem (fun {a b} ha hb hl => by have := hw1r a ha; have := hw1r b hb; omega) hwp1) fun v hv => by have := hw1r v hv; omega
              omega
            have hc1 : 1 ≤ cntL s.l k1 (lvx s.l x1) := by
              unfold cntL
              exact List.length_pos_iff.2 fun e => by
                have : x1 ∈ k1.filter fun y => decide (lvx s.l y = lvx s.l x1) := List.mem_filter.2 ⟨hlat1.1, by simp⟩
                rw [e] at this; cases this
            have hcn : cntL s.l k1 (lvx s.l x1) ≤ k1.length := List.length_filter_le _ _
            obtain ⟨cn, hcnt⟩ : ∃ cn, cn = cntL s.l k1 (lvx s.l x1) := ⟨_, rfl⟩
            rw [← hcnt] at r14 hc1 hcn
            by_cases hl0 : t.lv = 0
            · have hl0' : ¬ (0 : Int) < (t.lv : Int) := by omega
              have hl0'' : (t.lv : Int) = 0 := by omega
              have bz6 := B6.fz
              have y0 := B6.at' 0 _ rfl
              have y1 := B6.at' 1 _ rfl
              have y2 := B6.at' 2 _ rfl
              have y3 := B6.at' 3 _ rfl
              have hst : Stop s.l k1 := .inr ⟨x1, hlat1, .inl (by omega)⟩
              have wb := hwm1
              clear hwm1 hw1r hwm' hwm
              simp -implicitDefEqProofs (disch := omega) [go_sem, r0, r2, r8, r9, r12, r13, r14, r15, hl0', hl0'', y0, y1, y2, y3, bz6]
              refine ⟨st4 f6, none, 0, [], U1, ua1, w1, 0, 0, rfl, .inl rfl, row_st4 RU fun v hv => Nat.ne_of_gt (ownU1 v hv), nilB, fun y hy => Nat.le_of_lt (ownU1 y hy), by simp, by omega, .ground rfl hen hg hfa hch hst (.inr ⟨x1, hlat1, by omega⟩), .used rfl hen hg hfa hch hst hwp1 wb⟩
            have hl0' : (0 : Int) < (t.lv : Int) := by omega
            by_cases hn1 : cn = 1
            · have hn1' : ¬ (1 : Int) < (cn : Int) := by omega
              have hl0'' : ¬ (t.lv : Int) = 0 := by omega
              simp -implicitDefEqProofs (disch := omega) [go_sem, r0, r2, r8, r9, r12, r13, r14, r15, hl0', hl0'', hn1']
              have hst : Stop s.l k1 := .inr ⟨x1, hlat1, .inr (by omega)⟩
              obtain ⟨hPc, hFc⟩ := backC_all G F1.rise F1.fail
              have S0 : backC s.l k1 0 = [] := rfl
              refine loopK (fun ρ h' => ρ 0 = .slice (some ⟨bkC, offC, none⟩) s.cs.length e0 ∧ ρ 2 = .slice (some ⟨bkT, offT, none⟩) s.l.length c ∧ ρ 8 = .pointer (some ⟨h.size, 0, none⟩) ∧ ρ 12 = .slice U1 w1.length ua1 ∧ ρ 13 = .int .i64 x1 ∧ Fr (fun _ => False) h6 h' ∧
                  ∃ (j : Nat) (A : Option Addr) (ka : Nat), ρ 17 = .int .i64 ((s.l.length : Int) - 1 - j) ∧ j ≤ s.l.length ∧ ρ 9 = .slice A (shr s x1 k1 (backC s.l k1 j)).length ka ∧ RowAt h' A (ints (shr s x1 k1 (backC s.l k1 j))))
                (fun ρ _ => (intOf (ρ 17) + 1).toNat) (by kernel_rfl) ?_ ?_
              · exact ⟨r0, r2, r8, r12, r13, Fr.refl _ _, 0, A, ka, by simp -implicitDefEqProofs [go_sem], by omega, r9, RA⟩
              · clear r0 r2 r8 r9 r12 r13 r14 r15
                rintro ρ h8 ⟨r0, r2, r8, r12, r13, f8, j, A2, ka2, r17, hj, r9, RA2⟩
                obtain ⟨kc, hkc⟩ : ∃ kc, kc = shr s x1 k1 (backC s.l k1 j) := ⟨_, rfl⟩
                have hsub : kc.Sublist k1 := by rw [hkc]; exact shr_sub
                have hkcl := hsub.length_le
                rw [← hkc] at r9 RA2
                have f08 := f6.trans f8
                by_cases hjn : j < s.l.length
                · obtain ⟨u, hu⟩ : ∃ u, s.l[s.l.length - 1 - j]? = some u := ⟨_, List.getElem?_eq_getElem (by omega)⟩
                  have R8 := R.fr0 f08
                  obtain ⟨bT, oT, eT, hc8⟩ := R8.get (by rw [stVs_len]; omega)
                  cases eT
                  have ct := hc8 _ _ (stVs_at hu).1
                  have hur := G.rng u (List.mem_of_getElem? hu)
                  have ei : ((s.l.length : Int) - 1 - j).toNat = s.l.length - 1 - j := by omega
                  simp -implicitDefEqProofs (disch := omega) [go_sem, r0, r2, r8, r9, r12, r13, r17, ei, ct]
                  obtain ⟨y, hyd⟩ : ∃ y, y = -u.lit := ⟨_, rfl⟩
                  have ey : (0 : Int) - u.lit = y := by omega
                  have hb := backC_succ (c := k1) hu hjn
                  rw [← hyd] at hb
                  have hynot : y ∉ backC s.l k1 j := fun hm => backL_nd G hu hjn (by rw [← hyd]; exact (List.mem_filter.1 hm).1)
                  have hyin : y ∈ kc ↔ y ∈ k1 := ⟨fun h => hsub.subset h, fun h => by rw [hkc]; exact shr_mem h hynot⟩
                  have hnext : shr s x1 k1 (backC s.l k1 (j + 1)) = if y ∈ k1 then shr1 s x1 kc y else kc := by
                    rw [hb]
                    split
                    · rw [shr_snoc, ← hkc]
                    · exact hkc.symm
                  by_cases hyx : y = x1
                  · simp -implicitDefEqProofs (disch := omega) [go_sem, r0, r2, r8, r9, r12, r13, r17, ey, hyx]
                    have hsame : shr s x1 k1 (backC s.l k1 (j + 1)) = kc := by
                      rw [hnext]
                      split
                      · unfold shr1; rw [if_neg (fun h => h.1 hyx)]
                      · rfl
                    exact ⟨⟨f8, j + 1, by omega, by omega, A2, ⟨rfl, by rw [hsame]⟩, by rw [hsame]; exact RA2⟩, by omega⟩
                  simp -implicitDefEqProofs (disch := omega) [go_sem, r0, r2, r8, r9, r12, r13, r17, ey, hyx]
                  rw [← hyd]
                  refine useC (has12_ok RA2 rfl (by omega) y) ?_
                  rintro _ h9 ⟨rfl, rfl⟩
                  by_cases hyc : y ∈ kc
                  · have hyk := hyin.1 hyc
                    rw [if_pos hyk] at hnext
                    have hyf := F1.fail y hyk
                    have hyr := F1.rng y hyk
                    simp -implicitDefEqProofs (disch := omega) [go_sem, r0, r2, r8, r9, r12, r13, r17, hyc, ey]
                    refine useC (needless19_ok (R.fr0 f08) rfl I (by omega) (RC.fr0 f08) rfl (by omega) RA2 rfl (by omega) hyf (by omega)) ?_
                    rintro _ h10 ⟨rfl, f10⟩
                    by_cases hnd : ndl s kc y = true
                    · have hsh : shr1 s x1 kc y = kc.filter fun z => decide (z ≠ y) := by unfold shr1; rw [if_pos ⟨hyx, hnd⟩]
                      rw [hsh] at hnext
                      simp -implicitDefEqProofs (disch := omega) [go_sem, r0, r2, r8, r9, r12, r13, r17, hnd, ey]
                      refine useC (rest19_ok (RA2.fr0 f10) rfl (by omega) y) ?_
                      rintro _ h11 ⟨f11, A3, k3, rfl, SA3, ownA3⟩
                      simp -implicitDefEqProofs (disch := omega) [go_sem, r0, r2, r8, r9, r12, r13, r17, hnd, ey]
                      exact ⟨⟨f8.trans (f10.trans f11), j + 1, by omega, by omega, A3, ⟨rfl, by rw [hnext]; simp⟩, by rw [hnext]; exact SA3.row⟩, by omega⟩
                    · have hsh : shr1 s x1 kc y = kc := by unfold shr1; rw [if_neg fun h => hnd h.2]
                      rw [hsh] at hnext
                      simp -implicitDefEqProofs (disch := omega) [go_sem, r0, r2, r8, r9, r12, r13, r17, hnd, ey]
                      exact ⟨⟨f8.trans f10, j + 1, by omega, by omega, A2, ⟨rfl, by rw [hnext]⟩, by rw [hnext]; exact RA2.fr0 f10⟩, by omega⟩
                  · have hyk : y ∉ k1 := fun h => hyc (hyin.2 h)
                    rw [if_neg hyk] at hnext
                    simp -implicitDefEqProofs (disch := omega) [go_sem, r0, r2, r8, r9, r12, r13, r17, hyc]
                    exact ⟨⟨f8, j + 1, by omega, by omega, A2, ⟨rfl, by rw [hnext]⟩, by rw [hnext]; exact RA2⟩, by omega⟩
                · have ej : j = s.l.length := by omega
                  subst ej
                  simp -implicitDefEqProofs (disch := omega) [go_sem, r0, r2, r8, r9, r12, r13, r17]
                  obtain ⟨ha, eha⟩ : ∃ ha, ha = h8.push (.cells #[.slice none 0 0, .slice none 0 0, .int .i64 0, .int .i64 0] 50) := ⟨_, rfl⟩
                  have fa : Fr (fun _ => False) h8 ha := by rw [eha]; exact (Fr.refl _ _).push
                  have Ba : ListB ha h8.size [.slice none 0 0, .slice none 0 0, .int .i64 0, .int .i64 0] := by rw [eha]; exact ListB.new
                  rw [← eha]
                  obtain ⟨h9, eh9⟩ : ∃ h9, h9 = hset (hset (hset (hset ha ⟨h8.size, 0, none⟩ (.slice none 0 0)) ⟨h8.size, 1, none⟩ (.slice U1 w1.length ua1)) ⟨h8.size, 2, none⟩ (.int .i64 0)) ⟨h8.size, 3, none⟩ (.int .i64 0) := ⟨_, rfl⟩
                  have f9 : Fr (fun _ => False) h8 h9 := by rw [eh9]; exact (((fa.new (Nat.le_refl _)).new (Nat.le_refl _)).new (Nat.le_refl _)).new (Nat.le_refl _)
                  have B9 : ListB h9 h8.size [.slice none 0 0, .slice U1 w1.length ua1, .int .i64 0, .int .i64 0] := by
                    rw [eh9]
                    exact (((Ba.set (i := 0) (.slice none 0 0) (by simp)).set (i := 1) (.slice U1 w1.length ua1) (by simp)).set (i := 2) (.int .i64 0) (by simp)).set (i := 3) (.int .i64 0) (by simp)
                  rw [← eh9]
                  have res := FromR.taught (id := (k : Int)) rfl hen hg hfa hch hst hlat1 (by omega) hPc hFc
                  rw [← hkc] at res
                  refine loopK (GvJ h8 h.size s kc x1 A2 (some ⟨bkT, offT, none⟩) U1 ka2 s.l.length c w1.length ua1) (fun ρ _ => kc.length - (intOf (ρ 20)).toNat) (by kernel_rfl) ?_ ?_
                  · exact ⟨r2, r8, r9, r13, rfl, f9, 0, none, 0, rfl, by omega, B9, SlAt.nil _, fun y ⟨_, h, _⟩ => (nomatch h)⟩
                  · rintro ρ h10 ⟨r2, r8, r9, r13, r19, f10, i, C, cc, r20, hi, B10, SC, ownC⟩
                    have f010 := f08.trans f10
                    obtain ⟨ci, hci⟩ : ∃ ci, ci = flL s (kc.take i) := ⟨_, rfl⟩
                    have hcil : ci.length ≤ i := by
                      have := flL_le s (kc.take i)
                      rw [List.length_take] at this
                      rw [hci]; omega
                    rw [← hci] at B10 SC
                    have bz10 := B10.fz
                    have u0 := B10.at' 0 _ rfl
                    have u1 := B10.at' 1 _ rfl
                    have u2 := B10.at' 2 _ rfl
                    have u3 := B10.at' 3 _ rfl
                    by_cases hin : i < kc.length
                    · have RA10 := RA2.fr0 f10
                      obtain ⟨bkA, offA, rfl, hcA⟩ := RA10.get (by rw [ints_len]; omega)
                      obtain ⟨y, hy⟩ := some_at hin
                      have c0 := hcA _ _ (ints_at hy)
                      have hyk := hsub.subset (List.mem_of_getElem? hy)
                      have hyf := F1.fail y hyk
                      have hyr := F1.rng y hyk
                      have R10 := R.fr0 f010
                      obtain ⟨bT, oT, eT, hcT10⟩ := R10.get (by rw [stVs_len]; omega)
                      cases eT
                      obtain ⟨py, uy, hply, hpy, hluy, _, _, _, _, _, qy⟩ := step_cells G hcT10 hyf
                      have hsn := flL_snoc s (kc.take i) y
                      rw [← take_at hy, ← hci, hluy] at hsn
                      simp -implicitDefEqProofs (disch := omega) [go_sem, r2, r8, r9, r13, r19, r20, c0]
                      refine useC (at19_ok R10 rfl (by omega) G hv (x := y) (by omega)) ?_
                      rintro _ h11 ⟨rfl, rfl⟩
                      rw [hpy]
                      by_cases hl0y : uy.lv = 0
                      · rw [if_pos (by omega)] at hsn
                        have hl0y' : (uy.lv : Int) = 0 := by omega
                        simp -implicitDefEqProofs (disch := omega) [go_sem, r2, r8, r9, r13, r19, r20, qy, hl0y, hl0y']
                        exact ⟨⟨r2, r8, r9, r13, r19, f10, i + 1, C, cc, rfl, by omega, by rw [hsn]; exact B10, by rw [hsn]; exact SC, ownC⟩, by omega⟩
                      · rw [if_neg (by omega)] at hsn
                        have hl0y' : ¬ (uy.lv : Int) = 0 := by omega
                        simp -implicitDefEqProofs (disch := omega) [go_sem, r2, r8, r9, r13, r19, r20, qy, hl0y, hl0y']
                        refine drawC [(0, 0), (1, 2), (2, 0), (3, 0), (4, 0), (5, 1), (6, 3), (7, 3), (8, 0), (9, 4)] (fun h' => hcell h' ⟨h8.size, 0, none⟩ = some (.slice C ci.length cc)) mixed (by kernel_rfl) u0 ?_
                        simp -implicitDefEqProofs (disch := omega) [go_sem, r2, r8, r9, r13, r19, r20, c0]
                        refine float2 (.slice C ci.length cc) (fun h' hC => by simp -implicitDefEqProofs (disch := omega) [go_sem, r19, hC]) ?_
                        simp -implicitDefEqProofs (disch := omega) [go_sem, r2, r8, r9, r13, r19, r20, c0]
                        refine build1 rfl rfl ?_
                        have f12 : Fr (fun _ => False) h11 (h11.push (.cells #[.int .i64 y] 3)) := (Fr.refl _ _).push
                        refine ⟨(f12.cell (hcell_lt u0) id).trans u0, ?_⟩
                        simp -implicitDefEqProofs (disch := omega) [go_sem, r2, r8, r9, r13, r19, r20]
                        refine appendN (sz := 1) (vs := ints ci) (ws := [.int .i64 y]) (by rw [Nat.mul_one]; exact SC.fr f12 fun _ _ => id) (by rw [ints_len, Nat.mul_one]) (SlAt.new (vs := [.int .i64 y])).row rfl (by omega) (by simp [Value.oneCell']) (by omega) (by omega) ?_
                        intro A4 cap4 h14 S4 f14 hA4
                        rw [Nat.mul_one, show ints ci ++ [Value.int .i64 y] = ints (ci ++ [y]) by rw [ints_append]; rfl, ← hsn] at S4
                        have f1114 : Fr (blk C) h11 h14 := (f12.mono fun _ _ h => h.elim).trans' f14 fun _ _ h => h
                        have nx : ¬ blk C h8.size := fun h => Nat.lt_irrefl _ (ownC _ h)
                        have B14 := B10.fr f1114 nx
                        have b40 := B14.at' 0 _ rfl
                        have b42 := B14.at' 2 _ rfl
                        have fz14 := B14.fz
                        have g11 := f10.size
                        refine ⟨b40, ?_⟩
                        have B15 := B14.set (i := 0) (.slice A4 (ci.length + 1) cap4) (by simp)
                        have elen : (flL s (kc.take (i + 1))).length = ci.length + 1 := by rw [hsn, List.length_append]; rfl
                        have hA4' : ∀ z, blk A4 z → h8.size < z := fun z hz => by
                          rcases hA4 z hz with h | h
                          · exact ownC z h
                          · rw [push_size] at h
                            have := B10.lt
                            omega
                        obtain ⟨h15, eh15⟩ : ∃ h15, h15 = hset h14 ⟨h8.size, 0, none⟩ (.slice A4 (ci.length + 1) cap4) := ⟨_, rfl⟩
                        have S15 : SlAt h15 A4 cap4 (ints (flL s (kc.take (i + 1)))) := by
                          rw [eh15]
                          exact S4.keep (fun z hz => hset_other (show z ≠ h8.size from Nat.ne_of_gt (hA4' z hz))) (by rw [hset_size]; exact Nat.le_refl _)
                        have f815 : Fr (fun _ => False) h8 h15 := by
                          rw [eh15]
                          exact (f10.trans' f1114 fun z hz h => by have := ownC z h; omega).new (Nat.le_refl _)
                        rw [← eh15] at B15
                        have v2 := B15.at' 2 _ rfl
                        have bz15 := B15.fz
                        obtain ⟨bkA', offA', eA', hcA'⟩ := (RA2.fr0 f815).get (by rw [ints_len]; omega)
                        cases eA'
                        have c1 := hcA' _ _ (ints_at hy)
                        obtain ⟨m, hm⟩ : ∃ m, m = mxL s.l x1 ci := ⟨_, rfl⟩
                        have hms := mxL_snoc (l := s.l) (keep := x1) (c := ci) (x := y)
                        rw [← hm, hluy] at hms
                        rw [← hm] at v2 B15
                        by_cases hyx : y = x1
                        · rw [if_neg (by simpa using hyx)] at hms
                          simp -implicitDefEqProofs (disch := omega) [go_sem, r2, r8, r9, r13, r19, r20, fz14, b40, ← eh15, c1, hyx]
                          refine ⟨⟨r2, r8, r9, r13, r19, f815, i + 1, A4, cap4, rfl, by omega, ?_, S15, hA4'⟩, by omega⟩
                          rw [elen, hsn, hms]; simpa using B15
                        · rw [if_pos hyx] at hms
                          by_cases hgt : m < (uy.lv : Int)
                          · rw [show max m (uy.lv : Int) = uy.lv by omega] at hms
                            simp -implicitDefEqProofs (disch := omega) [go_sem, r2, r8, r9, r13, r19, r20, fz14, b40, ← eh15, c1, hyx, v2, hgt, bz15, b42]
                            have B16 := B15.set (i := 2) (.int .i64 (uy.lv : Int)) (by simp)
                            refine ⟨⟨r2, r8, r9, r13, r19, f815.new (Nat.le_refl _), i + 1, A4, cap4, rfl, by omega, ?_, S15.keep (fun z hz => hset_other (show z ≠ h8.size from Nat.ne_of_gt (hA4' z hz))) (by rw [hset_size]; exact Nat.le_refl _), hA4'⟩, by omega⟩
                            rw [elen, hsn, hms]; simpa using B16
                          · rw [show max m (uy.lv : Int) = m by omega] at hms
                            simp -implicitDefEqProofs (disch := omega) [go_sem, r2, r8, r9, r13, r19, r20, fz14, b40, ← eh15, c1, hyx, v2, hgt]
                            refine ⟨⟨r2, r8, r9, r13, r19, f815, i + 1, A4, cap4, rfl, by omega, ?_, S15, hA4'⟩, by omega⟩
                            rw [elen, hsn, hms]; simpa using B15
                    · have B10' := (B6.fr f8 fun h => h).fr f10 fun h => h
                      have bz6 := B10'.fz
                      have y0 := B10'.at' 0 _ rfl
                      have y1 := B10'.at' 1 _ rfl
                      have y2 := B10'.at' 2 _ rfl
                      have y3 := B10'.at' 3 _ rfl
                      simp -implicitDefEqProofs (disch := omega) [go_sem, r2, r8, r9, r13, r19, r20, u0, u1, u2, u3, bz10, y0, y1, y2, y3, bz6]
                      have ei : i = kc.length := by omega
                      rw [List.take_of_length_le (by omega)] at hci
                      have eci : ci = kc.filter fun y => !decide (lvx s.l y = 0) := hci
                      rw [← eci] at res
                      have RU10 := (RU.fr0 f8).fr0 f10
                      have hz8 := f08.size
                      exact ⟨st4 f010, C, cc, ci, U1, ua1, w1, _, 0, rfl, row_st4 SC.row fun v hv => by have := ownC v hv; omega, row_st4 RU10 fun v hv => Nat.ne_of_gt (ownU1 v hv), fun v hv => by have := ownC v hv; omega, fun y hy => Nat.le_of_lt (ownU1 y hy), by omega, by omega, res, .used rfl hen hg hfa hch hst hwp1 hwm1⟩
            · have hn1' : (1 : Int) < (cn : Int) := by omega
              obtain ⟨kk, ee, hkk, hee, hge, hxe, hrest, hre, hrr, z, hz1, hz2, hz3⟩ := step_ex I D F1 hlat1 (by omega) (by omega)
              have hkkl := (List.getElem?_eq_some_iff.1 hee).1
              have hq1 : u1.rs = (kk : Int) := by omega
              rw [hq1] at q1
              obtain ⟨bC, oC, Bk, dk, eC, ck, RBk⟩ := (RC.fr0 f6) kk ee.lits (by rw [List.getElem?_map, hee]; rfl)
              cases eC
              have heel := rise_length (a := 0) (n := s.vars) hre fun x hx => ⟨(hrr x hx).1, (hrr x hx).2⟩
              simp -implicitDefEqProofs (disch := omega) [go_sem, r0, r2, r8, r9, r12, r13, r14, r15, hl0', hn1']
              refine useC (at19_ok R6 rfl (by omega) G hv (x := x1) (by omega)) ?_
              rintro _ h7 ⟨rfl, rfl⟩
              rw [hp1]
              simp -implicitDefEqProofs (disch := omega) [go_sem, r0, r2, r8, r9, r12, r13, r14, r15, q1, ck]
              refine useC (vars19_ok RU rfl (by omega) RBk rfl (by omega) (fun x hx => by have := hrr x hx; omega) hwp1) ?_
              rintro _ h8 ⟨f8, w2, U2, ua2, rfl, SU2, ownU2, hwp2, hwl2, hwm2⟩
              simp -implicitDefEqProofs (disch := omega) [go_sem, r0, r2, r8, r9, r12, r13, r14, r15]
              refine useC (rest19_ok (RA.fr0 f8) rfl (by omega) x1) ?_
              rintro _ h9 ⟨f9, X1, xe1, rfl, SX1, ownX1⟩
              simp -implicitDefEqProofs (disch := omega) [go_sem, r0, r2, r8, r9, r12, r13, r14, r15]
              refine useC (rest19_ok ((RBk.fr0 f8).fr0 f9) rfl (by omega) (-x1)) ?_
              rintro _ h10 ⟨f10, X2, xe2, rfl, SX2, ownX2⟩
              obtain ⟨a1, ha1⟩ : ∃ a1, a1 = k1.filter fun y => decide (y ≠ x1) := ⟨_, rfl⟩
              obtain ⟨a2, ha2⟩ : ∃ a2, a2 = ee.lits.filter fun y => decide (y ≠ -x1) := ⟨_, rfl⟩
              rw [← ha1] at SX1 ⊢
              rw [← ha2] at SX2 ⊢
              have ha1l : a1.length ≤ k1.length := by rw [ha1]; exact List.length_filter_le _ _
              have ha2l : a2.length ≤ ee.lits.length := by rw [ha2]; exact List.length_filter_le _ _
              have SX1' := SX1.fr f10 fun _ _ h => h
              simp -implicitDefEqProofs (disch := omega) [go_sem, r0, r2, r8, r9, r12, r13, r14, r15]
              refine appendB (vs := ints a1) (ws := ints a2) SX1' (by rw [ints_len]) SX2.row (by rw [ints_len]) ints_one (by omega) (by omega) ?_
              intro A11 c11 h11 S11 f11 h11A
              rw [← ints_append] at S11
              have hla : (a1 ++ a2).length = a1.length + a2.length := List.length_append
              have hcap := S11.len
              rw [ints_len] at hcap
              have rng12 : ∀ y ∈ a1 ++ a2, 1 ≤ y.natAbs ∧ y.natAbs ≤ s.vars := fun y hy => by
                rcases List.mem_append.1 hy with hy | hy
                · rw [ha1] at hy; exact F1.rng y (List.mem_filter.1 hy).1
                · rw [ha2] at hy; exact hrr y (List.mem_filter.1 hy).1
              simp -implicitDefEqProofs (disch := omega) [go_sem, r0, r2, r8, r9, r12, r13, r14, r15]
              refine useC (clean12_ok S11.row hla.symm (by omega) (fun y hy => by have := rng12 y hy; omega) (by omega)) ?_
              rintro _ h12 ⟨⟨o, hC, hr12⟩, f12⟩
              have m12 : ∀ y, y ∈ a1 ++ a2 ↔ (y ∈ k1 ∧ y ≠ x1) ∨ (y ∈ ee.lits ∧ y ≠ -x1) := fun y => by
                rw [List.mem_append, ha1, ha2, List.mem_filter, List.mem_filter, decide_eq_true_eq, decide_eq_true_eq]
              have fal12 : ∀ y ∈ a1 ++ a2, trI s.l y = -1 := fun y hy => by
                rcases (m12 y).1 hy with h | h
                · exact F1.fail y h.1
                · exact (hrest y h.1 h.2).1
              cases o with
              | none =>
                obtain ⟨y, hy, _, hny⟩ := hC
                have g1 := tr_m1.1 (fal12 y hy)
                have g2 := tr_m1.1 (fal12 (-y) hny)
                rw [Int.neg_neg] at g2
                exact absurd g2.2 g1.1
              | some L =>
                obtain ⟨A13, c13, rfl, S13, own13⟩ := hr12
                have hLm : ∀ y, y ∈ L ↔ (y ∈ k1 ∧ y ≠ x1) ∨ (y ∈ ee.lits ∧ y ≠ -x1) := fun y => by
                  rw [hC.2 y, ← m12 y]
                  exact ⟨fun h => h.1, fun h => ⟨h, by have := rng12 y h; unfold okL; omega⟩⟩
                have hst : Stp1 s.cs s.l k1 ee.lits L := ⟨x1, hlat1, by omega, by omega, ⟨kk, ee, hkk, hee, hge, rfl⟩, hC.1, hLm⟩
                obtain ⟨FL, ⟨x', hx', hpl', hll', z', hz', hzl'⟩, _⟩ := hst.next I D F1
                have exx := hx'.uniq G F1.fail hlat1
                subst exx
                have hL0 : L ≠ [] := fun e => by rw [e] at hz'; cases hz'
                have hLl := FL.len
                have z8 := f8.size
                have fA : Fr (fun _ => False) h7 h12 := (((f8.trans f9).trans f10).trans' f11 fun y hy hb => by have := ownX1 y hb; omega).trans f12
                have f012 : Fr (fun _ => False) h h12 := f6.trans fA
                have R12 := R.fr0 f012
                simp -implicitDefEqProofs (disch := omega) [go_sem, r0, r2, r8, r9, r12, r13, r14, r15]
                refine useC (last19_ok R12 rfl (by omega) G hv S13.row rfl (by omega) FL.fail hL0 (fun y hy => by have := FL.rng y hy; omega)) ?_
                rintro _ h13 ⟨rfl, x2, rfl, hlat2⟩
                have hx2l : lvx s.l x2 = lvx s.l x' := by
                  have g1 := hll' x2 hlat2.1
                  have g2 := lvx_mono G I.lvs (FL.fail z' hz') (FL.fail x2 hlat2.1) (hlat2.2 z' hz')
                  omega
                have hp2 := hpl' x2 hlat2.1
                have hp0 : 0 ≤ plx s.l x2 := by
                  obtain ⟨_, _, _, _, h3, _⟩ := false_at G (FL.fail x2 hlat2.1)
                  omega
                simp -implicitDefEqProofs (disch := omega) [go_sem, r0, r2, r8, r9, r12, r13, r14, r15]
                have f812 : Fr (fun _ => False) h8 h13 := ((f9.trans f10).trans' f11 fun y hy hb => by have := ownX1 y hb; omega).trans f12
                refine ⟨⟨r0, r2, r8, r15, f012, L, rs ++ [ee.lits], w2, x2, A13, U2, c13, ua2, rfl, rfl, rfl, rfl, hlat2, by omega, .step hch hst, hwp2, fun v => ?_, S13.row, SU2.row.fr0 f812, fun y hy => ?_, B6.fr fA fun h => h⟩, by omega⟩
                · rw [hwm2 v, hwm1 v, List.flatten_append]
                  unfold varsL
                  rw [List.map_append, List.mem_append]
                  simp only [List.flatten_cons, List.flatten_nil, List.append_nil]
                  constructor
                  · rintro ((h | h) | h)
                    · exact .inl h
                    · exact .inr (.inl h)
                    · exact .inr (.inr h)
                  · rintro (h | h | h)
                    · exact .inl (.inl h)
                    · exact .inl (.inr h)
                    · exact .inr h
                · exact Nat.lt_of_lt_of_le B6.lt (ownU2 y hy)
end
end Xe

/- The law's own 'steps' of layer 19: a base's trail and clauses as the document's. -/
namespace Xe
open Go Tp Go.Proofs
set_option maxRecDepth 16000
set_option maxHeartbeats 1000000

theorem bools_append (l m : List Bool) : bools (l ++ m) = bools l ++ bools m := by simp [bools]
section
variable {h : Heap} {bb : Nat} {p : BP} {s : WS}
theorem RowsK.frS {N : Nat} {A : Option Addr} {cap : Nat} {K : List (List Int)} {vs : List Value} (R : RowsK h N A cap K vs) {S : Nat → Prop} {h' : Heap} (f : Fr S h h') (hA : ∀ y, blk A y → ¬ S y) (hD : ∀ B n d, Value.slice B n d ∈ vs → ∀ y, blk B y → ¬ S y) : RowsK h' N A cap K vs where
  S := R.S.fr f hA
  len := R.len
  own := R.own
  one := R.one
  at' i k hk := by
    obtain ⟨B, c, h1, h2, h3⟩ := R.at' i k hk
    exact ⟨B, c, h1, h2.fr f (hD B _ c (List.mem_of_getElem? h1)), fun y hy => ⟨Nat.lt_of_lt_of_le (h3 y hy).1 f.size, (h3 y hy).2⟩⟩

/-- what stands in the second loop -/
structure S2J (h2 : Heap) (bb : Nat) (T : Option Addr) (n c : Nat) (Ks : List (List Int)) (gs : List Bool) (q : Nat) (ρ : Env) (h' : Heap) : Prop where
  r0 : ρ 0 = .pointer (some ⟨bb, 0, none⟩)
  r5 : ρ 5 = .slice T n c
  fr : Fr (fun _ => False) h2 h'
  ex : ∃ (i : Nat) (X : Option Addr) (xc : Nat) (vs : List Value) (G : Option Addr) (gc : Nat), ρ 11 = .int .i64 i ∧ i ≤ q ∧ ρ 9 = .slice X (Ks.take i).length xc ∧ RowsK h' h2.size X xc (Ks.take i) vs ∧
    ρ 10 = .slice G (gs.take i).length gc ∧ SlAt h' G gc (bools (gs.take i)) ∧ (∀ y, blk G y → h2.size ≤ y) ∧ (∀ y, blk X y → ¬ blk G y) ∧ (∀ B n d, Value.slice B n d ∈ vs → ∀ y, blk B y → y < h'.size ∧ ¬ blk G y)

theorem steps19_ok (M : BaseM h bb p s) (I : WInv s) (Rn : Rm s.l) (g : ∀ e ∈ s.cs, e.gone = false) :
    CallsH Tryz.prog 25 [.pointer (some ⟨bb, 0, none⟩)] h fun r h' => Fr (fun _ => False) h h' ∧ ∃ T tc CS cc GS gc, r = .tuple #[.slice T s.l.length tc, .slice CS s.cs.length cc, .slice GS s.cs.length gc] ∧ RowAt h' T (stVs s.l) ∧ RowsA h' CS (s.cs.map (·.lits)) ∧ RowAt h' GS (bools (s.cs.map (·.gone))) := by
  have hT := M.T.len
  have hv := M.T.hv
  refine calls_of 68 [.tmp 2, .tmp 3, .tmp 4] Go.Proofs.Tryz.func25 rfl rfl rfl (by kernel_rfl) (Nat.le_of_ble_eq_true rfl) ?_
  simp -implicitDefEqProofs (disch := omega) [go_sem]
  refine useC (btrail_m M) ?_
  rintro _ h1 ⟨rfl, rfl⟩
  simp -implicitDefEqProofs (disch := omega) [go_sem]
  refine useC (tlits_ok M.T) ?_
  rintro _ h1 ⟨L, lc, rfl, SL, ownL, f1⟩
  simp -implicitDefEqProofs (disch := omega) [go_sem]
  refine loopK (fun ρ h' => ρ 0 = .pointer (some ⟨bb, 0, none⟩) ∧ ρ 6 = .slice L s.l.length lc ∧ ∃ (i : Nat) (T : Option Addr) (tc : Nat), ρ 7 = .int .i64 i ∧ i ≤ s.l.length ∧ ρ 5 = .slice T i tc ∧ SlAt h' T (tc * 3) (stVs (s.l.take i)) ∧ (∀ y, blk T y → h1.size ≤ y) ∧ Fr (fun _ => False) h1 h')
    (fun ρ _ => s.l.length - (intOf (ρ 7)).toNat) (by kernel_rfl) ?_ ?_
  · exact ⟨rfl, rfl, 0, none, 0, rfl, by omega, rfl, SlAt.nil _, fun y ⟨_, h, _⟩ => (nomatch h), Fr.refl _ _⟩
  · rintro ρ h2 ⟨r0, r6, i, T, tc, r7, hi, r5, ST, ownT, f2⟩
    have M2 := (M.fr0 f1).fr0 f2
    by_cases hin : i < s.l.length
    · have SL2 := SL.fr f2 fun _ _ h => h
      obtain ⟨bk, off, rfl, hc⟩ := SL2.row.get (by rw [ints_len]; unfold lits; rw [List.length_map]; omega)
      obtain ⟨t, ht⟩ : ∃ t, s.l[i]? = some t := ⟨_, List.getElem?_eq_getElem hin⟩
      have c0 := hc _ _ (ints_at (lits_at ht))
      have htm := List.mem_of_getElem? ht
      have htr := I.good.rng t htm
      have hrs := (Rn t htm).1
      have ev : var12 t.lit = t.lit.natAbs := if_pos (by omega)
      have e1 : RSi s.l (t.lit.natAbs : Int) = t.rs := by rw [rsi_nat]; exact I.good.rs ht
      have e2 : LVi s.l (t.lit.natAbs : Int) = t.lv := by rw [lvi_nat]; exact I.good.lv ht
      simp -implicitDefEqProofs (disch := omega) [go_sem, r0, r5, r6, r7, c0]
      refine useC (var12_ok (x := t.lit) (by omega) (by omega)) ?_
      rintro _ h3 ⟨rfl, rfl⟩
      rw [ev]
      simp -implicitDefEqProofs (disch := omega) [go_sem, r0, r5, r6, r7, c0]
      refine drawC [(0, 0), (1, 0), (2, 0), (3, 0), (4, 2), (5, 0), (7, 0), (9, 0), (11, 0), (6, 3), (8, 3), (10, 3), (12, 3), (13, 0), (14, 3), (15, 3), (16, 0)] (fun h' => hcell h' ⟨bk, off + i, none⟩ = some (.int .i64 t.lit)) mixed (by kernel_rfl) c0 ?_
      simp -implicitDefEqProofs (disch := omega) [go_sem, r0, r5, r6, r7]
      refine float2 (.int .i64 t.lit) (fun h' hC => by simp -implicitDefEqProofs (disch := omega) [go_sem, r6, r7, hC]) ?_
      simp -implicitDefEqProofs (disch := omega) [go_sem, r0, r5, r6, r7]
      refine useC (btrail_m M2) ?_
      rintro _ h4 ⟨rfl, rfl⟩
      refine ⟨c0, ?_⟩
      simp -implicitDefEqProofs (disch := omega) [go_sem, r0, r5, r6, r7]
      refine useC (treason_ok M2.T (v := (t.lit.natAbs : Int)) (by omega) (by omega)) ?_
      rintro _ h4 ⟨rfl, rfl⟩
      rw [e1]
      refine ⟨c0, ?_⟩
      simp -implicitDefEqProofs (disch := omega) [go_sem, r0, r5, r6, r7]
      refine useC (btrail_m M2) ?_
      rintro _ h4 ⟨rfl, rfl⟩
      refine ⟨c0, ?_⟩
      simp -implicitDefEqProofs (disch := omega) [go_sem, r0, r5, r6, r7]
      refine useC (tlevelOf_ok M2.T (v := (t.lit.natAbs : Int)) (by omega) (by omega)) ?_
      rintro _ h4 ⟨rfl, rfl⟩
      rw [e2]
      refine ⟨c0, ?_⟩
      simp -implicitDefEqProofs (disch := omega) [go_sem, r0, r5, r6, r7]
      refine build3 ?_
      have f5 : Fr (fun _ => False) h4 (h4.push (.cells #[.int .i64 t.lit, .int .i64 t.rs, .int .i64 (t.lv : Int)] 122)) := (Fr.refl _ _).push
      refine ⟨(f5.cell (hcell_lt c0) id).trans c0, ?_⟩
      simp -implicitDefEqProofs (disch := omega) [go_sem, r0, r5, r6, r7]
      refine appendO (ws := [.int .i64 t.lit, .int .i64 t.rs, .int .i64 (t.lv : Int)]) ST ownT f2 (by rw [stVs_len, List.length_take]; omega) rfl (by omega) (by simp [Value.oneCell']) (by omega) (by omega) ?_
      intro T' tc' h6 ST' ownT' f6 g6
      have est : stVs (s.l.take (i + 1)) = stVs (s.l.take i) ++ [.int .i64 t.lit, .int .i64 t.rs, .int .i64 (t.lv : Int)] := by rw [take_at ht, stVs_append]; rfl
      rw [← est] at ST'
      have c6 := (f6.trans (Fr.refl _ _)).size
      refine ⟨?_, ?_⟩
      · have SL6 := SL.fr f6 fun _ _ h => h
        obtain ⟨bk', off', e', hc'⟩ := SL6.row.get (by rw [ints_len]; unfold lits; rw [List.length_map]; omega)
        cases e'
        exact hc' _ _ (ints_at (lits_at ht))
      simp -implicitDefEqProofs (disch := omega) [go_sem, r0, r5, r6, r7]
      exact ⟨⟨i + 1, by omega, by omega, T', tc', ⟨rfl, by omega, rfl⟩, ST', ownT', f6⟩, by omega⟩
    · have ei : i = s.l.length := by omega
      subst ei
      rw [List.take_length] at ST
      simp -implicitDefEqProofs (disch := omega) [go_sem, r0, r5, r6, r7]
      obtain ⟨Ks, hKs⟩ : ∃ Ks, Ks = s.cs.map (·.lits) := ⟨_, rfl⟩
      obtain ⟨gs, hgs⟩ : ∃ gs, gs = s.cs.map (·.gone) := ⟨_, rfl⟩
      have hKl : Ks.length = s.cs.length := by rw [hKs, List.length_map]
      have hgl : gs.length = s.cs.length := by rw [hgs, List.length_map]
      have hsm := M.sm.1
      refine loopK (S2J h2 bb T s.l.length tc Ks gs s.cs.length) (fun ρ _ => s.cs.length - (intOf (ρ 11)).toNat) (by kernel_rfl) ?_ ?_
      · exact ⟨r0, r5, Fr.refl _ _, 0, none, 0, [], none, 0, rfl, by omega, rfl, RowsK.nil _, rfl, SlAt.nil _, fun y ⟨_, h, _⟩ => (nomatch h), fun y ⟨_, h, _⟩ => (nomatch h), fun _ _ _ h => (nomatch h)⟩
      · clear r0 r5 r6 r7
        rintro ρ h3 ⟨r0, r5, f3, i, X, xc, vs, G, gc, r11, hi, r9, RX, r10, SG, ownG, hXG, hBG⟩
        have M3 := M2.fr0 f3
        have htl : (Ks.take i).length = i := by rw [List.length_take]; omega
        have hgtl : (gs.take i).length = i := by rw [List.length_take]; omega
        simp -implicitDefEqProofs (disch := omega) [go_sem, r0, r5, r9, r10, r11]
        refine useC (blen_m M3) ?_
        rintro _ h4 ⟨rfl, rfl⟩
        by_cases hin : i < s.cs.length
        · obtain ⟨e', he'⟩ : ∃ e', s.cs[i]? = some e' := ⟨_, List.getElem?_eq_getElem hin⟩
          have hK : Ks[i]? = some e'.lits := by rw [hKs, List.getElem?_map, he']; rfl
          have hge := g e' (List.mem_of_getElem? he')
          have hG : gs[i]? = some false := by rw [hgs, List.getElem?_map, he', ← hge]; rfl
          simp -implicitDefEqProofs (disch := omega) [go_sem, r0, r5, r9, r10, r11]
          refine useC (clause_some M3 he' hge) ?_
          rintro _ h5 ⟨D, dc, rfl, SD, ownD, f5⟩
          simp -implicitDefEqProofs (disch := omega) [go_sem, r0, r5, r9, r10, r11]
          refine build1 rfl rfl ?_
          simp -implicitDefEqProofs (disch := omega) [go_sem, r0, r5, r9, r10, r11]
          have f6 : Fr (fun _ => False) h5 (h5.push (.cells #[.slice D e'.lits.length dc] 23)) := (Fr.refl _ _).push
          have RX6 := (RX.fr0 f5).fr0 f6
          have SG6 := (SG.fr f5 fun _ _ h => h).fr f6 fun _ _ h => h
          have hz3 := f3.size
          have hz5 := f5.size
          have hz6 := f6.size
          refine appendN (sz := 1) (ws := [.slice D e'.lits.length dc]) (by rw [Nat.mul_one]; exact RX6.S) (by rw [Nat.mul_one, RX6.len, htl]) (SlAt.new (vs := [.slice D e'.lits.length dc])).row rfl (by omega) (by simp [Value.oneCell']) (by omega) (by omega) ?_
          intro A7 d7 h7 S7 f7 hA7
          rw [Nat.mul_one] at S7
          have RX7 := RX6.snoc f7 S7 hA7 (by omega) (SD.row.fr0 f6) (fun y hy => ⟨by have := SD.blk_lt hy; omega, fun hx => by have := ownD y hy; have := RX.S.blk_lt hx; omega⟩)
          rw [← take_at hK] at RX7
          have SG7 := SG6.fr f7 fun y hy hb => hXG y hb hy
          have hz7 := f7.size
          have htk : (Ks.take (i + 1)).length = i + 1 := by rw [List.length_take]; omega
          have f27 : Fr (fun _ => False) h2 h7 := (f3.trans (f5.trans f6)).trans' f7 fun y hy hb => by have := RX.own y hb; omega
          have hAG : ∀ y, blk A7 y → ¬ blk G y := fun y hy hg => by
            rcases hA7 y hy with h | h
            · exact hXG y h hg
            · have := SG6.blk_lt hg; omega
          have hBG7 : ∀ B n d, Value.slice B n d ∈ vs ++ [.slice D e'.lits.length dc] → ∀ y, blk B y → y < h7.size ∧ ¬ blk G y := fun B n d hm y hy => by
            rcases List.mem_append.1 hm with hm | hm
            · have := hBG B n d hm y hy
              exact ⟨by omega, this.2⟩
            · rw [List.mem_singleton] at hm
              cases hm
              have h1 := SD.blk_lt hy
              exact ⟨by omega, fun hg => by have := SG.blk_lt hg; have := ownD y hy; omega⟩
          simp -implicitDefEqProofs (disch := omega) [go_sem, r0, r5, r9, r10, r11]
          refine build1 rfl rfl ?_
          simp -implicitDefEqProofs (disch := omega) [go_sem, r0, r5, r9, r10, r11]
          have f8 : Fr (fun _ => False) h7 (h7.push (.cells #[.bool false] 4)) := (Fr.refl _ _).push
          have RX8 := RX7.fr0 f8
          have SG8 := SG7.fr f8 fun _ _ h => h
          refine appendN (sz := 1) (vs := bools (gs.take i)) (ws := [.bool false]) (by rw [Nat.mul_one]; exact SG8) (by rw [Nat.mul_one, bools_len, hgtl]) (SlAt.new (vs := [.bool false])).row rfl (by omega) (by simp [Value.oneCell']) (by omega) (by omega) ?_
          intro G9 gc9 h9 S9 f9 hG9
          have eb : bools (gs.take i) ++ [.bool false] = bools (gs.take (i + 1)) := by rw [take_at hG, bools_append]; rfl
          rw [Nat.mul_one, eb] at S9
          have hz8 := f8.size
          have hz9 := f9.size
          have hGG : ∀ y, blk G9 y → blk G y ∨ h7.size ≤ y := fun y hy => (hG9 y hy).imp_right fun h => by omega
          have RX9 := RX8.frS f9 hAG fun B n d hm y hy => (hBG7 B n d hm y hy).2
          have f29 : Fr (fun _ => False) h2 h9 := (f27.trans f8).trans' f9 fun y hy hb => by have := ownG y hb; omega
          have hgt : (gs.take (i + 1)).length = i + 1 := by rw [List.length_take]; omega
          simp -implicitDefEqProofs (disch := omega) [go_sem, r0, r5, r9, r10, r11]
          refine ⟨⟨r0, r5, f29, i + 1, A7, d7, _, G9, gc9, rfl, by omega, by rw [htk]; rfl, RX9, by rw [hgt]; rfl, S9, fun y hy => ?_, fun y hy hg => ?_, fun B n d hm y hy => ⟨?_, fun hg => ?_⟩⟩, by omega⟩
          · rcases hGG y hy with h | h
            · exact ownG y h
            · omega
          · rcases hGG y hg with h | h
            · exact hAG y hy h
            · have := RX7.S.blk_lt hy; omega
          · have := (hBG7 B n d hm y hy).1; omega
          · have := hBG7 B n d hm y hy
            rcases hGG y hg with h | h
            · exact this.2 h
            · omega
        · have ei : i = s.cs.length := by omega
          subst ei
          rw [List.take_of_length_le (by omega)] at r9 r10 RX SG
          simp -implicitDefEqProofs (disch := omega) [go_sem, r0, r5, r9, r10, r11]
          rw [← hKs, ← hgs]
          exact ⟨f1.trans (f2.trans f3), T, tc, X, xc, G, ⟨⟨rfl, rfl⟩, ⟨rfl, hKl, rfl⟩, rfl, hgl⟩, ST.row.fr0 f3, RX.rowsA, SG.row⟩
end
end Xe

/- LearnTells, walked. -/
namespace Xe
open Go Tp Go.Proofs
set_option maxRecDepth 16000
set_option maxHeartbeats 2000000

section
variable {h : Heap}
theorem tells_walk (a0 : Int) (w0 : -9223372036854775808 ≤ a0 ∧ a0 ≤ 9223372036854775807) (A : Option Addr) (m c : Nat) (gs : Nat → List Int) (R : Args2 h A m gs) (B : Option Addr) (d : Nat) (ds : List Int) (hqs : ds.length < 2 ^ 63) (RD : RowAt h B (ints ds)) (hdr : ∀ x ∈ ds, -9223372036854775808 ≤ x ∧ x ≤ 9223372036854775807) (a3 : Int) (w3 : -9223372036854775808 ≤ a3 ∧ a3 ≤ 9223372036854775807) :
    CallsH Tryz.prog 4 [.int .i64 a0, .slice A m c, .slice B ds.length d, .int .i64 a3] h fun r h' => r = .bool true ∧ Fr (fun _ => False) h h' := by
  refine calls_of 84 [.tmp 8] Go.Proofs.Tryz.func4 rfl rfl rfl (by kernel_rfl) (Nat.le_of_ble_eq_true rfl) ?_
  simp -implicitDefEqProofs (disch := omega) [go_sem]
  refine useC awake19 ?_
  rintro _ h1 ⟨rfl, f1⟩
  simp -implicitDefEqProofs (disch := omega) [go_sem]
  refine useC (small19_ok (R.fr f1) hqs w0) ?_
  rintro _ h2 ⟨rfl, b, rfl, hsm⟩
  cases b with
  | false =>
    simp -implicitDefEqProofs (disch := omega) [go_sem]
    exact f1
  | true =>
    obtain ⟨s1, s2, s3, s4, s5⟩ := hsm rfl
    simp -implicitDefEqProofs (disch := omega) [go_sem]
    refine useC (filled19_ok (B := B) (d := d) f1 R RD rfl hdr ⟨s1, s2⟩ s3 s4 s5) ?_
    rintro _ h3 ⟨bb, vars, p, s, id0, rfl, rfl, F, hcs, hid⟩
    have M := F.W.M
    have I := F.W.I
    have hvs := F.W.vars
    have f03 := f1.trans F.W.fr
    have hid0 : -9223372036854775808 ≤ id0 ∧ id0 ≤ 9223372036854775807 := by
      rcases hid with ⟨k, e, rfl, he, _⟩ | rfl
      · have := (List.getElem?_eq_some_iff.1 he).1; omega
      · omega
    have hT := M.T.len
    simp -implicitDefEqProofs (disch := omega) [go_sem]
    refine loopK (fun ρ h' => ρ 3 = .int .i64 a3 ∧ ρ 9 = .pointer (some ⟨bb, 0, none⟩) ∧ Fr (fun _ => False) h3 h' ∧ ∃ (i : Nat) (id : Int), ρ 11 = .int .i64 i ∧ i ≤ 2 ∧ ρ 10 = .int .i64 id ∧ -9223372036854775808 ≤ id ∧ id ≤ 9223372036854775807)
      (fun ρ _ => 2 - (intOf (ρ 11)).toNat) (by kernel_rfl) ?_ ?_
    · exact ⟨rfl, rfl, Fr.refl _ _, 0, id0, rfl, by omega, rfl, hid0.1, hid0.2⟩
    · rintro ρ h4 ⟨r3, r9, f4, i, id, r11, hi, r10, i0, i1⟩
      have M4 := M.fr0 f4
      by_cases hin : i < 2
      · simp -implicitDefEqProofs (disch := omega) [go_sem, r3, r9, r10, r11]
        refine useC (steps19_ok M4 I F.R F.g) ?_
        rintro _ h5 ⟨f5, T, tc, CS, cc, GS, gc, rfl, RT, RC, RG⟩
        have M5 := M4.fr0 f5
        simp -implicitDefEqProofs (disch := omega) [go_sem, r3, r9, r10, r11]
        refine useC (from19R_ok I F.D (by omega) RT rfl RC rfl (by omega) RG rfl i0 i1) ?_
        rintro _ h6 ⟨f6, CA, ca, cl, UA, ua, ul, lv, er, rfl, RCA, RUA, ownCA, ownUA, hcll, hull, hfr, hus⟩
        have M6 := M5.fr0 f6
        simp -implicitDefEqProofs (disch := omega) [go_sem, r3, r9, r10, r11]
        obtain ⟨ha, eha⟩ : ∃ ha, ha = h6.push (.cells #[.slice none 0 0, .slice none 0 0, .int .i64 0, .int .i64 0] 50) := ⟨_, rfl⟩
        have fa : Fr (fun _ => False) h6 ha := by rw [eha]; exact (Fr.refl _ _).push
        have Ba : ListB ha h6.size [.slice none 0 0, .slice none 0 0, .int .i64 0, .int .i64 0] := by rw [eha]; exact ListB.new
        rw [← eha]
        obtain ⟨h7, eh7⟩ : ∃ h7, h7 = hset (hset (hset (hset ha ⟨h6.size, 0, none⟩ (.slice CA cl.length ca)) ⟨h6.size, 1, none⟩ (.slice UA ul.length ua)) ⟨h6.size, 2, none⟩ (.int .i64 lv)) ⟨h6.size, 3, none⟩ (.int .i64 er) := ⟨_, rfl⟩
        have f7 : Fr (fun _ => False) h6 h7 := by rw [eh7]; exact (((fa.new (Nat.le_refl _)).new (Nat.le_refl _)).new (Nat.le_refl _)).new (Nat.le_refl _)
        have B7 : ListB h7 h6.size [.slice CA cl.length ca, .slice UA ul.length ua, .int .i64 lv, .int .i64 er] := by
          rw [eh7]
          exact (((Ba.set (i := 0) (.slice CA cl.length ca) (by simp)).set (i := 1) (.slice UA ul.length ua) (by simp)).set (i := 2) (.int .i64 lv) (by simp)).set (i := 3) (.int .i64 er) (by simp)
        rw [← eh7]
        refine useC (from_ok (M6.fr0 f7) I F.D F.R (by omega) i0 i1) ?_
        rintro _ h8 ⟨f8, C, cd, cl', lv', er', rfl, SC, ownC, hfr'⟩
        obtain ⟨rfl, rfl, rfl⟩ := hfr.uniq I F.D hfr'
        have B8 := B7.fr f8 fun h => h
        have u0 := B8.at' 0 _ rfl
        have u1 := B8.at' 1 _ rfl
        have u2 := B8.at' 2 _ rfl
        have u3 := B8.at' 3 _ rfl
        have RCA8 := (RCA.fr0 f7).fr0 f8
        simp -implicitDefEqProofs (disch := omega) [go_sem, r3, r9, r10, r11]
        refine drawC [(0, 0), (1, 0), (2, 1), (3, 3), (4, 0), (5, 0), (6, 0), (7, 0), (8, 1), (9, 0), (10, 0), (11, 0), (12, 0), (13, 0), (14, 1), (15, 0), (16, 0), (17, 0), (18, 0), (19, 0), (21, 0), (22, 2), (20, 3), (23, 3), (24, 0), (25, 0)] (fun h' => hcell h' ⟨h6.size, 1, none⟩ = some (.slice UA ul.length ua)) mixed (by kernel_rfl) u1 ?_
        simp -implicitDefEqProofs (disch := omega) [go_sem, r3, r9, r10, r11, u0, u2, u3]
        refine useC (same12_ok SC.row RCA8 rfl rfl (by omega) (by omega)) ?_
        rintro _ h9 ⟨rfl, rfl⟩
        refine ⟨u1, ?_⟩
        simp -implicitDefEqProofs (disch := omega) [go_sem, r3, r9, r10, r11, u0, u2, u3]
        refine float2g (.slice UA ul.length ua) (by rfl) (fun h' hC => by simp -implicitDefEqProofs (disch := omega) [go_sem, hC]) ?_
        simp -implicitDefEqProofs (disch := omega) [go_sem, r3, r9, r10, r11, u0, u2, u3]
        refine useC (used_ok ((M6.fr0 f7).fr0 f8) I F.D F.R (by omega) i0 i1) ?_
        rintro _ h10 ⟨f10, U', ud, ul', rfl, SU, ownU, hus'⟩
        obtain rfl := hus.uniq I F.D hus'
        refine ⟨(f10.cell (hcell_lt u1) fun h => h).trans u1, ?_⟩
        simp -implicitDefEqProofs (disch := omega) [go_sem, r3, r9, r10, r11]
        have RUA10 := ((RUA.fr0 f7).fr0 f8).fr0 f10
        refine useC (same12_ok SU.row RUA10 rfl rfl (by omega) (by omega)) ?_
        rintro _ h11 ⟨rfl, rfl⟩
        refine ⟨(f10.cell (hcell_lt u1) fun h => h).trans u1, ?_⟩
        simp -implicitDefEqProofs (disch := omega) [go_sem, r3, r9, r10, r11]
        exact ⟨⟨f4.trans (f5.trans (f6.trans (f7.trans (f8.trans f10)))), i + 1, by omega, by omega, w3.1, w3.2⟩, by omega⟩
      · simp -implicitDefEqProofs (disch := omega) [go_sem, r3, r9, r10, r11]
        exact f03.trans f4
end
end Xe
