/- WatchTwice, walked. -/
import Derived.Test.YtkghjecglmmloaaT17j
namespace Xe
open Go Tp Go.Proofs
set_option maxRecDepth 16000
set_option maxHeartbeats 1000000

/-- an argument: rows of numbers -/
structure Args2 (h : Heap) (A : Option Addr) (m : Nat) (gs : Nat → List Int) : Prop where
  small : m < 2 ^ 63
  at' : ∀ i, i < m → ∃ bk off B c, A = some ⟨bk, off, none⟩ ∧ hcell h ⟨bk, off + i, none⟩ = some (.slice B (gs i).length c) ∧ RowAt h B (ints (gs i)) ∧ (gs i).length < 2 ^ 63 ∧ ∀ x ∈ gs i, -9223372036854775808 ≤ x ∧ x ≤ 9223372036854775807
theorem Args2.fr {h : Heap} {A : Option Addr} {m : Nat} {gs : Nat → List Int} (R : Args2 h A m gs) {h' : Heap} (f : Fr (fun _ => False) h h') : Args2 h' A m gs :=
  ⟨R.small, fun i hi => by
    obtain ⟨bk, off, B, c, h1, h2, h3, h4⟩ := R.at' i hi
    exact ⟨bk, off, B, c, h1, (f.cell (hcell_lt h2) id).trans h2, h3.fr0 f, h4⟩⟩

section
variable {h : Heap}

/-- a row that isn't the base's own -/
structure Out (h : Heap) (p : BP) (B : Option Addr) (vs : List Value) : Prop where
  R : RowAt h B vs
  out : ∀ y, blk B y → p.c y = none ∧ y < h.size
theorem Out.step {h h' : Heap} {p p' : BP} {B : Option Addr} {vs : List Value} (o : Out h p B vs) (st : Stp p p' h h') : Out h' p' B vs where
  R := o.R.fr st.fr fun y hy hn => hn (o.out y hy).1
  out y hy := by
    obtain ⟨h1, h2⟩ := o.out y hy
    refine ⟨?_, Nat.lt_of_lt_of_le h2 st.fr.size⟩
    cases hc : p'.c y with
    | none => rfl
    | some t => exact (st.own y t hc).elim (fun h => by rw [h1] at h; cases h) (fun h => by omega)
theorem absC_add (s : WS) (L : List Int) : absC (addS s L).cs = absC s.cs ++ [(L, false)] := by unfold addS absC; simp
theorem Quiet.sub {C D : List (List Int × Bool)} {l : List St} (q : Quiet C l) (hs : ∀ (id : Nat) c, D[id]? = some (c, false) → ∃ id' : Nat, C[id']? = some (c, false)) : Quiet D l := fun id c hc => by
  obtain ⟨id', h⟩ := hs id c hc
  exact q id' c h

theorem twice_walk (a0 : Int) (w0 : -9223372036854775808 ≤ a0 ∧ a0 ≤ 9223372036854775807) (A : Option Addr) (m c : Nat) (gs : Nat → List Int) (R : Args2 h A m gs) (a2 : Int) (w2 : -9223372036854775808 ≤ a2 ∧ a2 ≤ 9223372036854775807) :
    CallsH Try.prog 9 [.int .i64 a0, .slice A m c, .int .i64 a2] h fun r h' => r = .bool true ∧ Fr (fun _ => False) h h' := by
  have hms := R.small
  refine calls_of 109 [.tmp 6] Go.Proofs.Try.func9 rfl rfl rfl (by kernel_rfl) (Nat.le_of_ble_eq_true rfl) ?_
  simp -implicitDefEqProofs (disch := omega) [go_sem]
  refine useC awake17 ?_
  rintro _ h1 ⟨rfl, fr1⟩
  by_cases hv1 : 20 < a0
  · simp -implicitDefEqProofs (disch := omega) [go_sem]
    exact fr1
  by_cases hv2 : a0 < 0
  · simp -implicitDefEqProofs (disch := omega) [go_sem]
    exact fr1
  by_cases hm : 12 < m
  · simp -implicitDefEqProofs (disch := omega) [go_sem]
    exact fr1
  simp -implicitDefEqProofs (disch := omega) [go_sem]
  refine useC (bnew_m w0.1 w0.2) ?_
  rintro _ h2 (⟨hneg, rfl, rfl⟩ | ⟨vars, bb, rfl, hv, rfl, p2, M2, low2, fr2⟩)
  · omega
  have W2 : Wst h h2 bb vars p2 (newW vars) := ⟨M2, newW_inv hv, rfl, fun y t hy => Nat.le_trans fr1.size (low2 y t hy), fr1.trans fr2⟩
  simp -implicitDefEqProofs (disch := omega) [go_sem]
  refine loopK (fun ρ h' => ρ 1 = .slice A m c ∧ ρ 2 = .int .i64 a2 ∧ ρ 7 = .pointer (some ⟨bb, 0, none⟩) ∧ ∃ (i : Nat) (p : BP) (s : WS), ρ 8 = .int .i64 i ∧ i ≤ m ∧ Wst h h' bb vars p s ∧ s.cs.length ≤ i ∧ s.todo.length ≤ i ∧ (∀ j, j < i → (gs j).length ≤ 12) ∧
      ∀ j, j < i → goodC vars (gs j) = true → ∀ L, CleanR (gs j) (some L) → ∃ id : Nat, (absC s.cs)[id]? = some (L, false)) (fun ρ _ => m - (intOf (ρ 8)).toNat) (by kernel_rfl) ?_ ?_
  · exact ⟨rfl, rfl, rfl, 0, p2, newW vars, rfl, by omega, W2, Nat.le_refl _, Nat.le_refl _, fun j h => by omega, fun j h => by omega⟩
  · clear W2 M2
    rintro ρ h3 ⟨r1, r2, r7, i, p, s, r8, hi, W3, hcs, htd, hl12s, hhas⟩
    by_cases him : i < m
    · obtain ⟨bk, off, B, cB, rfl, e0, RB, hBl, hBr⟩ := (R.fr W3.fr).at' i him
      by_cases hlen : 12 < (gs i).length
      · simp -implicitDefEqProofs (disch := omega) [go_sem, r1, r2, r7, r8, e0]
        exact W3.fr
      · simp -implicitDefEqProofs (disch := omega) [go_sem, r1, r2, r7, r8, e0]
        refine useC (badd_m W3.M (by rw [W3.vars]; exact hv) RB rfl (by omega) hBr ⟨by omega, by omega⟩) ?_
        have h12' : ∀ j, j < i + 1 → (gs j).length ≤ 12 := fun j hj => by
          by_cases e : j = i
          · subst e; omega
          · exact hl12s j (by omega)
        rintro _ h4 (⟨hg, rfl, f4⟩ | ⟨hg, hc, rfl, f4⟩ | ⟨hg, L, hc, rfl, p4, M4, st4⟩)
        · simp -implicitDefEqProofs (disch := omega) [go_sem, r1, r2, r7, r8]
          refine ⟨⟨i + 1, by omega, by omega, p, s, W3.fr0 f4, by omega, by omega, h12', fun j hj hgj L hL => ?_⟩, by omega⟩
          by_cases e : j = i
          · subst e; rw [W3.vars] at hg; rw [hg] at hgj; cases hgj
          · exact hhas j (by omega) hgj L hL
        · simp -implicitDefEqProofs (disch := omega) [go_sem, r1, r2, r7, r8]
          refine ⟨⟨i + 1, by omega, by omega, p, s, W3.fr0 f4, by omega, by omega, h12', fun j hj hgj L hL => ?_⟩, by omega⟩
          by_cases e : j = i
          · subst e; cases CleanR.uniq hc hL
          · exact hhas j (by omega) hgj L hL
        · simp -implicitDefEqProofs (disch := omega) [go_sem, r1, r2, r7, r8]
          have hl1 : (addS s L).cs.length = s.cs.length + 1 := by unfold addS; simp
          have hl2 : (addS s L).todo.length = s.todo.length + 1 := by unfold addS; simp
          refine ⟨⟨i + 1, by omega, by omega, p4, addS s L, W3.step M4 (addS_inv W3.I hg hc) rfl st4, by omega, by omega, h12', fun j hj hgj L' hL => ?_⟩, by omega⟩
          rw [absC_add]
          by_cases e : j = i
          · subst e
            obtain rfl := Option.some.inj (CleanR.uniq hc hL)
            exact ⟨(absC s.cs).length, by rw [List.getElem?_append_right (Nat.le_refl _), Nat.sub_self]; rfl⟩
          · obtain ⟨id, hid⟩ := hhas j (by omega) hgj L' hL
            exact ⟨id, by rw [List.getElem?_append_left (List.getElem?_eq_some_iff.1 hid).1]; exact hid⟩
    · have e : i = m := by omega
      subst e
      simp -implicitDefEqProofs (disch := omega) [go_sem, r1, r2, r7, r8]
      refine useC (bdecide_m W3.M w2.1 w2.2) ?_
      rintro _ h4 ⟨rfl, p4, M4, st4⟩
      have W4 := W3.step M4 (W3.I.dec a2) rfl st4
      simp -implicitDefEqProofs (disch := omega) [go_sem, r1, r2, r7, r8]
      refine useC (prop_m W4.M W4.I) ?_
      rintro r5 h5 ⟨p5, s5, M5, st5, I5, ad5, hor5⟩
      have W5 := W4.step M5 I5 ad5.vars st5
      have hcs5 : absC s5.cs = absC s.cs := ad5.cs
      have hr5 : ∃ (id5 : Int) (ok5 : Bool), r5 = .tuple #[.int .i64 id5, .bool ok5] := by
        rcases hor5 with ⟨id, e, rfl, _⟩ | ⟨rfl, _⟩
        · exact ⟨_, _, rfl⟩
        · exact ⟨_, _, rfl⟩
      obtain ⟨id5, ok5, rfl⟩ := hr5
      have hok5 : (ok5 = false ∧ ∃ (id : Nat) (e : Ent), s5.cs[id]? = some e ∧ e.gone = false ∧ FailAt s5.l e.lits) ∨ (ok5 = true ∧ s5.todo = [] ∧ s5.head = s5.l.length) := by
        rcases hor5 with ⟨id, e, h1, h2⟩ | ⟨h1, h2⟩
        · simp at h1; exact .inl ⟨h1.2, id, e, h2⟩
        · simp at h1; exact .inr ⟨h1.2, h2⟩
      clear hor5
      have hvv := I5.hv
      have hln5 := I5.good.len
      have hll5 : s5.l.length = (lits s5.l).length := by unfold lits; rw [List.length_map]
      simp -implicitDefEqProofs (disch := omega) [go_sem, r1, r2, r7, r8]
      refine useC (btrail_m W5.M) ?_
      rintro _ h6 ⟨rfl, rfl⟩
      simp -implicitDefEqProofs (disch := omega) [go_sem, r1, r2, r7, r8]
      refine useC (tlits_ok W5.M.T) ?_
      rintro _ h7 ⟨B7, c7, rfl, S7, own7, f7⟩
      have W7 := W5.fr0 f7
      have O7 : Out h7 p5 B7 (ints (lits s5.l)) := ⟨S7.row, fun y hy => ⟨by
        cases hc : p5.c y with
        | none => rfl
        | some t => have := W5.M.low y t hc; have := own7 y hy; omega, S7.blk_lt hy⟩⟩
      simp -implicitDefEqProofs (disch := omega) [go_sem, r1, r2, r7, r8]
      refine useC (prop_m W7.M W7.I) ?_
      rintro r8' h8 ⟨p8, s8, M8, st8, I8, ad8, hor8⟩
      have W8 := W7.step M8 I8 ad8.vars st8
      have O8 := O7.step st8
      have hcs8 : absC s8.cs = absC s5.cs := ad8.cs
      have hr8 : ∃ (id8 : Int) (ok8 : Bool), r8' = .tuple #[.int .i64 id8, .bool ok8] := by
        rcases hor8 with ⟨id, e, rfl, _⟩ | ⟨rfl, _⟩
        · exact ⟨_, _, rfl⟩
        · exact ⟨_, _, rfl⟩
      obtain ⟨id8, ok8, rfl⟩ := hr8
      have hok8 : (ok8 = false ∧ ∃ (id : Nat) (e : Ent), s8.cs[id]? = some e ∧ e.gone = false ∧ FailAt s8.l e.lits) ∨ (ok8 = true ∧ s8.todo = [] ∧ s8.head = s8.l.length) := by
        rcases hor8 with ⟨id, e, h1, h2⟩ | ⟨h1, h2⟩
        · simp at h1; exact .inl ⟨h1.2, id, e, h2⟩
        · simp at h1; exact .inr ⟨h1.2, h2⟩
      clear hor8
      obtain ⟨ext, hext⟩ := ad8.us.pre
      rcases hok5 with ⟨rfl, id, e, he, hg, hf⟩ | ⟨rfl, ht5, hh5⟩
      · rcases hok8 with ⟨rfl, _⟩ | ⟨rfl, ht8, hh8⟩
        · simp -implicitDefEqProofs (disch := omega) [go_sem, r1, r2, r7, r8]
          exact W8.fr
        · exfalso
          have hq := I8.quiet ht8 hh8
          have h1 := absC_at he
          rw [← hcs8, hg] at h1
          have hG := I8.good
          rw [hext] at hG hq
          exact (hq id e.lits h1).2 (hf.mono hG)
      · have hq5 := I5.quiet ht5 hh5
        have hl8 : s8.l = s5.l := ad8.us.quiet hq5
        rcases hok8 with ⟨rfl, id, e, he, hg, hf⟩ | ⟨rfl, ht8, hh8⟩
        · exfalso
          have h1 := absC_at he
          rw [hcs8, hg] at h1
          rw [hl8] at hf
          exact (hq5 id e.lits h1).2 hf
        · have hq8 : Quiet (absC s8.cs) s8.l := by rw [hcs8, hl8]; exact hq5
          simp -implicitDefEqProofs (disch := omega) [go_sem, r1, r2, r7, r8]
          refine useC (btrail_m W8.M) ?_
          rintro _ h9 ⟨rfl, rfl⟩
          simp -implicitDefEqProofs (disch := omega) [go_sem, r1, r2, r7, r8]
          refine useC (tlits_ok W8.M.T) ?_
          rintro _ h10 ⟨B10, c10, rfl, S10, own10, f10⟩
          have W10 := W8.fr0 f10
          have O10 := O8.step (Stp.fr0 f10)
          rw [hl8] at S10
          rw [hl8]
          simp -implicitDefEqProofs (disch := omega) [go_sem, r1, r2, r7, r8]
          refine useC (same12_ok S10.row O10.R hll5 hll5 (by omega) (by omega)) ?_
          rintro _ h11 ⟨rfl, rfl⟩
          simp -implicitDefEqProofs (disch := omega) [go_sem, r1, r2, r7, r8]
          have hcl8 : s8.cs.length = s.cs.length := by have := congrArg List.length (hcs8.trans hcs5); unfold absC at this; rwa [List.length_map, List.length_map] at this
          refine loopK (fun ρ h' => ρ 1 = .slice A i c ∧ ρ 7 = .pointer (some ⟨bb, 0, none⟩) ∧ ρ 11 = .slice B7 s5.l.length c7 ∧ ∃ (k : Nat) (p' : BP) (s' : WS), ρ 14 = .int .i64 k ∧ k ≤ i ∧ Wst h h' bb vars p' s' ∧ Out h' p' B7 (ints (lits s5.l)) ∧ s'.l = s5.l ∧ s'.cs.length ≤ i + k ∧ s'.todo.length ≤ k ∧
              ∀ (id : Nat) cc, (absC s'.cs)[id]? = some (cc, false) → ∃ id' : Nat, (absC s8.cs)[id']? = some (cc, false)) (fun ρ _ => i - (intOf (ρ 14)).toNat) (by kernel_rfl) ?_ ?_
          · exact ⟨r1, r7, rfl, 0, p8, s8, rfl, by omega, W10, O10, hl8, by omega, by rw [ht8]; exact Nat.le_refl _, fun id cc h => ⟨id, h⟩⟩
          · clear r1 r2 r7 r8 W10 O10
            rintro ρ h12 ⟨r1, r7, r11, k, p', s', r14, hk, W12, O12, hl12, hcs12, htd12, hsub⟩
            by_cases hki : k < i
            · obtain ⟨bk, off, B, cB, rfl, e0, RB, hBl, hBr⟩ := (R.fr W12.fr).at' k hki
              simp -implicitDefEqProofs (disch := omega) [go_sem, r1, r7, r11, r14, e0]
              refine useC (badd_m W12.M (by rw [W12.vars]; exact hv) RB rfl (hl12s k hki) hBr ⟨by omega, by omega⟩) ?_
              rintro _ h13 (⟨hg, rfl, f4⟩ | ⟨hg, hc, rfl, f4⟩ | ⟨hg, L, hc, rfl, p4, M4, st4⟩)
              · simp -implicitDefEqProofs (disch := omega) [go_sem, r1, r7, r11, r14]
                exact ⟨⟨k + 1, by omega, by omega, p', s', W12.fr0 f4, O12.step (Stp.fr0 f4), hl12, by omega, by omega, hsub⟩, by omega⟩
              · simp -implicitDefEqProofs (disch := omega) [go_sem, r1, r7, r11, r14]
                exact ⟨⟨k + 1, by omega, by omega, p', s', W12.fr0 f4, O12.step (Stp.fr0 f4), hl12, by omega, by omega, hsub⟩, by omega⟩
              · simp -implicitDefEqProofs (disch := omega) [go_sem, r1, r7, r11, r14]
                have hl1 : (addS s' L).cs.length = s'.cs.length + 1 := by unfold addS; simp
                have hl2 : (addS s' L).todo.length = s'.todo.length + 1 := by unfold addS; simp
                refine ⟨⟨k + 1, by omega, by omega, p4, addS s' L, W12.step M4 (addS_inv W12.I hg hc) rfl st4, O12.step st4, hl12, by omega, by omega, fun id cc hid => ?_⟩, by omega⟩
                rw [absC_add] at hid
                by_cases e : id < (absC s'.cs).length
                · rw [List.getElem?_append_left e] at hid
                  exact hsub id cc hid
                · rw [List.getElem?_append_right (by omega)] at hid
                  have hz : id - (absC s'.cs).length = 0 := by
                    cases hj : id - (absC s'.cs).length with
                    | zero => rfl
                    | succ j => rw [hj] at hid; simp at hid
                  rw [hz] at hid
                  simp only [List.getElem?_cons_zero, Option.some.injEq, Prod.mk.injEq, and_true] at hid
                  subst hid
                  rw [hcs8, hcs5]
                  exact hhas k hki (by rw [← W12.vars]; exact hg) L hc
            · simp -implicitDefEqProofs (disch := omega) [go_sem, r1, r7, r11, r14]
              refine useC (prop_m W12.M W12.I) ?_
              rintro r13 h13 ⟨p13, s13, M13, st13, I13, ad13, hor13⟩
              have W13 := W12.step M13 I13 ad13.vars st13
              have O13 := O12.step st13
              have hq12 : Quiet (absC s'.cs) s'.l := by
                rw [hl12, ← hl8]
                exact hq8.sub hsub
              have hl13 : s13.l = s5.l := (ad13.us.quiet hq12).trans hl12
              rcases hor13 with ⟨id, e, rfl, he, hg, hf⟩ | ⟨rfl, _, _⟩
              · exfalso
                have h1 := absC_at he
                rw [ad13.cs, hg] at h1
                rw [hl13, ← hl12] at hf
                exact (hq12 id e.lits h1).2 hf
              · simp -implicitDefEqProofs (disch := omega) [go_sem, r1, r7, r11, r14]
                refine useC (btrail_m W13.M) ?_
                rintro _ h14 ⟨rfl, rfl⟩
                simp -implicitDefEqProofs (disch := omega) [go_sem, r1, r7, r11, r14]
                refine useC (tlits_ok W13.M.T) ?_
                rintro _ h15 ⟨B15, c15, rfl, S15, own15, f15⟩
                have O15 := O13.step (Stp.fr0 f15)
                rw [hl13] at S15
                rw [hl13]
                simp -implicitDefEqProofs (disch := omega) [go_sem, r1, r7, r11, r14]
                refine useC (same12_ok S15.row O15.R hll5 hll5 (by omega) (by omega)) ?_
                rintro _ h16 ⟨rfl, rfl⟩
                simp -implicitDefEqProofs (disch := omega) [go_sem, r1, r7, r11, r14]
                exact (W13.fr0 f15).fr
end
end Xe
