/- GraphOrders, walked. -/
import Derived.Test.YtkghjecglmmloaaG10
namespace Xe
open Go Go.Proofs Gr
set_option maxRecDepth 16000
set_option maxHeartbeats 1000000

theorem Gr.GL.take {E : Nat → List Nat} {n : Nat} {L : List (List Nat)} (h : GL E n L) : ∀ k, GL E n (L.take k) := by
  induction h with
  | nil => intro k; rw [List.take_nil]; exact .nil
  | @snoc L l hL hN ih =>
    intro k
    by_cases hk : k ≤ L.length
    · rw [List.take_append_of_le_length hk]; exact ih k
    · rw [List.take_of_length_le (by rw [List.length_append]; simp; omega)]
      exact .snoc hL hN
theorem Gr.GL.flat {E : Nat → List Nat} {n : Nat} {L : List (List Nat)} (G : Gd E n) (h : GL E n L) : L.flatten.Nodup ∧ (∀ x ∈ L.flatten, x < n) ∧ L.flatten.length ≤ n := by
  have h1 : L.flatten.Nodup := by
    unfold List.Nodup
    rw [List.pairwise_flatten]
    exact ⟨fun l hl => (h.isG l hl).1.nd, h.disj.imp fun {a b} (hab : ∀ x ∈ a, x ∉ b) x (hx : x ∈ a) y (hy : y ∈ b) (e : x = y) => hab x hx (e ▸ hy)⟩
  have h2 : ∀ x ∈ L.flatten, x < n := fun x hx => by
    obtain ⟨l, hl, hxl⟩ := List.mem_flatten.1 hx
    exact h.lt G x ⟨l, hl, hxl⟩
  refine ⟨h1, h2, ?_⟩
  have := Tp.nodup_le (a := L.flatten) (b := List.range n) h1 fun x hx => List.mem_range.2 (h2 x hx)
  rwa [List.length_range] at this
def flL (L : List (List Nat)) (i : Nat) : List Nat := (L.take i).flatten
def flK (L : List (List Nat)) (i : Nat) (l : List Nat) (k : Nat) : List Nat := flL L i ++ l.take k
theorem flL_succ {L : List (List Nat)} {i : Nat} {l : List Nat} (h : L[i]? = some l) : flL L (i + 1) = flL L i ++ l := by
  unfold flL
  rw [List.take_add_one, h]; simp
theorem flK_zero (L : List (List Nat)) (i : Nat) (l : List Nat) : flK L i l 0 = flL L i := by unfold flK; rw [List.take_zero, List.append_nil]
theorem flK_succ {L : List (List Nat)} {i : Nat} {l : List Nat} {k q : Nat} (h : l[k]? = some q) : flK L i l (k + 1) = flK L i l k ++ [q] := by unfold flK; rw [List.take_add_one, h, List.append_assoc]; rfl
theorem flK_end {L : List (List Nat)} {i : Nat} {l : List Nat} (h : L[i]? = some l) : flK L i l l.length = flL L (i + 1) := by unfold flK; rw [List.take_length, flL_succ h]
theorem flK_len (L : List (List Nat)) (i : Nat) (l : List Nat) (k : Nat) : (flK L i l k).length ≤ (flL L i).length + l.length := by
  unfold flK; rw [List.length_append, List.length_take]; omega
theorem mem_toI {l : List Nat} {x : Nat} : ((x : Int) ∈ toI l) ↔ x ∈ l := by
  unfold toI
  rw [List.mem_map]
  constructor
  · rintro ⟨y, hy, e⟩
    have : y = x := by omega
    exact this ▸ hy
  · exact fun h => ⟨x, h, rfl⟩

section
variable {h : Heap}
/-- a right graph as rows of numbers -/
def rowsE (E : Nat → List Nat) (m : Nat) : List (List Nat) := (List.range m).map E
theorem rowsE_len (E : Nat → List Nat) (m : Nat) : (rowsE E m).length = m := by unfold rowsE; rw [List.length_map, List.length_range]
theorem ArgsG.rw {A : Option Addr} {m : Nat} {gs : Nat → List Int} (R : ArgsG h A m gs) (G : GoodG m gs) : RwN h A (rowsE (EG m gs) m) where
  at' i l hl := by
    have hi := (List.getElem?_eq_some_iff.1 hl).1
    rw [rowsE_len] at hi
    unfold rowsE at hl
    rw [List.getElem?_map, List.getElem?_range hi] at hl
    cases hl
    obtain ⟨bk, off, B, c, h1, h2, h3, _⟩ := R.at' i hi
    exact ⟨bk, off, B, c, h1, by rw [EG_len hi]; exact h2, by unfold nts; rw [EG_toI G hi]; exact h3⟩
  len := by
    have hm := G.1
    refine ⟨by rw [rowsE_len]; omega, fun l hl => ?_⟩
    obtain ⟨i, hi, rfl⟩ := List.mem_map.1 hl
    have hi' := List.mem_range.1 hi
    have := EG_deg G i hi'
    exact ⟨by omega, fun x hx => by have := EG_gd G i hi' x hx; omega⟩
theorem trn_good {E : Nat → List Nat} {m : Nat} (hm : m ≤ 4096) : GoodG m (fun i => toI ((trn E m).getD i [])) := by
  have := good_args (L := trn E m) (by rw [trn_len]; omega) fun l hl => by
    obtain ⟨q, _, rfl⟩ := List.mem_map.1 hl
    exact ⟨who_inc E q m, fun x hx => by rw [trn_len]; exact who_lt hx⟩
  rwa [trn_len] at this
theorem trn_trn {E : Nat → List Nat} {m : Nat} (hg : Gd E m) (hi : ∀ i, Inc (E i)) : trn (EG m (fun i => toI ((trn E m).getD i []))) m = rowsE E m := by
  have he : ∀ p, p < m → EG m (fun i => toI ((trn E m).getD i [])) p = who E p m := fun p hp => by
    have := EG_args (trn_at (E := E) hp)
    rwa [trn_len] at this
  have ht : ∀ E', trn E' m = (List.range m).map fun q => who E' q m := fun _ => rfl
  rw [ht]
  unfold rowsE
  refine List.map_congr_left fun q hq => ?_
  have hq' := List.mem_range.1 hq
  refine (who_inc _ _ _).eq (hi q) fun x => ?_
  unfold who
  rw [List.mem_filter, List.mem_range, decide_eq_true_eq]
  constructor
  · rintro ⟨hx, h⟩
    rw [he x hx] at h
    have := (List.mem_filter.1 h).2
    rwa [decide_eq_true_eq] at this
  · intro h
    have hx := hg q hq' x h
    refine ⟨hx, ?_⟩
    rw [he x hx]
    exact List.mem_filter.2 ⟨List.mem_range.2 hq', by rw [decide_eq_true_eq]; exact h⟩

theorem orders_walk30 (A : Option Addr) (m c : Nat) (gs : Nat → List Int) (R : ArgsG h A m gs) :
    CallsH Try.prog 12 [.slice A m c] h fun r h' => r = .bool true ∧ Fr (fun _ => False) h h' := by
  have hms := R.small
  refine calls_of 119 [.tmp 2] Go.Proofs.Try.func12 rfl rfl rfl (by kernel_rfl) (Nat.le_of_ble_eq_true rfl) ?_
  simp -implicitDefEqProofs (disch := omega) [go_sem]
  refine useC awake30 ?_
  rintro _ h1 ⟨rfl, fr1⟩
  have R1 := R.fr fr1
  simp -implicitDefEqProofs (disch := omega) [go_sem]
  refine useC (small30_ok R1) ?_
  rintro _ h2 ⟨b, rfl, hb, rfl⟩
  cases b with
  | false =>
    simp -implicitDefEqProofs (disch := omega) [go_sem]
    exact fr1
  | true =>
    obtain ⟨h14, h20⟩ := hb.1 rfl
    simp -implicitDefEqProofs (disch := omega) [go_sem]
    refine useC (refGood_ok R1) ?_
    rintro _ h2' ⟨b, rfl, hb2, rfl⟩
    cases b with
    | false =>
      simp -implicitDefEqProofs (disch := omega) [go_sem]
      exact fr1
    | true =>
      have hG := hb2.1 rfl
      have hm := hG.1
      simp -implicitDefEqProofs (disch := omega) [go_sem]
      refine useC (groups_ok R1) ?_
      rintro _ h3 ⟨f3, (⟨hn, _⟩ | ⟨_, O, oc, ovs, L, C1, rfl, S3, V3, _, gl, full⟩)⟩
      · exact absurd hG hn
      have R3 := R1.fr f3
      have M3 := R3.gr hG
      have hdeg := EG_deg hG
      have hgd := EG_gd hG
      have hinc := EG_inc hG
      obtain ⟨E, hE⟩ : ∃ E, E = EG m gs := ⟨_, rfl⟩
      have R3w := R3.rw hG
      rw [← hE] at gl M3 hdeg hgd hinc R3w
      have hov := V3.len
      have hLl := gl.len hgd
      obtain ⟨fnd, flt, fln⟩ := gl.flat hgd
      rw [hov]
      simp -implicitDefEqProofs (disch := omega) [go_sem]
      refine loopK (fun ρ h' => ρ 0 = .slice A m c ∧ ρ 3 = .slice O L.length oc ∧ ∃ (i : Nat) (K : Option Addr) (kc : Nat), ρ 4 = .slice K (flL L i).length kc ∧ ρ 5 = .int .i64 i ∧ i ≤ L.length ∧ SlAt h' K kc (nts (flL L i)) ∧ (∀ x, blk K x → h3.size ≤ x) ∧ Fr (fun _ => False) h3 h')
        (fun ρ _ => L.length - (intOf (ρ 5)).toNat) (by kernel_rfl) ?_ ?_
      · exact ⟨rfl, rfl, 0, none, 0, rfl, rfl, by omega, SlAt.nil _, fun x ⟨a, ha, _⟩ => (by cases ha), Fr.refl _ _⟩
      · rintro ρ h4 ⟨r0, r3, i, K, kc, r4, r5, hi, S4, own4, f4⟩
        have hmu : (intOf (ρ 5)).toNat = i := by rw [r5]; rfl
        by_cases hil : i < L.length
        · obtain ⟨l, hl⟩ : ∃ l, L[i]? = some l := ⟨_, List.getElem?_eq_getElem hil⟩
          have hlm := List.mem_of_getElem? hl
          have hlg := gl.isG l hlm
          have hl0 : 0 < l.length := List.length_pos_iff.2 fun e => by have := (hd_mem hlg).1; rw [e] at this; cases this
          obtain ⟨B, d, e1, e2, _⟩ := V3.at' i l hl
          obtain ⟨ok, hO, _, _, hcO⟩ := S3.base (by omega)
          subst hO
          have ci := (f4.cell (hcell_lt (hcO i _ e1)) id).trans (hcO i _ e1)
          obtain ⟨bk, off, rfl, hcB⟩ := e2.get (by rw [nts_len]; exact hl0)
          have hfs := flL_succ hl
          obtain ⟨fnd2, flt2, fln2⟩ := (gl.take (i + 1)).flat hgd
          change (flL L (i + 1)).Nodup at fnd2
          change (flL L (i + 1)).length ≤ m at fln2
          rw [hfs] at fnd2 fln2
          rw [List.length_append] at fln2
          have hl0' : ¬ (l.length : Int) = 0 := by omega
          have hl1 : ¬ l = [] := fun e => by rw [e] at hl0; simp at hl0
          simp -implicitDefEqProofs (disch := omega) [go_sem, r0, r3, r4, r5, ci, hl0', hl1]
          refine loopK (fun ρ h' => ρ 0 = .slice A m c ∧ ρ 3 = .slice (some ⟨ok, 0, none⟩) L.length oc ∧ ρ 5 = .int .i64 i ∧ ∃ (k : Nat) (K : Option Addr) (kc : Nat), ρ 4 = .slice K (flK L i l k).length kc ∧ ρ 6 = .int .i64 k ∧ k ≤ l.length ∧ SlAt h' K kc (nts (flK L i l k)) ∧ (∀ x, blk K x → h3.size ≤ x) ∧ Fr (fun _ => False) h3 h')
            (fun ρ _ => l.length - (intOf (ρ 6)).toNat) (by kernel_rfl) ?_ ?_
          · exact ⟨r0, r3, r5, 0, K, kc, by rw [flK_zero]; exact r4, rfl, by omega, by rw [flK_zero]; exact S4, own4, f4⟩
          · clear r0 r3 r4 r5 S4 own4 f4 ci
            clear K kc
            rintro ρ h5 ⟨r0, r3, r5, k, K, kc, r4, r6, hk, S5, own5, f5⟩
            have hmu2 : (intOf (ρ 6)).toNat = k := by rw [r6]; rfl
            have ci := (f5.cell (hcell_lt (hcO i _ e1)) id).trans (hcO i _ e1)
            have z5 := f5.size
            by_cases hkl : k < l.length
            · obtain ⟨q, hq⟩ : ∃ q, l[k]? = some q := ⟨_, List.getElem?_eq_getElem hkl⟩
              have hqm := List.mem_of_getElem? hq
              have ck := (f5.cell (hcell_lt (hcB k _ (nts_at hq))) id).trans (hcB k _ (nts_at hq))
              have hqn := gl.lt hgd q ⟨l, hlm, hqm⟩
              have hlen5 : (flK L i l k).length ≤ m := by have := flK_len L i l k; omega
              have hnot : ¬ ((q : Int) ∈ toI (flK L i l k)) := by
                rw [mem_toI]
                unfold flK
                have h1 := fnd2
                have h2 : l = l.take k ++ q :: l.drop (k + 1) := by
                  have h3 := List.take_append_drop k l
                  rw [List.drop_eq_getElem_cons hkl, (List.getElem?_eq_some_iff.1 hq).2] at h3
                  exact h3.symm
                rw [h2, ← List.append_assoc, List.nodup_append] at h1
                exact fun hm => h1.2.2 q hm q (List.mem_cons_self ..) rfl
              have et : flK L i l (k + 1) = flK L i l k ++ [q] := flK_succ hq
              simp -implicitDefEqProofs (disch := omega) [go_sem, r0, r3, r4, r5, r6, ci, ck]
              refine useC (has12_ok (l := toI (flK L i l k)) S5.row (by rw [toI_len]) (by omega) (q : Int)) ?_
              rintro _ h6 ⟨rfl, rfl⟩
              simp -implicitDefEqProofs (disch := omega) [go_sem, r0, r3, r4, r5, r6, hnot]
              refine build1 rfl rfl ?_
              obtain ⟨h7, e7⟩ : ∃ h7, h7 = h6.push (.cells #[.int .i64 (q : Int)] 3) := ⟨_, rfl⟩
              rw [← e7]
              have f7 : Fr (fun _ => False) h6 h7 := by rw [e7]; exact (Fr.refl _ _).push
              have z7 := f7.size
              simp -implicitDefEqProofs (disch := omega) [go_sem, r0, r3, r4, r5, r6]
              refine append1 (v := .int .i64 (q : Int)) (S5.fr f7 fun _ _ k => k) (by rw [nts_len]) (by rw [e7, hcell_push_new]; rfl) rfl (by omega) (by omega) ?_
              intro K' kc' h8 S8 f8 own8
              rw [nts_snoc, ← et] at S8
              simp -implicitDefEqProofs (disch := omega) [go_sem, r0, r3, r4, r5, r6]
              exact ⟨⟨k + 1, K', kc', ⟨rfl, by rw [et, List.length_append]; rfl, rfl⟩, by omega, by omega, S8, fun x hx => (own8 x hx).elim (own5 x) fun h => by omega, (f5.trans f7).trans' f8 fun x hx k => by have := own5 x k; omega⟩, by omega⟩
            · have ek : k = l.length := by omega
              rw [ek, flK_end hl] at S5 r4
              have hcl := (gl.take (i + 1)).clo
              simp -implicitDefEqProofs (disch := omega) [go_sem, r0, r3, r5, r6, ci]
              refine loopK (fun ρ h' => ρ 0 = .slice A m c ∧ ρ 3 = .slice (some ⟨ok, 0, none⟩) L.length oc ∧ ρ 5 = .int .i64 i ∧ ρ 4 = .slice K (flL L (i + 1)).length kc ∧ h' = h5 ∧ ∃ k : Nat, ρ 8 = .int .i64 k ∧ k ≤ l.length) (fun ρ _ => l.length - (intOf (ρ 8)).toNat) (by kernel_rfl) ?_ ?_
              · exact ⟨r0, r3, r5, by simp -implicitDefEqProofs [go_sem, r4], rfl, 0, rfl, by omega⟩
              · clear r0 r3 r5 r4 r6 hk hkl ek hmu2
                clear k
                rintro ρ h6 ⟨r0, r3, r5, r4, rfl, k, r8, hk⟩
                have hmu3 : (intOf (ρ 8)).toNat = k := by rw [r8]; rfl
                by_cases hkl : k < l.length
                · obtain ⟨q, hq⟩ : ∃ q, l[k]? = some q := ⟨_, List.getElem?_eq_getElem hkl⟩
                  have hqm := List.mem_of_getElem? hq
                  have ck := (f5.cell (hcell_lt (hcB k _ (nts_at hq))) id).trans (hcB k _ (nts_at hq))
                  have hqn := gl.lt hgd q ⟨l, hlm, hqm⟩
                  have hdq := hdeg q hqn
                  obtain ⟨gk, go, D, dd, rfl, g0, gR, _, _⟩ := (M3.fr0 f5).at' q hqn
                  simp -implicitDefEqProofs (disch := omega) [go_sem, r0, r3, r4, r5, r8, ci]
                  refine loopK (fun ρ h' => ρ 0 = .slice (some ⟨gk, go, none⟩) m c ∧ ρ 3 = .slice (some ⟨ok, 0, none⟩) L.length oc ∧ ρ 5 = .int .i64 i ∧ ρ 4 = .slice K (flL L (i + 1)).length kc ∧ ρ 8 = .int .i64 k ∧ h' = h6 ∧ ∃ j : Nat, ρ 9 = .int .i64 j ∧ j ≤ (E q).length) (fun ρ _ => (E q).length - (intOf (ρ 9)).toNat) (by kernel_rfl) ?_ ?_
                  · exact ⟨r0, r3, r5, r4, r8, rfl, 0, rfl, by omega⟩
                  · clear r0 r3 r5 r4 r8
                    rintro ρ h7 ⟨r0, r3, r5, r4, r8, rfl, j, r9, hj⟩
                    by_cases hjl : j < (E q).length
                    · obtain ⟨rk, ro, rfl, hcr⟩ := gR.get (by rw [nts_len]; omega)
                      obtain ⟨y, hy⟩ : ∃ y, (E q)[j]? = some y := ⟨_, List.getElem?_eq_getElem hjl⟩
                      have cy := hcr j _ (nts_at hy)
                      have hin : (y : Int) ∈ toI (flL L (i + 1)) := by
                        rw [mem_toI]
                        have h1 : Tk (L.take (i + 1)) q := ⟨l, List.mem_of_getElem? (i := i) (by rw [List.getElem?_take, if_pos (by omega)]; exact hl), hqm⟩
                        obtain ⟨l2, hl2, hyl⟩ := hcl q h1 y (List.mem_of_getElem? hy)
                        exact List.mem_flatten.2 ⟨l2, hl2, hyl⟩
                      have hlen6 : (flL L (i + 1)).length ≤ m := by rw [hfs, List.length_append]; omega
                      simp -implicitDefEqProofs (disch := omega) [go_sem, r0, r3, r4, r5, r8, r9, ci, ck, g0, cy]
                      refine useC (has12_ok (l := toI (flL L (i + 1))) S5.row (by rw [toI_len]) (by omega) (y : Int)) ?_
                      rintro _ h8 ⟨rfl, rfl⟩
                      simp -implicitDefEqProofs (disch := omega) [go_sem, r0, r3, r4, r5, r8, r9, hin]
                      exact ⟨⟨j + 1, by omega, by omega⟩, by omega⟩
                    · simp -implicitDefEqProofs (disch := omega) [go_sem, r0, r3, r4, r5, r8, r9, ci, ck, g0]
                      exact ⟨⟨k + 1, by omega, by omega⟩, by omega⟩
                · simp -implicitDefEqProofs (disch := omega) [go_sem, r0, r3, r4, r5, r8, ci]
                  exact ⟨⟨i + 1, K, kc, ⟨rfl, rfl, rfl⟩, by omega, by omega, S5, own5, f5⟩, by omega⟩
        · have e : i = L.length := by omega
          subst e
          have efl : flL L L.length = L.flatten := by unfold flL; rw [List.take_length]
          rw [efl] at S4 r4
          have hfl : L.flatten.length = m := by
            have := Tp.nodup_le (a := List.range m) (b := L.flatten) (inc_range m).nd fun x hx => by
              obtain ⟨l, hl, hxl⟩ := full x (List.mem_range.1 hx)
              exact List.mem_flatten.2 ⟨l, hl, hxl⟩
            rw [List.length_range] at this
            omega
          rw [hfl] at r4
          have R4 := R3.fr f4
          simp -implicitDefEqProofs (disch := omega) [go_sem, r0, r3, r4, r5]
          refine useC (turned_ok R4) ?_
          rintro _ h5 ⟨f5, (⟨hn, _⟩ | ⟨_, T, rfl, RT⟩)⟩
          · exact absurd hG hn
          rw [← hE] at RT
          have RA := RT.args
          rw [trn_len] at RA
          have GT := trn_good (E := E) hm
          simp -implicitDefEqProofs (disch := omega) [go_sem, r0, r3, r4, r5]
          refine useC (turned_ok RA) ?_
          rintro _ h6 ⟨f6, (⟨hn, _⟩ | ⟨_, T2, rfl, RT2⟩)⟩
          · exact absurd GT hn
          rw [trn_trn hgd hinc] at RT2
          simp -implicitDefEqProofs (disch := omega) [go_sem, r0, r3, r4, r5]
          have sm := same30_ok (c := m) (d := c) RT2 (((R3w.fr0 f4).fr0 f5).fr0 f6)
          rw [rowsE_len] at sm
          refine useC sm ?_
          rintro _ h7 ⟨rfl, rfl⟩
          simp -implicitDefEqProofs (disch := omega) [go_sem, r0, r3, r4, r5]
          exact (((fr1.trans f3).trans f4).trans f5).trans f6
end
end Xe
