/- Package graph: sorted rows; close. -/
import Derived.Test.YtkghjecglmmloaaG1
namespace Xe
open Go Go.Proofs Gr
set_option maxRecDepth 16000
set_option maxHeartbeats 1000000

section
variable {h : Heap} {A : Option Addr} {cap n : Nat}
theorem less_ok {a b : Int} : CallsH Try.prog 162 [.int .i64 a, .int .i64 b] h fun r h' => r = .bool (decide (a < b)) ∧ h' = h := by
  refine calls_of 17 [.tmp 4] Go.Proofs.Try.func162 rfl rfl rfl (by kernel_rfl) (Nat.le_of_ble_eq_true rfl) ?_
  simp -implicitDefEqProofs (disch := omega) [go_sem]
  have nan : ∀ x : Int, CallsH Try.prog 121 [.int .i64 x] h fun r h' => r = .bool false ∧ h' = h := fun x => by
    refine calls_of 6 [.tmp 2] Go.Proofs.Try.func121 rfl rfl rfl (by kernel_rfl) (Nat.le_of_ble_eq_true rfl) ?_
    simp -implicitDefEqProofs (disch := omega) [go_sem]
  refine useC (nan a) ?_
  rintro _ h1 ⟨rfl, rfl⟩
  simp -implicitDefEqProofs (disch := omega) [go_sem]
def cfI (x y : Value) : Int := intOf x - intOf y
def okI (x : Value) : Prop := ∃ i : Int, x = .int .i64 i
theorem cfI_ok : COk cfI okI where
  asy x y _ _ h := by unfold cfI at *; omega
  tr x y z _ _ _ h1 h2 := by unfold cfI at *; omega
theorem sortI_ok {l : List Int} (S : SlAt h A cap (ints l)) (hn : n = l.length) (hs : n < 2 ^ 40) :
    CallsH Try.prog 144 [.slice A n cap] h fun _ h' => ∃ g : List Int, g.Perm l ∧ g.Pairwise (· ≤ ·) ∧ SlAt h' A cap (ints g) ∧ Fr (blk A) h h' := by
  have hone : ∀ w ∈ ints l, w.oneCell' = true := ints_one
  have hok : OkR okI (ints l) := fun p hp => by
    have hm : gv (ints l) p ∈ ints l := List.mem_of_getElem? (gv_at hp)
    obtain ⟨x, _, hx⟩ := List.mem_map.1 hm
    exact ⟨x, hx.symm⟩
  have C : So.Cmp Try.prog h A 0 [] cfI okI := ⟨fun h' _ x y hx hy => by
    obtain ⟨a, rfl⟩ := hx
    obtain ⟨b, rfl⟩ := hy
    refine less_ok.mono ?_
    rintro _ h'' ⟨rfl, rfl⟩
    refine ⟨?_, Fr.refl _ _⟩
    have : (a < b) ↔ cfI (.int .i64 a) (.int .i64 b) < 0 := by unfold cfI; simp only [intOf_int]; omega
    simp only [this], cfI_ok⟩
  refine (So.sort_ok hs C S (by rw [ints_len]; exact hn) hone hok).mono ?_
  rintro r h' ⟨L', D, hS⟩
  have hall : ∀ w ∈ L', ∃ x : Int, w = .int .i64 x := fun w hw => by
    obtain ⟨x, _, hx⟩ := List.mem_map.1 (D.R.perm.mem_iff.1 hw)
    exact ⟨x, hx.symm⟩
  have e1 : ints (L'.map intOf) = L' := by
    unfold ints
    rw [List.map_map]
    refine (List.map_congr_left (g := id) fun w hw => ?_).trans (List.map_id _)
    obtain ⟨x, rfl⟩ := hall w hw
    rfl
  have e2 : (ints l).map intOf = l := by
    unfold ints
    rw [List.map_map]
    exact (List.map_congr_left (g := id) fun w _ => rfl).trans (List.map_id _)
  refine ⟨L'.map intOf, ?_, ?_, by rw [e1]; exact D.S, D.f⟩
  · have := D.R.perm.map intOf
    rw [e2] at this; exact this
  · rw [List.pairwise_map, List.pairwise_iff_getElem]
    intro i j hi hj hij
    have hl := D.R.len
    rw [ints_len] at hl
    have h1 := hS i j (by omega) hij (by omega)
    have g1 : gv L' i = L'[i] := by have := gv_at hi; rw [List.getElem?_eq_getElem hi] at this; exact (Option.some.inj this).symm
    have g2 : gv L' j = L'[j] := by have := gv_at hj; rw [List.getElem?_eq_getElem hj] at this; exact (Option.some.inj this).symm
    rw [g1, g2] at h1
    unfold Le cfI at h1
    omega
theorem sortN_ok {l : List Nat} (S : SlAt h A cap (nts l)) (hn : n = l.length) (hs : n < 2 ^ 40) (hnd : l.Nodup) :
    CallsH Try.prog 144 [.slice A n cap] h fun _ h' => ∃ g : List Nat, g.Perm l ∧ Inc g ∧ SlAt h' A cap (nts g) ∧ Fr (blk A) h h' := by
  refine (sortI_ok S (by rw [toI_len]; exact hn) hs).mono ?_
  rintro r h' ⟨g, hp, hi, S', f⟩
  have e1 : toI (g.map Int.toNat) = g := by
    unfold toI
    rw [List.map_map]
    refine (List.map_congr_left (g := id) fun x hx => ?_).trans (List.map_id _)
    obtain ⟨y, _, rfl⟩ := List.mem_map.1 (hp.mem_iff.1 hx)
    rfl
  have e2 : (toI l).map Int.toNat = l := by
    unfold toI
    rw [List.map_map]
    exact (List.map_congr_left (g := id) fun w _ => rfl).trans (List.map_id _)
  have hp2 : (g.map Int.toNat).Perm l := by have := hp.map Int.toNat; rw [e2] at this; exact this
  refine ⟨g.map Int.toNat, hp2, ?_, by unfold nts; rw [e1]; exact S', f⟩
  have h1 : (g.map Int.toNat).Pairwise (· ≤ ·) := by
    rw [List.pairwise_map]
    exact hi.imp fun h => Int.toNat_le_toNat h
  have h2 : (g.map Int.toNat).Nodup := hp2.nodup_iff.2 hnd
  exact (h1.and h2).imp fun h => Nat.lt_of_le_of_ne h.1 h.2
end

theorem idxF_mid {o1 o2 : List Nat} {q : Nat} (hq : q ∉ o1) : idxF (fun y => decide ((q : Int) = y)) (toI (o1 ++ q :: o2)) = o1.length := by
  have e : (toI (o1 ++ q :: o2)).findIdx? (fun y => decide ((q : Int) = y)) = some o1.length := by
    rw [List.findIdx?_eq_some_iff_getElem]
    refine ⟨by rw [toI_len, List.length_append]; simp, ?_, fun j hj => ?_⟩
    · have h1 : (toI (o1 ++ q :: o2))[o1.length]? = some (q : Int) := toI_at (by simp)
      have h2 := (List.getElem?_eq_some_iff.1 h1).2
      rw [h2]; simp
    · have h1 : (toI (o1 ++ q :: o2))[j]? = some ((o1[j] : Nat) : Int) := toI_at (by rw [List.getElem?_append_left hj, List.getElem?_eq_getElem hj])
      have h2 := (List.getElem?_eq_some_iff.1 h1).2
      rw [h2]
      simp only [decide_eq_true_eq]
      intro h3
      exact hq (by have h4 : q = o1[j] := by omega
                   rw [h4]; exact List.getElem_mem hj)
  unfold idxF
  rw [e]

section
variable {h h' : Heap} {wb n : Nat} {p : GB} {E : Nat → List Nat} {s : TS}
theorem close_m (M : WM h wb p E n s) {q : Nat} {o1 o2 : List Nat} (hq : q < n) (hall : ∀ x ∈ s.opn, x < n) (ho : s.opn = o1 ++ q :: o2) (hnd : s.opn.Nodup) (hgl : s.grp.length + 1 ≤ 4096) :
    CallsH Try.prog 125 [.pointer (some ⟨wb, 0, none⟩), .int .i64 q] h fun r h' => (s.low q < s.num q ∧ h' = h) ∨
      (s.num q ≤ s.low q ∧ ∃ g p', Inc g ∧ (∀ x, x ∈ g ↔ x ∈ q :: o2) ∧ WM h' wb p' E n { s with opn := o1, grp := s.grp ++ [g] } ∧ GStp p p' h h') := by
  refine calls_of 72 [] Go.Proofs.Try.func125 rfl rfl rfl (by kernel_rfl) (Nat.le_of_ble_eq_true rfl) ?_
  obtain ⟨hn, hop, hgr, hnl⟩ := M.sm
  have hnq := hnl q
  have nMB : p.mb ≠ wb := tag_ne M.cM M.cB (by simp)
  have nIB : p.ib ≠ wb := tag_ne M.cI M.cB (by simp)
  have s1 := M.B.at' 1 _ rfl
  have s2 := M.B.at' 2 _ rfl
  have cq := M.M.at' q hq
  simp -implicitDefEqProofs (disch := omega) [go_sem]
  refine drawK [(0, 0), (1, 0), (2, 0), (3, 1), (4, 0), (5, 0), (6, 1), (7, 0), (8, 0), (9, 0), (10, 0), (11, 1), (12, 0), (13, 0), (14, 1), (15, 0), (16, 0)] mixed (by kernel_rfl) ?_
  by_cases hlt : s.low q < s.num q
  · have hlt' : (s.low q : Int) < s.num q := by omega
    simp -implicitDefEqProofs (disch := omega) [go_sem, s1, cq, hlt']
    exact .inl hlt
  have hlt' : ¬ (s.low q : Int) < s.num q := by omega
  have hlen : s.opn.length = o1.length + (o2.length + 1) := by rw [ho]; simp
  obtain ⟨bk, hOA, hbk, hfz, hc⟩ := M.O.base (by rw [nts_len]; omega)
  have hq1 : q ∉ o1 := by
    rw [ho, List.nodup_append] at hnd
    exact fun hm => hnd.2.2 q hm q (List.mem_cons_self ..) rfl
  have s2' := s2
  rw [hOA] at s2'
  have Orow := M.O.row
  have Ocap := M.O.len
  rw [nts_len] at Ocap
  simp -implicitDefEqProofs (disch := omega) [go_sem, s1, cq, hlt', s2']
  rw [hOA] at Orow
  refine useC (index_ok (l := toI s.opn) Orow (by rw [toI_len]) (by omega) (q : Int)) ?_
  rintro _ h1 ⟨rfl, rfl⟩
  have eix : idxF (fun y => decide ((q : Int) = y)) (toI s.opn) = o1.length := by rw [ho]; exact idxF_mid hq1
  rw [eix]
  simp -implicitDefEqProofs (disch := omega) [go_sem, s2']
  have R1 : RowAt h1 (some ⟨bk, o1.length, none⟩) (nts (q :: o2)) := .inr ⟨bk, o1.length, rfl, fun i v hv => hc _ _ (by
    rw [ho, nts_append, List.getElem?_append_right (by rw [nts_len]; omega), nts_len, Nat.add_sub_cancel_left]; exact hv)⟩
  refine useC (clone_ok R1 (by rw [nts_len, List.length_cons]; omega) nts_one (by omega)) ?_
  rintro _ h2 ⟨A5, c5, rfl, S5, own5, f2⟩
  have M2 := M.fr0 f2
  have s22 := M2.B.at' 2 _ rfl
  rw [hOA] at s22
  have w2 := M2.B.fz
  obtain ⟨m, hm⟩ : ∃ m, m = (q :: o2).length := ⟨_, rfl⟩
  have hm' : m = o2.length + 1 := hm
  have elen : s.opn.length - o1.length = m := by omega
  rw [elen]
  simp -implicitDefEqProofs (disch := omega) [go_sem, s22, w2]
  obtain ⟨h3, e3⟩ : ∃ h3, h3 = hset h2 ⟨wb, 2, none⟩ (.slice (some ⟨bk, 0, none⟩) o1.length p.oc) := ⟨_, rfl⟩
  rw [← e3]
  have B3 := M2.B.set (i := 2) (.slice (some ⟨bk, 0, none⟩) o1.length p.oc) (by simp)
  rw [← e3] at B3
  have f3 : Fr (fun x => x = wb) h2 h3 := by rw [e3]; exact (Fr.refl _ _).set rfl
  have I3 := M2.I.fr f3 nIB
  have lI := M.low _ _ M.cI
  have lW := M.low _ _ M.cB
  have nb5 : ∀ {x t}, blk A5 x → p.c x = some t → False := fun {x t} k hx => by have := own5 x k; have := M.low x t hx; omega
  have S53 : SlAt h3 A5 c5 (nts (q :: o2)) := S5.fr f3 fun x k e => nb5 k (e ▸ M.cB)
  obtain ⟨b5, hA5, hb5, hz5, hc5⟩ := S53.base (by rw [nts_len, List.length_cons]; omega)
  subst hA5
  have nI5 : ¬ blk (some ⟨b5, 0, none⟩) p.ib := fun k => nb5 k M.cI
  have hmem : ∀ x ∈ q :: o2, x < n := fun x hx => hall x (by rw [ho]; exact List.mem_append_right _ hx)
  refine loopK (fun ρ h' => ρ 0 = .pointer (some ⟨wb, 0, none⟩) ∧ ρ 5 = .slice (some ⟨b5, 0, none⟩) m c5 ∧ ρ 47 = .slice (some ⟨b5, 0, none⟩) m c5 ∧ ρ 48 = .int .i64 m ∧ ∃ k : Nat, ρ 49 = .int .i64 k ∧ k ≤ m ∧ Fr (fun x => x = p.ib) h3 h' ∧
      FnB h' p.ib n (fun j => .bool (decide (j ∈ s.opn ∧ j ∉ (q :: o2).take k)))) (fun ρ _ => m - (intOf (ρ 49)).toNat) (by kernel_rfl) ?_ ?_
  · exact ⟨rfl, rfl, rfl, rfl, 0, rfl, by omega, Fr.refl _ _, I3.cong fun i _ => by simp⟩
  · rintro ρ h4 ⟨r0, r5, r47, r48, k, r49, hk, f4, I4⟩
    by_cases hkl : k < m
    · have hxk : (q :: o2)[k]? = some ((q :: o2)[k]'(by omega)) := List.getElem?_eq_getElem (by omega)
      obtain ⟨x, hx⟩ : ∃ x, x = (q :: o2)[k]'(by omega) := ⟨_, rfl⟩
      rw [← hx] at hxk
      have hxm : x ∈ q :: o2 := List.mem_of_getElem? hxk
      have hxn := hmem x hxm
      have ck := hc5 k _ (nts_at hxk)
      have ck4 : hcell h4 ⟨b5, k, none⟩ = some (.int .i64 (x : Int)) := (f4.cell (hcell_lt ck) fun e => nI5 ⟨⟨b5, 0, none⟩, rfl, e⟩).trans ck
      have s43 := (B3.fr f4 nIB.symm).at' 3 _ rfl
      have i4 := I4.at' x hxn
      have z4 := I4.fz
      simp -implicitDefEqProofs (disch := omega) [go_sem, r0, r5, r47, r48, r49, ck4, s43, i4, z4]
      refine ⟨⟨k + 1, by omega, by omega, f4.set rfl, ?_⟩, by omega⟩
      refine (I4.set (.bool false) hxn).cong fun j _ => ?_
      have et : (q :: o2).take (k + 1) = (q :: o2).take k ++ [x] := by rw [List.take_add_one, hxk]; rfl
      rw [et]
      by_cases e : j = x
      · rw [if_pos e, e]; simp
      · rw [if_neg e]; simp [e]
    · have ek : k = m := by omega
      have ett : (q :: o2).take k = q :: o2 := by rw [ek, hm]; exact List.take_length
      rw [ett] at I4
      have S54 : SlAt h4 (some ⟨b5, 0, none⟩) c5 (nts (q :: o2)) := S53.fr f4 fun x k e => nI5 (e ▸ k)
      have hnd2 : (q :: o2).Nodup := by rw [ho, List.nodup_append] at hnd; exact hnd.2.1
      simp -implicitDefEqProofs (disch := omega) [go_sem, r0, r5, r47, r48, r49]
      refine useC (sortN_ok S54 hm (by omega) hnd2) ?_
      rintro _ h5 ⟨g, hgp, hgi, S6, f5⟩
      have s54 := ((B3.fr f4 nIB.symm).fr f5 (fun k => nb5 k M.cB)).at' 4 _ rfl
      have w54 := ((B3.fr f4 nIB.symm).fr f5 (fun k => nb5 k M.cB)).fz
      simp -implicitDefEqProofs (disch := omega) [go_sem, r0, r5, r47, r48, r49, s54]
      have nW5 : ¬ blk (some ⟨b5, 0, none⟩) wb := fun k => nb5 k M.cB
      have nbR : ∀ x, blk p.R x → ¬ blk (some ⟨b5, 0, none⟩) x := fun x k k' => nb5 k' (M.cR x k)
      have nRW : ∀ x, blk p.R x → x ≠ wb := fun x k => tag_ne (M.cR x k) M.cB (by simp)
      have nRI : ∀ x, blk p.R x → x ≠ p.ib := fun x k => tag_ne (M.cR x k) M.cI (by simp)
      have R5 : SlAt h5 p.R p.rc p.vs := ((M2.R.fr f3 nRW).fr f4 nRI).fr f5 nbR
      refine build1 rfl rfl ?_
      obtain ⟨h6, e6⟩ : ∃ h6, h6 = h5.push (.cells #[.slice (some ⟨b5, 0, none⟩) m c5] 32) := ⟨_, rfl⟩
      rw [← e6]
      have f6 : Fr (fun _ => False) h5 h6 := by rw [e6]; exact (Fr.refl _ _).push
      have z6 : h6.size = h5.size + 1 := by rw [e6, push_size]
      have hvl := M.V.len
      simp -implicitDefEqProofs (disch := omega) [go_sem, r0, r5, r47, r48, r49]
      refine append1 (v := .slice (some ⟨b5, 0, none⟩) m c5) (R5.fr f6 fun _ _ k => k) rfl (by rw [e6, hcell_push_new]; rfl) rfl (by omega) (by omega) ?_
      intro R' rc' h7 S7 f7 own7
      have z2 := f2.size
      have z3 := f3.size
      have z4 := f4.size
      have z5 := f5.size
      have z7 := f7.size
      have nWR : ¬ blk p.R wb := fun k => nRW wb k rfl
      have nIR : ¬ blk p.R p.ib := fun k => nRI _ k rfl
      have B7 := (((B3.fr f4 nIB.symm).fr f5 nW5).fr f6 id).fr f7 nWR
      have s74 := B7.at' 4 _ rfl
      have w7 := B7.fz
      simp -implicitDefEqProofs (disch := omega) [go_sem, r0, r5, r47, r48, r49, s74, w7]
      obtain ⟨h8, e8⟩ : ∃ h8, h8 = hset h7 ⟨wb, 4, none⟩ (.slice R' (p.vs.length + 1) rc') := ⟨_, rfl⟩
      rw [← e8]
      have B8 := B7.set (i := 4) (.slice R' (p.vs.length + 1) rc') (by simp)
      rw [← e8] at B8
      have f8 : Fr (fun x => x = wb) h7 h8 := by rw [e8]; exact (Fr.refl _ _).set rfl
      have z8 := f8.size
      have b5new : ∀ x, blk (some ⟨b5, 0, none⟩) x → h1.size ≤ x := own5
      obtain ⟨c1, j1, j2, j3⟩ := recoG (c := p.c) (sz := h1.size) (blk (some ⟨b5, 0, none⟩)) .row (fun x hx => .inr (own5 x hx)) M.low
      have low1 : ∀ x u, c1 x = some u → x < h6.size := fun x u hx => (j3 x u hx).elim (fun k => by have := M.low x u k; omega) fun k => by
        have h9 := k.1
        obtain ⟨a, ha, hax⟩ := h9
        cases ha
        have hx5 : b5 = x := hax
        omega
      obtain ⟨c', k1, k2, k3⟩ := recoG (c := c1) (sz := h6.size) (blk R') .r (fun x hx => (own7 x hx).imp_left fun k => j2 _ _ (M.cR x k)) low1
      have k2' : ∀ x t, p.c x = some t → c' x = some t := fun x t k => k2 x t (j2 x t k)
      have k3' : ∀ x t, c' x = some t → p.c x = some t ∨ (h1.size ≤ x ∧ (t = .row ∧ blk (some ⟨b5, 0, none⟩) x ∨ t = .r ∧ blk R' x)) := fun x t k => by
        rcases k3 x t k with h | h
        · rcases j3 x t h with h | h
          · exact .inl h
          · exact .inr ⟨h.2.1, .inl ⟨h.2.2, h.1⟩⟩
        · exact .inr ⟨by have := h.2.1; omega, .inr ⟨h.2.2, h.1⟩⟩
      have tot : Fr (fun x => p.c x = some .w ∨ p.c x = some .i ∨ p.c x = some .r) h1 h8 := by
        have g2 := (f2.mono (T := fun x => p.c x = some .w ∨ p.c x = some .i ∨ p.c x = some .r) fun _ _ k => k.elim).trans' f3 (fun x _ k => by rw [k, M.cB]; simp)
        have g3 := g2.trans' f4 (fun x _ k => by rw [k, M.cI]; simp)
        have g4 := g3.trans' f5 (fun x hx k => by have := own5 x k; omega)
        have g5 := g4.trans' f6 (fun x _ k => k.elim)
        have g6 := g5.trans' f7 (fun x _ k => by rw [M.cR x k]; simp)
        exact g6.trans' f8 (fun x _ k => by rw [k, M.cB]; simp)
      have hgl' : g.length = m := by rw [hm]; exact hgp.length_eq
      have hgm : ∀ x, x ∈ g ↔ x ∈ q :: o2 := fun x => hgp.mem_iff
      have argc : ∀ x, c' x = some .arg → p.c x = some .arg := fun x k => (k3' x _ k).elim id fun k => by rcases k.2 with k | k <;> cases k.1
      refine .inr ⟨by omega, g, hgi, by simpa using hgm, { p with O := some ⟨bk, 0, none⟩, R := R', rc := rc', vs := p.vs ++ [.slice (some ⟨b5, 0, none⟩) m c5], c := c' }, ?_, ⟨k2', fun x t hx => (k3' x t hx).imp_right fun k => ⟨k.1, ?_⟩, ?_⟩⟩
      · exact {
          low := fun x t hx => (k3' x t hx).elim (fun k => by have := M.low x t k; omega) fun k => by
            rcases k.2 with ⟨_, k⟩ | ⟨_, k⟩
            · obtain ⟨a, ha, hax⟩ := k
              cases ha
              have hx5 : b5 = x := hax
              omega
            · have := S7.blk_lt k; omega
          B := by
            have e9 : (p.vs ++ [Value.slice (some ⟨b5, 0, none⟩) m c5]).length = p.vs.length + 1 := by simp
            show ListB h8 wb [_, _, .slice (some ⟨bk, 0, none⟩) o1.length p.oc, _, .slice R' (p.vs ++ [Value.slice (some ⟨b5, 0, none⟩) m c5]).length rc']
            rw [e9]; exact B8
          cB := k2' _ _ M.cB
          G := (M.G.fr tot fun x hx k => by rw [k] at hx; simp at hx).ext (fun x k => k2' x _ k) (fun x k => by have := M.G.lt x (argc x k); omega)
          M := M.M.fr tot fun k => by rw [M.cM] at k; simp at k
          cM := k2' _ _ M.cM
          O := by
            have h9 := (M.O.fr tot fun x hx k => by rw [M.cO x hx] at k; simp at k).take o1.length
            rw [nts_take, ho, List.take_left] at h9
            rw [hOA] at h9
            exact h9
          cO := fun x hx => k2' _ _ (M.cO x (by rw [hOA]; exact hx))
          I := by
            refine ((((I4.fr f5 nI5).fr f6 id).fr f7 nIR).fr f8 nIB).cong fun j _ => ?_
            show _ = Value.bool (decide (j ∈ o1))
            congr 1
            rw [decide_eq_decide, ho]
            rw [ho, List.nodup_append] at hnd
            constructor
            · rintro ⟨h1, h2⟩
              exact (List.mem_append.1 h1).elim id fun h => absurd h h2
            · exact fun h => ⟨List.mem_append_left _ h, fun h2 => hnd.2.2 j h j h2 rfl⟩
          cI := k2' _ _ M.cI
          R := S7.fr f8 fun x hx e => by
            rcases own7 x hx with k | k
            · exact nWR (e ▸ k)
            · omega
          cR := k1
          V := by
            have h9 : RowAt h8 (some ⟨b5, 0, none⟩) (nts g) := by
              have g1 := (S6.row.fr f6 fun _ _ k => k).fr f7 fun x hx k => nb5 hx (M.cR x k)
              exact g1.fr f8 fun x hx e => nW5 (e ▸ hx)
            have h10 := (M.V.fr tot fun x hx k => by rw [k] at hx; simp at hx).ext (C' := fun x => c' x = some .row) fun x k => k2' x _ k
            have h11 := h10.snoc (A := some ⟨b5, 0, none⟩) (l := g) (c := c5) h9 fun x hx => k2 x _ (j1 x hx)
            rw [hgl'] at h11
            exact h11
          sm := ⟨hn, by show o1.length ≤ 4096; omega, by show (s.grp ++ [g]).length ≤ 4096; simp; omega, hnl⟩ }
      · rcases k.2 with k | k <;> (rw [k.1]; simp)
      · exact tot.mono fun x _ k => by rcases k with k | k | k <;> (rw [k]; simp)
end
end Xe
