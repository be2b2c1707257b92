/- Package watch: Back, Drop. -/
import Derived.Test.YtkghjecglmmloaaT17k
import Derived.Test.YtkghjecglmmloaaWP4
namespace Xe
open Go Tp Go.Proofs
set_option maxRecDepth 16000

section
variable {h : Heap} {bb : Nat} {p : BP} {s : WS}
theorem bback_m (M : BaseM h bb p s) {n : Int} (h0 : -9223372036854775808 ≤ n) (h1 : n ≤ 9223372036854775807) : CallsH Try.prog 57 [.pointer (some ⟨bb, 0, none⟩), .int .i64 n] h fun _ h' =>
    ∃ p', BaseM h' bb p' (if max n 0 < s.level then backS s (max n 0).toNat else s) ∧ Stp p p' h h' := by
  have s0 := M.B.at' 0 _ rfl
  have hsm := M.sm
  have hlv := M.T.lvs.len
  have hln := M.T.len
  have hvs := M.T.hv
  refine calls_of 53 [] Go.Proofs.Try.func57 rfl rfl rfl (by kernel_rfl) (Nat.le_of_ble_eq_true rfl) ?_
  simp -implicitDefEqProofs (disch := omega) [go_sem, s0]
  refine useC (tlevel_ok M.T) ?_
  rintro _ h1' ⟨rfl, rfl⟩
  by_cases hlt : max n 0 < s.level
  · rw [if_pos hlt]
    obtain ⟨k, hk⟩ : ∃ k : Nat, max n 0 = k := ⟨(max n 0).toNat, by omega⟩
    have hkt : (max n 0).toNat = k := by omega
    rw [hkt]
    have hbk : backK s.level n = k := by unfold backK; rw [if_pos hlt]; exact hkt
    have hn1 : ¬ ((s.level : Int) ≤ k) := by omega
    rw [hk] at hlt
    have s4 := M.B.at' 4 _ rfl
    simp -implicitDefEqProofs (disch := omega) [go_sem, hk, hlt, hn1]
    refine drawC [(0, 0), (1, 0), (2, 0), (3, 0), (4, 2), (5, 0), (6, 0), (7, 0), (8, 1), (9, 0), (10, 3), (11, 0), (12, 0), (13, 0), (14, 4)] (fun h' => hcell h' ⟨bb, 4, none⟩ = some (.int .i64 (s.head : Int))) mixed (by kernel_rfl) s4 ?_
    simp -implicitDefEqProofs (disch := omega) [go_sem]
    refine float2 (.int .i64 (s.head : Int)) (fun h' hC => by simp -implicitDefEqProofs (disch := omega) [go_sem, hC]) ?_
    simp -implicitDefEqProofs (disch := omega) [go_sem, s0]
    refine useC (tback_ok M.T h0 h1) ?_
    rintro _ h2 ⟨rfl, T2, nx2⟩
    rw [hbk] at T2
    rw [hbk]
    obtain ⟨p2, M2, st2, e2eb, e2f, e2mb⟩ := M.trail T2 nx2
    have s42 := M2.B.at' 4 _ rfl
    have fz2 := M2.B.fz
    have hmin : min (s.head : Int) ((cutTo s.l k).length : Int) = ((min s.head (cutTo s.l k).length : Nat) : Int) := by omega
    refine ⟨s42, ?_⟩
    obtain ⟨h3, e3⟩ : ∃ h3, h3 = hset h2 ⟨bb, 4, none⟩ (.int .i64 ((min s.head (cutTo s.l k).length : Nat) : Int)) := ⟨_, rfl⟩
    have M3 := M2.setHead (min s.head (cutTo s.l k).length)
    have st3 : Stp p2 p2 h2 h3 := by rw [e3]; exact stp_set M2 M2.cB
    rw [← e3] at M3
    have fz3 := M3.B.fz
    have s33 := M3.B.at' 3 _ rfl
    obtain ⟨p4, M4, st4, e4eb, e4f, e4mb⟩ := M3.todo (l' := []) (Fr.refl _ _) SlO.nil (fun y hy => by obtain ⟨a, ha, _⟩ := hy; cases ha) (by simp)
    simp only [List.length_nil] at M4 st4
    obtain ⟨h4, e4⟩ : ∃ h4, h4 = hset h3 ⟨bb, 3, none⟩ (.slice none 0 0) := ⟨_, rfl⟩
    rw [← e4] at M4 st4
    have s32 := M2.B.at' 3 _ rfl
    have s22 := M2.B.at' 2 _ rfl
    simp -implicitDefEqProofs (disch := omega) [go_sem, fz2, s42, hmin, s32, s22]
    rw [← e3, ← e4, ← e4mb]
    refine MapAt.clear M4.M rfl ?_
    intro h5 MA5 f5
    have M5 := M4.unwat (W' := fun _ => []) MA5 f5 (fun x => .inr ⟨rfl, rfl⟩)
    have st5 := stp_map M4 (f' := fun _ => none) f5
    have s15 := M5.B.at' 1 _ rfl
    simp -implicitDefEqProofs (disch := omega) [go_sem, s15]
    have st05 := ((st2.trans st3).trans st4).trans st5
    generalize ({ p4 with f := fun _ => none } : BP) = p5 at *
    clear M2 M3 M4 st2 st3 st4 st5 s32 s22 s33 fz2 fz3 s42 s15
    refine loopK (fun ρ h' => ρ 0 = .pointer (some ⟨bb, 0, none⟩) ∧ ρ 38 = .int .i64 s.cs.length ∧ ∃ (i : Nat) (p' : BP), ρ 39 = .int .i64 i ∧ i ≤ s.cs.length ∧ BaseM h' bb p' { backS s k with todo := List.range i } ∧ Stp p p' h1' h')
      (fun ρ _ => s.cs.length - (intOf (ρ 39)).toNat) (by kernel_rfl) ?_ ?_
    · exact ⟨rfl, rfl, 0, p5, rfl, by omega, M5, st05⟩
    · rintro ρ h6 ⟨r0, r38, i, p6, r39, hi, M6, st6⟩
      by_cases him : i < s.cs.length
      · have s36 := M6.B.at' 3 _ rfl
        have D6 := M6.D
        have hlr : ({ backS s k with todo := List.range i } : WS).todo.length = i := List.length_range
        rw [hlr] at s36
        simp -implicitDefEqProofs (disch := omega) [go_sem, r0, r38, r39, s36]
        refine build1 rfl rfl ?_
        have f7 : Fr (fun _ => False) h6 (h6.push (.cells #[.int .i64 (i : Int)] 3)) := (Fr.refl _ _).push
        simp -implicitDefEqProofs (disch := omega) [go_sem]
        have D7 := D6.fr f7 (fun _ _ h => h)
        refine appendQ (vs := ids (List.range i)) (ws := [.int .i64 (i : Int)]) D7 (by rw [ids_len, List.length_range]) (SlAt.new (vs := [.int .i64 (i : Int)])).row rfl (by simp [Value.oneCell']) (by omega) (by omega) ?_
        intro TA8 tc8 h8 S8 f8 hA8
        have f68 : Fr (blk p6.TA) h6 h8 := (f7.mono fun _ _ h => h.elim).trans f8
        have nbT : ¬ blk p6.TA bb := fun h => by have := M6.cD _ h; rw [M6.cB] at this; cases this
        have B8 := M6.B.fr f68 nbT
        have fz8 := B8.fz
        have s38 := B8.at' 3 _ rfl
        have ei : ids (List.range i) ++ [.int .i64 (i : Int)] = ids (List.range (i + 1)) := by rw [List.range_succ, ids_append]; rfl
        rw [ei] at S8
        obtain ⟨p9, M9, st9, _⟩ := M6.todo (l' := List.range (i + 1)) f68 S8 (fun y hy => (hA8 y hy).imp_right fun h => by rw [push_size] at h; omega) (by rw [List.length_range]; omega)
        rw [List.length_range] at M9 st9
        simp -implicitDefEqProofs (disch := omega) [go_sem, r0, r38, r39, fz8, s38]
        exact ⟨⟨i + 1, by omega, by omega, p9, M9, st6.trans st9⟩, by omega⟩
      · have e : i = s.cs.length := by omega
        subst e
        simp -implicitDefEqProofs (disch := omega) [go_sem, r0, r38, r39]
        exact ⟨p6, M6, st6⟩
  · rw [if_neg hlt]
    simp -implicitDefEqProofs (disch := omega) [go_sem]
    exact ⟨p, M, Stp.refl⟩

/-- a literal that holds because of a clause -/
def dropP (l : List St) (id x : Int) : Bool := decide (0 < trI l x) && decide (RSi l (max x (-x)) = id)
theorem dropP_any {s : WS} (I : WInv s) {id : Nat} {e : Ent} (he : s.cs[id]? = some e) : e.lits.any (dropP s.l id) = true ↔ ∃ t ∈ s.l, t.rs = id := by
  rw [List.any_eq_true]
  have key : ∀ t ∈ s.l, RSi s.l (max t.lit (-t.lit)) = t.rs := fun t ht => by
    obtain ⟨k, hk⟩ := List.getElem?_of_mem ht
    have := I.good.rs hk
    unfold RSi
    rw [if_neg (by omega)]
    have e : (max t.lit (-t.lit)).toNat = t.lit.natAbs := by omega
    rw [e]; exact this
  constructor
  · rintro ⟨x, hx, h⟩
    unfold dropP at h
    rw [Bool.and_eq_true, decide_eq_true_eq, decide_eq_true_eq] at h
    have h1 : trI s.l x = 1 := by have := trI_cases s.l x; omega
    obtain ⟨t, ht, rfl⟩ := List.mem_map.1 (tr_one.1 h1)
    exact ⟨t, ht, (key t ht).symm.trans h.2⟩
  · rintro ⟨t, ht, hr⟩
    obtain ⟨k, hk⟩ := List.getElem?_of_mem ht
    obtain ⟨e0, h0, h1, h2⟩ := I.rs k t hk (by omega)
    rw [hr, Int.toNat_natCast, he] at h0
    cases h0
    refine ⟨t.lit, h2.1, ?_⟩
    unfold dropP
    rw [Bool.and_eq_true, decide_eq_true_eq, decide_eq_true_eq, key t ht, tr_one.2 (List.mem_map.2 ⟨t, ht, rfl⟩)]
    exact ⟨by omega, hr⟩
theorem dropF_ok {b1 b2 : Nat} {id x : Int} (M : BaseM h bb p s) (hb1 : hcell h ⟨b1, 0, none⟩ = some (.pointer (some ⟨bb, 0, none⟩))) (hb2 : hcell h ⟨b2, 0, none⟩ = some (.int .i64 id)) (h0 : -9223372036854775808 < x) (h1 : x ≤ 9223372036854775807) :
    CallsH Try.prog 90 ([.int .i64 x] ++ [.pointer (some ⟨b1, 0, none⟩), .pointer (some ⟨b2, 0, none⟩)]) h fun r h' => r = .bool (dropP s.l id x) ∧ h' = h := by
  have s0 := M.B.at' 0 _ rfl
  refine calls_of 25 [.tmp 4] Go.Proofs.Try.func90 rfl rfl rfl (by kernel_rfl) (Nat.le_of_ble_eq_true rfl) ?_
  simp -implicitDefEqProofs (disch := omega) [go_sem, hb1, s0]
  refine drawC [(0, 1), (1, 0), (2, 0), (3, 1), (4, 0), (5, 3), (6, 0), (7, 0), (8, 1), (9, 0), (10, 0), (11, 1), (12, 0), (13, 0), (14, 0), (15, 0), (17, 2), (16, 3), (18, 0), (19, 0), (20, 0)] (Eq h) mixed (by kernel_rfl) rfl ?_
  simp -implicitDefEqProofs (disch := omega) [go_sem, hb1, s0]
  refine useC (ttruth_ok M.T (by omega) h1) ?_
  rintro _ h' ⟨rfl, rfl⟩
  unfold dropP
  by_cases e : 0 < trI s.l x
  · simp -implicitDefEqProofs (disch := omega) [go_sem, hb1, hb2, s0, e]
    refine useC (treason_ok M.T (by omega) (by omega)) ?_
    rintro _ h' ⟨rfl, rfl⟩
    simp -implicitDefEqProofs (disch := omega) [go_sem, hb2, e]
  · simp -implicitDefEqProofs (disch := omega) [go_sem, hb2, e]
theorem bdrop_m (M : BaseM h bb p s) (I : WInv s) {id : Int} (h0 : -9223372036854775808 ≤ id) (h1 : id ≤ 9223372036854775807) :
    CallsH Try.prog 58 [.pointer (some ⟨bb, 0, none⟩), .int .i64 id] h fun r h' =>
      (∃ (k : Nat) (e : Ent), id = k ∧ s.cs[k]? = some e ∧ e.gone = false ∧ (∀ t ∈ s.l, t.rs ≠ k) ∧ r = .bool true ∧ BaseM h' bb p { s with cs := setG s.cs k } ∧ Stp p p h h') ∨
      (r = .bool false ∧ Fr (fun _ => False) h h' ∧ ((0 ≤ id → ∀ e, s.cs[id.toNat]? = some e → e.gone = true) ∨ (0 ≤ id ∧ ∃ t ∈ s.l, t.rs = id))) := by
  refine calls_of 22 [.tmp 4] Go.Proofs.Try.func58 rfl rfl rfl (by kernel_rfl) (Nat.le_of_ble_eq_true rfl) ?_
  obtain ⟨h2, e2⟩ : ∃ h2, h2 = (h.push (.cells #[.pointer (some ⟨bb, 0, none⟩)] 70)).push (.cells #[.int .i64 id] 3) := ⟨_, rfl⟩
  have f2 : Fr (fun _ => False) h h2 := by rw [e2]; exact ((Fr.refl _ _).push).push
  have M2 := M.fr0 f2
  have q1 : hcell h2 ⟨h.size, 0, none⟩ = some (.pointer (some ⟨bb, 0, none⟩)) := by
    rw [e2, hcell_push_old (by rw [push_size]; omega), hcell_push_new]; rfl
  have q2 : hcell h2 ⟨h.size + 1, 0, none⟩ = some (.int .i64 id) := by
    rw [e2]
    have : h.size + 1 = (h.push (.cells #[.pointer (some ⟨bb, 0, none⟩)] 70)).size := by rw [push_size]
    rw [this, hcell_push_new]; rfl
  simp -implicitDefEqProofs (disch := omega) [go_sem]
  rw [← e2]
  simp -implicitDefEqProofs (disch := omega) [go_sem, q1, q2]
  by_cases hg : 0 ≤ id → ∀ e, s.cs[id.toNat]? = some e → e.gone = true
  · refine useC (there_none M2 h0 h1 hg) ?_
    rintro _ h3 ⟨rfl, rfl⟩
    simp -implicitDefEqProofs (disch := omega) [go_sem]
    exact ⟨f2, .inl hg⟩
  · have hg' : ∃ (k : Nat) (e : Ent), id = k ∧ s.cs[k]? = some e ∧ e.gone = false := by
      by_cases h3 : 0 ≤ id
      · cases h4 : s.cs[id.toNat]? with
        | none => exact absurd (fun _ e he => by rw [h4] at he; cases he) hg
        | some e =>
          refine ⟨id.toNat, e, by omega, h4, ?_⟩
          cases h5 : e.gone with
          | false => rfl
          | true => exact absurd (fun _ e' he => by rw [h4] at he; cases he; exact h5) hg
      · exact absurd (fun h => absurd h h3) hg
    obtain ⟨k, e, rfl, he, hge⟩ := hg'
    refine useC (there_some M2 he hge) ?_
    rintro _ h3 ⟨rfl, rfl⟩
    obtain ⟨A, cap, EB, R, _⟩ := (M2.E k e he).ex
    have e0 := EB.at' 0 _ rfl
    have e3 := EB.at' 2 _ rfl
    have fz := EB.fz
    have hlen := (M2.E k e he).len
    have hcl := (I.cl e (List.mem_of_getElem? he)).2
    have hv := I.hv
    simp -implicitDefEqProofs (disch := omega) [go_sem, e0]
    have ci := containsFunc_ok (cs := [.pointer (some ⟨h.size, 0, none⟩), .pointer (some ⟨h.size + 1, 0, none⟩)]) (c := cap) R rfl (by omega) (dropP s.l k) (fun x hx => dropF_ok M2 q1 q2 (by have := hcl x hx; omega) (by have := hcl x hx; omega))
    refine useC ci ?_
    rintro _ h4 ⟨rfl, rfl⟩
    cases ha : e.lits.any (dropP s.l k) with
    | true =>
      simp -implicitDefEqProofs (disch := omega) [go_sem]
      exact ⟨f2, .inr ((dropP_any I he).1 ha)⟩
    | false =>
      simp -implicitDefEqProofs (disch := omega) [go_sem, fz, e3]
      have hn : ∀ t ∈ s.l, t.rs ≠ k := fun t ht hr => by
        have := (dropP_any I he).2 ⟨t, ht, hr⟩
        rw [ha] at this; cases this
      refine ⟨k, rfl, e, he, hge, hn, M2.setGone he, ?_⟩
      exact (Stp.fr0 f2).trans (stp_set M2 (M2.E k e he).cb)
end
end Xe
