/- Package watch: Add. -/
import Derived.Test.YtkghjecglmmloaaT17h
namespace Xe
open Go Tp Go.Proofs
set_option maxRecDepth 16000
set_option maxHeartbeats 1000000

section
variable {h : Heap} {bb : Nat} {p : BP} {s : WS}

theorem BaseM.addE {h0 h4 : Heap} (M0 : BaseM h0 bb p s) (M : BaseM h bb p s) (hz : h0.size ≤ h.size) {A' L' : Option Addr} {cap' cl' : Nat} {L : List Int} (RA : RowAt h A' (ints L)) (hA1 : ∀ y, blk A' y → h0.size ≤ y ∧ y < h.size) (f : Fr (blk p.L) h h4)
    (EB : ListB h4 h.size [.slice A' L.length cap', .complex .f64 (Fx.enc 0) (Fx.enc 0), .bool false]) (SL : SlAt h4 L' cl' (eptrs p.eb s.cs.length ++ [.pointer (some ⟨h.size, 0, none⟩)])) (hL : ∀ y, blk L' y → blk p.L y ∨ h.size + 1 ≤ y) (hlen : L.length ≤ 16777216) (hn : s.cs.length + 1 < 2 ^ 30) :
    ∃ p', BaseM (hset h4 ⟨bb, 1, none⟩ (.slice L' (s.cs.length + 1) cl')) bb p' { s with cs := s.cs ++ [⟨L, 0, 0, false⟩] } ∧ (∀ x t, p.c x = some t → p'.c x = some t) ∧ (∀ x t, p'.c x = some t → p.c x = some t ∨ h0.size ≤ x) ∧ p'.TA = p.TA ∧ p'.tc = p.tc := by
  obtain ⟨c1, a1, a2, a3⟩ := reco (c := p.c) (sz := h0.size) (blk A') .con (fun y hy => .inr (hA1 y hy).1) M0.low
  have low1 : ∀ x u, c1 x = some u → x < h.size := fun x u hx => (a3 x u hx).elim (M.low x u) fun h => (hA1 x h.1).2
  obtain ⟨c2, b1, b2, b3⟩ := reco (c := c1) (sz := h.size) (fun x => x = h.size) (.ent s.cs.length) (fun y hy => .inr (by omega)) low1
  have low2 : ∀ x u, c2 x = some u → x < h.size + 1 := fun x u hx => (b3 x u hx).elim (fun h => by have := low1 x u h; omega) fun h => by omega
  obtain ⟨c3, d1, d2, d3⟩ := reco (c := c2) (sz := h.size + 1) (blk L') .lst (fun y hy => (hL y hy).imp_left fun h => b2 _ _ (a2 _ _ (M.cL y h))) low2
  have ext : ∀ x t, p.c x = some t → c3 x = some t := fun x t hx => d2 _ _ (b2 _ _ (a2 _ _ hx))
  have own : ∀ x t, c3 x = some t → p.c x = some t ∨ h0.size ≤ x := fun x t hx => by
    rcases d3 x t hx with h | ⟨_, h⟩
    · rcases b3 x t h with h | ⟨_, h⟩
      · rcases a3 x t h with h | ⟨_, h⟩
        · exact .inl h
        · exact .inr h
      · exact .inr (by omega)
    · exact .inr (by omega)
  have g : Fr (fun x => p.c x = some .lst) h h4 := f.mono fun x _ hx => M.cL x hx
  have B4 := M.B.fr g (fun h => by rw [M.cB] at h; cases h)
  have f2 : Fr (fun x => p.c x = some .lst ∨ x = bb) h (hset h4 ⟨bb, 1, none⟩ (.slice L' (s.cs.length + 1) cl')) := (g.mono fun _ _ h => .inl h).set (.inr rfl)
  have nb : ∀ {x : Nat} {t : Tag}, p.c x = some t → t ≠ .lst → t ≠ .base → ¬ (p.c x = some .lst ∨ x = bb) := fun h h1 h2 hn => by
    rcases hn with hn | rfl
    · rw [h] at hn; cases hn; exact h1 rfl
    · rw [M.cB] at h; cases h; exact h2 rfl
  have nb2 : ∀ {x : Nat} {t : Tag}, (p.c x = some .lst ∨ x = bb) → t ≠ .lst → t ≠ .base → p.c x ≠ some t := fun hx h1 h2 h => nb h h1 h2 hx
  have hbb := M0.low bb _ M0.cB
  have hnc : (s.cs ++ [(⟨L, 0, 0, false⟩ : Ent)]).length = s.cs.length + 1 := by simp
  have hcon : ∀ y, blk A' y → c3 y = some .con := fun y hy => d2 _ _ (b2 _ _ (a1 y hy))
  have hunc : ∀ y, blk A' y → ¬ (p.c y = some .lst ∨ y = bb) := fun y hy h => by
    have := (hA1 y hy).1
    rcases h with h | h
    · have := M0.low y _ h; omega
    · omega
  refine ⟨{ p with L := L', cl := cl', eb := fun id => if id = s.cs.length then h.size else p.eb id, c := c3 }, ?_, ext, own, rfl, rfl⟩
  exact {
    low := fun x t hx => by
      rw [hset_size]
      rcases d3 x t hx with h | ⟨h, _⟩
      · have := low2 x t h; have := EB.lt; omega
      · exact SL.blk_lt h
    B := by rw [hnc]; exact B4.set (i := 1) (.slice L' (s.cs.length + 1) cl') (by simp)
    cB := ext _ _ M.cB
    T := M.T.fr f2 fun x hx => nb (M.cT x hx) (fun h => (nomatch h)) (fun h => (nomatch h))
    cT := fun x hx => ext _ _ (M.cT x hx)
    L := by
      show SlAt _ L' cl' (eptrs (fun id => if id = s.cs.length then h.size else p.eb id) (s.cs ++ [(⟨L, 0, 0, false⟩ : Ent)]).length)
      rw [hnc]
      have e : eptrs (fun id => if id = s.cs.length then h.size else p.eb id) (s.cs.length + 1) = eptrs p.eb s.cs.length ++ [.pointer (some ⟨h.size, 0, none⟩)] := by
        unfold eptrs
        rw [List.range_succ, List.map_append]
        congr 1
        · refine List.map_congr_left fun i hi => ?_
          rw [List.mem_range] at hi
          simp only [if_neg (show ¬ i = s.cs.length by omega)]
        · simp
      rw [e]
      exact SL.keep (fun x hx => hset_other (fun e => by
        have e' : x = bb := e
        rw [e'] at hx
        rcases hL bb hx with h | h
        · have := M.cL bb h; rw [M.cB] at this; cases this
        · omega)) (by rw [hset_size]; exact Nat.le_refl _)
    cL := d1
    E := fun id e he => by
      have he' : (s.cs ++ [(⟨L, 0, 0, false⟩ : Ent)])[id]? = some e := he
      by_cases hid : id = s.cs.length
      · subst hid
        rw [List.getElem?_append_right (Nat.le_refl _), Nat.sub_self] at he'
        simp only [List.getElem?_cons_zero, Option.some.injEq] at he'
        subst he'
        simp only [if_true]
        exact ⟨⟨A', cap', EB.oth (by omega), RA.fr f2 hunc, hcon⟩, d2 _ _ (b1 _ rfl), ⟨by show 0 ≤ _; omega, by show 0 ≤ _; omega⟩, hlen⟩
      · have hl := (List.getElem?_eq_some_iff.1 he').1
        rw [hnc] at hl
        rw [List.getElem?_append_left (by omega)] at he'
        simp only [if_neg hid]
        exact ((M.E id e he').fr f2 (fun x hx => nb2 hx (fun h => (nomatch h)) (fun h => (nomatch h))) (fun x hx => nb2 hx (fun h => (nomatch h)) (fun h => (nomatch h)))).ext ext
    M := M.M.fr f2 (nb M.cM (fun h => (nomatch h)) (fun h => (nomatch h)))
    cM := ext _ _ M.cM
    W := fun x => ((M.W x).fr f2 fun y hy => nb2 hy (fun h => (nomatch h)) (fun h => (nomatch h))).ext ext
    D := M.D.fr f2 fun x hx => nb (M.cD x hx) (fun h => (nomatch h)) (fun h => (nomatch h))
    cD := fun x hx => ext _ _ (M.cD x hx)
    sm := ⟨by rw [hnc]; exact hn, M.sm.2⟩ }

def addS (s : WS) (L : List Int) : WS := { s with cs := s.cs ++ [⟨L, 0, 0, false⟩], todo := s.todo ++ [s.cs.length] }

theorem badd_m (M : BaseM h bb p s) (hv : s.vars ≤ 16777216) {A : Option Addr} {n c : Nat} {l : List Int} (R : RowAt h A (ints l)) (hn : n = l.length) (hs : n ≤ 12) (hr : ∀ x ∈ l, -9223372036854775808 ≤ x ∧ x ≤ 9223372036854775807)
    (hsz : s.cs.length + 1 < 2 ^ 30 ∧ s.todo.length + 1 < 2 ^ 30) :
    CallsH Try.prog 48 [.pointer (some ⟨bb, 0, none⟩), .slice A n c] h fun r h' => (goodC s.vars l = false ∧ r = .tuple #[.int .i64 0, .int .i64 1] ∧ Fr (fun _ => False) h h') ∨
      (goodC s.vars l = true ∧ CleanR l none ∧ r = .tuple #[.int .i64 0, .int .i64 11] ∧ Fr (fun _ => False) h h') ∨
      (goodC s.vars l = true ∧ ∃ L, CleanR l (some L) ∧ r = .tuple #[.int .i64 s.cs.length, .int .i64 0] ∧ ∃ p', BaseM h' bb p' (addS s L) ∧ Stp p p' h h') := by
  have s0 := M.B.at' 0 _ rfl
  refine calls_of 54 [.tmp 4, .tmp 5] Go.Proofs.Try.func48 rfl rfl rfl (by kernel_rfl) (Nat.le_of_ble_eq_true rfl) ?_
  simp -implicitDefEqProofs (disch := omega) [go_sem, s0]
  refine useC (tvars_ok M.T) ?_
  rintro _ h1 ⟨rfl, rfl⟩
  simp -implicitDefEqProofs (disch := omega) [go_sem]
  refine useC (cgood_ok R hn (by omega) hv hr) ?_
  rintro _ h2 ⟨rfl, f2⟩
  cases hg : goodC s.vars l with
  | false =>
    simp -implicitDefEqProofs (disch := omega) [go_sem]
    exact f2
  | true =>
    simp -implicitDefEqProofs (disch := omega) [go_sem]
    refine useC (clean_ok (R.fr0 f2) hn hs hr) ?_
    rintro _ h3 ⟨⟨o, ho, hm⟩, f3⟩
    have f23 := f2.trans f3
    cases o with
    | none =>
      simp only at hm
      subst hm
      simp -implicitDefEqProofs (disch := omega) [go_sem]
      exact ⟨ho, f23⟩
    | some L =>
      obtain ⟨A', c', rfl, S3, own3⟩ := hm
      have M3 := M.fr0 f23
      have s1 := M3.B.at' 1 _ rfl
      simp -implicitDefEqProofs (disch := omega) [go_sem, s1]
      refine build1 rfl rfl ?_
      simp -implicitDefEqProofs (disch := omega) [go_sem, s1]
      obtain ⟨h4, e4⟩ : ∃ h4, h4 = h3.push (.cells #[.slice A' L.length c', .complex .f64 (Fx.enc 0) (Fx.enc 0), .bool false] 114) := ⟨_, rfl⟩
      have EB4 : ListB h4 h3.size [.slice A' L.length c', .complex .f64 (Fx.enc 0) (Fx.enc 0), .bool false] := by rw [e4]; exact ListB.new
      have f34 : Fr (fun _ => False) h3 h4 := by rw [e4]; exact (Fr.refl _ _).push
      have z4 : h4.size = h3.size + 1 := by rw [e4, push_size]
      have W4 := (SlAt.new (h := h4) (vs := [.pointer (some ⟨h3.size, 0, none⟩)]) (e := 112)).row
      rw [z4] at W4
      have f45 : Fr (fun _ => False) h4 (h4.push (.cells #[.pointer (some ⟨h3.size, 0, none⟩)] 112)) := (Fr.refl _ _).push
      have SL4 := (M3.L.fr f34 (fun _ _ h => h)).fr f45 (fun _ _ h => h)
      have hsl : SlAt (h4.push (.cells #[.pointer (some ⟨h3.size, 0, none⟩)] 112)) p.L (p.cl * 1) (eptrs p.eb s.cs.length) := by rw [Nat.mul_one]; exact SL4
      have hml : L.length ≤ 16777216 := by
        have := nodup_le (a := L.map Int.natAbs) (b := List.range 16777217) (by
          rw [List.Nodup, List.pairwise_map]
          exact ho.1.imp fun {a b} h => by omega) (fun x hx => by
          obtain ⟨y, hy, rfl⟩ := List.mem_map.1 hx
          have := ((ho.2 y).1 hy).2
          unfold okL at this
          rw [List.mem_range]; omega)
        rw [List.length_map, List.length_range] at this
        have hm : ∀ y ∈ L, 1 ≤ y.natAbs := fun y hy => ((ho.2 y).1 hy).2.1
        have := nodup_le (a := L.map Int.natAbs) (b := List.range' 1 16777216) (by
          rw [List.Nodup, List.pairwise_map]
          exact ho.1.imp fun {a b} h => by omega) (fun x hx => by
          obtain ⟨y, hy, rfl⟩ := List.mem_map.1 hx
          have := ((ho.2 y).1 hy).2
          unfold okL at this
          rw [List.mem_range'_1]; omega)
        rwa [List.length_map, List.length_range'] at this
      rw [e4] at hsl W4
      refine appendN (n := s.cs.length) (m := 1) (ws := [.pointer (some ⟨h3.size, 0, none⟩)]) hsl (by rw [eptrs_len, Nat.mul_one]) W4 rfl (by omega) (by simp [Value.oneCell']) (by omega) (by omega) ?_
      rw [← e4]
      intro L' cl' h6 S6 f6 hL6
      rw [Nat.mul_one] at S6
      have f36 : Fr (blk p.L) h3 h6 := ((f34.trans f45).mono fun _ _ h => h.elim).trans f6
      have nl : ¬ blk p.L h3.size := fun h => by have := M3.L.blk_lt h; omega
      have EB6 := (EB4.push (X := .cells #[.pointer (some ⟨h3.size, 0, none⟩)] 112)).fr f6 nl
      obtain ⟨p7, M7, ext7, own7, hTA7, htc7⟩ := M.addE M3 f23.size S3.row (fun y hy => ⟨Nat.le_trans f2.size (own3 y hy), S3.blk_lt hy⟩) f36 EB6 S6 (fun y hy => (hL6 y hy).imp_right fun h => by rw [push_size, z4] at h; omega) hml hsz.1
      have B6 := M3.B.fr (f36.mono fun x _ hx => show (fun x => p.c x = some .lst) x from M3.cL x hx) (fun h => by rw [M3.cB] at h; cases h)
      have s16 := B6.at' 1 _ rfl
      have fz6 := B6.fz
      have s17 := M7.B.at' 1 _ rfl
      have s37 := M7.B.at' 3 _ rfl
      have fz7 := M7.B.fz
      have hnc : ({ s with cs := s.cs ++ [⟨L, 0, 0, false⟩] } : WS).cs.length = s.cs.length + 1 := by simp
      rw [hnc] at s17
      obtain ⟨h7, e7⟩ : ∃ h7, h7 = hset h6 ⟨bb, 1, none⟩ (.slice L' (s.cs.length + 1) cl') := ⟨_, rfl⟩
      rw [← e7] at M7 s17 s37 fz7
      simp -implicitDefEqProofs (disch := omega) [go_sem, s16, fz6]
      refine drawC [(0, 0), (1, 0), (2, 0), (3, 0), (4, 2), (5, 0), (6, 0), (7, 0), (8, 1), (9, 0), (10, 0), (11, 3), (12, 3), (13, 0), (14, 0), (15, 4)] (fun h' => hcell h' ⟨bb, 3, none⟩ = some (.slice p7.TA s.todo.length p7.tc)) mixed (by kernel_rfl) (by rw [← e7]; exact s37) ?_
      rw [← e7]
      simp -implicitDefEqProofs (disch := omega) [go_sem]
      refine float2 (.slice p7.TA s.todo.length p7.tc) (fun h' hC => by simp -implicitDefEqProofs (disch := omega) [go_sem, hC]) ?_
      simp -implicitDefEqProofs (disch := omega) [go_sem, s17]
      refine build1 rfl rfl ?_
      have f78 : Fr (fun _ => False) h7 (h7.push (.cells #[.int .i64 (s.cs.length : Int)] 3)) := (Fr.refl _ _).push
      refine ⟨(f78.cell (hcell_lt s37) (fun h => h)).trans s37, ?_⟩
      simp -implicitDefEqProofs (disch := omega) [go_sem]
      have D8 := M7.D.fr f78 (fun _ _ h => h)
      refine appendQ (vs := ids s.todo) (ws := [.int .i64 (s.cs.length : Int)]) D8 (by rw [ids_len]) (SlAt.new (vs := [.int .i64 (s.cs.length : Int)])).row rfl (by simp [Value.oneCell']) (by omega) (by omega) ?_
      intro TA9 tc9 h9 S9 f9 hA9
      have f79 : Fr (blk p7.TA) h7 h9 := (f78.mono fun _ _ h => h.elim).trans f9
      have nbT : ¬ blk p7.TA bb := fun h => by have := M7.cD _ h; rw [M7.cB] at this; cases this
      have s39 := (f79.cell (hcell_lt s37) nbT).trans s37
      have B9 := M7.B.fr f79 nbT
      have fz9 := B9.fz
      have s19 := B9.at' 1 _ rfl
      rw [hnc] at s19
      have ei : ids s.todo ++ [.int .i64 (s.cs.length : Int)] = ids (s.todo ++ [s.cs.length]) := by rw [ids_append]; rfl
      rw [ei] at S9
      obtain ⟨p10, M10, st10, _⟩ := M7.todo (l' := s.todo ++ [s.cs.length]) f79 S9 (fun y hy => (hA9 y hy).imp_right fun h => by rw [push_size] at h; omega) (by rw [List.length_append]; simp; omega)
      have hl10 : (s.todo ++ [s.cs.length]).length = s.todo.length + 1 := by simp
      rw [hl10] at M10 st10
      refine ⟨s39, ?_⟩
      simp -implicitDefEqProofs (disch := omega) [go_sem, s39, fz9, s19]
      refine ⟨L, ho, p10, M10, ?_⟩
      have hne : ∀ x, blk p.L x → p.c x ≠ none := fun x hx => by rw [M.cL x hx]; exact fun h => (nomatch h)
      have st7 : Stp p p7 h1 h7 := ⟨ext7, own7, by
        rw [e7]
        have f16 : Fr (fun x => p.c x ≠ none) h1 h6 := (f23.mono fun _ _ h => h.elim).trans' (f36.mono fun x _ hx => hne x hx) fun x _ hx => hx
        exact f16.set (show p.c bb ≠ none by rw [M.cB]; exact fun h => (nomatch h))⟩
      exact st7.trans st10
end
end Xe
