/- Package watch: Propagate, New, Decide, Add. -/
import Derived.Test.YtkghjecglmmloaaGreatWP3
import Derived.Test.YtkghjecglmmloaaGreatSl2
import Derived.Test.YtkghjecglmmloaaGreatT17e
namespace Xe
open Go Tp Go.Proofs
set_option maxRecDepth 16000
set_option maxHeartbeats 1000000

def tlenAt (h : Heap) (b : Nat) : Nat := match hcell h ⟨b, 3, none⟩ with
  | some (.slice _ n _) => n
  | _ => 0
def headAt (h : Heap) (b : Nat) : Nat := match hcell h ⟨b, 4, none⟩ with
  | some (.int _ i) => i.toNat
  | _ => 0

section
variable {h : Heap} {bb : Nat} {p : BP} {s : WS}

theorem BaseM.tlen (M : BaseM h bb p s) : tlenAt h bb = s.todo.length := by unfold tlenAt; rw [M.B.at' 3 _ rfl]
theorem BaseM.headN (M : BaseM h bb p s) : headAt h bb = s.head := by unfold headAt; rw [M.B.at' 4 _ rfl]; simp

theorem prop_m (M : BaseM h bb p s) (I : WInv s) : CallsH Tryz.prog 61 [.pointer (some ⟨bb, 0, none⟩)] h fun r h' =>
    ∃ p' s', BaseM h' bb p' s' ∧ Stp p p' h h' ∧ WInv s' ∧ Adv s s' ∧
      ((∃ id e, r = .tuple #[.int .i64 (id : Nat), .bool false] ∧ s'.cs[id]? = some e ∧ e.gone = false ∧ FailAt s'.l e.lits) ∨ (r = .tuple #[.int .i64 (-1), .bool true] ∧ s'.todo = [] ∧ s'.head = s'.l.length)) := by
  refine calls_of 68 [.tmp 2, .tmp 3] Go.Proofs.Tryz.func61 rfl rfl rfl (by kernel_rfl) (Nat.le_of_ble_eq_true rfl) ?_
  simp -implicitDefEqProofs (disch := omega) [go_sem]
  refine scopeL 0 (fun ρ h' => ρ 0 = .pointer (some ⟨bb, 0, none⟩) ∧ ∃ p' s', BaseM h' bb p' s' ∧ Stp p p' h h' ∧ WInv s' ∧ Adv s s')
    (fun _ h' => tlenAt h' bb + (16777217 - headAt h' bb)) (by kernel_rfl) ?_ ?_
  · exact ⟨rfl, p, s, M, Stp.refl, I, Adv.refl s⟩
  · rintro ρ h1 ⟨r0, p1, s1, M1, st1, I1, ad1⟩
    have s3 := M1.B.at' 3 _ rfl
    have hsm := M1.sm
    have hvv := I1.hv
    have hln := I1.good.len
    have etl := M1.tlen
    have ehd := M1.headN
    have hhd := I1.head
    cases ht : s1.todo with
    | cons id rest =>
      rw [ht] at s3
      have D1 := M1.D
      rw [ht] at D1
      have hcl := D1.len
      rw [ids_len, List.length_cons] at hcl
      obtain ⟨bk, off, hTA, _, _, hc⟩ := D1.base (by omega)
      have c0 := hc 0 _ rfl
      rw [Nat.add_zero] at c0
      rw [hTA, List.length_cons] at s3
      simp -implicitDefEqProofs (disch := omega) [go_sem, r0, s3, c0]
      refine useC (look_m M1 I1 ht) ?_
      rintro _ h2 ⟨p2, s2, M2, st2, hor⟩
      rcases hor with ⟨rfl, rfl, e, he, hg, hf⟩ | ⟨rfl, htd, hh2, I2, ad2⟩
      · simp -implicitDefEqProofs (disch := omega) [go_sem, r0]
        exact ⟨p2, s2, M2, st1.trans st2, I1, ad1, by first | exact ⟨id, rfl, e, he, hg, hf⟩ | exact ⟨id, e, rfl, he, hg, hf⟩ | exact ⟨e, he, hg, hf⟩⟩
      · have s32 := M2.B.at' 3 _ rfl
        have D2 := M2.D
        rw [htd, ht] at D2 s32
        have hcl2 := D2.len
        rw [ids_len, List.length_cons] at hcl2
        obtain ⟨bk2, off2, hTA2, _, _, _⟩ := D2.base (by omega)
        rw [hTA2] at D2
        rw [hTA2, List.length_cons] at s32
        have fz := M2.B.fz
        have D3 := SlO.tail (v := .int .i64 (id : Int)) (vs := ids rest) D2
        obtain ⟨p3, M3, st3, _⟩ := M2.todo (l' := rest) (Fr.refl _ _) D3 (fun y hy => .inl (by rw [hTA2]; obtain ⟨a, ha, rfl⟩ := hy; cases ha; exact ⟨_, rfl, rfl⟩)) (by have := hsm.2; rw [ht, List.length_cons] at this; omega)
        simp -implicitDefEqProofs (disch := omega) [go_sem, r0, s32, fz]
        have e3 : ({ s2 with todo := rest } : WS).todo = rest := rfl
        refine ⟨⟨p3, _, M3, (st1.trans st2).trans st3, I2, ad1.trans ⟨ad2.vars, ad2.level, ad2.cs, ad2.us⟩⟩, ?_⟩
        have e4 := M3.tlen
        have e5 := M3.headN
        rw [e4, e5, etl, ehd, ht, hh2]
        show rest.length + (16777217 - s1.head) < (id :: rest).length + (16777217 - s1.head)
        rw [List.length_cons]; omega
    | nil =>
      rw [ht] at s3
      have s0 := M1.B.at' 0 _ rfl
      have s4 := M1.B.at' 4 _ rfl
      simp -implicitDefEqProofs (disch := omega) [go_sem, r0, s3, s0]
      refine useC (tlits_ok M1.T) ?_
      rintro _ h2 ⟨A', c', rfl, S, own, f2⟩
      have M2 := M1.fr0 f2
      have s42 := (f2.cell (o := 4) (hcell_lt s4) (fun h => h)).trans s4
      by_cases hlt : s1.head < s1.l.length
      · obtain ⟨t, htt⟩ : ∃ t, s1.l[s1.head]? = some t := ⟨_, List.getElem?_eq_getElem hlt⟩
        have hlt' : (lits s1.l)[s1.head]? = some t.lit := by unfold lits; rw [List.getElem?_map, htt]; rfl
        obtain ⟨bk, off, rfl, hc⟩ := S.row.get (by rw [ints_len]; unfold lits; rw [List.length_map]; omega)
        have c0 := hc _ _ (ints_at hlt')
        have hrg := I1.good.rng t (List.mem_of_getElem? htt)
        simp -implicitDefEqProofs (disch := omega) [go_sem, r0, s42, c0]
        refine useC (falls_m M2 I1 ht (lit := -t.lit) (by rw [Int.neg_neg]; exact hlt') (by omega)) ?_
        rintro _ h3 ⟨p3, s3', M3, st3, htd3, hh3, ad3, hor⟩
        rcases hor with ⟨id, e, rfl, he, hg, hf, I3⟩ | ⟨rfl, I3⟩
        · simp -implicitDefEqProofs (disch := omega) [go_sem, r0]
          exact ⟨p3, s3', M3, (st1.trans (Stp.fr0 f2)).trans st3, I3, ad1.trans ad3, by first | exact ⟨id, rfl, e, he, hg, hf⟩ | exact ⟨id, e, rfl, he, hg, hf⟩ | exact ⟨e, he, hg, hf⟩⟩
        · have s43 := M3.B.at' 4 _ rfl
          have fz := M3.B.fz
          have M4 := M3.setHead (s1.head + 1)
          have ehn : ((s1.head + 1 : Nat) : Int) = (s1.head : Int) + 1 := by omega
          rw [ehn] at M4
          have st4 : Stp p3 p3 h3 (hset h3 ⟨bb, 4, none⟩ (.int .i64 ((s1.head : Int) + 1))) := stp_set M3 M3.cB
          rw [hh3] at s43
          simp -implicitDefEqProofs (disch := omega) [go_sem, r0, s43, fz]
          refine ⟨⟨p3, _, M4, ((st1.trans (Stp.fr0 f2)).trans st3).trans st4, I3, ad1.trans ⟨ad3.vars, ad3.level, ad3.cs, ad3.us⟩⟩, ?_⟩
          have e4 := M4.tlen
          have e5 := M4.headN
          rw [e4, e5, etl, ehd, ht]
          show s3'.todo.length + (16777217 - (s1.head + 1)) < 0 + (16777217 - s1.head)
          rw [htd3]
          show 0 + _ < _
          omega
      · simp -implicitDefEqProofs (disch := omega) [go_sem, r0, s42]
        exact ⟨p1, s1, M2, st1.trans (Stp.fr0 f2), I1, ad1, ht, by omega⟩

theorem bdecide_m (M : BaseM h bb p s) {x : Int} (h0 : -9223372036854775808 ≤ x) (h1 : x ≤ 9223372036854775807) : CallsH Tryz.prog 60 [.pointer (some ⟨bb, 0, none⟩), .int .i64 x] h fun r h' =>
    r = .int .i64 (pushE s.vars s.l x (-1) : Nat) ∧ ∃ p', BaseM h' bb p' (decS s x) ∧ Stp p p' h h' := by
  have s0 := M.B.at' 0 _ rfl
  refine calls_of 11 [.tmp 4] Go.Proofs.Tryz.func60 rfl rfl rfl (by kernel_rfl) (Nat.le_of_ble_eq_true rfl) ?_
  simp -implicitDefEqProofs (disch := omega) [go_sem, s0]
  refine useC (tdecide_ok M.T h0 h1) ?_
  rintro _ h2 ⟨rfl, O2, T2, nx2⟩
  simp -implicitDefEqProofs (disch := omega) [go_sem]
  obtain ⟨p', M', st, _⟩ := M.trail T2 nx2
  exact ⟨p', M', st⟩

theorem bnew_m {x : Int} (h0 : -9223372036854775808 ≤ x) (h1 : x ≤ 9223372036854775807) : CallsH Tryz.prog 58 [.int .i64 x] h fun r h' =>
    ((x < 0 ∨ 16777216 < x) ∧ r = .pointer none ∧ h' = h) ∨
      (∃ vars bb : Nat, x = vars ∧ vars ≤ 16777216 ∧ r = .pointer (some ⟨bb, 0, none⟩) ∧ ∃ p, BaseM h' bb p (newW vars) ∧ (∀ y t, p.c y = some t → h.size ≤ y) ∧ Fr (fun _ => False) h h') := by
  refine calls_of 12 [.tmp 2] Go.Proofs.Tryz.func58 rfl rfl rfl (by kernel_rfl) (Nat.le_of_ble_eq_true rfl) ?_
  simp -implicitDefEqProofs (disch := omega) [go_sem]
  refine useC (tnew_ok h0 h1) ?_
  rintro _ h2 (⟨hb, rfl, rfl⟩ | ⟨vars, tb, rfl, hv, rfl, OT, T, nx⟩)
  · simp -implicitDefEqProofs (disch := omega) [go_sem]
    omega
  · have hn : ¬ ((vars : Int) < 0 ∨ 16777216 < (vars : Int)) := by omega
    simp -implicitDefEqProofs (disch := omega) [go_sem, hn]
    refine ⟨vars, rfl, hv, ?_⟩
    have z2 := nx.fr.size
    have T4 : TrailOk ((h2.push (.map #[] 0)).push (.cells #[.pointer (some ⟨tb, 0, none⟩), .slice none 0 0, .map (some h2.size), .slice none 0 0, .int .i64 0] 104)) tb OT vars [] 0 := T.fr0 ((Fr.refl _ _).push.push)
    have hlow := T.low
    classical
    refine ⟨⟨tb, h2.size, OT, none, 0, fun _ => 0, none, 0, fun _ => none, fun y => if OT y then some .trail else if y = h2.size then some .map else if y = h2.size + 1 then some .base else none⟩, ?_, fun y t hy => ?_, ?_⟩
    · have hB : ListB ((h2.push (.map #[] 0)).push (.cells #[.pointer (some ⟨tb, 0, none⟩), .slice none 0 0, .map (some h2.size), .slice none 0 0, .int .i64 0] 104)) (h2.size + 1) [.pointer (some ⟨tb, 0, none⟩), .slice none 0 0, .map (some h2.size), .slice none 0 0, .int .i64 0] := by
        have := ListB.new (h := h2.push (.map #[] 0)) (vs := [.pointer (some ⟨tb, 0, none⟩), .slice none 0 0, .map (some h2.size), .slice none 0 0, .int .i64 0]) (e := 104)
        rw [push_size] at this
        exact this
      have no1 : ¬ OT (h2.size + 1) := fun h => by have := hlow _ h; omega
      have no0 : ¬ OT h2.size := fun h => by have := hlow _ h; omega
      exact {
        low := fun y t hy => by
          rw [push_size, push_size]
          simp only at hy
          split at hy
          · rename_i ho; have := hlow y ho; omega
          · split at hy
            · omega
            · split at hy
              · omega
              · cases hy
        B := hB
        cB := by simp only [if_neg no1]; rw [if_neg (by omega)]; simp
        T := T4
        cT := fun y hy => if_pos hy
        L := SlAt.nil _
        cL := fun y ⟨_, h, _⟩ => (nomatch h)
        E := fun id e he => by simp [newW] at he
        M := MapAt.new.same (push_old (by rw [push_size]; omega))
        cM := by simp [no0]
        W := fun y => rfl
        D := SlO.nil
        cD := fun y ⟨_, h, _⟩ => (nomatch h)
        sm := ⟨by show 0 < _; omega, by show 0 < _; omega⟩ }
    · simp only at hy
      split at hy
      · rename_i ho; exact (nx.own y ho).elim (fun h => h.elim) fun h => h
      · split at hy
        · omega
        · split at hy
          · omega
          · cases hy
    · exact (nx.fr.trans (Fr.refl _ _)).push.push
end
end Xe

/- Package watch: Add. -/
namespace Xe
open Go Tp Go.Proofs
set_option maxRecDepth 16000
set_option maxHeartbeats 1000000

section
variable {h : Heap} {bb : Nat} {p : BP} {s : WS}

theorem BaseM.addE {h0 h4 : Heap} (M0 : BaseM h0 bb p s) (M : BaseM h bb p s) (hz : h0.size ≤ h.size) {A' L' : Option Addr} {cap' cl' : Nat} {L : List Int} (RA : RowAt h A' (ints L)) (hA1 : ∀ y, blk A' y → h0.size ≤ y ∧ y < h.size) (f : Fr (blk p.L) h h4)
    (EB : ListB h4 h.size [.slice A' L.length cap', .complex .f64 (Fx.enc 0) (Fx.enc 0), .bool false]) (SL : SlAt h4 L' cl' (eptrs p.eb s.cs.length ++ [.pointer (some ⟨h.size, 0, none⟩)])) (hL : ∀ y, blk L' y → blk p.L y ∨ h.size + 1 ≤ y) (hlen : L.length ≤ 16777216) (hn : s.cs.length + 1 < 2 ^ 40) :
    ∃ p', BaseM (hset h4 ⟨bb, 1, none⟩ (.slice L' (s.cs.length + 1) cl')) bb p' { s with cs := s.cs ++ [⟨L, 0, 0, false⟩] } ∧ (∀ x t, p.c x = some t → p'.c x = some t) ∧ (∀ x t, p'.c x = some t → p.c x = some t ∨ h0.size ≤ x) ∧ p'.TA = p.TA ∧ p'.tc = p.tc := by
  obtain ⟨c1, a1, a2, a3⟩ := reco (c := p.c) (sz := h0.size) (blk A') .con (fun y hy => .inr (hA1 y hy).1) M0.low
  have low1 : ∀ x u, c1 x = some u → x < h.size := fun x u hx => (a3 x u hx).elim (M.low x u) fun h => (hA1 x h.1).2
  obtain ⟨c2, b1, b2, b3⟩ := reco (c := c1) (sz := h.size) (fun x => x = h.size) (.ent s.cs.length) (fun y hy => .inr (by omega)) low1
  have low2 : ∀ x u, c2 x = some u → x < h.size + 1 := fun x u hx => (b3 x u hx).elim (fun h => by have := low1 x u h; omega) fun h => by omega
  obtain ⟨c3, d1, d2, d3⟩ := reco (c := c2) (sz := h.size + 1) (blk L') .lst (fun y hy => (hL y hy).imp_left fun h => b2 _ _ (a2 _ _ (M.cL y h))) low2
  have ext : ∀ x t, p.c x = some t → c3 x = some t := fun x t hx => d2 _ _ (b2 _ _ (a2 _ _ hx))
  have own : ∀ x t, c3 x = some t → p.c x = some t ∨ h0.size ≤ x := fun x t hx => by
    rcases d3 x t hx with h | ⟨_, h⟩
    · rcases b3 x t h with h | ⟨_, h⟩
      · rcases a3 x t h with h | ⟨_, h⟩
        · exact .inl h
        · exact .inr h
      · exact .inr (by omega)
    · exact .inr (by omega)
  have g : Fr (fun x => p.c x = some .lst) h h4 := f.mono fun x _ hx => M.cL x hx
  have B4 := M.B.fr g (fun h => by rw [M.cB] at h; cases h)
  have f2 : Fr (fun x => p.c x = some .lst ∨ x = bb) h (hset h4 ⟨bb, 1, none⟩ (.slice L' (s.cs.length + 1) cl')) := (g.mono fun _ _ h => .inl h).set (.inr rfl)
  have nb : ∀ {x : Nat} {t : Tag}, p.c x = some t → t ≠ .lst → t ≠ .base → ¬ (p.c x = some .lst ∨ x = bb) := fun h h1 h2 hn => by
    rcases hn with hn | rfl
    · rw [h] at hn; cases hn; exact h1 rfl
    · rw [M.cB] at h; cases h; exact h2 rfl
  have nb2 : ∀ {x : Nat} {t : Tag}, (p.c x = some .lst ∨ x = bb) → t ≠ .lst → t ≠ .base → p.c x ≠ some t := fun hx h1 h2 h => nb h h1 h2 hx
  have hbb := M0.low bb _ M0.cB
  have hnc : (s.cs ++ [(⟨L, 0, 0, false⟩ : Ent)]).length = s.cs.length + 1 := by simp
  have hcon : ∀ y, blk A' y → c3 y = some .con := fun y hy => d2 _ _ (b2 _ _ (a1 y hy))
  have hunc : ∀ y, blk A' y → ¬ (p.c y = some .lst ∨ y = bb) := fun y hy h => by
    have := (hA1 y hy).1
    rcases h with h | h
    · have := M0.low y _ h; omega
    · omega
  refine ⟨{ p with L := L', cl := cl', eb := fun id => if id = s.cs.length then h.size else p.eb id, c := c3 }, ?_, ext, own, rfl, rfl⟩
  exact {
    low := fun x t hx => by
      rw [hset_size]
      rcases d3 x t hx with h | ⟨h, _⟩
      · have := low2 x t h; have := EB.lt; omega
      · exact SL.blk_lt h
    B := by rw [hnc]; exact B4.set (i := 1) (.slice L' (s.cs.length + 1) cl') (by simp)
    cB := ext _ _ M.cB
    T := M.T.fr f2 fun x hx => nb (M.cT x hx) (fun h => (nomatch h)) (fun h => (nomatch h))
    cT := fun x hx => ext _ _ (M.cT x hx)
    L := by
      show SlAt _ L' cl' (eptrs (fun id => if id = s.cs.length then h.size else p.eb id) (s.cs ++ [(⟨L, 0, 0, false⟩ : Ent)]).length)
      rw [hnc]
      have e : eptrs (fun id => if id = s.cs.length then h.size else p.eb id) (s.cs.length + 1) = eptrs p.eb s.cs.length ++ [.pointer (some ⟨h.size, 0, none⟩)] := by
        unfold eptrs
        rw [List.range_succ, List.map_append]
        congr 1
        · refine List.map_congr_left fun i hi => ?_
          rw [List.mem_range] at hi
          simp only [if_neg (show ¬ i = s.cs.length by omega)]
        · simp
      rw [e]
      exact SL.keep (fun x hx => hset_other (fun e => by
        have e' : x = bb := e
        rw [e'] at hx
        rcases hL bb hx with h | h
        · have := M.cL bb h; rw [M.cB] at this; cases this
        · omega)) (by rw [hset_size]; exact Nat.le_refl _)
    cL := d1
    E := fun id e he => by
      have he' : (s.cs ++ [(⟨L, 0, 0, false⟩ : Ent)])[id]? = some e := he
      by_cases hid : id = s.cs.length
      · subst hid
        rw [List.getElem?_append_right (Nat.le_refl _), Nat.sub_self] at he'
        simp only [List.getElem?_cons_zero, Option.some.injEq] at he'
        subst he'
        simp only [if_true]
        exact ⟨⟨A', cap', EB.oth (by omega), RA.fr f2 hunc, hcon⟩, d2 _ _ (b1 _ rfl), ⟨by show 0 ≤ _; omega, by show 0 ≤ _; omega⟩, hlen⟩
      · have hl := (List.getElem?_eq_some_iff.1 he').1
        rw [hnc] at hl
        rw [List.getElem?_append_left (by omega)] at he'
        simp only [if_neg hid]
        exact ((M.E id e he').fr f2 (fun x hx => nb2 hx (fun h => (nomatch h)) (fun h => (nomatch h))) (fun x hx => nb2 hx (fun h => (nomatch h)) (fun h => (nomatch h)))).ext ext
    M := M.M.fr f2 (nb M.cM (fun h => (nomatch h)) (fun h => (nomatch h)))
    cM := ext _ _ M.cM
    W := fun x => ((M.W x).fr f2 fun y hy => nb2 hy (fun h => (nomatch h)) (fun h => (nomatch h))).ext ext
    D := M.D.fr f2 fun x hx => nb (M.cD x hx) (fun h => (nomatch h)) (fun h => (nomatch h))
    cD := fun x hx => ext _ _ (M.cD x hx)
    sm := ⟨by rw [hnc]; exact hn, M.sm.2⟩ }

def addS (s : WS) (L : List Int) : WS := { s with cs := s.cs ++ [⟨L, 0, 0, false⟩], todo := s.todo ++ [s.cs.length] }

theorem badd_m (M : BaseM h bb p s) (hv : s.vars ≤ 16777216) {A : Option Addr} {n c : Nat} {l : List Int} (R : RowAt h A (ints l)) (hn : n = l.length) (hs : n ≤ 12) (hr : ∀ x ∈ l, -9223372036854775808 ≤ x ∧ x ≤ 9223372036854775807)
    (hsz : s.cs.length + 1 < 2 ^ 40 ∧ s.todo.length + 1 < 2 ^ 40) :
    CallsH Tryz.prog 59 [.pointer (some ⟨bb, 0, none⟩), .slice A n c] h fun r h' => (goodC s.vars l = false ∧ r = .tuple #[.int .i64 0, .int .i64 1] ∧ Fr (fun _ => False) h h') ∨
      (goodC s.vars l = true ∧ CleanR l none ∧ r = .tuple #[.int .i64 0, .int .i64 11] ∧ Fr (fun _ => False) h h') ∨
      (goodC s.vars l = true ∧ ∃ L, CleanR l (some L) ∧ r = .tuple #[.int .i64 s.cs.length, .int .i64 0] ∧ ∃ p', BaseM h' bb p' (addS s L) ∧ Stp p p' h h') := by
  have s0 := M.B.at' 0 _ rfl
  refine calls_of 54 [.tmp 4, .tmp 5] Go.Proofs.Tryz.func59 rfl rfl rfl (by kernel_rfl) (Nat.le_of_ble_eq_true rfl) ?_
  simp -implicitDefEqProofs (disch := omega) [go_sem, s0]
  refine useC (tvars_ok M.T) ?_
  rintro _ h1 ⟨rfl, rfl⟩
  simp -implicitDefEqProofs (disch := omega) [go_sem]
  refine useC (cgood_ok R hn (by omega) hv hr) ?_
  rintro _ h2 ⟨rfl, f2⟩
  cases hg : goodC s.vars l with
  | false =>
    simp -implicitDefEqProofs (disch := omega) [go_sem]
    exact f2
  | true =>
    simp -implicitDefEqProofs (disch := omega) [go_sem]
    refine useC (clean_ok (R.fr0 f2) hn hs hr) ?_
    rintro _ h3 ⟨⟨o, ho, hm⟩, f3⟩
    have f23 := f2.trans f3
    cases o with
    | none =>
      simp only at hm
      subst hm
      simp -implicitDefEqProofs (disch := omega) [go_sem]
      exact ⟨ho, f23⟩
    | some L =>
      obtain ⟨A', c', rfl, S3, own3⟩ := hm
      have M3 := M.fr0 f23
      have s1 := M3.B.at' 1 _ rfl
      simp -implicitDefEqProofs (disch := omega) [go_sem, s1]
      refine build1 rfl rfl ?_
      simp -implicitDefEqProofs (disch := omega) [go_sem, s1]
      obtain ⟨h4, e4⟩ : ∃ h4, h4 = h3.push (.cells #[.slice A' L.length c', .complex .f64 (Fx.enc 0) (Fx.enc 0), .bool false] 110) := ⟨_, rfl⟩
      have EB4 : ListB h4 h3.size [.slice A' L.length c', .complex .f64 (Fx.enc 0) (Fx.enc 0), .bool false] := by rw [e4]; exact ListB.new
      have f34 : Fr (fun _ => False) h3 h4 := by rw [e4]; exact (Fr.refl _ _).push
      have z4 : h4.size = h3.size + 1 := by rw [e4, push_size]
      have W4 := (SlAt.new (h := h4) (vs := [.pointer (some ⟨h3.size, 0, none⟩)]) (e := 105)).row
      rw [z4] at W4
      have f45 : Fr (fun _ => False) h4 (h4.push (.cells #[.pointer (some ⟨h3.size, 0, none⟩)] 105)) := (Fr.refl _ _).push
      have SL4 := (M3.L.fr f34 (fun _ _ h => h)).fr f45 (fun _ _ h => h)
      have hsl : SlAt (h4.push (.cells #[.pointer (some ⟨h3.size, 0, none⟩)] 105)) p.L (p.cl * 1) (eptrs p.eb s.cs.length) := by rw [Nat.mul_one]; exact SL4
      have hml : L.length ≤ 16777216 := by
        have := nodup_le (a := L.map Int.natAbs) (b := List.range 16777217) (by
          rw [List.Nodup, List.pairwise_map]
          exact ho.1.imp fun {a b} h => by omega) (fun x hx => by
          obtain ⟨y, hy, rfl⟩ := List.mem_map.1 hx
          have := ((ho.2 y).1 hy).2
          unfold okL at this
          rw [List.mem_range]; omega)
        rw [List.length_map, List.length_range] at this
        have hm : ∀ y ∈ L, 1 ≤ y.natAbs := fun y hy => ((ho.2 y).1 hy).2.1
        have := nodup_le (a := L.map Int.natAbs) (b := List.range' 1 16777216) (by
          rw [List.Nodup, List.pairwise_map]
          exact ho.1.imp fun {a b} h => by omega) (fun x hx => by
          obtain ⟨y, hy, rfl⟩ := List.mem_map.1 hx
          have := ((ho.2 y).1 hy).2
          unfold okL at this
          rw [List.mem_range'_1]; omega)
        rwa [List.length_map, List.length_range'] at this
      rw [e4] at hsl W4
      refine appendN (n := s.cs.length) (m := 1) (ws := [.pointer (some ⟨h3.size, 0, none⟩)]) hsl (by rw [eptrs_len, Nat.mul_one]) W4 rfl (by omega) (by simp [Value.oneCell']) (by omega) (by omega) ?_
      rw [← e4]
      intro L' cl' h6 S6 f6 hL6
      rw [Nat.mul_one] at S6
      have f36 : Fr (blk p.L) h3 h6 := ((f34.trans f45).mono fun _ _ h => h.elim).trans f6
      have nl : ¬ blk p.L h3.size := fun h => by have := M3.L.blk_lt h; omega
      have EB6 := (EB4.push (X := .cells #[.pointer (some ⟨h3.size, 0, none⟩)] 105)).fr f6 nl
      obtain ⟨p7, M7, ext7, own7, hTA7, htc7⟩ := M.addE M3 f23.size S3.row (fun y hy => ⟨Nat.le_trans f2.size (own3 y hy), S3.blk_lt hy⟩) f36 EB6 S6 (fun y hy => (hL6 y hy).imp_right fun h => by rw [push_size, z4] at h; omega) hml hsz.1
      have B6 := M3.B.fr (f36.mono fun x _ hx => show (fun x => p.c x = some .lst) x from M3.cL x hx) (fun h => by rw [M3.cB] at h; cases h)
      have s16 := B6.at' 1 _ rfl
      have fz6 := B6.fz
      have s17 := M7.B.at' 1 _ rfl
      have s37 := M7.B.at' 3 _ rfl
      have fz7 := M7.B.fz
      have hnc : ({ s with cs := s.cs ++ [⟨L, 0, 0, false⟩] } : WS).cs.length = s.cs.length + 1 := by simp
      rw [hnc] at s17
      obtain ⟨h7, e7⟩ : ∃ h7, h7 = hset h6 ⟨bb, 1, none⟩ (.slice L' (s.cs.length + 1) cl') := ⟨_, rfl⟩
      rw [← e7] at M7 s17 s37 fz7
      simp -implicitDefEqProofs (disch := omega) [go_sem, s16, fz6]
      refine drawC [(0, 0), (1, 0), (2, 0), (3, 0), (4, 2), (5, 0), (6, 0), (7, 0), (8, 1), (9, 0), (10, 0), (11, 3), (12, 3), (13, 0), (14, 0), (15, 4)] (fun h' => hcell h' ⟨bb, 3, none⟩ = some (.slice p7.TA s.todo.length p7.tc)) mixed (by kernel_rfl) (by rw [← e7]; exact s37) ?_
      rw [← e7]
      simp -implicitDefEqProofs (disch := omega) [go_sem]
      refine float2 (.slice p7.TA s.todo.length p7.tc) (fun h' hC => by simp -implicitDefEqProofs (disch := omega) [go_sem, hC]) ?_
      simp -implicitDefEqProofs (disch := omega) [go_sem, s17]
      refine build1 rfl rfl ?_
      have f78 : Fr (fun _ => False) h7 (h7.push (.cells #[.int .i64 (s.cs.length : Int)] 3)) := (Fr.refl _ _).push
      refine ⟨(f78.cell (hcell_lt s37) (fun h => h)).trans s37, ?_⟩
      simp -implicitDefEqProofs (disch := omega) [go_sem]
      have D8 := M7.D.fr f78 (fun _ _ h => h)
      refine appendQ (vs := ids s.todo) (ws := [.int .i64 (s.cs.length : Int)]) D8 (by rw [ids_len]) (SlAt.new (vs := [.int .i64 (s.cs.length : Int)])).row rfl (by simp [Value.oneCell']) (by omega) (by omega) ?_
      intro TA9 tc9 h9 S9 f9 hA9
      have f79 : Fr (blk p7.TA) h7 h9 := (f78.mono fun _ _ h => h.elim).trans f9
      have nbT : ¬ blk p7.TA bb := fun h => by have := M7.cD _ h; rw [M7.cB] at this; cases this
      have s39 := (f79.cell (hcell_lt s37) nbT).trans s37
      have B9 := M7.B.fr f79 nbT
      have fz9 := B9.fz
      have s19 := B9.at' 1 _ rfl
      rw [hnc] at s19
      have ei : ids s.todo ++ [.int .i64 (s.cs.length : Int)] = ids (s.todo ++ [s.cs.length]) := by rw [ids_append]; rfl
      rw [ei] at S9
      obtain ⟨p10, M10, st10, _⟩ := M7.todo (l' := s.todo ++ [s.cs.length]) f79 S9 (fun y hy => (hA9 y hy).imp_right fun h => by rw [push_size] at h; omega) (by rw [List.length_append]; simp; omega)
      have hl10 : (s.todo ++ [s.cs.length]).length = s.todo.length + 1 := by simp
      rw [hl10] at M10 st10
      refine ⟨s39, ?_⟩
      simp -implicitDefEqProofs (disch := omega) [go_sem, s39, fz9, s19]
      refine ⟨L, ho, p10, M10, ?_⟩
      have hne : ∀ x, blk p.L x → p.c x ≠ none := fun x hx => by rw [M.cL x hx]; exact fun h => (nomatch h)
      have st7 : Stp p p7 h1 h7 := ⟨ext7, own7, by
        rw [e7]
        have f16 : Fr (fun x => p.c x ≠ none) h1 h6 := (f23.mono fun _ _ h => h.elim).trans' (f36.mono fun x _ hx => hne x hx) fun x _ hx => hx
        exact f16.set (show p.c bb ≠ none by rw [M.cB]; exact fun h => (nomatch h))⟩
      exact st7.trans st10
end
end Xe

/- What stands while a base is filled. -/
namespace Xe
open Go Tp Go.Proofs
set_option maxRecDepth 16000
set_option maxHeartbeats 1000000

theorem tr_of {l : List St} {m : List Int} (h : lits l = m) (x : Int) : trI l x = if x ∈ m then 1 else if -x ∈ m then -1 else 0 := by unfold trI; rw [h]

theorem US.awake {l' : List St} {l0 : List St} (hl : lits l0 = [-1]) (h : US [([1, 2], false), ([-2, 3], false)] 1 l0 l') : lits l' = [-1] ∨ lits l' = [-1, 2] ∨ lits l' = [-1, 2, 3] := by
  induction h with
  | refl => exact .inl hl
  | @step l' x id c _ hc hu ih =>
    obtain ⟨hx, h0, hr⟩ := hu
    rw [lits_push]
    have hcc : c = [1, 2] ∨ c = [-2, 3] := by
      match id, hc with
      | 0, hc => exact .inl (by have := Option.some.inj hc; exact (Prod.mk.inj this).1.symm)
      | 1, hc => exact .inr (by have := Option.some.inj hc; exact (Prod.mk.inj this).1.symm)
      | n + 2, hc => simp at hc
    have two : ∀ {a b : Int}, c = [a, b] → x = a ∨ x = b := fun e => by rw [e] at hx; simpa using hx
    rcases ih with h | h | h <;> rcases hcc with rfl | rfl
    · rcases two rfl with rfl | rfl
      · rw [tr_of h] at h0; simp at h0
      · exact .inr (.inl (by rw [h]; rfl))
    · rcases two rfl with rfl | rfl
      · have := hr 3 (by simp) (by omega); rw [tr_of h] at this; simp at this
      · have := hr (-2) (by simp) (by omega); rw [tr_of h] at this; simp at this
    · rcases two rfl with rfl | rfl
      · rw [tr_of h] at h0; simp at h0
      · rw [tr_of h] at h0; simp at h0
    · rcases two rfl with rfl | rfl
      · rw [tr_of h] at h0; simp at h0
      · exact .inr (.inr (by rw [h]; rfl))
    · rcases two rfl with rfl | rfl
      · rw [tr_of h] at h0; simp at h0
      · rw [tr_of h] at h0; simp at h0
    · rcases two rfl with rfl | rfl
      · rw [tr_of h] at h0; simp at h0
      · rw [tr_of h] at h0; simp at h0

theorem clean12 : CleanR [1, 2] (some [1, 2]) := ⟨by simp [Rise], fun x => by
  constructor
  · intro h; refine ⟨h, ?_⟩; unfold okL; simp at h; omega
  · exact fun h => h.1⟩
theorem clean23 : CleanR [-2, 3] (some [-2, 3]) := ⟨by simp [Rise], fun x => by
  constructor
  · intro h; refine ⟨h, ?_⟩; unfold okL; simp at h; omega
  · exact fun h => h.1⟩

section
variable {h : Heap}

/-- a base of the law's own -/
structure Wst (h0 h : Heap) (bb vars : Nat) (p : BP) (s : WS) : Prop where
  M : BaseM h bb p s
  I : WInv s
  vars : s.vars = vars
  low : ∀ y t, p.c y = some t → h0.size ≤ y
  fr : Fr (fun _ => False) h0 h
theorem Wst.step {h0 h h' : Heap} {bb vars : Nat} {p p' : BP} {s s' : WS} (w : Wst h0 h bb vars p s) (M' : BaseM h' bb p' s') (I' : WInv s') (hv : s'.vars = s.vars) (st : Stp p p' h h') : Wst h0 h' bb vars p' s' where
  M := M'
  I := I'
  vars := hv.trans w.vars
  low y t hy := (st.own y t hy).elim (w.low y t) fun h => Nat.le_trans w.fr.size h
  fr := w.fr.trans' st.fr fun x hx hn => by
    cases hc : p.c x with
    | none => exact hn hc
    | some t => have := w.low x t hc; omega
theorem Wst.fr0 {h0 h h' : Heap} {bb vars : Nat} {p : BP} {s : WS} (w : Wst h0 h bb vars p s) (f : Fr (fun _ => False) h h') : Wst h0 h' bb vars p s := ⟨w.M.fr0 f, w.I, w.vars, w.low, w.fr.trans f⟩
theorem addS_inv {s : WS} (I : WInv s) {l L : List Int} (hg : goodC s.vars l = true) (hc : CleanR l (some L)) : WInv (addS s L) :=
  I.add hc.1 fun x hx => by
    unfold goodC at hg
    rw [List.all_eq_true] at hg
    exact of_decide_eq_true (hg x ((hc.2 x).1 hx).1)

/-- a slice of three numbers, fresh -/
theorem build3i {e : TypeId} {bt : Nat} {w x y z : Int} {k : Value → Heap → Prop}
    (hk : k (.slice (some ⟨h.size, 0, none⟩) 3 3) (h.push (.cells #[.int .i64 x, .int .i64 y, .int .i64 z] e))) : @buildSliceK (some (e, 1, bt, .int .i64 w)) 3 [(0, .int .i64 x), (1, .int .i64 y), (2, .int .i64 z)] ⟨h⟩ ⟨k⟩ := by
  refine ⟨by omega, #[.int .i64 x, .int .i64 y, .int .i64 z], ?_, hk⟩
  have hz : (zerosOf (Value.int .i64 w).cells (3 * 1)).size = 3 := by simp [zerosOf]
  obtain ⟨L, hL⟩ : ∃ L, zerosOf (Value.int .i64 w).cells (3 * 1) = ⟨L⟩ := ⟨_, rfl⟩
  rw [hL] at hz ⊢
  match L, hz with
  | [p, q, r], _ => simp [Instr.fill, Value.cells, List.zipIdx]
end
end Xe

/- Rows of numbers as an argument. -/
namespace Xe
open Go Tp Go.Proofs
set_option maxRecDepth 16000
set_option maxHeartbeats 1000000

/-- an argument: rows of numbers -/
structure Args2 (h : Heap) (A : Option Addr) (m : Nat) (gs : Nat → List Int) : Prop where
  small : m < 2 ^ 63
  at' : ∀ i, i < m → ∃ bk off B c, A = some ⟨bk, off, none⟩ ∧ hcell h ⟨bk, off + i, none⟩ = some (.slice B (gs i).length c) ∧ RowAt h B (ints (gs i)) ∧ (gs i).length < 2 ^ 63 ∧ ∀ x ∈ gs i, -9223372036854775808 ≤ x ∧ x ≤ 9223372036854775807
theorem Args2.fr {h : Heap} {A : Option Addr} {m : Nat} {gs : Nat → List Int} (R : Args2 h A m gs) {h' : Heap} (f : Fr (fun _ => False) h h') : Args2 h' A m gs :=
  ⟨R.small, fun i hi => by
    obtain ⟨bk, off, B, c, h1, h2, h3, h4⟩ := R.at' i hi
    exact ⟨bk, off, B, c, h1, (f.cell (hcell_lt h2) id).trans h2, h3.fr0 f, h4⟩⟩

section
variable {h : Heap}

/-- a row that isn't the base's own -/
structure Out (h : Heap) (p : BP) (B : Option Addr) (vs : List Value) : Prop where
  R : RowAt h B vs
  out : ∀ y, blk B y → p.c y = none ∧ y < h.size
theorem Out.step {h h' : Heap} {p p' : BP} {B : Option Addr} {vs : List Value} (o : Out h p B vs) (st : Stp p p' h h') : Out h' p' B vs where
  R := o.R.fr st.fr fun y hy hn => hn (o.out y hy).1
  out y hy := by
    obtain ⟨h1, h2⟩ := o.out y hy
    refine ⟨?_, Nat.lt_of_lt_of_le h2 st.fr.size⟩
    cases hc : p'.c y with
    | none => rfl
    | some t => exact (st.own y t hc).elim (fun h => by rw [h1] at h; cases h) (fun h => by omega)
theorem absC_add (s : WS) (L : List Int) : absC (addS s L).cs = absC s.cs ++ [(L, false)] := by unfold addS absC; simp
theorem Quiet.sub {C D : List (List Int × Bool)} {l : List St} (q : Quiet C l) (hs : ∀ (id : Nat) c, D[id]? = some (c, false) → ∃ id' : Nat, C[id']? = some (c, false)) : Quiet D l := fun id c hc => by
  obtain ⟨id', h⟩ := hs id c hc
  exact q id' c h
end
end Xe

/- An argument that is a slice of slices of integers, opened. -/
namespace Xe
open Go Go.ChangeShapes Go.WideShapes Go.ChangeAt Go.RowKit Go.Proofs
section
variable {H : Type} {enc : TypeId × Value → H} {P : Program} {w : World} {sp : Nat → Bool} {held : Bool} {r : Reach} {b0 : Nat} {t e q : TypeId}

/-- a slice among other cells -/
theorem open_sliceC {n fuel : Nat} {cs0 : List Value} {x0 : DataW H × List MemPlace} (ht : P.underlying t = some (.slice e)) (hc : P.cellsOf e = n) (hn : 0 < n) (hf : DataW.trod enc P w 0 sp held fuel t cs0 = some x0) :
    ∃ A len cap, cs0 = [.slice A len cap] ∧ len < 2 ^ 63 ∧ ∀ i, i < len → ∃ bk off cs fuel x, A = some ⟨bk, off, none⟩ ∧ cs.length = n ∧ (∀ j u, cs[j]? = some u → hcell w.heap ⟨bk, off + i * n + j, none⟩ = some u) ∧
      DataW.trod enc P w 0 sp held fuel e cs = some x := by
  rcases DataW.trod_slice ht hf with ⟨hcs, _⟩ | ⟨a', len', cap', elems, rest, m, _, hcs, _, _, hl, hm, hlen, hel, _, _⟩
  · exact ⟨none, 0, 0, hcs, by decide, fun i hi => by omega⟩
  · have hm2 : cap' ≤ 2 ^ 63 - 1 := hm
    refine ⟨some a', len', cap', hcs, by omega, fun i hi => ?_⟩
    have h1 := hel i hi
    rw [List.getElem?_eq_getElem (by omega), Option.bind_eq_some_iff] at h1
    obtain ⟨cs, h2, h3⟩ := h1
    rw [hc] at h2
    obtain ⟨_, hl2, hcell⟩ := World.cells?_some h2
    have hspot : a'.spot = none := by
      have g1 := hel 0 (by omega)
      rw [List.getElem?_eq_getElem (by omega), Option.bind_eq_some_iff] at g1
      obtain ⟨cs0, g2, _⟩ := g1
      rw [hc] at g2
      obtain ⟨_, gl, gcell⟩ := World.cells?_some g2
      have h0 := gcell 0 hn
      rw [List.getElem?_eq_getElem (by omega), Nat.zero_mul, add_0, add_0] at h0
      unfold World.cell? at h0
      split at h0
      · split at h0
        · cases h0
        · rename_i hns
          simpa using hns
      · cases h0
    obtain ⟨bk, off, spot⟩ := a'
    simp only at hspot
    subst hspot
    refine ⟨bk, off, cs, m, _, rfl, hl2, fun j u hj => ?_, h3⟩
    have hj' := (List.getElem?_eq_some_iff.1 hj).1
    have h4 := hcell j (by omega)
    rw [add_n, add_n] at h4
    exact h4.trans hj

/-- a row of integers among other cells -/
theorem open_intsC {fuel : Nat} {cs0 : List Value} {x0 : DataW H × List MemPlace} (ht : P.underlying t = some (.slice e)) (he : P.underlying e = some (.int .i64)) (hc : P.cellsOf e = 1) (hf : DataW.trod enc P w 0 sp held fuel t cs0 = some x0) :
    ∃ A c, ∃ l : List Int, cs0 = [.slice A l.length c] ∧ l.length < 2 ^ 63 ∧ RowAt w.heap A (ints l) ∧ ∀ x ∈ l, -9223372036854775808 ≤ x ∧ x ≤ 9223372036854775807 := by
  obtain ⟨A, len, cap, rfl, hl, hel⟩ := open_sliceC ht hc (by omega) hf
  have key : ∀ i, ∃ y : Int, i < len → -9223372036854775808 ≤ y ∧ y ≤ 9223372036854775807 ∧ ∃ bk off, A = some ⟨bk, off, none⟩ ∧ hcell w.heap ⟨bk, off + i, none⟩ = some (.int .i64 y) := fun i => by
    by_cases hi : i < len
    · obtain ⟨bk, off, cs, fuel, x, rfl, hl, hcell, hx⟩ := hel i hi
      obtain ⟨y, rfl, _, hw⟩ := DataW.trod_int he hx
      have := hcell 0 _ rfl
      simp only [Nat.mul_one, Nat.add_zero] at this
      simp only [Lit.wf, Bool.and_eq_true, decide_eq_true_eq] at hw
      exact ⟨y, fun _ => ⟨hw.1, hw.2, bk, off, rfl, this⟩⟩
    · exact ⟨0, fun h => absurd h hi⟩
  obtain ⟨f, hfk⟩ := Classical.axiomOfChoice key
  have hll : ((List.range len).map f).length = len := by rw [List.length_map, List.length_range]
  refine ⟨A, cap, (List.range len).map f, by rw [hll], by rw [hll]; exact hl, ?_, fun x hx => ?_⟩
  · by_cases h0 : len = 0
    · subst h0; exact .inl rfl
    · obtain ⟨_, _, bk, off, hA, _⟩ := hfk 0 (by omega)
      refine .inr ⟨bk, off, hA, fun i v hv => ?_⟩
      have hi := (List.getElem?_eq_some_iff.1 hv).1
      rw [ints_len, hll] at hi
      rw [ints_at (show ((List.range len).map f)[i]? = some (f i) by rw [List.getElem?_map, List.getElem?_range hi]; rfl)] at hv
      cases hv
      obtain ⟨_, _, bk', off', hA', hc'⟩ := hfk i hi
      rw [hA] at hA'
      cases hA'
      exact hc'
  · obtain ⟨i, hi, rfl⟩ := List.mem_map.1 hx
    obtain ⟨h1, h2, _⟩ := hfk i (List.mem_range.1 hi)
    exact ⟨h1, h2⟩

theorem open_rows2 {v : Value} {d : DataW H} {ps : List MemPlace} (ht : P.underlying t = some (.slice e)) (he : P.underlying e = some (.slice q)) (hq : P.underlying q = some (.int .i64)) (hc : P.cellsOf e = 1) (hc2 : P.cellsOf q = 1)
    (hval : Value.okWide P w r b0 t v) (h : DataW.Trod enc P w 0 sp held t v d ps) : ∃ A len cap gs, v = .slice A len cap ∧ Args2 w.heap A len gs := by
  obtain ⟨A, len, cap, rfl, hl, hel⟩ := open_slice ht hc (by omega) hval h
  have key : ∀ i, ∃ l : List Int, i < len → ∃ bk off B c, A = some ⟨bk, off, none⟩ ∧ hcell w.heap ⟨bk, off + i, none⟩ = some (.slice B l.length c) ∧ RowAt w.heap B (ints l) ∧ l.length < 2 ^ 63 ∧ ∀ x ∈ l, -9223372036854775808 ≤ x ∧ x ≤ 9223372036854775807 := fun i => by
    by_cases hi : i < len
    · obtain ⟨bk, off, cs, fuel, x, rfl, hl, hcell, hx⟩ := hel i hi
      obtain ⟨B, c, l, rfl, h1, h2, h3⟩ := open_intsC he hq hc2 hx
      have := hcell 0 _ rfl
      simp only [Nat.mul_one, Nat.add_zero] at this
      exact ⟨l, fun _ => ⟨bk, off, B, c, rfl, this, h2, h1, h3⟩⟩
    · exact ⟨[], fun h => absurd h hi⟩
  obtain ⟨gs, hgs⟩ := Classical.axiomOfChoice key
  exact ⟨A, len, cap, gs, rfl, hl, fun i hi => hgs i hi⟩
end
end Xe

/- The plain law of propagation by two watched literals, fourth part: what is taken back, what is let go; what follows at least. -/
namespace Xe
open Tp

def backS (s : WS) (k : Nat) : WS := { s with l := cutTo s.l k, level := k, head := min s.head (cutTo s.l k).length, todo := List.range s.cs.length, W := fun _ => [] }
section
variable {s : WS}
theorem WInv.back (I : WInv s) {k : Nat} (hk : k ≤ s.level) : WInv (backS s k) where
  good := I.good.sub List.filter_sublist
  lvs := I.lvs.cut k hk
  hv := I.hv
  cl := I.cl
  head := Nat.min_le_right _ _
  todoN := List.nodup_range
  todoL id h := List.mem_range.1 h
  wN _ := List.nodup_nil
  wL _ id h := absurd h List.not_mem_nil
  w1 _ id h := absurd h List.not_mem_nil
  main id e he hg hn := absurd (List.mem_range.2 (List.getElem?_eq_some_iff.1 he).1) hn
  rs i t ht hp := by
    have ht' : (cutTo s.l k)[i]? = some t := ht
    have hl := (List.getElem?_eq_some_iff.1 ht').1
    have e := cut_take I.lvs.mono k
    rw [e, List.getElem?_take] at ht'
    rw [if_pos hl] at ht'
    obtain ⟨e0, h1, h2, h3⟩ := I.rs i t ht' hp
    refine ⟨e0, h1, h2, ?_⟩
    show UnitAt ((cutTo s.l k).take i) e0.lits t.lit
    rw [e, List.take_take, Nat.min_eq_left (by omega)]
    exact h3

theorem setG_len (cs : List Ent) (id : Nat) : (setG cs id).length = cs.length := by unfold setG; split <;> simp
theorem setG_at {cs : List Ent} {id k : Nat} {e : Ent} (he : cs[id]? = some e) : (setG cs id)[k]? = if k = id then some { e with gone := true } else cs[k]? := by
  unfold setG
  rw [he]
  simp only
  rw [List.getElem?_set]
  by_cases h : k = id
  · subst h; rw [if_pos rfl, if_pos (List.getElem?_eq_some_iff.1 he).1, if_pos rfl]
  · rw [if_neg (Ne.symm h), if_neg h]
theorem WInv.drop (I : WInv s) {id : Nat} {e : Ent} (he : s.cs[id]? = some e) (hr : ∀ t ∈ s.l, t.rs ≠ id) : WInv { s with cs := setG s.cs id } := by
  have old : ∀ {k : Nat} {e' : Ent}, (setG s.cs id)[k]? = some e' → e'.gone = false → s.cs[k]? = some e' := fun {k e'} h hg => by
    rw [setG_at he] at h
    split at h
    · cases h; cases hg
    · exact h
  exact {
    good := I.good
    lvs := I.lvs
    hv := I.hv
    cl := fun e' he' => by
      obtain ⟨k, hk⟩ := List.getElem?_of_mem he'
      have hk' : (setG s.cs id)[k]? = some e' := hk
      rw [setG_at he] at hk'
      split at hk'
      · cases hk'; exact I.cl e (List.mem_of_getElem? he)
      · exact I.cl e' (List.mem_of_getElem? hk')
    head := I.head
    todoN := I.todoN
    todoL := fun k hk => by show k < (setG s.cs id).length; rw [setG_len]; exact I.todoL k hk
    wN := I.wN
    wL := fun x k hk => by show k < (setG s.cs id).length ∧ _; rw [setG_len]; exact I.wL x k hk
    w1 := fun x k hk e' he' hg => I.w1 x k hk e' (old he' hg) hg
    main := fun k e' he' hg hn => I.main k e' (old he' hg) hg hn
    rs := fun i t ht hp => by
      obtain ⟨e0, h1, h2, h3⟩ := I.rs i t ht hp
      refine ⟨e0, ?_, h2, h3⟩
      show (setG s.cs id)[t.rs.toNat]? = some e0
      rw [setG_at he, if_neg]
      · exact h1
      · intro h; exact hr t (List.mem_of_getElem? ht) (by omega) }
end

/-- what follows at least: it is part of each that holds as much and where nothing more follows -/
structure Least (vars : Nat) (K : List (List Int)) (l o : List St) : Prop where
  good : Good vars o
  sub : ∀ x ∈ lits l, x ∈ lits o
  least : ∀ q, Good vars q → (∀ x ∈ lits l, x ∈ lits q) → (∀ c ∈ K, (∀ x, ¬ UnitAt q c x) ∧ ¬ FailAt q c) → ∀ x ∈ lits o, x ∈ lits q
def QuietK (K : List (List Int)) (l : List St) : Prop := ∀ c ∈ K, (∀ x, ¬ UnitAt l c x) ∧ ¬ FailAt l c
section
variable {vars : Nat} {K : List (List Int)} {l o q : List St}
theorem Least.refl (G : Good vars l) : Least vars K l l := ⟨G, fun _ h => h, fun _ _ h _ => h⟩
theorem m1_sub (G : Good vars q) (h : ∀ x ∈ lits o, x ∈ lits q) {y : Int} (hy : trI o y = -1) : trI q y = -1 := by
  rw [tr_m1] at hy ⊢
  exact ⟨fun h2 => good_cons G h2 (h _ hy.2), h _ hy.2⟩
theorem Least.step (L : Least vars K l o) {c : List Int} (hc : c ∈ K) {x : Int} (hu : UnitAt o c x) (h1 : 1 ≤ x.natAbs) (h2 : x.natAbs ≤ vars) (r : Int) (n : Nat) : Least vars K l (o ++ [⟨x, r, n⟩]) := by
  refine ⟨?_, fun y hy => by rw [lits_push]; exact List.mem_append_left _ (L.sub y hy), fun q G hs hq y hy => ?_⟩
  · refine L.good.push ?_ h1 h2
    refine find_none' fun t ht e => ?_
    obtain ⟨_, h0, _⟩ := hu
    rw [tr_zero] at h0
    have hm : t.lit ∈ lits o := List.mem_map.2 ⟨t, ht, rfl⟩
    have e' : t.lit.natAbs = x.natAbs := e
    by_cases h : t.lit = x
    · exact h0.1 (h ▸ hm)
    · have : t.lit = -x := by omega
      exact h0.2 (this ▸ hm)
  · have ho := L.least q G hs hq
    rw [lits_push, List.mem_append, List.mem_singleton] at hy
    rcases hy with hy | rfl
    · exact ho y hy
    · show y ∈ lits q
      have hf : ∀ z ∈ c, z ≠ y → trI q z = -1 := fun z hz hn => m1_sub G ho (hu.2.2 z hz hn)
      rcases trI_cases q y with h | h | h
      · exact tr_one.1 h
      · exfalso
        refine (hq c hc).2 fun z hz => ?_
        by_cases e : z = y
        · rw [e]; exact h
        · exact hf z hz e
      · exact absurd ⟨hu.1, h, hf⟩ ((hq c hc).1 y)
theorem Least.fail (L : Least vars K l o) {c : List Int} (hc : c ∈ K) (hf : FailAt o c) {o' : List St} (L' : Least vars K l o') (q' : QuietK K o') : False := by
  have h := L.least o' L'.good L'.sub q'
  exact (q' c hc).2 fun y hy => m1_sub L'.good h (hf y hy)
theorem nodup_le' : ∀ {a b : List Int}, a.Nodup → (∀ x, x ∈ a → x ∈ b) → a.length ≤ b.length
  | [], _, _, _ => Nat.zero_le _
  | y :: a, b, hn, hs => by
    have hy := hs y (List.mem_cons_self ..)
    rw [List.nodup_cons] at hn
    have := nodup_le' (a := a) (b := b.erase y) hn.2 (fun x hx => (List.mem_erase_of_ne (fun e => hn.1 (by rw [← e]; exact hx))).2 (hs x (List.mem_cons_of_mem _ hx)))
    rw [List.length_erase_of_mem hy] at this
    have := List.length_pos_of_mem hy
    simp only [List.length_cons]; omega
theorem lits_nodup (G : Good vars l) : (lits l).Nodup := by
  unfold lits
  rw [List.Nodup, List.pairwise_map]
  exact G.nd.imp fun h e => h (by rw [e])
theorem Least.same {o' : List St} (L : Least vars K l o) (q : QuietK K o) (L' : Least vars K l o') (q' : QuietK K o') : (∀ x, x ∈ lits o ↔ x ∈ lits o') ∧ o.length = o'.length := by
  have h1 := L.least o' L'.good L'.sub q'
  have h2 := L'.least o L.good L.sub q
  have e1 := nodup_le' (lits_nodup L.good) h1
  have e2 := nodup_le' (lits_nodup L'.good) h2
  unfold lits at e1 e2
  rw [List.length_map, List.length_map] at e1 e2
  exact ⟨fun x => ⟨h1 x, h2 x⟩, by omega⟩
end

/-- the clauses that are there -/
def keptC (C : List (List Int × Bool)) : List (List Int) := (C.filter fun c => !c.2).map Prod.fst
theorem mem_kept {C : List (List Int × Bool)} {c : List Int} : c ∈ keptC C ↔ ∃ id : Nat, C[id]? = some (c, false) := by
  unfold keptC
  rw [List.mem_map]
  constructor
  · rintro ⟨⟨d, g⟩, h, rfl⟩
    rw [List.mem_filter] at h
    obtain ⟨h1, h2⟩ := h
    obtain ⟨k, hk⟩ := List.getElem?_of_mem h1
    simp at h2
    subst h2
    exact ⟨k, hk⟩
  · rintro ⟨id, h⟩
    exact ⟨(c, false), List.mem_filter.2 ⟨List.mem_of_getElem? h, rfl⟩, rfl⟩
theorem Quiet.kept {C : List (List Int × Bool)} {l : List St} (q : Quiet C l) : QuietK (keptC C) l := fun c hc => by
  obtain ⟨id, h⟩ := mem_kept.1 hc
  exact q id c h
theorem US.least {C : List (List Int × Bool)} {lev vars : Nat} {l l' : List St} (h : US C lev l l') (G : Good vars l) (hC : ∀ c ∈ keptC C, ∀ x ∈ c, 1 ≤ x.natAbs ∧ x.natAbs ≤ vars) : Least vars (keptC C) l l' := by
  induction h with
  | refl => exact Least.refl G
  | step _ hc hu ih =>
    have hm := mem_kept.2 ⟨_, hc⟩
    have hx := hC _ hm _ hu.1
    exact ih.step hm hu hx.1 hx.2 _ _

/-- a clause's state among true literals -/
def freeL (l : List St) (c : List Int) : List Int := c.filter fun x => decide (trI l x = 0)
def stI (l : List St) (c : List Int) : Int × Int := if c.any (fun x => decide (trI l x = 1)) then (1, 0) else match freeL l c with
  | [] => (0, 0)
  | [x] => (2, x)
  | _ => (3, 0)
theorem stI_0 {l : List St} {c : List Int} : (stI l c).1 = 0 ↔ FailAt l c := by
  unfold stI FailAt
  constructor
  · intro h y hy
    split at h
    · simp at h
    · rename_i h1
      have hn : trI l y ≠ 1 := fun e => h1 (List.any_eq_true.2 ⟨y, hy, by rw [e]; rfl⟩)
      split at h
      · rename_i h2
        have : trI l y ≠ 0 := fun e => by
          have hm : y ∈ freeL l c := List.mem_filter.2 ⟨hy, by rw [e]; rfl⟩
          rw [h2] at hm; cases hm
        have := trI_cases l y
        omega
      · simp at h
      · simp at h
  · intro h
    rw [if_neg]
    · have : freeL l c = [] := by
        unfold freeL
        rw [List.filter_eq_nil_iff]
        intro x hx
        rw [h x hx]; decide
      rw [this]
    · intro ha
      obtain ⟨x, hx, h1⟩ := List.any_eq_true.1 ha
      rw [h x hx] at h1; exact absurd h1 (by decide)
theorem stI_2 {l : List St} {c : List Int} (hn : c.Nodup) {x : Int} : stI l c = (2, x) ↔ UnitAt l c x := by
  unfold stI UnitAt
  constructor
  · intro h
    split at h
    · simp at h
    · rename_i h1
      split at h
      · simp at h
      · rename_i y h2
        simp only [Prod.mk.injEq, true_and] at h
        subst h
        have hm : y ∈ freeL l c := by rw [h2]; exact List.mem_singleton.2 rfl
        obtain ⟨hy, h0⟩ := List.mem_filter.1 hm
        refine ⟨hy, of_decide_eq_true h0, fun z hz hzn => ?_⟩
        have hz1 : trI l z ≠ 1 := fun e => h1 (List.any_eq_true.2 ⟨z, hz, by rw [e]; rfl⟩)
        have hz0 : trI l z ≠ 0 := fun e => by
          have hm : z ∈ freeL l c := List.mem_filter.2 ⟨hz, by rw [e]; rfl⟩
          rw [h2, List.mem_singleton] at hm; exact hzn hm
        have := trI_cases l z
        omega
      · simp at h
  · rintro ⟨hx, h0, hu⟩
    rw [if_neg]
    · have hp : freeL l c = [x] := by
        have hnd : (freeL l c).Nodup := hn.sublist List.filter_sublist
        have hall : ∀ y ∈ freeL l c, y = x := fun y hy => by
          obtain ⟨hy, h1⟩ := List.mem_filter.1 hy
          have h1 := of_decide_eq_true h1
          by_cases e : y = x
          · exact e
          · have := hu y hy e; omega
        have hmem : x ∈ freeL l c := List.mem_filter.2 ⟨hx, by rw [h0]; rfl⟩
        match hf : freeL l c with
        | [] => rw [hf] at hmem; cases hmem
        | [y] => rw [hf] at hall; rw [hall y (List.mem_singleton.2 rfl)]
        | y :: z :: _ =>
          rw [hf] at hall hnd
          have e1 := hall y (List.mem_cons_self ..)
          have e2 := hall z (List.mem_cons_of_mem _ (List.mem_cons_self ..))
          rw [e1, e2] at hnd
          simp at hnd
      rw [hp]
    · intro ha
      obtain ⟨y, hy, h1⟩ := List.any_eq_true.1 ha
      have h1 := of_decide_eq_true h1
      by_cases e : y = x
      · rw [e] at h1; omega
      · have := hu y hy e; omega
end Xe
