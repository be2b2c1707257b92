/- Package watch: Propagate, New, Decide, Add. -/
import Derived.Test.YtkghjecglmmloaaT17g
import Derived.Test.YtkghjecglmmloaaWP3
namespace Xe
open Go Tp Go.Proofs
set_option maxRecDepth 16000
set_option maxHeartbeats 1000000

def tlenAt (h : Heap) (b : Nat) : Nat := match hcell h ⟨b, 3, none⟩ with
  | some (.slice _ n _) => n
  | _ => 0
def headAt (h : Heap) (b : Nat) : Nat := match hcell h ⟨b, 4, none⟩ with
  | some (.int _ i) => i.toNat
  | _ => 0

section
variable {h : Heap} {bb : Nat} {p : BP} {s : WS}

theorem BaseM.tlen (M : BaseM h bb p s) : tlenAt h bb = s.todo.length := by unfold tlenAt; rw [M.B.at' 3 _ rfl]
theorem BaseM.headN (M : BaseM h bb p s) : headAt h bb = s.head := by unfold headAt; rw [M.B.at' 4 _ rfl]; simp

theorem prop_m (M : BaseM h bb p s) (I : WInv s) : CallsH Try.prog 50 [.pointer (some ⟨bb, 0, none⟩)] h fun r h' =>
    ∃ p' s', BaseM h' bb p' s' ∧ Stp p p' h h' ∧ WInv s' ∧ Adv s s' ∧
      ((∃ id e, r = .tuple #[.int .i64 (id : Nat), .bool false] ∧ s'.cs[id]? = some e ∧ e.gone = false ∧ FailAt s'.l e.lits) ∨ (r = .tuple #[.int .i64 (-1), .bool true] ∧ s'.todo = [] ∧ s'.head = s'.l.length)) := by
  refine calls_of 68 [.tmp 2, .tmp 3] Go.Proofs.Try.func50 rfl rfl rfl (by kernel_rfl) (Nat.le_of_ble_eq_true rfl) ?_
  simp -implicitDefEqProofs (disch := omega) [go_sem]
  refine scopeL 0 (fun ρ h' => ρ 0 = .pointer (some ⟨bb, 0, none⟩) ∧ ∃ p' s', BaseM h' bb p' s' ∧ Stp p p' h h' ∧ WInv s' ∧ Adv s s')
    (fun _ h' => tlenAt h' bb + (16777217 - headAt h' bb)) (by kernel_rfl) ?_ ?_
  · exact ⟨rfl, p, s, M, Stp.refl, I, Adv.refl s⟩
  · rintro ρ h1 ⟨r0, p1, s1, M1, st1, I1, ad1⟩
    have s3 := M1.B.at' 3 _ rfl
    have hsm := M1.sm
    have hvv := I1.hv
    have hln := I1.good.len
    have etl := M1.tlen
    have ehd := M1.headN
    have hhd := I1.head
    cases ht : s1.todo with
    | cons id rest =>
      rw [ht] at s3
      have D1 := M1.D
      rw [ht] at D1
      have hcl := D1.len
      rw [ids_len, List.length_cons] at hcl
      obtain ⟨bk, off, hTA, _, _, hc⟩ := D1.base (by omega)
      have c0 := hc 0 _ rfl
      rw [Nat.add_zero] at c0
      rw [hTA, List.length_cons] at s3
      simp -implicitDefEqProofs (disch := omega) [go_sem, r0, s3, c0]
      refine useC (look_m M1 I1 ht) ?_
      rintro _ h2 ⟨p2, s2, M2, st2, hor⟩
      rcases hor with ⟨rfl, rfl, e, he, hg, hf⟩ | ⟨rfl, htd, hh2, I2, ad2⟩
      · simp -implicitDefEqProofs (disch := omega) [go_sem, r0]
        exact ⟨p2, s2, M2, st1.trans st2, I1, ad1, by first | exact ⟨id, rfl, e, he, hg, hf⟩ | exact ⟨id, e, rfl, he, hg, hf⟩ | exact ⟨e, he, hg, hf⟩⟩
      · have s32 := M2.B.at' 3 _ rfl
        have D2 := M2.D
        rw [htd, ht] at D2 s32
        have hcl2 := D2.len
        rw [ids_len, List.length_cons] at hcl2
        obtain ⟨bk2, off2, hTA2, _, _, _⟩ := D2.base (by omega)
        rw [hTA2] at D2
        rw [hTA2, List.length_cons] at s32
        have fz := M2.B.fz
        have D3 := SlO.tail (v := .int .i64 (id : Int)) (vs := ids rest) D2
        obtain ⟨p3, M3, st3, _⟩ := M2.todo (l' := rest) (Fr.refl _ _) D3 (fun y hy => .inl (by rw [hTA2]; obtain ⟨a, ha, rfl⟩ := hy; cases ha; exact ⟨_, rfl, rfl⟩)) (by have := hsm.2; rw [ht, List.length_cons] at this; omega)
        simp -implicitDefEqProofs (disch := omega) [go_sem, r0, s32, fz]
        have e3 : ({ s2 with todo := rest } : WS).todo = rest := rfl
        refine ⟨⟨p3, _, M3, (st1.trans st2).trans st3, I2, ad1.trans ⟨ad2.vars, ad2.level, ad2.cs, ad2.us⟩⟩, ?_⟩
        have e4 := M3.tlen
        have e5 := M3.headN
        rw [e4, e5, etl, ehd, ht, hh2]
        show rest.length + (16777217 - s1.head) < (id :: rest).length + (16777217 - s1.head)
        rw [List.length_cons]; omega
    | nil =>
      rw [ht] at s3
      have s0 := M1.B.at' 0 _ rfl
      have s4 := M1.B.at' 4 _ rfl
      simp -implicitDefEqProofs (disch := omega) [go_sem, r0, s3, s0]
      refine useC (tlits_ok M1.T) ?_
      rintro _ h2 ⟨A', c', rfl, S, own, f2⟩
      have M2 := M1.fr0 f2
      have s42 := (f2.cell (o := 4) (hcell_lt s4) (fun h => h)).trans s4
      by_cases hlt : s1.head < s1.l.length
      · obtain ⟨t, htt⟩ : ∃ t, s1.l[s1.head]? = some t := ⟨_, List.getElem?_eq_getElem hlt⟩
        have hlt' : (lits s1.l)[s1.head]? = some t.lit := by unfold lits; rw [List.getElem?_map, htt]; rfl
        obtain ⟨bk, off, rfl, hc⟩ := S.row.get (by rw [ints_len]; unfold lits; rw [List.length_map]; omega)
        have c0 := hc _ _ (ints_at hlt')
        have hrg := I1.good.rng t (List.mem_of_getElem? htt)
        simp -implicitDefEqProofs (disch := omega) [go_sem, r0, s42, c0]
        refine useC (falls_m M2 I1 ht (lit := -t.lit) (by rw [Int.neg_neg]; exact hlt') (by omega)) ?_
        rintro _ h3 ⟨p3, s3', M3, st3, htd3, hh3, ad3, hor⟩
        rcases hor with ⟨id, e, rfl, he, hg, hf, I3⟩ | ⟨rfl, I3⟩
        · simp -implicitDefEqProofs (disch := omega) [go_sem, r0]
          exact ⟨p3, s3', M3, (st1.trans (Stp.fr0 f2)).trans st3, I3, ad1.trans ad3, by first | exact ⟨id, rfl, e, he, hg, hf⟩ | exact ⟨id, e, rfl, he, hg, hf⟩ | exact ⟨e, he, hg, hf⟩⟩
        · have s43 := M3.B.at' 4 _ rfl
          have fz := M3.B.fz
          have M4 := M3.setHead (s1.head + 1)
          have ehn : ((s1.head + 1 : Nat) : Int) = (s1.head : Int) + 1 := by omega
          rw [ehn] at M4
          have st4 : Stp p3 p3 h3 (hset h3 ⟨bb, 4, none⟩ (.int .i64 ((s1.head : Int) + 1))) := stp_set M3 M3.cB
          rw [hh3] at s43
          simp -implicitDefEqProofs (disch := omega) [go_sem, r0, s43, fz]
          refine ⟨⟨p3, _, M4, ((st1.trans (Stp.fr0 f2)).trans st3).trans st4, I3, ad1.trans ⟨ad3.vars, ad3.level, ad3.cs, ad3.us⟩⟩, ?_⟩
          have e4 := M4.tlen
          have e5 := M4.headN
          rw [e4, e5, etl, ehd, ht]
          show s3'.todo.length + (16777217 - (s1.head + 1)) < 0 + (16777217 - s1.head)
          rw [htd3]
          show 0 + _ < _
          omega
      · simp -implicitDefEqProofs (disch := omega) [go_sem, r0, s42]
        exact ⟨p1, s1, M2, st1.trans (Stp.fr0 f2), I1, ad1, ht, by omega⟩

theorem bdecide_m (M : BaseM h bb p s) {x : Int} (h0 : -9223372036854775808 ≤ x) (h1 : x ≤ 9223372036854775807) : CallsH Try.prog 49 [.pointer (some ⟨bb, 0, none⟩), .int .i64 x] h fun r h' =>
    r = .int .i64 (pushE s.vars s.l x (-1) : Nat) ∧ ∃ p', BaseM h' bb p' (decS s x) ∧ Stp p p' h h' := by
  have s0 := M.B.at' 0 _ rfl
  refine calls_of 11 [.tmp 4] Go.Proofs.Try.func49 rfl rfl rfl (by kernel_rfl) (Nat.le_of_ble_eq_true rfl) ?_
  simp -implicitDefEqProofs (disch := omega) [go_sem, s0]
  refine useC (tdecide_ok M.T h0 h1) ?_
  rintro _ h2 ⟨rfl, O2, T2, nx2⟩
  simp -implicitDefEqProofs (disch := omega) [go_sem]
  obtain ⟨p', M', st, _⟩ := M.trail T2 nx2
  exact ⟨p', M', st⟩

theorem bnew_m {x : Int} (h0 : -9223372036854775808 ≤ x) (h1 : x ≤ 9223372036854775807) : CallsH Try.prog 47 [.int .i64 x] h fun r h' =>
    ((x < 0 ∨ 16777216 < x) ∧ r = .pointer none ∧ h' = h) ∨
      (∃ vars bb : Nat, x = vars ∧ vars ≤ 16777216 ∧ r = .pointer (some ⟨bb, 0, none⟩) ∧ ∃ p, BaseM h' bb p (newW vars) ∧ (∀ y t, p.c y = some t → h.size ≤ y) ∧ Fr (fun _ => False) h h') := by
  refine calls_of 12 [.tmp 2] Go.Proofs.Try.func47 rfl rfl rfl (by kernel_rfl) (Nat.le_of_ble_eq_true rfl) ?_
  simp -implicitDefEqProofs (disch := omega) [go_sem]
  refine useC (tnew_ok h0 h1) ?_
  rintro _ h2 (⟨hb, rfl, rfl⟩ | ⟨vars, tb, rfl, hv, rfl, OT, T, nx⟩)
  · simp -implicitDefEqProofs (disch := omega) [go_sem]
    omega
  · have hn : ¬ ((vars : Int) < 0 ∨ 16777216 < (vars : Int)) := by omega
    simp -implicitDefEqProofs (disch := omega) [go_sem, hn]
    refine ⟨vars, rfl, hv, ?_⟩
    have z2 := nx.fr.size
    have T4 : TrailOk ((h2.push (.map #[] 0)).push (.cells #[.pointer (some ⟨tb, 0, none⟩), .slice none 0 0, .map (some h2.size), .slice none 0 0, .int .i64 0] 111)) tb OT vars [] 0 := T.fr0 ((Fr.refl _ _).push.push)
    have hlow := T.low
    classical
    refine ⟨⟨tb, h2.size, OT, none, 0, fun _ => 0, none, 0, fun _ => none, fun y => if OT y then some .trail else if y = h2.size then some .map else if y = h2.size + 1 then some .base else none⟩, ?_, fun y t hy => ?_, ?_⟩
    · have hB : ListB ((h2.push (.map #[] 0)).push (.cells #[.pointer (some ⟨tb, 0, none⟩), .slice none 0 0, .map (some h2.size), .slice none 0 0, .int .i64 0] 111)) (h2.size + 1) [.pointer (some ⟨tb, 0, none⟩), .slice none 0 0, .map (some h2.size), .slice none 0 0, .int .i64 0] := by
        have := ListB.new (h := h2.push (.map #[] 0)) (vs := [.pointer (some ⟨tb, 0, none⟩), .slice none 0 0, .map (some h2.size), .slice none 0 0, .int .i64 0]) (e := 111)
        rw [push_size] at this
        exact this
      have no1 : ¬ OT (h2.size + 1) := fun h => by have := hlow _ h; omega
      have no0 : ¬ OT h2.size := fun h => by have := hlow _ h; omega
      exact {
        low := fun y t hy => by
          rw [push_size, push_size]
          simp only at hy
          split at hy
          · rename_i ho; have := hlow y ho; omega
          · split at hy
            · omega
            · split at hy
              · omega
              · cases hy
        B := hB
        cB := by simp only [if_neg no1]; rw [if_neg (by omega)]; simp
        T := T4
        cT := fun y hy => if_pos hy
        L := SlAt.nil _
        cL := fun y ⟨_, h, _⟩ => (nomatch h)
        E := fun id e he => by simp [newW] at he
        M := MapAt.new.same (push_old (by rw [push_size]; omega))
        cM := by simp [no0]
        W := fun y => rfl
        D := SlO.nil
        cD := fun y ⟨_, h, _⟩ => (nomatch h)
        sm := ⟨by show 0 < _; omega, by show 0 < _; omega⟩ }
    · simp only at hy
      split at hy
      · rename_i ho; exact (nx.own y ho).elim (fun h => h.elim) fun h => h
      · split at hy
        · omega
        · split at hy
          · omega
          · cases hy
    · exact (nx.fr.trans (Fr.refl _ _)).push.push
end
end Xe
