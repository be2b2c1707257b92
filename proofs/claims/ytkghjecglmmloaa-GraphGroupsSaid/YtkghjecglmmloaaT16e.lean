/- Package trail, as its users see it: what changes it. -/
import Derived.Test.YtkghjecglmmloaaT16d
namespace Xe
open Go Tp Go.Proofs
set_option maxRecDepth 16000

section
variable {h : Heap} {b vars level : Nat} {O : Nat → Prop} {l : List St}

theorem nx_of {b rb sb : Nat} {A A' : Option Addr} {O : Nat → Prop} {h h' : Heap} (hO : ∀ x, O x ↔ tO b rb sb A x) (f : Fr (tO b rb sb A) h h') (hA : ∀ y, blk A' y → blk A y ∨ h.size ≤ y) : Nx O (tO b rb sb A') h h' :=
  ⟨f.mono fun x _ hx => (hO x).2 hx, fun x hx => by
    rcases hx with hx | hx | hx | hx
    · exact .inl ((hO x).2 (.inl hx))
    · exact .inl ((hO x).2 (.inr (.inl hx)))
    · exact .inl ((hO x).2 (.inr (.inr (.inl hx))))
    · exact (hA x hx).imp (fun h => (hO x).2 (.inr (.inr (.inr h)))) id⟩

theorem TrailOk.of {rb sb cl cr cs : Nat} {A : Option Addr} (M : TrailM h b rb sb vars cl cr cs A l level) (G : Good vars l) (L : Lvs l level) (hv : vars ≤ 16777216) : TrailOk h b (tO b rb sb A) vars l level :=
  ⟨⟨_, _, _, _, _, _, M, fun _ => Iff.rfl⟩, G, L, hv⟩

theorem tpush_ok (T : TrailOk h b O vars l level) {x r : Int} (h0 : -9223372036854775808 ≤ x) (h1 : x ≤ 9223372036854775807) :
    CallsH Try.prog 31 [.pointer (some ⟨b, 0, none⟩), .int .i64 x, .int .i64 r] h fun e h' => e = .int .i64 (pushE vars l x r : Nat) ∧
      ∃ O', TrailOk h' b O' vars (pushL vars l x r level) level ∧ Nx O O' h h' := by
  have hlv := T.lvle
  obtain ⟨rb, sb, cl, cr, cs, A, M, hO⟩ := T.ex
  refine (push_m M T.good T.lv T.hv rfl (by omega) h0 h1).mono ?_
  rintro _ h' ⟨rfl, g1, g2⟩
  refine ⟨rfl, ?_⟩
  unfold pushL
  by_cases e : pushE vars l x r = 0
  · obtain ⟨ev, v1, v2, hf, A', cl', M', f, hA⟩ := g2 e
    rw [if_pos e]
    exact ⟨_, ⟨⟨_, _, _, _, _, _, M', fun _ => Iff.rfl⟩, T.good.push hf v1 v2, .push x r T.lvs, T.hv⟩, nx_of hO f hA⟩
  · rw [if_neg e, g1 e]
    exact ⟨O, T, Nx.refl _ _⟩

theorem tdecide_ok (T : TrailOk h b O vars l level) {x : Int} (h0 : -9223372036854775808 ≤ x) (h1 : x ≤ 9223372036854775807) :
    CallsH Try.prog 30 [.pointer (some ⟨b, 0, none⟩), .int .i64 x] h fun e h' => e = .int .i64 (pushE vars l x (-1) : Nat) ∧
      ∃ O', TrailOk h' b O' vars (pushL vars l x (-1) (level + 1)) (if pushE vars l x (-1) = 0 then level + 1 else level) ∧ Nx O O' h h' := by
  have hlv := T.lvle
  have hv := T.hv
  obtain ⟨rb, sb, cl, cr, cs, A, M, hO⟩ := T.ex
  have s3 := M.B.at' 3 _ rfl
  have fB := M.B.fz
  refine calls_of 26 [.tmp 4] Go.Proofs.Try.func30 rfl rfl rfl (by kernel_rfl) (Nat.le_of_ble_eq_true rfl) ?_
  simp -implicitDefEqProofs (disch := omega) [go_sem, s3, fB]
  have M1 := M.setLv ((level : Int) + 1)
  have f1 : Fr (tO b rb sb A) h (hset h ⟨b, 3, none⟩ (.int .i64 ((level : Int) + 1))) := (Fr.refl _ _).set (.inl rfl)
  refine useC (push_m (n := level + 1) M1 T.good T.lv T.hv (by omega) (by omega) h0 h1) ?_
  rintro _ h2 ⟨rfl, g1, g2⟩
  by_cases e : pushE vars l x (-1) = 0
  · obtain ⟨ev, v1, v2, hf, A', cl', M', f, hA⟩ := g2 e
    simp -implicitDefEqProofs (disch := omega) [go_sem, e]
    rw [show pushL vars l x (-1) (level + 1) = l ++ [⟨x, -1, level + 1⟩] from if_pos e]
    exact ⟨_, TrailOk.of M' (T.good.push hf v1 v2) (.dec x T.lvs) T.hv, nx_of hO (f1.trans f) fun y hy => (hA y hy).imp id fun h => by rwa [hset_size] at h⟩
  · have e1 := g1 e
    subst e1
    have e' : ¬ ((pushE vars l x (-1) : Nat) : Int) = 0 := by omega
    have s32 := M1.B.at' 3 _ rfl
    have fB2 := M1.B.fz
    simp -implicitDefEqProofs (disch := omega) [go_sem, e, e', s32, fB2, s3, fB]
    rw [show pushL vars l x (-1) (level + 1) = l from if_neg e]
    exact ⟨_, TrailOk.of (M1.setLv level) T.good T.lvs T.hv, nx_of hO (f1.set (.inl rfl)) fun y hy => .inl hy⟩

/-- the level behind going back -/
def backK (level : Nat) (n : Int) : Nat := if max n 0 < level then (max n 0).toNat else level
theorem tback_ok (T : TrailOk h b O vars l level) {n : Int} (h0 : -9223372036854775808 ≤ n) (h1 : n ≤ 9223372036854775807) :
    CallsH Try.prog 35 [.pointer (some ⟨b, 0, none⟩), .int .i64 n] h fun r h' => r = .int .i64 ((cutTo l (backK level n)).length : Nat) ∧
      TrailOk h' b O vars (cutTo l (backK level n)) (backK level n) ∧ Nx O O h h' := by
  obtain ⟨rb, sb, cl, cr, cs, A, M, hO⟩ := T.ex
  have hk : backK level n ≤ level := by unfold backK; split <;> omega
  refine (back_m M T.good T.hv T.lvs.mono rfl T.lvle T.lvs.le h0 h1 (k := backK level n) rfl).mono ?_
  rintro _ h' ⟨rfl, M', f⟩
  exact ⟨rfl, ⟨⟨_, _, _, _, _, _, M', hO⟩, T.good.sub List.filter_sublist, T.lvs.cut _ hk, T.hv⟩, ⟨f.mono fun x _ hx => (hO x).2 hx, fun x hx => .inl hx⟩⟩

/-- an empty trail -/
theorem tnew_ok {x : Int} (h0 : -9223372036854775808 ≤ x) (h1 : x ≤ 9223372036854775807) :
    CallsH Try.prog 29 [.int .i64 x] h fun r h' => ((x < 0 ∨ 16777216 < x) ∧ r = .pointer none ∧ h' = h) ∨
      (∃ vars b : Nat, x = vars ∧ vars ≤ 16777216 ∧ r = .pointer (some ⟨b, 0, none⟩) ∧ ∃ O, TrailOk h' b O vars [] 0 ∧ Nx (fun _ => False) O h h') := by
  refine calls_of 19 [.tmp 2] Go.Proofs.Try.func29 rfl rfl rfl (by kernel_rfl) (Nat.le_of_ble_eq_true rfl) ?_
  by_cases e1 : x < 0
  · simp -implicitDefEqProofs (disch := omega) [go_sem, e1]
  by_cases e2 : 16777216 < x
  · simp -implicitDefEqProofs (disch := omega) [go_sem, e1, e2]
  obtain ⟨vars, rfl⟩ : ∃ n : Nat, x = n := ⟨x.toNat, by omega⟩
  simp -implicitDefEqProofs (disch := omega) [go_sem]
  refine build1 rfl rfl ?_
  simp -implicitDefEqProofs (disch := omega) [go_sem]
  have hw : IntKind.i64.wrap ((vars : Int) + 1) = ((vars + 1 : Nat) : Int) := by rw [IntWalk.i64_in _ (by omega)]; omega
  have c1 := repeatI_ok (h := h.push (.cells #[.int .i64 (-1)] 3)) (A := some ⟨h.size, 0, none⟩) (cap := 1) (n := vars + 1) (x := -1) (SlAt.new (vs := [.int .i64 (-1)])).row (by omega) (by omega)
  refine useC c1 ?_
  rintro _ h2 ⟨rfl, F2, f2⟩
  simp -implicitDefEqProofs (disch := omega) [go_sem]
  refine build1 rfl rfl ?_
  simp -implicitDefEqProofs (disch := omega) [go_sem]
  have c2 := repeatC_ok (h := h2.push (.cells #[.complex .f64 (Fx.enc (-1)) (Fx.enc (-1))] 100)) (A := some ⟨h2.size, 0, none⟩) (cap := 1) (n := vars + 1) (re := Fx.enc (-1)) (im := Fx.enc (-1)) (SlAt.new (vs := [.complex .f64 (Fx.enc (-1)) (Fx.enc (-1))])).row (by omega) (by omega)
  refine useC c2 ?_
  rintro _ h3 ⟨rfl, F3, f3⟩
  simp -implicitDefEqProofs (disch := omega) [go_sem]
  rw [push_size] at F2 F3
  have z2 := f2.size
  have z3 := f3.size
  rw [push_size] at z2 z3
  have y2 := F2.lt
  have y3 := F3.lt
  have M : TrailM (h3.push (.cells #[.slice none 0 0, .slice (some ⟨h.size + 1, 0, none⟩) (vars + 1) (vars + 1), .slice (some ⟨h2.size + 1, 0, none⟩) (vars + 1) (vars + 1), .int .i64 0] 105)) h3.size (h.size + 1) (h2.size + 1) vars 0 (vars + 1) (vars + 1) none [] 0 :=
    ⟨ListB.new, SlAt.nil _, ((F2.fr ((Fr.refl (fun _ => False) _).push.trans f3) id).push).cong fun i hi => rfl, F3.push.cong fun i hi => rfl, (by show h3.size ≠ h.size + 1; omega), (by show h3.size ≠ h2.size + 1; omega), (by show h.size + 1 ≠ h2.size + 1; omega), fun x ⟨_, h, _⟩ => (nomatch h)⟩
  refine ⟨vars, rfl, by omega, _, TrailOk.of M (Good.nil _) .nil (by omega), ⟨?_, fun x hx => .inr ?_⟩⟩
  · exact (((Fr.refl _ _).push.trans f2).push.trans f3).push
  · rcases hx with rfl | rfl | rfl | ⟨_, h, _⟩
    · omega
    · omega
    · omega
    · cases h
end
end Xe
