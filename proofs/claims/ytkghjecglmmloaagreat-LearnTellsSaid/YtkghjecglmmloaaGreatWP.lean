/- Go's library, walked: bits.Len, slices.SortFunc of a few, slices.Compact. -/
import Derived.Test.YtkghjecglmmloaaGreatCP
namespace Xe
open Go Tp Go.Proofs
set_option maxRecDepth 16000

section
variable {h : Heap} {A : Option Addr} {l : List Int} {n c fn : Nat} {cs : List Value}

theorem len64_ok (hn : n ≤ 12) : CallsH Tryz.prog 176 [.int .u64 n] h fun r h' => (∃ k : Int, r = .int .i64 k) ∧ h' = h := by
  have hix : ixOf Tryz.prog 9 = none := by kernel_rfl
  have hst : strT Tryz.prog 9 = true := by kernel_rfl
  refine calls_of 25 [.tmp 2] Go.Proofs.Tryz.func176 rfl rfl rfl (by kernel_rfl) (Nat.le_of_ble_eq_true rfl) ?_
  simp -implicitDefEqProofs (disch := omega) [go_sem, hix, hst]
  refine runStr (by omega) ?_ ?_
  · have e : ((n : Int)).toNat = n := by omega
    rw [e]
    refine Nat.lt_of_lt_of_le (Nat.lt_of_le_of_lt hn (by decide : 12 < 256)) ?_
    exact Nat.le_of_ble_eq_true (by kernel_rfl)
  · intro b b0 b1
    simp -implicitDefEqProofs (disch := omega) [go_sem]
theorem len_ok (hn : n ≤ 12) : CallsH Tryz.prog 131 [.int .u64 n] h fun r h' => (∃ k : Int, r = .int .i64 k) ∧ h' = h := by
  refine calls_of 8 [.tmp 2] Go.Proofs.Tryz.func131 rfl rfl rfl (by kernel_rfl) (Nat.le_of_ble_eq_true rfl) ?_
  simp -implicitDefEqProofs (disch := omega) [go_sem]
  refine useC (len64_ok hn) ?_
  rintro _ h' ⟨⟨k, rfl⟩, rfl⟩
  simp -implicitDefEqProofs (disch := omega) [go_sem]

theorem pdq_ok {cap : Nat} {cf : Int → Int → Int} {ok : Int → Prop} (C : CmpOk cf ok) (S : SlAt h A cap (ints l)) (hl : ∀ x ∈ l, ok x) (hn : n = l.length) (hs : n ≤ 12) (k : Int)
    (hf : ∀ h x y, ok x → ok y → CallsH Tryz.prog fn ([.int .i64 x, .int .i64 y] ++ cs) h fun r h' => r = .int .i64 (cf x y) ∧ Fr (fun _ => False) h h') :
    CallsH Tryz.prog 164 [.slice A n cap, .int .i64 0, .int .i64 n, .int .i64 k, .func (.func fn) #[] cs.toArray] h fun _ h' =>
      ∃ L, L.Perm l ∧ (∀ p q, p < q → q < n → 0 ≤ cf (gt L q) (gt L p)) ∧ SlAt h' A cap (ints L) ∧ Fr (blk A) h h' := by
  refine calls_of 148 [] Go.Proofs.Tryz.func164 rfl rfl rfl (by kernel_rfl) (Nat.le_of_ble_eq_true rfl) ?_
  simp -implicitDefEqProofs (disch := omega) [go_sem]
  refine loopK (fun ρ h' => ρ 0 = .slice A n cap ∧ ρ 1 = .int .i64 0 ∧ ρ 2 = .int .i64 n ∧ ρ 4 = .func (.func fn) #[] cs.toArray ∧ h' = h) (fun _ _ => 0) (by kernel_rfl) ?_ ?_
  · exact ⟨rfl, rfl, rfl, rfl, rfl⟩
  · rintro ρ h' ⟨r0, r1, r2, r4, rfl⟩
    simp -implicitDefEqProofs (disch := omega) [go_sem, r0, r1, r2, r4]
    refine useC (insertion_ok C S hl hn (by omega) hf) ?_
    rintro _ h2 ⟨L, hP, hO, S2, f2⟩
    simp -implicitDefEqProofs (disch := omega) [go_sem]
    exact ⟨L, hP, hO, S2, f2⟩

theorem sortFunc_ok {cap : Nat} {cf : Int → Int → Int} {ok : Int → Prop} (C : CmpOk cf ok) (S : SlAt h A cap (ints l)) (hl : ∀ x ∈ l, ok x) (hn : n = l.length) (hs : n ≤ 12)
    (hf : ∀ h x y, ok x → ok y → CallsH Tryz.prog fn ([.int .i64 x, .int .i64 y] ++ cs) h fun r h' => r = .int .i64 (cf x y) ∧ Fr (fun _ => False) h h') :
    CallsH Tryz.prog 118 [.slice A n cap, .func (.func fn) #[] cs.toArray] h fun _ h' =>
      ∃ L, L.Perm l ∧ (∀ p q, p < q → q < n → 0 ≤ cf (gt L q) (gt L p)) ∧ SlAt h' A cap (ints L) ∧ Fr (blk A) h h' := by
  refine calls_of 14 [] Go.Proofs.Tryz.func118 rfl rfl rfl (by kernel_rfl) (Nat.le_of_ble_eq_true rfl) ?_
  simp -implicitDefEqProofs (disch := omega) [go_sem]
  refine useC (len_ok hs) ?_
  rintro _ h1 ⟨⟨k, rfl⟩, rfl⟩
  simp -implicitDefEqProofs (disch := omega) [go_sem]
  refine useC (pdq_ok C S hl hn hs k hf) ?_
  rintro _ h2 ⟨L, hP, hO, S2, f2⟩
  simp -implicitDefEqProofs (disch := omega) [go_sem]
  exact ⟨L, hP, hO, S2, f2⟩

theorem zerosOf_all {z w : Value} {m : Nat} (hw : w ∈ (zerosOf #[z] m).toList) : w = z := by
  unfold zerosOf at hw
  rw [Array.toList_map, List.mem_map] at hw
  obtain ⟨i, _, rfl⟩ := hw
  simp [Nat.mod_one]

/-- clearing a row of numbers -/
theorem clear_ints {bk off cap : Nat} {k : Heap → Prop} (hc : ∀ j, j < n → (hcell h ⟨bk, off + j, none⟩).isSome = true) (hf : ∀ j, hfrz h ⟨bk, j, none⟩ = false)
    (hk : ∀ h', (∀ x, x < off → hcell h' ⟨bk, x, none⟩ = hcell h ⟨bk, x, none⟩) → (∀ x, (hcell h ⟨bk, x, none⟩).isSome = true → (hcell h' ⟨bk, x, none⟩).isSome = true) → (∀ x, hfrz h' ⟨bk, x, none⟩ = false) → Fr (fun x => x = bk) h h' → k h') :
    @clearK Tryz.prog 23 (.slice (some ⟨bk, off, none⟩) n cap) ⟨h⟩ ⟨k⟩ := by
  refine .inr ⟨3, 1, 8, .int .i64 0, _, n, cap, by kernel_rfl, rfl, ?_⟩
  have hlen : (zerosOf (Value.int .i64 0).cells (n * 1)).toList.length = n := by simp [zerosOf]
  refine storeN_some (b := bk) (fun w hw => by rw [zerosOf_all hw]; rfl) (fun j hj => by rw [hlen] at hj; rw [Nat.add_zero]; exact hc j hj) hf fun h' g1 g2 g3 g4 => ?_
  rw [Nat.add_zero, hlen] at g2
  rw [Nat.add_zero] at g1
  refine hk h' (fun x hx => g2 x (.inl hx)) (fun x hx => ?_) g3 g4
  by_cases hin : x < off ∨ off + n ≤ x
  · rw [g2 x hin]; exact hx
  · have hj : x - off < (zerosOf (Value.int .i64 0).cells (n * 1)).toList.length := by omega
    have := g1 (x - off) _ (List.getElem?_eq_getElem hj)
    rw [show off + (x - off) = x by omega] at this
    rw [this]; rfl

theorem compact_ok {cap : Nat} (S : SlAt h A cap (ints l)) (hn : n = l.length) (hs : n < 2 ^ 40) :
    CallsH Tryz.prog 84 [.slice A n cap] h fun r h' => r = .slice A (cN l n).length cap ∧ SlAt h' A cap (ints (cN l n)) ∧ Fr (blk A) h h' := by
  subst hn
  refine calls_of 61 [.tmp 2] Go.Proofs.Tryz.func84 rfl rfl rfl (by kernel_rfl) (Nat.le_of_ble_eq_true rfl) ?_
  by_cases h2 : l.length < 2
  · have e : cN l l.length = l := by rw [cN_take _ (Nat.le_refl _) (fun j h1 h2 => by omega), List.take_length]
    simp -implicitDefEqProofs (disch := omega) [go_sem, e]
    exact ⟨S, Fr.refl _ _⟩
  simp -implicitDefEqProofs (disch := omega) [go_sem]
  obtain ⟨bk, rfl, hbk, hfz, hc⟩ := S.base (by rw [ints_len]; omega)
  have hcap := S.len
  rw [ints_len] at hcap
  refine loopK (fun ρ h' => ρ 0 = .slice (some ⟨bk, 0, none⟩) l.length cap ∧ h' = h ∧ ∃ k : Nat, ρ 3 = .int .i64 k ∧ 1 ≤ k ∧ k ≤ l.length ∧ ∀ j, 1 ≤ j → j < k → gt l j ≠ gt l (j - 1))
    (fun ρ _ => l.length - (intOf (ρ 3)).toNat) (by kernel_rfl) ?_ ?_
  · exact ⟨rfl, rfl, 1, rfl, by omega, by omega, fun j h1 h2 => by omega⟩
  · rintro ρ h' ⟨r0, rfl, k, r3, hk1, hk2, hj⟩
    by_cases hkn : k = l.length
    · have e : cN l l.length = l := by rw [cN_take _ (Nat.le_refl _) (fun j h1 h2 => hj j h1 (by omega)), List.take_length]
      simp -implicitDefEqProofs (disch := omega) [go_sem, r0, r3, e]
      exact ⟨S, Fr.refl _ _⟩
    · have c0 := hc k _ (ints_at (gt_at (by omega)))
      have c1 := hc (k - 1) _ (ints_at (gt_at (by omega)))
      have ek : ((k : Int) - 1).toNat = k - 1 := by omega
      simp -implicitDefEqProofs (disch := omega) [go_sem, r0, r3]
      refine drawK [(0, 0), (1, 0), (2, 0), (3, 1), (4, 0), (5, 0), (6, 0), (7, 0), (8, 1), (9, 0)] mixed (by kernel_rfl) ?_
      by_cases hd : gt l k = gt l (k - 1)
      · simp -implicitDefEqProofs (disch := omega) [go_sem, r0, r3, c0, c1, ek, hd]
        refine loopK (fun ρ h2 => ρ 0 = .slice (some ⟨bk, 0, none⟩) l.length cap ∧ ρ 4 = .slice (some ⟨bk, k, none⟩) (l.length - k) (cap - k) ∧ ∃ (k2 i : Nat) (M : List Int), ρ 5 = .int .i64 k2 ∧ ρ 3 = .int .i64 i ∧ 1 ≤ k2 ∧ k + k2 ≤ l.length ∧
            i = (cN l (k + k2)).length ∧ M.length = l.length ∧ (∀ j, j < i → gt M j = gt (cN l (k + k2)) j) ∧ (∀ j, k + k2 - 1 ≤ j → gt M j = gt l j) ∧ SlAt h2 (some ⟨bk, 0, none⟩) cap (ints M) ∧ Fr (blk (some ⟨bk, 0, none⟩)) h' h2)
          (fun ρ _ => l.length - (intOf (ρ 5)).toNat) (by kernel_rfl) ?_ ?_
        · have e1 : cN l k = l.take k := cN_take _ hk2 hj
          have e2 : cN l (k + 1) = l.take k := by rw [cN_dup (by omega) hd, e1]
          refine ⟨r0, rfl, 1, k, l, rfl, r3, by omega, by omega, ?_, rfl, fun j hj2 => ?_, fun j _ => rfl, S, Fr.refl _ _⟩
          · rw [e2, List.length_take]; omega
          · rw [e2]
            unfold gt
            rw [List.getD_eq_getElem?_getD, List.getD_eq_getElem?_getD, List.getElem?_take, if_pos hj2]
        · clear r0 r3 c0 c1
          rintro ρ h3 ⟨r0, r4, k2, i, M, r5, r3, hk21, hk22, hi, hM, hA, hB, S3, f3⟩
          have hilt := cN_lt (by omega) hd (k + k2) (by omega)
          obtain ⟨bk', hbk', _, hfz3, hc3⟩ := S3.base (by rw [ints_len]; omega)
          cases hbk'
          by_cases hend : k + k2 = l.length
          · rw [hend] at hi hA hilt
            have hil : i < l.length := by omega
            simp -implicitDefEqProofs (disch := omega) [go_sem, r0, r3, r4, r5]
            refine clear_ints (n := l.length - i) (fun j hj => ?_) hfz3 fun h4 g1 g2 g3 g4 => ?_
            · rw [hc3 (i + j) _ (ints_at (gt_at (by omega)))]; rfl
            · simp -implicitDefEqProofs (disch := omega) [go_sem, r0, r3, r4, r5]
              refine ⟨hi, ⟨by rw [ints_len]; omega, .inr ⟨bk, rfl, Nat.lt_of_lt_of_le (S3.blk_lt ⟨_, rfl, rfl⟩) g4.size, g3, fun j hj => ?_, fun j v hv => ?_⟩⟩, f3.trans (g4.mono fun x _ hx => ⟨_, rfl, hx.symm⟩)⟩
              · refine g2 j ?_
                rcases S3.at' with ⟨h, _⟩ | ⟨bk2, h, _, _, hs3, _⟩
                · cases h
                · cases h; exact hs3 j hj
              · have hjl := (List.getElem?_eq_some_iff.1 hv).1
                rw [ints_len, ← hi] at hjl
                rw [g1 j hjl, hc3 j _ (ints_at (gt_at (by omega))), hA j hjl, ← hv, ints_at (gt_at (by omega))]
          · have c0 := hc3 (k + k2) _ (ints_at (gt_at (by omega)))
            have c1 := hc3 (k + (k2 - 1)) _ (ints_at (gt_at (by omega)))
            rw [hB _ (by omega)] at c0
            rw [hB _ (by omega)] at c1
            have ek2 : ((k2 : Int) - 1).toNat = k2 - 1 := by omega
            have epp : k + k2 - 1 = k + (k2 - 1) := by omega
            simp -implicitDefEqProofs (disch := omega) [go_sem, r0, r3, r4, r5]
            refine drawK [(0, 0), (1, 0), (2, 0), (3, 1), (4, 0), (5, 0), (6, 0), (7, 0), (8, 1), (9, 0)] mixed (by kernel_rfl) ?_
            by_cases hne : gt l (k + k2) = gt l (k + (k2 - 1))
            · simp -implicitDefEqProofs (disch := omega) [go_sem, r0, r3, r4, r5, c0, c1, ek2, hne]
              have ed : cN l (k + (k2 + 1)) = cN l (k + k2) := cN_dup (n := k + k2) (by omega) (by rw [epp]; exact hne)
              refine ⟨⟨k2 + 1, by omega, i, rfl, by omega, by omega, by rw [ed]; exact hi, M, hM, fun j hj2 => by rw [ed]; exact hA j hj2, fun j hj2 => hB j (by omega), S3, f3⟩, by omega⟩
            · have ci := hc3 i _ (ints_at (gt_at (by omega)))
              simp -implicitDefEqProofs (disch := omega) [go_sem, r0, r3, r4, r5, c0, c1, ek2, hne, hfz3, ci]
              have ed : cN l (k + (k2 + 1)) = cN l (k + k2) ++ [gt l (k + k2)] := cN_new (n := k + k2) (.inr (by rw [epp]; exact hne))
              have S4 := S3.set (i := i) (by rw [ints_len]; omega) (.int .i64 (gt l (k + k2)))
              have e4 : (ints M).set i (.int .i64 (gt l (k + k2))) = ints (M.set i (gt l (k + k2))) := by unfold ints; rw [List.map_set]
              rw [e4] at S4
              refine ⟨⟨k2 + 1, by omega, i + 1, by omega, by omega, by omega, by rw [ed, List.length_append, ← hi]; rfl, M.set i (gt l (k + k2)), by rw [List.length_set]; exact hM, fun j hj2 => ?_, fun j hj2 => ?_, S4, ?_⟩, by omega⟩
              · rw [gt_set (by omega), ed]
                by_cases ej : j = i
                · subst ej
                  rw [if_pos rfl]
                  unfold gt
                  rw [List.getD_eq_getElem?_getD (l := _ ++ _), List.getElem?_append_right (by omega), hi]
                  simp
                · rw [if_neg ej, hA j (by omega)]
                  unfold gt
                  rw [List.getD_eq_getElem?_getD, List.getD_eq_getElem?_getD, List.getElem?_append_left (by omega)]
              · rw [gt_set (by omega), if_neg (by omega)]
                exact hB j (by omega)
              · exact f3.set (ad := ⟨bk, i, none⟩) ⟨⟨bk, 0, none⟩, rfl, rfl⟩
      · simp -implicitDefEqProofs (disch := omega) [go_sem, r0, r3, c0, c1, ek, hd]
        refine ⟨⟨k + 1, by omega, by omega, by omega, fun j h1 h2 => ?_⟩, by omega⟩
        by_cases e : j = k
        · subst e; exact hd
        · exact hj j h1 (by omega)
end
end Xe

/- Package trail, as its users see it: what changes it. -/
namespace Xe
open Go Tp Go.Proofs
set_option maxRecDepth 16000

section
variable {h : Heap} {b vars level : Nat} {O : Nat → Prop} {l : List St}

theorem nx_of {b rb sb : Nat} {A A' : Option Addr} {O : Nat → Prop} {h h' : Heap} (hO : ∀ x, O x ↔ tO b rb sb A x) (f : Fr (tO b rb sb A) h h') (hA : ∀ y, blk A' y → blk A y ∨ h.size ≤ y) : Nx O (tO b rb sb A') h h' :=
  ⟨f.mono fun x _ hx => (hO x).2 hx, fun x hx => by
    rcases hx with hx | hx | hx | hx
    · exact .inl ((hO x).2 (.inl hx))
    · exact .inl ((hO x).2 (.inr (.inl hx)))
    · exact .inl ((hO x).2 (.inr (.inr (.inl hx))))
    · exact (hA x hx).imp (fun h => (hO x).2 (.inr (.inr (.inr h)))) id⟩

theorem TrailOk.of {rb sb cl cr cs : Nat} {A : Option Addr} (M : TrailM h b rb sb vars cl cr cs A l level) (G : Good vars l) (L : Lvs l level) (hv : vars ≤ 16777216) : TrailOk h b (tO b rb sb A) vars l level :=
  ⟨⟨_, _, _, _, _, _, M, fun _ => Iff.rfl⟩, G, L, hv⟩

theorem tpush_ok (T : TrailOk h b O vars l level) {x r : Int} (h0 : -9223372036854775808 ≤ x) (h1 : x ≤ 9223372036854775807) :
    CallsH Tryz.prog 157 [.pointer (some ⟨b, 0, none⟩), .int .i64 x, .int .i64 r] h fun e h' => e = .int .i64 (pushE vars l x r : Nat) ∧
      ∃ O', TrailOk h' b O' vars (pushL vars l x r level) level ∧ Nx O O' h h' := by
  have hlv := T.lvle
  obtain ⟨rb, sb, cl, cr, cs, A, M, hO⟩ := T.ex
  refine (push_m M T.good T.lv T.hv rfl (by omega) h0 h1).mono ?_
  rintro _ h' ⟨rfl, g1, g2⟩
  refine ⟨rfl, ?_⟩
  unfold pushL
  by_cases e : pushE vars l x r = 0
  · obtain ⟨ev, v1, v2, hf, A', cl', M', f, hA⟩ := g2 e
    rw [if_pos e]
    exact ⟨_, ⟨⟨_, _, _, _, _, _, M', fun _ => Iff.rfl⟩, T.good.push hf v1 v2, .push x r T.lvs, T.hv⟩, nx_of hO f hA⟩
  · rw [if_neg e, g1 e]
    exact ⟨O, T, Nx.refl _ _⟩

theorem tdecide_ok (T : TrailOk h b O vars l level) {x : Int} (h0 : -9223372036854775808 ≤ x) (h1 : x ≤ 9223372036854775807) :
    CallsH Tryz.prog 108 [.pointer (some ⟨b, 0, none⟩), .int .i64 x] h fun e h' => e = .int .i64 (pushE vars l x (-1) : Nat) ∧
      ∃ O', TrailOk h' b O' vars (pushL vars l x (-1) (level + 1)) (if pushE vars l x (-1) = 0 then level + 1 else level) ∧ Nx O O' h h' := by
  have hlv := T.lvle
  have hv := T.hv
  obtain ⟨rb, sb, cl, cr, cs, A, M, hO⟩ := T.ex
  have s3 := M.B.at' 3 _ rfl
  have fB := M.B.fz
  refine calls_of 26 [.tmp 4] Go.Proofs.Tryz.func108 rfl rfl rfl (by kernel_rfl) (Nat.le_of_ble_eq_true rfl) ?_
  simp -implicitDefEqProofs (disch := omega) [go_sem, s3, fB]
  have M1 := M.setLv ((level : Int) + 1)
  have f1 : Fr (tO b rb sb A) h (hset h ⟨b, 3, none⟩ (.int .i64 ((level : Int) + 1))) := (Fr.refl _ _).set (.inl rfl)
  refine useC (push_m (n := level + 1) M1 T.good T.lv T.hv (by omega) (by omega) h0 h1) ?_
  rintro _ h2 ⟨rfl, g1, g2⟩
  by_cases e : pushE vars l x (-1) = 0
  · obtain ⟨ev, v1, v2, hf, A', cl', M', f, hA⟩ := g2 e
    simp -implicitDefEqProofs (disch := omega) [go_sem, e]
    rw [show pushL vars l x (-1) (level + 1) = l ++ [⟨x, -1, level + 1⟩] from if_pos e]
    exact ⟨_, TrailOk.of M' (T.good.push hf v1 v2) (.dec x T.lvs) T.hv, nx_of hO (f1.trans f) fun y hy => (hA y hy).imp id fun h => by rwa [hset_size] at h⟩
  · have e1 := g1 e
    subst e1
    have e' : ¬ ((pushE vars l x (-1) : Nat) : Int) = 0 := by omega
    have s32 := M1.B.at' 3 _ rfl
    have fB2 := M1.B.fz
    simp -implicitDefEqProofs (disch := omega) [go_sem, e, e', s32, fB2, s3, fB]
    rw [show pushL vars l x (-1) (level + 1) = l from if_neg e]
    exact ⟨_, TrailOk.of (M1.setLv level) T.good T.lvs T.hv, nx_of hO (f1.set (.inl rfl)) fun y hy => .inl hy⟩

/-- the level behind going back -/
def backK (level : Nat) (n : Int) : Nat := if max n 0 < level then (max n 0).toNat else level
theorem tback_ok (T : TrailOk h b O vars l level) {n : Int} (h0 : -9223372036854775808 ≤ n) (h1 : n ≤ 9223372036854775807) :
    CallsH Tryz.prog 75 [.pointer (some ⟨b, 0, none⟩), .int .i64 n] h fun r h' => r = .int .i64 ((cutTo l (backK level n)).length : Nat) ∧
      TrailOk h' b O vars (cutTo l (backK level n)) (backK level n) ∧ Nx O O h h' := by
  obtain ⟨rb, sb, cl, cr, cs, A, M, hO⟩ := T.ex
  have hk : backK level n ≤ level := by unfold backK; split <;> omega
  refine (back_m M T.good T.hv T.lvs.mono rfl T.lvle T.lvs.le h0 h1 (k := backK level n) rfl).mono ?_
  rintro _ h' ⟨rfl, M', f⟩
  exact ⟨rfl, ⟨⟨_, _, _, _, _, _, M', hO⟩, T.good.sub List.filter_sublist, T.lvs.cut _ hk, T.hv⟩, ⟨f.mono fun x _ hx => (hO x).2 hx, fun x hx => .inl hx⟩⟩

/-- an empty trail -/
theorem tnew_ok {x : Int} (h0 : -9223372036854775808 ≤ x) (h1 : x ≤ 9223372036854775807) :
    CallsH Tryz.prog 106 [.int .i64 x] h fun r h' => ((x < 0 ∨ 16777216 < x) ∧ r = .pointer none ∧ h' = h) ∨
      (∃ vars b : Nat, x = vars ∧ vars ≤ 16777216 ∧ r = .pointer (some ⟨b, 0, none⟩) ∧ ∃ O, TrailOk h' b O vars [] 0 ∧ Nx (fun _ => False) O h h') := by
  refine calls_of 19 [.tmp 2] Go.Proofs.Tryz.func106 rfl rfl rfl (by kernel_rfl) (Nat.le_of_ble_eq_true rfl) ?_
  by_cases e1 : x < 0
  · simp -implicitDefEqProofs (disch := omega) [go_sem, e1]
  by_cases e2 : 16777216 < x
  · simp -implicitDefEqProofs (disch := omega) [go_sem, e1, e2]
  obtain ⟨vars, rfl⟩ : ∃ n : Nat, x = n := ⟨x.toNat, by omega⟩
  simp -implicitDefEqProofs (disch := omega) [go_sem]
  refine build1 rfl rfl ?_
  simp -implicitDefEqProofs (disch := omega) [go_sem]
  have hw : IntKind.i64.wrap ((vars : Int) + 1) = ((vars + 1 : Nat) : Int) := by rw [IntWalk.i64_in _ (by omega)]; omega
  have c1 := repeatI_ok (h := h.push (.cells #[.int .i64 (-1)] 3)) (A := some ⟨h.size, 0, none⟩) (cap := 1) (n := vars + 1) (x := -1) (SlAt.new (vs := [.int .i64 (-1)])).row (by omega) (by omega)
  refine useC c1 ?_
  rintro _ h2 ⟨rfl, F2, f2⟩
  simp -implicitDefEqProofs (disch := omega) [go_sem]
  refine build1 rfl rfl ?_
  simp -implicitDefEqProofs (disch := omega) [go_sem]
  have c2 := repeatC_ok (h := h2.push (.cells #[.complex .f64 (Fx.enc (-1)) (Fx.enc (-1))] 108)) (A := some ⟨h2.size, 0, none⟩) (cap := 1) (n := vars + 1) (re := Fx.enc (-1)) (im := Fx.enc (-1)) (SlAt.new (vs := [.complex .f64 (Fx.enc (-1)) (Fx.enc (-1))])).row (by omega) (by omega)
  refine useC c2 ?_
  rintro _ h3 ⟨rfl, F3, f3⟩
  simp -implicitDefEqProofs (disch := omega) [go_sem]
  rw [push_size] at F2 F3
  have z2 := f2.size
  have z3 := f3.size
  rw [push_size] at z2 z3
  have y2 := F2.lt
  have y3 := F3.lt
  have M : TrailM (h3.push (.cells #[.slice none 0 0, .slice (some ⟨h.size + 1, 0, none⟩) (vars + 1) (vars + 1), .slice (some ⟨h2.size + 1, 0, none⟩) (vars + 1) (vars + 1), .int .i64 0] 118)) h3.size (h.size + 1) (h2.size + 1) vars 0 (vars + 1) (vars + 1) none [] 0 :=
    ⟨ListB.new, SlAt.nil _, ((F2.fr ((Fr.refl (fun _ => False) _).push.trans f3) id).push).cong fun i hi => rfl, F3.push.cong fun i hi => rfl, (by show h3.size ≠ h.size + 1; omega), (by show h3.size ≠ h2.size + 1; omega), (by show h.size + 1 ≠ h2.size + 1; omega), fun x ⟨_, h, _⟩ => (nomatch h)⟩
  refine ⟨vars, rfl, by omega, _, TrailOk.of M (Good.nil _) .nil (by omega), ⟨?_, fun x hx => .inr ?_⟩⟩
  · exact (((Fr.refl _ _).push.trans f2).push.trans f3).push
  · rcases hx with rfl | rfl | rfl | ⟨_, h, _⟩
    · omega
    · omega
    · omega
    · cases h
end
end Xe

/- Trail's truths; the document's Push and Back. -/
namespace Xe
open Go Tp Go.Proofs
set_option maxRecDepth 16000

/-- a slice of one struct of three cells, fresh -/
theorem build3 {e : TypeId} {bt : Nat} {z0 z1 z2 a b c : Value} {h : Heap} {k : Value → Heap → Prop} (hk : k (.slice (some ⟨h.size, 0, none⟩) 1 1) (h.push (.cells #[a, b, c] e))) :
    @buildSliceK (some (e, 3, bt, .agg #[z0, z1, z2])) 1 [(0, .agg #[a, b, c])] ⟨h⟩ ⟨k⟩ := by
  refine ⟨by omega, #[a, b, c], ?_, hk⟩
  have hz : (zerosOf (Value.agg #[z0, z1, z2]).cells (1 * 3)).size = 3 := by simp [zerosOf]
  obtain ⟨L, hL⟩ : ∃ L, zerosOf (Value.agg #[z0, z1, z2]).cells (1 * 3) = ⟨L⟩ := ⟨_, rfl⟩
  rw [hL] at hz ⊢
  match L, hz with
  | [p, q, r], _ => simp [Instr.fill, Value.cells, List.zipIdx]

/-- append of a fresh slice's cells to one's own -/
theorem appendO {h0 h : Heap} {e : TypeId} {sz bt : Nat} {z : Value} {A : Option Addr} {cap n : Nat} {vs ws : List Value} {k : Value → Heap → Prop} (S : SlAt h A (cap * sz) vs) (own : ∀ x, blk A x → h0.size ≤ x) (fr : Fr (fun _ => False) h0 h)
    (hn : n * sz = vs.length) (hw : ws.length = sz) (hs : 0 < sz) (hone : ∀ w ∈ ws, w.oneCell' = true) (hlen : (n + 1) * bt ≤ 2 ^ 47) (hlm : n + 1 < 2 ^ 50)
    (hk : ∀ A' cap' h', SlAt h' A' (cap' * sz) (vs ++ ws) → (∀ x, blk A' x → h0.size ≤ x) → Fr (fun _ => False) h0 h' → Fr (blk A) h h' → k (.slice A' (n + 1) cap') h') :
    @appendK (some (e, sz, bt, z)) (.slice A n cap) (.slice (some ⟨h.size, 0, none⟩) 1 1) ⟨h.push (.cells ws.toArray e)⟩ ⟨k⟩ := by
  have f1 : Fr (fun _ => False) h (h.push (.cells ws.toArray e)) := (Fr.refl _ _).push
  refine appendN (S.fr f1 fun _ _ => id) hn (SlAt.new (vs := ws) (e := e)).row (by omega) hs hone hlen hlm ?_
  intro A' c' h' S' f hA
  have z := fr.size
  refine hk A' c' h' S' (fun x hx => ?_) ?_ ((f1.mono fun _ _ h => h.elim).trans f)
  · rcases hA x hx with h | h
    · exact own x h
    · rw [push_size] at h; omega
  · exact (fr.trans f1).trans' f fun x hx hb => by have := own x hb; omega

def truthsV (n : Nat) (l : List St) : List Value := (List.range n).map fun i => .bool (decide (0 < trI l ((i + 1 : Nat) : Int)))
theorem truthsV_len (n : Nat) (l : List St) : (truthsV n l).length = n := by unfold truthsV; rw [List.length_map, List.length_range]
theorem truthsV_succ (n : Nat) (l : List St) : truthsV (n + 1) l = truthsV n l ++ [.bool (decide (0 < trI l ((n + 1 : Nat) : Int)))] := by unfold truthsV; rw [List.range_succ, List.map_append]; rfl

section
variable {h : Heap} {b vars level : Nat} {O : Nat → Prop} {l : List St}
theorem ttruths_ok (T : TrailOk h b O vars l level) : CallsH Tryz.prog 187 [.pointer (some ⟨b, 0, none⟩)] h fun r h' =>
    ∃ A' c', r = .slice A' vars c' ∧ RowAt h' A' (truthsV vars l) ∧ (∀ x, blk A' x → h.size ≤ x) ∧ Fr (fun _ => False) h h' := by
  have hv := T.hv
  refine calls_of 19 [.tmp 2] Go.Proofs.Tryz.func187 rfl rfl rfl (by kernel_rfl) (Nat.le_of_ble_eq_true rfl) ?_
  simp -implicitDefEqProofs (disch := omega) [go_sem]
  refine loopK (fun ρ h' => ρ 0 = .pointer (some ⟨b, 0, none⟩) ∧ ∃ (i : Nat) (A : Option Addr) (c : Nat), ρ 4 = .int .i64 ((i + 1 : Nat) : Int) ∧ i ≤ vars ∧ ρ 3 = .slice A i c ∧ SlAt h' A c (truthsV i l) ∧ (∀ x, blk A x → h.size ≤ x) ∧ Fr (fun _ => False) h h')
    (fun ρ _ => vars + 1 - (intOf (ρ 4)).toNat) (by kernel_rfl) ?_ ?_
  · exact ⟨rfl, 0, none, 0, rfl, by omega, rfl, SlAt.nil _, fun x ⟨_, h, _⟩ => (nomatch h), Fr.refl _ _⟩
  · rintro ρ h1 ⟨r0, i, A, c, r4, hi, r3, S, own, fr⟩
    have T1 := T.fr0 fr
    simp -implicitDefEqProofs (disch := omega) [go_sem, r0, r4, r3]
    refine useC (tvars_ok T1) ?_
    rintro _ h2 ⟨rfl, rfl⟩
    by_cases hlt : i < vars
    · simp -implicitDefEqProofs (disch := omega) [go_sem, r0, r4, r3]
      have ct := ttruth_ok T1 (x := ((i + 1 : Nat) : Int)) (by omega) (by omega)
      refine useC ct ?_
      rintro _ h3 ⟨rfl, rfl⟩
      simp -implicitDefEqProofs (disch := omega) [go_sem, r0, r4, r3]
      refine build1 rfl rfl ?_
      simp -implicitDefEqProofs (disch := omega) [go_sem, r0, r4, r3]
      refine appendO (cap := c) (ws := [.bool (decide (0 < trI l ((i + 1 : Nat) : Int)))]) (by rw [Nat.mul_one]; exact S) own fr (by rw [truthsV_len]; omega) rfl (by omega) (by simp [Value.oneCell']) (by omega) (by omega) ?_
      intro A' c' h4 S' own' fr' _
      rw [← truthsV_succ, Nat.mul_one] at S'
      simp -implicitDefEqProofs (disch := omega) [go_sem, r0, r4, r3]
      exact ⟨⟨i + 1, by omega, by omega, A', c', ⟨rfl, rfl, rfl⟩, S', own', fr'⟩, by omega⟩
    · have e : i = vars := by omega
      subst e
      simp -implicitDefEqProofs (disch := omega) [go_sem, r0, r4, r3]
      exact ⟨S.row, own, fr⟩

theorem pushL_len {x r : Int} {n : Nat} : (pushL vars l x r n).length ≤ l.length + 1 := by unfold pushL; split <;> simp
end
end Xe

/- Package clause, walked: Good, Clean; the document's Has, Good. -/
namespace Xe
open Go Tp Go.Proofs
set_option maxRecDepth 16000

def goodC (vars : Nat) (l : List Int) : Bool := l.all fun x => decide (1 ≤ x.natAbs ∧ x.natAbs ≤ vars)
def cleanCf (x y : Int) : Int := if cmpI (var12 x) (var12 y) ≠ 0 then cmpI (var12 x) (var12 y) else cmpI x y
theorem cleanCf_ok : CmpOk cleanCf okL where
  le x y hx hy h := by unfold cleanCf cmpI var12 at *; unfold okL at hx hy; simp only [if_pos hx.2, if_pos hy.2] at *; split at h <;> split <;> omega
  tr x y z hx hy hz h1 h2 := by
    unfold cleanCf cmpI var12 at *; unfold okL at hx hy hz; simp only [if_pos hx.2, if_pos hy.2, if_pos hz.2] at *
    split at h1 <;> split at h2 <;> split <;> omega
theorem cleanCf_lex {x y : Int} (hx : okL x) (hy : okL y) (h : 0 ≤ cleanCf y x) : ¬ lexLt y x := by
  unfold cleanCf cmpI var12 at h; unfold okL at hx hy; unfold lexLt; simp only [if_pos hx.2, if_pos hy.2] at h
  split at h <;> omega

/-- a slice of two numbers, fresh -/
theorem build2 {h : Heap} {e : TypeId} {bt : Nat} {w x y : Int} {k : Value → Heap → Prop}
    (hk : k (.slice (some ⟨h.size, 0, none⟩) 2 2) (h.push (.cells #[.int .i64 x, .int .i64 y] e))) : @buildSliceK (some (e, 1, bt, .int .i64 w)) 2 [(0, .int .i64 x), (1, .int .i64 y)] ⟨h⟩ ⟨k⟩ := by
  refine ⟨by omega, #[.int .i64 x, .int .i64 y], ?_, hk⟩
  have hz : (zerosOf (Value.int .i64 w).cells (2 * 1)).size = 2 := by simp [zerosOf]
  obtain ⟨L, hL⟩ : ∃ L, zerosOf (Value.int .i64 w).cells (2 * 1) = ⟨L⟩ := ⟨_, rfl⟩
  rw [hL] at hz ⊢
  match L, hz with
  | [p, q], _ => simp [Instr.fill, Value.cells, List.zipIdx]

section
variable {h : Heap} {A : Option Addr} {l : List Int} {n c vars : Nat}

theorem abs12_ok {x : Int} (h0 : -9223372036854775808 ≤ x) (h1 : x ≤ 9223372036854775807) : CallsH Tryz.prog 135 [.int .i64 x] h fun r h' => r = .int .i64 (var12 x : Nat) ∧ h' = h := by
  refine calls_of 13 [.tmp 2] Go.Proofs.Tryz.func135 rfl rfl rfl (by kernel_rfl) (Nat.le_of_ble_eq_true rfl) ?_
  by_cases e1 : x < -16777216
  · have ev : var12 x = 0 := if_neg (by omega)
    simp -implicitDefEqProofs (disch := omega) [go_sem, ev]
  · by_cases e2 : 16777216 < x
    · have ev : var12 x = 0 := if_neg (by omega)
      simp -implicitDefEqProofs (disch := omega) [go_sem, ev]
    · have ev : var12 x = x.natAbs := if_pos (by omega)
      simp -implicitDefEqProofs (disch := omega) [go_sem, ev]
      omega

theorem cleanCmp_ok {x y : Int} (hx : okL x) (hy : okL y) : CallsH Tryz.prog 154 ([.int .i64 x, .int .i64 y] ++ []) h fun r h' => r = .int .i64 (cleanCf x y) ∧ Fr (fun _ => False) h h' := by
  unfold okL at hx hy
  refine calls_of 15 [.tmp 4] Go.Proofs.Tryz.func154 rfl rfl rfl (by kernel_rfl) (Nat.le_of_ble_eq_true rfl) ?_
  simp -implicitDefEqProofs (disch := omega) [go_sem]
  refine useC (abs12_ok (x := x) (by omega) (by omega)) ?_
  rintro _ h1 ⟨rfl, rfl⟩
  simp -implicitDefEqProofs (disch := omega) [go_sem]
  refine useC (abs12_ok (x := y) (by omega) (by omega)) ?_
  rintro _ h1 ⟨rfl, rfl⟩
  simp -implicitDefEqProofs (disch := omega) [go_sem]
  refine useC (compare_ok _ _) ?_
  rintro _ h1 ⟨rfl, rfl⟩
  simp -implicitDefEqProofs (disch := omega) [go_sem]
  refine useC (compare_ok _ _) ?_
  rintro _ h1 ⟨rfl, rfl⟩
  simp -implicitDefEqProofs (disch := omega) [go_sem]
  refine build2 ?_
  simp -implicitDefEqProofs (disch := omega) [go_sem]
  have co := or_ok (h := h1.push (.cells #[.int .i64 (cmpI (var12 x) (var12 y)), .int .i64 (cmpI x y)] 3)) (A := some ⟨h1.size, 0, none⟩) (c := 2) (SlAt.new (h := h1) (vs := ints [cmpI (var12 x) (var12 y), cmpI x y]) (e := 3)).row
  refine useC co ?_
  rintro _ h2 ⟨rfl, rfl⟩
  simp -implicitDefEqProofs (disch := omega) [go_sem]
  refine ⟨?_, (Fr.refl _ _).push⟩
  unfold cleanCf
  by_cases e : cmpI (var12 x) (var12 y) = 0 <;> simp [e]

/-- what cleaning a clause tells -/
def CleanR (l : List Int) : Option (List Int) → Prop
  | none => ∃ x ∈ l, okL x ∧ -x ∈ l
  | some L => Rise L ∧ ∀ x, x ∈ L ↔ x ∈ l ∧ okL x
theorem CleanR.uniq {l : List Int} {a b : Option (List Int)} (h1 : CleanR l a) (h2 : CleanR l b) : a = b := by
  have key : ∀ L, CleanR l none → CleanR l (some L) → False := by
    rintro L ⟨x, hx, hok, hnx⟩ ⟨hr, hm⟩
    have m1 := (hm x).2 ⟨hx, hok⟩
    have m2 := (hm (-x)).2 ⟨hnx, by unfold okL at hok ⊢; omega⟩
    obtain ⟨i, hi, ei⟩ := List.getElem_of_mem m1
    obtain ⟨j, hj, ej⟩ := List.getElem_of_mem m2
    unfold okL at hok
    have hp := List.pairwise_iff_getElem.1 hr
    rcases Nat.lt_trichotomy i j with h | h | h
    · have := hp i j hi hj h; rw [ei, ej] at this; omega
    · subst h; rw [ei] at ej; omega
    · have := hp j i hj hi h; rw [ei, ej] at this; omega
  cases a with
  | none => cases b with
    | none => rfl
    | some L => exact (key L h1 h2).elim
  | some L => cases b with
    | none => exact (key L h2 h1).elim
    | some M => rw [rise_uniq h1.1 h2.1 fun x => (h1.2 x).trans (h2.2 x).symm]
theorem mem_gt {L : List Int} {x : Int} : x ∈ L ↔ ∃ j, j < L.length ∧ gt L j = x := by
  constructor
  · intro h
    obtain ⟨j, hj, rfl⟩ := List.getElem_of_mem h
    have := gt_at hj
    rw [List.getElem?_eq_getElem hj, Option.some.injEq] at this
    exact ⟨j, hj, this.symm⟩
  · rintro ⟨j, hj, rfl⟩
    exact List.mem_of_getElem? (gt_at hj)

theorem clean_ok (R : RowAt h A (ints l)) (hn : n = l.length) (hs : n ≤ 12) (hr : ∀ x ∈ l, -9223372036854775808 ≤ x ∧ x ≤ 9223372036854775807) :
    CallsH Tryz.prog 107 [.slice A n c] h fun r h' => (∃ o, CleanR l o ∧ match o with
      | none => r = .tuple #[.slice none 0 0, .bool true]
      | some L => ∃ A' c', r = .tuple #[.slice A' L.length c', .bool false] ∧ SlAt h' A' c' (ints L) ∧ ∀ y, blk A' y → h.size ≤ y) ∧ Fr (fun _ => False) h h' := by
  subst hn
  refine calls_of 43 [.tmp 2, .tmp 3] Go.Proofs.Tryz.func107 rfl rfl rfl (by kernel_rfl) (Nat.le_of_ble_eq_true rfl) ?_
  simp -implicitDefEqProofs (disch := omega) [go_sem]
  refine scopeM 0 (fun ρ h' => ∃ (M : List Int) (B : Option Addr) (d i : Nat), ρ 2 = .slice B M.length d ∧ ρ 6 = .int .i64 i ∧ 1 ≤ i ∧ i ≤ 13 ∧ (∀ j, 1 ≤ j → j < i → j < M.length → gt M (j - 1) ≠ -gt M j) ∧ M.Pairwise lexLt ∧ (∀ x, x ∈ M ↔ x ∈ l ∧ okL x) ∧
      M.length ≤ 12 ∧ SlAt h' B d (ints M) ∧ (∀ y, blk B y → h.size ≤ y) ∧ Fr (fun _ => False) h h') (fun ρ _ => 14 - (intOf (ρ 6)).toNat) rfl rfl (by kernel_rfl) ?_ ?_
  · simp -implicitDefEqProofs (disch := omega) [go_sem]
    refine loopK (fun ρ h' => ρ 7 = .slice A l.length c ∧ ρ 8 = .int .i64 l.length ∧ ∃ (i : Nat) (B : Option Addr) (d : Nat), ρ 9 = .int .i64 i ∧ i ≤ l.length ∧ ρ 2 = .slice B ((l.take i).filter fun x => decide (okL x)).length d ∧
        SlAt h' B d (ints ((l.take i).filter fun x => decide (okL x))) ∧ (∀ y, blk B y → h.size ≤ y) ∧ Fr (fun _ => False) h h') (fun ρ _ => l.length - (intOf (ρ 9)).toNat) (by kernel_rfl) ?_ ?_
    · exact ⟨rfl, rfl, 0, none, 0, rfl, by omega, rfl, SlAt.nil _, fun y ⟨_, h, _⟩ => (nomatch h), Fr.refl _ _⟩
    · rintro ρ h1 ⟨r7, r8, i, B, d, r9, hi, r2, S, own, fr⟩
      by_cases hin : i < l.length
      · have R1 := R.fr0 fr
        obtain ⟨bk, off, rfl, hc⟩ := R1.get (by rw [ints_len]; omega)
        obtain ⟨x, hx⟩ : ∃ x, l[i]? = some x := ⟨_, List.getElem?_eq_getElem hin⟩
        have c0 := hc _ _ (ints_at hx)
        have htk : l.take (i + 1) = l.take i ++ [x] := by rw [List.take_add_one, hx]; rfl
        have hfl : ((l.take i).filter fun x => decide (okL x)).length ≤ i := Nat.le_trans (List.length_filter_le _ _) (by rw [List.length_take]; omega)
        have hxr := hr x (List.mem_of_getElem? hx)
        simp -implicitDefEqProofs (disch := omega) [go_sem, r2, r7, r8, r9, c0]
        refine useC (abs12_ok hxr.1 hxr.2) ?_
        rintro _ h2 ⟨rfl, rfl⟩
        by_cases hk : okL x
        · have e2 : (l.take (i + 1)).filter (fun x => decide (okL x)) = (l.take i).filter (fun x => decide (okL x)) ++ [x] := by rw [htk, List.filter_append, List.filter_cons, if_pos (decide_eq_true hk)]; rfl
          have ev : var12 x = x.natAbs := if_pos hk.2
          have hk1 := hk.1
          simp -implicitDefEqProofs (disch := omega) [go_sem, r2, r7, r8, r9, ev]
          refine build1 rfl rfl ?_
          simp -implicitDefEqProofs (disch := omega) [go_sem, r2, r7, r8, r9]
          refine appendO (cap := d) (ws := [.int .i64 x]) (by rw [Nat.mul_one]; exact S) own fr (by rw [ints_len]; omega) rfl (by omega) (by simp [Value.oneCell']) (by omega) (by omega) ?_
          intro A' c' h4 S' own' fr' _
          have e3 : ints ((l.take i).filter fun x => decide (okL x)) ++ [.int .i64 x] = ints ((l.take (i + 1)).filter fun x => decide (okL x)) := by rw [e2, ints_append]; rfl
          rw [e3, Nat.mul_one] at S'
          simp -implicitDefEqProofs (disch := omega) [go_sem, r2, r7, r8, r9]
          exact ⟨⟨i + 1, by omega, by omega, A', c', ⟨rfl, by rw [e2]; simp, rfl⟩, S', own', fr'⟩, by omega⟩
        · have e2 : (l.take (i + 1)).filter (fun x => decide (okL x)) = (l.take i).filter (fun x => decide (okL x)) := by rw [htk, List.filter_append, List.filter_cons, if_neg (by simpa using hk), List.filter_nil, List.append_nil]
          have ev : var12 x = 0 := by unfold okL at hk; unfold var12; split <;> omega
          simp -implicitDefEqProofs (disch := omega) [go_sem, r2, r7, r8, r9, ev]
          exact ⟨⟨i + 1, by omega, by omega, B, d, ⟨rfl, by rw [e2], rfl⟩, by rw [e2]; exact S, own, fr⟩, by omega⟩
      · have e : i = l.length := by omega
        subst e
        rw [List.take_length] at r2 S
        obtain ⟨F, hF⟩ : ∃ F, F = l.filter fun x => decide (okL x) := ⟨_, rfl⟩
        rw [← hF] at r2 S
        have hFm : ∀ x, x ∈ F ↔ x ∈ l ∧ okL x := fun x => by rw [hF, List.mem_filter, decide_eq_true_eq]
        have hFl : F.length ≤ l.length := by rw [hF]; exact List.length_filter_le _ _
        simp -implicitDefEqProofs (disch := omega) [go_sem, r2, r7, r8, r9]
        refine useC (sortFunc_ok (cs := []) cleanCf_ok S (fun x hx => ((hFm x).1 hx).2) rfl (by omega) (fun h x y hx hy => cleanCmp_ok hx hy)) ?_
        rintro r1 h2 ⟨L, hP, hO, S2, f2⟩
        have hLl := hP.length_eq
        have fr2 : Fr (fun _ => False) h h2 := fr.trans' f2 fun x hx hb => by have := own x hb; omega
        simp -implicitDefEqProofs (disch := omega) [go_sem, r2, r7, r8, r9]
        have cc := compact_ok (n := F.length) S2 hLl.symm (by omega)
        refine useC cc ?_
        rintro _ h3 ⟨rfl, S3, f3⟩
        have fr3 : Fr (fun _ => False) h h3 := fr2.trans' f3 fun x hx hb => by have := own x hb; omega
        rw [← hLl] at S3 ⊢
        have hspec := cN_spec (l := L) (fun p q h1 h2 => cleanCf_lex ((hFm _).1 (hP.mem_iff.1 (List.mem_of_getElem? (gt_at (by omega))))).2 ((hFm _).1 (hP.mem_iff.1 (List.mem_of_getElem? (gt_at h2)))).2 (hO p q h1 (by omega))) L.length (Nat.le_refl _)
        have hcl := cN_le L L.length
        simp -implicitDefEqProofs (disch := omega) [go_sem, r2, r7, r8, r9]
        refine ⟨cN L L.length, B, d, ⟨rfl, rfl, rfl⟩, 1, rfl, by omega, by omega, fun j h1 h2 => by omega, hspec.2, fun x => ?_, by omega, S3, own, fr3⟩
        rw [hspec.1 x, ← mem_gt, hP.mem_iff]
        exact hFm x
  · rintro ρ h1 ⟨M, B, d, i, r2, r6, hi1, hi2, hj, hP, hm, hM, S, own, fr⟩
    by_cases hin : i < M.length
    · obtain ⟨bk, rfl, _, _, hc⟩ := S.base (by rw [ints_len]; omega)
      have c0 := hc i _ (ints_at (gt_at hin))
      have c1 := hc (i - 1) _ (ints_at (gt_at (by omega)))
      have ei : ((i : Int) - 1).toNat = i - 1 := by omega
      have m0 := (hm _).1 (List.mem_of_getElem? (gt_at hin))
      have m1 := (hm _).1 (List.mem_of_getElem? (gt_at (show i - 1 < M.length by omega)))
      have k0 := m0.2
      unfold okL at k0
      simp -implicitDefEqProofs (disch := omega) [go_sem, r2, r6]
      refine drawK [(0, 0), (1, 0), (2, 0), (3, 0), (4, 1), (5, 0), (6, 0), (7, 0), (8, 1), (9, 0), (10, 0)] mixed (by kernel_rfl) ?_
      by_cases he : gt M (i - 1) = -gt M i
      · simp -implicitDefEqProofs (disch := omega) [go_sem, r2, r6, c0, c1, ei, he]
        refine ⟨⟨none, ⟨gt M i, m0.1, m0.2, by rw [← he]; exact m1.1⟩, trivial⟩, fr⟩
      · simp -implicitDefEqProofs (disch := omega) [go_sem, r2, r6, c0, c1, ei, he]
        refine ⟨⟨M, some ⟨bk, 0, none⟩, d, ⟨rfl, rfl, rfl⟩, i + 1, by omega, by omega, by omega, fun j h1 h2 h3 => ?_, hP, hm, hM, S, own, fr⟩, by omega⟩
        by_cases e : j = i
        · subst e; exact he
        · exact hj j h1 (by omega) h3
    · simp -implicitDefEqProofs (disch := omega) [go_sem, r2, r6]
      refine ⟨⟨some M, ⟨?_, hm⟩, B, d, ⟨rfl, rfl, rfl⟩, S, own⟩, fr⟩
      refine pairwise_adj (fun a b c h1 h2 => by omega) fun j hj2 => ?_
      have g1 := hj (j + 1) (by omega) (by omega) hj2
      have e1 := gt_at (show j < M.length by omega)
      have e2 := gt_at hj2
      have g2 := List.pairwise_iff_getElem.1 hP j (j + 1) (by omega) hj2 (by omega)
      rw [List.getElem?_eq_getElem (by omega), Option.some.injEq] at e1
      rw [List.getElem?_eq_getElem hj2, Option.some.injEq] at e2
      rw [e1, e2] at g2
      rw [Nat.add_sub_cancel] at g1
      unfold lexLt at g2
      omega

theorem cgoodF_ok {b : Nat} (hb : hcell h ⟨b, 0, none⟩ = some (.int .i64 vars)) {x : Int} (hv : vars ≤ 16777216) (h0 : -9223372036854775808 ≤ x) (h1 : x ≤ 9223372036854775807) :
    CallsH Tryz.prog 134 ([.int .i64 x] ++ [.pointer (some ⟨b, 0, none⟩)]) h fun r h' => r = .bool (!decide (1 ≤ x.natAbs ∧ x.natAbs ≤ vars)) ∧ h' = h := by
  refine calls_of 13 [.tmp 3] Go.Proofs.Tryz.func134 rfl rfl rfl (by kernel_rfl) (Nat.le_of_ble_eq_true rfl) ?_
  simp -implicitDefEqProofs (disch := omega) [go_sem]
  refine drawC [(0, 0), (1, 3), (2, 0), (3, 0), (4, 0), (6, 2), (5, 3), (7, 0), (8, 0), (9, 0)] (Eq _) mixed (by kernel_rfl) rfl ?_
  simp -implicitDefEqProofs (disch := omega) [go_sem]
  refine useC (abs12_ok h0 h1) ?_
  rintro _ h2 ⟨rfl, rfl⟩
  by_cases e : var12 x = 0
  · have e2 : ¬ (1 ≤ x.natAbs ∧ x.natAbs ≤ vars) := by unfold var12 at e; split at e <;> omega
    rw [decide_eq_false e2]
    simp -implicitDefEqProofs (disch := omega) [go_sem, hb, e]
  · have hx : x.natAbs ≤ 16777216 := by unfold var12 at e; split at e <;> omega
    have ev : var12 x = x.natAbs := if_pos hx
    rw [ev] at e ⊢
    simp -implicitDefEqProofs (disch := omega) [go_sem, hb]
    refine useC (abs12_ok h0 h1) ?_
    rintro _ h3 ⟨rfl, rfl⟩
    rw [ev]
    simp -implicitDefEqProofs (disch := omega) [go_sem, hb]
    rw [Bool.eq_iff_iff]; simp

theorem cgood_ok (R : RowAt h A (ints l)) (hn : n = l.length) (hs : n < 2 ^ 40) (hv : vars ≤ 16777216) (hr : ∀ x ∈ l, -9223372036854775808 ≤ x ∧ x ≤ 9223372036854775807) :
    CallsH Tryz.prog 89 [.slice A n c, .int .i64 vars] h fun r h' => r = .bool (goodC vars l) ∧ Fr (fun _ => False) h h' := by
  refine calls_of 9 [.tmp 4] Go.Proofs.Tryz.func89 rfl rfl rfl (by kernel_rfl) (Nat.le_of_ble_eq_true rfl) ?_
  simp -implicitDefEqProofs (disch := omega) [go_sem]
  have f1 : Fr (fun _ => False) h (h.push (.cells #[.int .i64 vars] 3)) := (Fr.refl _ _).push
  have cc := containsFunc_ok (cs := [.pointer (some ⟨h.size, 0, none⟩)]) (c := c) (R.fr0 f1) hn hs (fun x => !decide (1 ≤ x.natAbs ∧ x.natAbs ≤ vars)) (fun x hx => cgoodF_ok (by rw [hcell_push_new]; rfl) hv (hr x hx).1 (hr x hx).2)
  refine useC cc ?_
  rintro _ h2 ⟨rfl, rfl⟩
  simp -implicitDefEqProofs (disch := omega) [go_sem]
  refine ⟨?_, f1⟩
  unfold goodC
  rw [List.all_eq_not_any_not, Bool.not_not]
  congr 1
  funext x
  simp

theorem has12_ok (R : RowAt h A (ints l)) (hn : n = l.length) (hs : n < 2 ^ 40) (x : Int) : CallsH Tryz.prog 41 [.slice A n c, .int .i64 x] h fun r h' => r = .bool (decide (x ∈ l)) ∧ h' = h := by
  subst hn
  refine calls_of 18 [.tmp 4] Go.Proofs.Tryz.func41 rfl rfl rfl (by kernel_rfl) (Nat.le_of_ble_eq_true rfl) ?_
  simp -implicitDefEqProofs (disch := omega) [go_sem]
  refine loopK (fun ρ h' => ρ 0 = .slice A l.length c ∧ ρ 1 = .int .i64 x ∧ h' = h ∧ ∃ i : Nat, ρ 5 = .int .i64 i ∧ i ≤ l.length ∧ ∀ (j : Nat) y, j < i → l[j]? = some y → y ≠ x)
    (fun ρ _ => l.length - (intOf (ρ 5)).toNat) (by kernel_rfl) ?_ ?_
  · exact ⟨rfl, rfl, rfl, 0, rfl, by omega, fun j y hj => by omega⟩
  · rintro ρ h' ⟨r0, r1, rfl, i, r5, hi, hj⟩
    by_cases hin : i < l.length
    · obtain ⟨bk, off, rfl, hc⟩ := R.get (by rw [ints_len]; omega)
      obtain ⟨y, hy⟩ : ∃ x, l[i]? = some x := ⟨_, List.getElem?_eq_getElem hin⟩
      have c0 := hc _ _ (ints_at hy)
      by_cases e : y = x
      · have hm : x ∈ l := by rw [← e]; exact List.mem_of_getElem? hy
        simp -implicitDefEqProofs (disch := omega) [go_sem, r0, r1, r5, c0, e, hm]
      · simp -implicitDefEqProofs (disch := omega) [go_sem, r0, r1, r5, c0, e]
        refine ⟨⟨i + 1, by omega, by omega, fun j z hj2 hz => ?_⟩, by omega⟩
        by_cases ej : j = i
        · subst ej; rw [hy] at hz; cases hz; exact e
        · exact hj j z (by omega) hz
    · have hm : ¬ x ∈ l := fun hx => by
        obtain ⟨j, h, e⟩ := List.getElem_of_mem hx
        exact hj j _ (by omega) (List.getElem?_eq_getElem h) e
      simp -implicitDefEqProofs (disch := omega) [go_sem, r0, r1, r5, hm]

theorem rgood12_ok (R : RowAt h A (ints l)) (hn : n = l.length) (hs : n < 2 ^ 40) (hv : vars ≤ 16777216) (hr : ∀ x ∈ l, -9223372036854775808 ≤ x ∧ x ≤ 9223372036854775807) :
    CallsH Tryz.prog 36 [.slice A n c, .int .i64 vars] h fun r h' => r = .bool (goodC vars l) ∧ h' = h := by
  subst hn
  refine calls_of 27 [.tmp 4] Go.Proofs.Tryz.func36 rfl rfl rfl (by kernel_rfl) (Nat.le_of_ble_eq_true rfl) ?_
  simp -implicitDefEqProofs (disch := omega) [go_sem]
  refine loopK (fun ρ h' => ρ 0 = .slice A l.length c ∧ ρ 1 = .int .i64 vars ∧ h' = h ∧ ∃ i : Nat, ρ 5 = .int .i64 i ∧ i ≤ l.length ∧ ∀ (j : Nat) y, j < i → l[j]? = some y → 1 ≤ y.natAbs ∧ y.natAbs ≤ vars)
    (fun ρ _ => l.length - (intOf (ρ 5)).toNat) (by kernel_rfl) ?_ ?_
  · exact ⟨rfl, rfl, rfl, 0, rfl, by omega, fun j y hj => by omega⟩
  · rintro ρ h' ⟨r0, r1, rfl, i, r5, hi, hj⟩
    by_cases hin : i < l.length
    · obtain ⟨bk, off, rfl, hc⟩ := R.get (by rw [ints_len]; omega)
      obtain ⟨y, hy⟩ : ∃ x, l[i]? = some x := ⟨_, List.getElem?_eq_getElem hin⟩
      have c0 := hc _ _ (ints_at hy)
      have hyr := hr y (List.mem_of_getElem? hy)
      simp -implicitDefEqProofs (disch := omega) [go_sem, r0, r1, r5, c0]
      refine useC (var12_ok hyr.1 hyr.2) ?_
      rintro _ h2 ⟨rfl, rfl⟩
      by_cases e : var12 y = 0
      · have hg : goodC vars l = false := by
          unfold goodC; rw [List.all_eq_false]
          exact ⟨y, List.mem_of_getElem? hy, by unfold var12 at e; split at e <;> (simp; omega)⟩
        simp -implicitDefEqProofs (disch := omega) [go_sem, r0, r1, r5, c0, e, hg]
      · have hx : y.natAbs ≤ 16777216 := by unfold var12 at e; split at e <;> omega
        have ev : var12 y = y.natAbs := if_pos hx
        rw [ev] at e
        rw [ev]
        simp -implicitDefEqProofs (disch := omega) [go_sem, r0, r1, r5, c0]
        refine useC (var12_ok hyr.1 hyr.2) ?_
        rintro _ h2 ⟨rfl, rfl⟩
        rw [ev]
        by_cases e2 : vars < y.natAbs
        · have hg : goodC vars l = false := by
            unfold goodC; rw [List.all_eq_false]
            exact ⟨y, List.mem_of_getElem? hy, by simp; omega⟩
          simp -implicitDefEqProofs (disch := omega) [go_sem, r0, r1, r5, hg]
        · simp -implicitDefEqProofs (disch := omega) [go_sem, r0, r1, r5]
          refine ⟨⟨i + 1, by omega, by omega, fun j z hj2 hz => ?_⟩, by omega⟩
          by_cases ej : j = i
          · subst ej; rw [hy] at hz; cases hz; omega
          · exact hj j z (by omega) hz
    · have hg : goodC vars l = true := by
        unfold goodC; rw [List.all_eq_true]
        intro x hx
        obtain ⟨j, h, rfl⟩ := List.getElem_of_mem hx
        exact decide_eq_true (hj j _ (by omega) (List.getElem?_eq_getElem h))
      simp -implicitDefEqProofs (disch := omega) [go_sem, r0, r1, r5, hg]
end
end Xe

/- The plain law of propagation by two watched literals. -/
namespace Xe
open Tp

structure Ent where
  lits : List Int
  a1 : Nat
  a2 : Nat
  gone : Bool
structure WS where
  vars : Nat
  l : List St
  level : Nat
  cs : List Ent
  W : Int → List Nat
  todo : List Nat
  head : Nat

def updW (W : Int → List Nat) (x : Int) (v : List Nat) (y : Int) : List Nat := if y = x then v else W y
theorem updW_same (W : Int → List Nat) (x : Int) (v : List Nat) : updW W x v x = v := if_pos rfl
theorem updW_other (W : Int → List Nat) {x y : Int} (v : List Nat) (h : y ≠ x) : updW W x v y = W y := if_neg h
theorem updW_upd (W : Int → List Nat) (x : Int) (v w : List Nat) : updW (updW W x v) x w = updW W x w := by
  funext y; unfold updW; split <;> rfl
theorem updW_id (W : Int → List Nat) (x : Int) : updW W x (W x) = W := by
  funext y; unfold updW; split
  · rename_i h; rw [h]
  · rfl

theorem trI_cases (l : List St) (x : Int) : trI l x = 1 ∨ trI l x = -1 ∨ trI l x = 0 := by
  unfold trI
  by_cases h : x ∈ lits l
  · rw [if_pos h]; exact .inl rfl
  · rw [if_neg h]
    by_cases h2 : -x ∈ lits l
    · rw [if_pos h2]; exact .inr (.inl rfl)
    · rw [if_neg h2]; exact .inr (.inr rfl)
theorem tr_one {l : List St} {x : Int} : trI l x = 1 ↔ x ∈ lits l := by
  unfold trI
  constructor
  · intro h
    split at h
    · assumption
    · split at h <;> omega
  · intro h; rw [if_pos h]
theorem tr_m1 {l : List St} {x : Int} : trI l x = -1 ↔ x ∉ lits l ∧ -x ∈ lits l := by
  unfold trI
  constructor
  · intro h
    split at h
    · omega
    · split at h
      · exact ⟨by assumption, by assumption⟩
      · omega
  · intro ⟨h1, h2⟩; rw [if_neg h1, if_pos h2]
theorem tr_zero {l : List St} {x : Int} : trI l x = 0 ↔ x ∉ lits l ∧ -x ∉ lits l := by
  unfold trI
  constructor
  · intro h
    split at h
    · omega
    · split at h
      · omega
      · exact ⟨by assumption, by assumption⟩
  · intro ⟨h1, h2⟩; rw [if_neg h1, if_neg h2]
theorem lits_push (l : List St) (t : St) : lits (l ++ [t]) = lits l ++ [t.lit] := by simp [lits]
theorem good_cons {vars : Nat} {l : List St} (G : Good vars l) {x : Int} (h1 : x ∈ lits l) (h2 : -x ∈ lits l) : False := by
  obtain ⟨s, hs, rfl⟩ := List.mem_map.1 h1
  obtain ⟨k, hk⟩ := List.getElem?_of_mem hs
  have hr := G.rng s hs
  have := tr_at G hk (x := -s.lit) (by omega)
  rw [tr_one.2 h2] at this
  split at this <;> omega

/-- what stays so while the trail grows -/
theorem tr_one_mono {l : List St} {x : Int} (t : St) (h : trI l x = 1) : trI (l ++ [t]) x = 1 := by
  rw [tr_one] at h ⊢; rw [lits_push]; exact List.mem_append_left _ h
theorem tr_m1_mono {vars : Nat} {l : List St} {t : St} (G : Good vars (l ++ [t])) {x : Int} (h : trI l x = -1) : trI (l ++ [t]) x = -1 := by
  rw [tr_m1] at h ⊢
  rw [lits_push]
  refine ⟨fun hm => ?_, List.mem_append_left _ h.2⟩
  refine good_cons G (x := x) (by rw [lits_push]; exact hm) (by rw [lits_push]; exact List.mem_append_left _ h.2)

def Sat (l : List St) (c : List Int) : Prop := ∃ x ∈ c, trI l x = 1
/-- a literal isn't false, or the trail wasn't gone through as far as where it came to be so -/
def okW (l : List St) (head : Nat) (x : Int) : Prop := trI l x ≠ -1 ∨ ∃ k, head ≤ k ∧ (lits l)[k]? = some (-x)
def UnitAt (l : List St) (c : List Int) (x : Int) : Prop := x ∈ c ∧ trI l x = 0 ∧ ∀ y ∈ c, y ≠ x → trI l y = -1
def FailAt (l : List St) (c : List Int) : Prop := ∀ y ∈ c, trI l y = -1

theorem Sat.mono {l : List St} {c : List Int} (t : St) (h : Sat l c) : Sat (l ++ [t]) c := by
  obtain ⟨x, hx, h⟩ := h
  exact ⟨x, hx, tr_one_mono t h⟩
theorem okW.mono {l : List St} {head : Nat} {x : Int} (t : St) (hh : head ≤ l.length) (h : okW l head x) : okW (l ++ [t]) head x := by
  rcases h with h | ⟨k, hk, h⟩
  · by_cases e : t.lit = -x
    · refine .inr ⟨l.length, hh, ?_⟩
      rw [lits_push, ← e, List.getElem?_append_right (by unfold lits; rw [List.length_map]; exact Nat.le_refl _)]
      unfold lits; simp
    · refine .inl fun h2 => h ?_
      rw [tr_m1, lits_push, List.mem_append, List.mem_append, List.mem_singleton, List.mem_singleton] at h2
      rw [tr_m1]
      exact ⟨fun h3 => h2.1 (.inl h3), h2.2.resolve_right fun h3 => e h3.symm⟩
  · exact .inr ⟨k, hk, by rw [lits_push, List.getElem?_append_left (List.getElem?_eq_some_iff.1 h).1]; exact h⟩

/-- the pair that watches -/
structure Pair (W : Int → List Nat) (id : Nat) (e : Ent) (y z : Int) : Prop where
  ne : e.a1 ≠ e.a2
  l1 : e.lits[e.a1]? = some y
  l2 : e.lits[e.a2]? = some z
  m1 : id ∈ W y
  m2 : id ∈ W z
structure WInv (s : WS) : Prop where
  good : Good s.vars s.l
  lvs : Lvs s.l s.level
  hv : s.vars ≤ 16777216
  cl : ∀ e ∈ s.cs, Rise e.lits ∧ ∀ x ∈ e.lits, 1 ≤ x.natAbs ∧ x.natAbs ≤ s.vars
  head : s.head ≤ s.l.length
  todoN : s.todo.Nodup
  todoL : ∀ id ∈ s.todo, id < s.cs.length
  wN : ∀ x, (s.W x).Nodup
  wL : ∀ x, ∀ id ∈ s.W x, id < s.cs.length ∧ id ∉ s.todo
  w1 : ∀ x, ∀ id ∈ s.W x, ∀ e, s.cs[id]? = some e → e.gone = false → ∃ y z, Pair s.W id e y z ∧ (x = y ∨ x = z)
  main : ∀ id e, s.cs[id]? = some e → e.gone = false → id ∉ s.todo → Sat s.l e.lits ∨ ∃ y z, Pair s.W id e y z ∧ okW s.l s.head y ∧ okW s.l s.head z
  rs : ∀ i t, s.l[i]? = some t → 0 ≤ t.rs → ∃ e, s.cs[t.rs.toNat]? = some e ∧ e.gone = false ∧ UnitAt (s.l.take i) e.lits t.lit

theorem rise_nodup {l : List Int} (h : Rise l) : l.Nodup := List.Pairwise.imp (fun {a b} h e => by rw [e] at h; omega) h
theorem rise_ne {l : List Int} (h : Rise l) {i j : Nat} {y z : Int} (hi : l[i]? = some y) (hj : l[j]? = some z) (hn : i ≠ j) : y ≠ z := by
  intro e
  subst e
  obtain ⟨h1, e1⟩ := List.getElem?_eq_some_iff.1 hi
  obtain ⟨h2, e2⟩ := List.getElem?_eq_some_iff.1 hj
  have := List.pairwise_iff_getElem.1 h
  rcases Nat.lt_or_gt_of_ne hn with h3 | h3
  · have := this i j h1 h2 h3; rw [e1, e2] at this; omega
  · have := this j i h2 h1 h3; rw [e1, e2] at this; omega

/-- the trail grows -/
theorem WInv.grow {s : WS} (I : WInv s) {t : St} {n : Nat} (hf : find s.l t.lit.natAbs = none) (h1 : 1 ≤ t.lit.natAbs) (h2 : t.lit.natAbs ≤ s.vars) (hl : Lvs (s.l ++ [t]) n)
    (hr : 0 ≤ t.rs → ∃ e, s.cs[t.rs.toNat]? = some e ∧ e.gone = false ∧ UnitAt s.l e.lits t.lit) : WInv { s with l := s.l ++ [t], level := n } where
  good := I.good.push hf h1 h2
  lvs := hl
  hv := I.hv
  cl := I.cl
  head := by show s.head ≤ (s.l ++ [t]).length; rw [List.length_append]; have := I.head; omega
  todoN := I.todoN
  todoL := I.todoL
  wN := I.wN
  wL := I.wL
  w1 := I.w1
  main id e he hg hn := by
    rcases I.main id e he hg hn with h | ⟨y, z, hp, h3, h4⟩
    · exact .inl (h.mono t)
    · exact .inr ⟨y, z, hp, h3.mono t I.head, h4.mono t I.head⟩
  rs i u hu hp := by
    show ∃ e, s.cs[u.rs.toNat]? = some e ∧ e.gone = false ∧ UnitAt ((s.l ++ [t]).take i) e.lits u.lit
    have hu' : (s.l ++ [t])[i]? = some u := hu
    by_cases hi : i < s.l.length
    · rw [List.getElem?_append_left hi] at hu'
      rw [List.take_append_of_le_length (by omega)]
      exact I.rs i u hu' hp
    · rw [List.getElem?_append_right (by omega)] at hu'
      have hz : i - s.l.length = 0 := by
        cases hj : i - s.l.length with
        | zero => rfl
        | succ j => rw [hj] at hu'; cases hu'
      rw [hz] at hu'
      simp only [List.getElem?_cons_zero, Option.some.injEq] at hu'
      subst hu'
      rw [List.take_left' (by omega)]
      exact hr hp

/-- a first clause that is to be looked at: gone, or satisfied -/
theorem WInv.skip {s : WS} (I : WInv s) {id : Nat} {rest : List Nat} (ht : s.todo = id :: rest) (h : ∀ e, s.cs[id]? = some e → e.gone = false → Sat s.l e.lits) : WInv { s with todo := rest } where
  good := I.good
  lvs := I.lvs
  hv := I.hv
  cl := I.cl
  head := I.head
  todoN := by have := I.todoN; rw [ht, List.nodup_cons] at this; exact this.2
  todoL i hi := I.todoL i (by rw [ht]; exact List.mem_cons_of_mem _ hi)
  wN := I.wN
  wL x i hi := ⟨(I.wL x i hi).1, fun hm => (I.wL x i hi).2 (by rw [ht]; exact List.mem_cons_of_mem _ hm)⟩
  w1 := I.w1
  main i e he hg hn := by
    by_cases ei : i = id
    · subst ei; exact .inl (h e he hg)
    · exact I.main i e he hg (by rw [ht, List.mem_cons]; exact fun h => h.elim ei hn)
  rs := I.rs

def setE (cs : List Ent) (id i j : Nat) : List Ent := match cs[id]? with
  | some e => cs.set id { e with a1 := i, a2 := j }
  | none => cs
theorem setE_len (cs : List Ent) (id i j : Nat) : (setE cs id i j).length = cs.length := by unfold setE; split <;> simp
theorem setE_at {cs : List Ent} {id i j k : Nat} {e : Ent} (he : cs[id]? = some e) : (setE cs id i j)[k]? = if k = id then some { e with a1 := i, a2 := j } else cs[k]? := by
  unfold setE
  rw [he]
  simp only
  rw [List.getElem?_set]
  by_cases h : k = id
  · subst h; rw [if_pos rfl, if_pos (List.getElem?_eq_some_iff.1 he).1, if_pos rfl]
  · rw [if_neg (Ne.symm h), if_neg h]
/-- each entry but for where it is watched -/
theorem setE_back {cs : List Ent} {id i j k : Nat} {e e' : Ent} (he : cs[id]? = some e) (h : (setE cs id i j)[k]? = some e') : ∃ e0, cs[k]? = some e0 ∧ e0.lits = e'.lits ∧ e0.gone = e'.gone ∧ (k ≠ id → e0 = e') ∧ (k = id → e'.a1 = i ∧ e'.a2 = j) := by
  rw [setE_at he] at h
  split at h
  · rename_i hk
    cases h
    exact ⟨e, by rw [hk]; exact he, rfl, rfl, fun h => absurd hk h, fun _ => ⟨rfl, rfl⟩⟩
  · rename_i hk
    exact ⟨e', h, rfl, rfl, fun _ => rfl, fun h => absurd h hk⟩

/-- a first clause that is to be looked at comes to be watched -/
theorem WInv.watch {s : WS} (I : WInv s) {id i j : Nat} {rest : List Nat} {e : Ent} {y z : Int} (ht : s.todo = id :: rest) (he : s.cs[id]? = some e) (hy : e.lits[i]? = some y) (hz : e.lits[j]? = some z) (hn : y ≠ z)
    (ty : trI s.l y ≠ -1) (tz : trI s.l z ≠ -1) : WInv { s with cs := setE s.cs id i j, W := updW (updW s.W y (s.W y ++ [id])) z (s.W z ++ [id]), todo := rest } := by
  have hW : ∀ x, updW (updW s.W y (s.W y ++ [id])) z (s.W z ++ [id]) x = if x = y ∨ x = z then s.W x ++ [id] else s.W x := by
    intro x
    unfold updW
    by_cases h1 : x = z
    · subst h1; rw [if_pos rfl, if_pos (.inr rfl)]
    · rw [if_neg h1]
      by_cases h2 : x = y
      · subst h2; rw [if_pos rfl, if_pos (.inl rfl)]
      · rw [if_neg h2, if_neg (fun h => h.elim h2 h1)]
  have hnW : ∀ x, id ∉ s.W x := fun x hx => (I.wL x id hx).2 (by rw [ht]; exact List.mem_cons_self ..)
  have hmem : ∀ x k, k ∈ updW (updW s.W y (s.W y ++ [id])) z (s.W z ++ [id]) x ↔ k ∈ s.W x ∨ (k = id ∧ (x = y ∨ x = z)) := by
    intro x k
    rw [hW]
    split
    · rename_i h; rw [List.mem_append, List.mem_singleton]; exact ⟨fun h2 => h2.imp_right fun h3 => ⟨h3, h⟩, fun h2 => h2.imp_right fun h3 => h3.1⟩
    · rename_i h; exact ⟨.inl, fun h2 => h2.resolve_right fun h3 => h h3.2⟩
  have htn := I.todoN
  rw [ht, List.nodup_cons] at htn
  have hij : i ≠ j := fun h => hn (by subst h; rw [hy] at hz; exact Option.some.inj hz)
  have pair_id : Pair (updW (updW s.W y (s.W y ++ [id])) z (s.W z ++ [id])) id { e with a1 := i, a2 := j } y z := ⟨hij, hy, hz, (hmem _ _).2 (.inr ⟨rfl, .inl rfl⟩), (hmem _ _).2 (.inr ⟨rfl, .inr rfl⟩)⟩
  have pair_up : ∀ {k : Nat} {e' : Ent} {u v : Int}, Pair s.W k e' u v → Pair (updW (updW s.W y (s.W y ++ [id])) z (s.W z ++ [id])) k e' u v := fun hp => ⟨hp.ne, hp.l1, hp.l2, (hmem _ _).2 (.inl hp.m1), (hmem _ _).2 (.inl hp.m2)⟩
  exact {
    good := I.good
    lvs := I.lvs
    hv := I.hv
    cl := fun e' he' => by
      obtain ⟨k, hk⟩ := List.getElem?_of_mem he'
      obtain ⟨e0, h0, h1, _⟩ := setE_back he hk
      rw [← h1]; exact I.cl e0 (List.mem_of_getElem? h0)
    head := I.head
    todoN := htn.2
    todoL := fun k hk => by show k < (setE s.cs id i j).length; rw [setE_len]; exact I.todoL k (by rw [ht]; exact List.mem_cons_of_mem _ hk)
    wN := fun x => by
      show (updW (updW s.W y (s.W y ++ [id])) z (s.W z ++ [id]) x).Nodup
      rw [hW]
      split
      · rw [List.nodup_append]; exact ⟨I.wN x, by simp, fun a ha b hb => by rw [List.mem_singleton] at hb; subst hb; exact fun h => hnW x (h ▸ ha)⟩
      · exact I.wN x
    wL := fun x k hk => by
      show k < (setE s.cs id i j).length ∧ _
      rw [setE_len]
      rcases (hmem x k).1 hk with h | ⟨rfl, _⟩
      · exact ⟨(I.wL x k h).1, fun hm => (I.wL x k h).2 (by rw [ht]; exact List.mem_cons_of_mem _ hm)⟩
      · exact ⟨(List.getElem?_eq_some_iff.1 he).1, htn.1⟩
    w1 := fun x k hk e' he' hg => by
      obtain ⟨e0, h0, h1, h2, h3, h4⟩ := setE_back he he'
      rcases (hmem x k).1 hk with h | ⟨rfl, hx⟩
      · have hki : k ≠ id := fun h5 => hnW x (h5 ▸ h)
        have := h3 hki
        subst this
        obtain ⟨u, v, hp, hx⟩ := I.w1 x k h e0 h0 hg
        exact ⟨u, v, pair_up hp, hx⟩
      · rw [setE_at he, if_pos rfl] at he'
        cases he'
        exact ⟨y, z, pair_id, hx⟩
    main := fun k e' he' hg hk => by
      by_cases hki : k = id
      · subst hki
        rw [setE_at he, if_pos rfl] at he'
        cases he'
        exact .inr ⟨y, z, pair_id, .inl ty, .inl tz⟩
      · obtain ⟨e0, h0, h1, h2, h3, h4⟩ := setE_back he he'
        have := h3 hki
        subst this
        rcases I.main k e0 h0 hg (by rw [ht, List.mem_cons]; exact fun h => h.elim hki hk) with h | ⟨u, v, hp, h5⟩
        · exact .inl h
        · exact .inr ⟨u, v, pair_up hp, h5⟩
    rs := fun k t hk hp => by
      obtain ⟨e0, h0, h1, h2⟩ := I.rs k t hk hp
      by_cases hki : t.rs.toNat = id
      · rw [hki] at h0; rw [he] at h0; cases h0
        exact ⟨{ e with a1 := i, a2 := j }, by show (setE s.cs id i j)[_]? = _; rw [setE_at he, if_pos hki], h1, h2⟩
      · exact ⟨e0, by show (setE s.cs id i j)[_]? = _; rw [setE_at he, if_neg hki]; exact h0, h1, h2⟩ }
end Xe
