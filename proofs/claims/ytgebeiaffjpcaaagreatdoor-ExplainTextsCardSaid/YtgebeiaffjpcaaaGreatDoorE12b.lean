/- Texts of rows; names. -/
import Derived.Test.YtgebeiaffjpcaaaGreatDoorE6
namespace Xe
open Go Go.Proofs
set_option maxRecDepth 16000
set_option maxHeartbeats 1000000

section
variable {h : Heap} {A : Option Addr} {n cp : Nat}

theorem glue_snoc {c : UInt8} {a : List UInt8} : ∀ {l : List (List UInt8)}, l ≠ [] → glue c (l ++ [a]) = glue c l ++ c :: a
  | [], h => absurd rfl h
  | [x], _ => rfl
  | x :: y :: l, _ => by
    show x ++ c :: glue c ((y :: l) ++ [a]) = x ++ c :: glue c (y :: l) ++ c :: a
    rw [glue_snoc (by simp)]; simp
theorem glue_take_le {c : UInt8} : ∀ {l : List (List UInt8)} {i : Nat}, (glue c (l.take i)).length ≤ (glue c l).length
  | [], i => by simp
  | [x], 0 => by simp [glue]
  | [x], i + 1 => by simp
  | x :: y :: l, 0 => by simp [glue]
  | x :: y :: l, 1 => by show x.length ≤ (x ++ c :: glue c (y :: l)).length; simp
  | x :: y :: l, i + 2 => by
    have := glue_take_le (c := c) (l := y :: l) (i := i + 1)
    show (x ++ c :: glue c (y :: l.take i)).length ≤ (x ++ c :: glue c (y :: l)).length
    rw [List.take_succ_cons] at this
    simp only [List.length_append, List.length_cons]; omega
theorem text02_ok {l : List (List UInt8)} (R : RowAt h A (strs l)) (hn : n = l.length) (hl : n < 2 ^ 40) (hg : (glue 46 l).length ≤ 2 ^ 40) :
    CallsH Tryz.prog 94 [.slice A n cp] h fun r h' => r = S (glue 46 l) ∧ h' = h := by
  subst hn
  refine calls_of 22 [.tmp 2] Go.Proofs.Tryz.func94 rfl rfl rfl ?_
  simp -implicitDefEqProofs (disch := omega) [go_sem]
  refine loopK (fun ρ h' => ρ 0 = .slice A l.length cp ∧ h' = h ∧ ∃ i : Nat, ρ 4 = .int .i64 i ∧ i ≤ l.length ∧ ρ 3 = S (glue 46 (l.take i))) (fun ρ _ => l.length - (intOf (ρ 4)).toNat) (by kernel_rfl) ?_ ?_
  · exact ⟨rfl, rfl, 0, rfl, by omega, rfl⟩
  · rintro ρ h' ⟨r0, rfl, i, r4, hi, r3⟩
    by_cases hil : i < l.length
    · obtain ⟨a, ha⟩ : ∃ a, l[i]? = some a := ⟨_, List.getElem?_eq_getElem hil⟩
      obtain ⟨bk, off, rfl, hc⟩ := R.get (by rw [strs_len]; omega)
      have c0 := hc _ _ (strs_at ha)
      have et : l.take (i + 1) = l.take i ++ [a] := by rw [List.take_add_one, ha]; rfl
      have hle := glue_take_le (c := 46) (l := l) (i := i + 1)
      by_cases h0 : i = 0
      · subst h0
        have eg : glue 46 (l.take (0 + 1)) = a := by rw [et]; rfl
        have e1 : cmpV Tryz.prog .add 9 (S []) (S a) = some (S a) := cmpV_sadd (by rw [eg] at hle; simp; omega)
        have r3' : ρ 3 = S [] := r3
        have c0' : hcell h' ⟨bk, off, none⟩ = some (S a) := by simpa using c0
        simp -implicitDefEqProofs (disch := omega) [go_sem, r0, r4, r3', c0', e1]
        exact ⟨⟨1, by omega, by omega, by rw [← eg]⟩, by omega⟩
      · have hne : l.take i ≠ [] := fun e => by
          have : (l.take i).length = 0 := by rw [e]; rfl
          rw [List.length_take] at this
          omega
        have eg : glue 46 (l.take (i + 1)) = glue 46 (l.take i) ++ 46 :: a := by rw [et, glue_snoc hne]
        rw [eg, List.length_append, List.length_cons] at hle
        have e1 : cmpV Tryz.prog .add 9 (S (glue 46 (l.take i))) (S [46]) = some (S (glue 46 (l.take i) ++ [46])) := cmpV_sadd (by simp; omega)
        have e2 : cmpV Tryz.prog .add 9 (S (glue 46 (l.take i) ++ [46])) (S a) = some (S (glue 46 (l.take i) ++ [46] ++ a)) := cmpV_sadd (by simp; omega)
        simp -implicitDefEqProofs (disch := omega) [go_sem, r0, r4, r3, c0, e1, e2]
        exact ⟨⟨i + 1, by omega, by omega, by rw [eg]⟩, by omega⟩
    · have e : i = l.length := by omega
      subst e
      rw [List.take_length] at r3
      simp -implicitDefEqProofs (disch := omega) [go_sem, r0, r4, r3]
theorem textP_ok {l : List (List UInt8)} (R : RowAt h A (strs l)) (hn : n = l.length) (hcap : n ≤ cp) (hl : n < 2 ^ 40) (hg : (glue 46 l).length ≤ 2 ^ 40) :
    CallsH Tryz.prog 85 [.slice A n cp] h fun r h' => r = S (glue 46 l) ∧ Gr h h' := by
  refine calls_of 5 [.tmp 2] Go.Proofs.Tryz.func85 rfl rfl rfl ?_
  simp -implicitDefEqProofs (disch := omega) [go_sem]
  refine useC (join_ok R hn hcap (by omega) 46 (by omega)) ?_
  rintro _ h2 ⟨rfl, f⟩
  simp -implicitDefEqProofs (disch := omega) [go_sem]
  exact f
theorem numText_ok (G : Glob h) (u : Nat) (hu : u < 18446744073709551616) : CallsH Tryz.prog 84 [.int .u64 u] h fun r h' => r = S (Lib.decDigits u) ∧ Gr h h' := by
  refine calls_of 5 [.tmp 2] Go.Proofs.Tryz.func84 rfl rfl rfl ?_
  simp -implicitDefEqProofs (disch := omega) [go_sem]
  have C : CallsH Tryz.prog 123 [.int .u64 u, .int .i64 10] h fun r h' => r = S (Lib.decDigits u) ∧ Gr h h' := by
    refine calls_of 8 [.tmp 4] Go.Proofs.Tryz.func123 rfl rfl rfl ?_
    simp -implicitDefEqProofs (disch := omega) [go_sem]
    refine useC (formatUint_ok G u hu) ?_
    rintro _ h2 ⟨rfl, f⟩
    simp -implicitDefEqProofs (disch := omega) [go_sem]
    exact f
  refine useC C ?_
  rintro _ h2 ⟨rfl, f⟩
  simp -implicitDefEqProofs (disch := omega) [go_sem]
  exact f

/-! ### Names -/
/-- so many bytes from here on may stand in a name -/
def NameTo (d : List UInt8) (k : Nat) : Prop := k ≤ d.length ∧ (0 < k → AllT nameB (d.take k) ∧ ∃ c, d[0]? = some c ∧ firstB c = true)
theorem NameTo.zero {d : List UInt8} : NameTo d 0 := ⟨Nat.zero_le _, fun h => absurd h (Nat.lt_irrefl _)⟩
theorem NameTo.first {d : List UInt8} {c : UInt8} (hc : d[0]? = some c) (hf : firstB c = true) : NameTo d 1 :=
  ⟨by have := (List.getElem?_eq_some_iff.1 hc).1; omega, fun _ => ⟨all_take (i := 0) .zero hc (by unfold nameB; rw [hf]; rfl), c, hc, hf⟩⟩
theorem NameTo.next {d : List UInt8} {k : Nat} {c : UInt8} (I : NameTo d k) (hk : 0 < k) (hc : d[k]? = some c) (hb : nameB c = true) : NameTo d (k + 1) :=
  ⟨by have := (List.getElem?_eq_some_iff.1 hc).1; omega, fun _ => ⟨all_take (I.2 hk).1 hc hb, (I.2 hk).2⟩⟩
theorem NameTo.end {d : List UInt8} {k : Nat} (I : NameTo d k) (hk : 0 < k) (he : ∀ c, d[k]? = some c → nameB c = false) : nameLen d = k := by
  obtain ⟨h1, c, h2, h3⟩ := I.2 hk
  match d, h2 with
  | x :: d, h2 =>
    obtain rfl := Option.some.inj h2
    show (if firstB x = true then ((x :: d).takeWhile nameB).length else 0) = k
    rw [if_pos h3]
    exact takeWhile_len I.1 h1 he
theorem nameLen_none {d : List UInt8} (he : ∀ c, d[0]? = some c → firstB c = false) : nameLen d = 0 := by
  match d, he with
  | [], _ => rfl
  | x :: d, he => exact if_neg (by rw [he x rfl]; simp)

theorem scan08_ok (l : List UInt8) (at' : Nat) (hat : at' ≤ l.length) (hl : l.length < 2 ^ 40) :
    CallsH Tryz.prog 79 [S l, .int .i64 at'] h fun r h' => r = .tuple #[.int .i64 (scanN (l.drop at')).1, .int .i64 (scanN (l.drop at')).2] ∧ h' = h := by
  refine calls_of 66 [.tmp 4, .tmp 5] Go.Proofs.Tryz.func79 rfl rfl rfl ?_
  simp -implicitDefEqProofs (disch := omega) [go_sem]
  have key : ∀ k, nameLen (l.drop at') = k → scanN (l.drop at') = if k = 0 ∨ 255 < k then (0, 12) else (k, 0) := fun k hk => by unfold scanN; rw [hk]
  refine loopK (fun ρ h' => ρ 0 = S l ∧ ρ 1 = .int .i64 at' ∧ h' = h ∧ ∃ k : Nat, ρ 6 = .int .i64 k ∧ NameTo (l.drop at') k) (fun ρ _ => l.length - (intOf (ρ 6)).toNat) (by kernel_rfl) ?_ ?_
  · exact ⟨rfl, rfl, rfl, 0, rfl, .zero⟩
  · rintro ρ h' ⟨r0, r1, rfl, k, r6, I⟩
    have hk := I.1
    rw [List.length_drop] at hk
    have fin : nameLen (l.drop at') = k → ∀ b, b = false → True := fun _ _ _ => trivial
    by_cases hin : at' + k < l.length
    · obtain ⟨c, hc⟩ : ∃ c, l[at' + k]? = some c := ⟨_, List.getElem?_eq_getElem hin⟩
      have hc' : (l.drop at')[k]? = some c := by rw [List.getElem?_drop]; exact hc
      have ec : strIx (S l) (.int .i64 ((at' : Int) + (k : Int))) = some (.int .u8 (c.toNat : Int)) := strIx_at (i := at' + k) hc
      simp -implicitDefEqProofs (disch := omega) [go_sem, r0, r1, r6, ec]
      refine useC (first08_ok c) ?_
      rintro _ h2 ⟨rfl, rfl⟩
      cases hf : firstB c with
      | true =>
        simp -implicitDefEqProofs (disch := omega) [go_sem, r0, r1, r6, ec]
        refine ⟨⟨k + 1, by omega, ?_⟩, by omega⟩
        by_cases h0 : k = 0
        · subst h0; exact .first hc' hf
        · exact I.next (by omega) hc' (by unfold nameB; rw [hf]; rfl)
      | false =>
        by_cases h0 : k = 0
        · subst h0
          have e0 := key 0 (nameLen_none fun x hx => by rw [hc'] at hx; rw [← Option.some.inj hx]; exact hf)
          rw [if_pos (.inl rfl)] at e0
          simp -implicitDefEqProofs (disch := omega) [go_sem, r0, r1, r6, ec, e0]
        · by_cases hb : nameB c = true
          · have cs : c.toNat = 45 ∨ c.toNat = 95 ∨ c.toNat = 46 := by
              simp only [nameB, hf, Bool.or_eq_true, decide_eq_true_eq, Bool.false_eq_true, false_or, or_assoc] at hb
              exact hb
            have nx : NameTo (l.drop at') (k + 1) := I.next (by omega) hc' hb
            rcases cs with h1 | h1 | h1 <;>
            · simp -implicitDefEqProofs (disch := omega) [go_sem, r0, r1, r6, ec]
              exact ⟨⟨k + 1, by omega, nx⟩, by omega⟩
          · have hb' : nameB c = false := by simpa using hb
            have cs : c.toNat ≠ 45 ∧ c.toNat ≠ 95 ∧ c.toNat ≠ 46 := by
              simp only [nameB, hf, Bool.or_eq_false_iff, decide_eq_false_iff_not, Bool.false_or] at hb'
              exact ⟨hb'.1.1, hb'.1.2, hb'.2⟩
            obtain ⟨c1, c2, c3⟩ := cs
            have e0 := key k (I.end (by omega) fun x hx => by rw [hc'] at hx; rw [← Option.some.inj hx]; exact hb')
            by_cases h255 : 255 < k
            · rw [if_pos (.inr h255)] at e0
              simp -implicitDefEqProofs (disch := omega) [go_sem, r0, r1, r6, ec, e0]
            · rw [if_neg (by omega)] at e0
              simp -implicitDefEqProofs (disch := omega) [go_sem, r0, r1, r6, ec, e0]
    · have hnone : ∀ x, (l.drop at')[k]? = some x → False := fun x hx => by
        rw [List.getElem?_drop] at hx
        have := (List.getElem?_eq_some_iff.1 hx).1
        omega
      by_cases h0 : k = 0
      · subst h0
        have e0 := key 0 (nameLen_none fun x hx => (hnone x hx).elim)
        rw [if_pos (.inl rfl)] at e0
        simp -implicitDefEqProofs (disch := omega) [go_sem, r0, r1, r6, e0]
      · have e0 := key k (I.end (by omega) fun x hx => (hnone x hx).elim)
        by_cases h255 : 255 < k
        · rw [if_pos (.inr h255)] at e0
          simp -implicitDefEqProofs (disch := omega) [go_sem, r0, r1, r6, e0]
        · rw [if_neg (by omega)] at e0
          simp -implicitDefEqProofs (disch := omega) [go_sem, r0, r1, r6, e0]
theorem good08_ok (l : List UInt8) (hl : l.length < 2 ^ 40) : CallsH Tryz.prog 43 [S l] h fun r h' => r = .bool (nameOk l) ∧ h' = h := by
  refine calls_of 18 [.tmp 2] Go.Proofs.Tryz.func43 rfl rfl rfl ?_
  simp -implicitDefEqProofs (disch := omega) [go_sem]
  have C := scan08_ok (h := h) l 0 (by omega) hl
  rw [List.drop_zero] at C
  refine useC C ?_
  rintro _ h2 ⟨rfl, rfl⟩
  by_cases h2 : (scanN l).2 = 0
  · simp -implicitDefEqProofs (disch := omega) [go_sem, h2]
    unfold nameOk
    rw [h2, Bool.eq_iff_iff]
    simp only [decide_true, Bool.true_and, decide_eq_true_eq]
    omega
  · simp -implicitDefEqProofs (disch := omega) [go_sem, h2]
    unfold nameOk
    rw [decide_eq_false h2]; rfl

theorem push_row {e : TypeId} {l : List UInt8} {rest : List Value} {fz : Nat × Nat} : RowAt (h.push (.cells (l.map byteV ++ rest).toArray e fz)) (some ⟨h.size, 0, none⟩) (l.map byteV) :=
  .inr ⟨h.size, 0, rfl, fun i v hv => by
    rw [hcell_push_new, Nat.zero_add, List.getElem?_toArray, List.getElem?_append_left ((List.getElem?_eq_some_iff.1 hv).1)]; exact hv⟩
theorem bytes_at {l : List UInt8} {i : Nat} {c : UInt8} (hc : l[i]? = some c) : (l.map byteV)[i]? = some (.int .u8 (c.toNat : Int)) := by
  rw [List.getElem?_map, hc]; rfl
theorem scanP_ok {l : List UInt8} {at' : Nat} (R : RowAt h A (l.map byteV)) (hn : n = l.length) (hat : at' ≤ l.length) (hl : n < 2 ^ 40) :
    CallsH Tryz.prog 88 [.slice A n cp, .int .i64 at'] h fun r h' => r = .tuple #[.int .i64 (scanN (l.drop at')).1, .int .i64 (scanN (l.drop at')).2] ∧ h' = h := by
  subst hn
  have key : ∀ k, nameLen (l.drop at') = k → scanN (l.drop at') = if k = 0 ∨ 255 < k then (0, 12) else (k, 0) := fun k hk => by unfold scanN; rw [hk]
  refine calls_of 46 [.tmp 4, .tmp 5] Go.Proofs.Tryz.func88 rfl rfl rfl ?_
  simp -implicitDefEqProofs (disch := omega) [go_sem]
  by_cases hend : at' = l.length
  · have e0 := key 0 (nameLen_none fun x hx => by rw [List.getElem?_drop] at hx; have := (List.getElem?_eq_some_iff.1 hx).1; omega)
    rw [if_pos (.inl rfl)] at e0
    refine scopeM 0 (fun _ _ => False) (fun _ _ => 0) rfl rfl (by kernel_rfl) ?_ (fun _ _ h => h.elim)
    simp -implicitDefEqProofs (disch := omega) [go_sem, e0]
  · obtain ⟨c, hc⟩ : ∃ c, l[at']? = some c := ⟨_, List.getElem?_eq_getElem (by omega)⟩
    have hc' : (l.drop at')[0]? = some c := by rw [List.getElem?_drop, Nat.add_zero]; exact hc
    obtain ⟨bk, off, rfl, hcl⟩ := R.get (by rw [List.length_map]; omega)
    have c0 := hcl _ _ (bytes_at hc)
    cases hf : firstB c with
    | false =>
      have e0 := key 0 (nameLen_none fun x hx => by rw [hc'] at hx; rw [← Option.some.inj hx]; exact hf)
      rw [if_pos (.inl rfl)] at e0
      refine scopeM 0 (fun _ _ => False) (fun _ _ => 0) rfl rfl (by kernel_rfl) ?_ (fun _ _ h => h.elim)
      simp -implicitDefEqProofs (disch := omega) [go_sem, c0]
      refine useC (first_ok c) ?_
      rintro _ h2 ⟨rfl, rfl⟩
      simp -implicitDefEqProofs (disch := omega) [go_sem, hf, e0]
    | true =>
      have hfb : nameB c = true := by unfold nameB; rw [hf]; rfl
      refine scopeM 0 (fun ρ h' => ρ 0 = .slice (some ⟨bk, off, none⟩) l.length cp ∧ ρ 1 = .int .i64 at' ∧ h' = h ∧ ∃ k : Nat, ρ 4 = .int .i64 k ∧ NameTo (l.drop at') k) (fun ρ _ => l.length - (intOf (ρ 4)).toNat) rfl rfl (by kernel_rfl) ?_ ?_
      · simp -implicitDefEqProofs (disch := omega) [go_sem, c0]
        refine useC (first_ok c) ?_
        rintro _ h2 ⟨rfl, rfl⟩
        simp -implicitDefEqProofs (disch := omega) [go_sem, hf]
        exact ⟨0, rfl, .zero⟩
      · rintro ρ h' ⟨r0, r1, rfl, k, r4, I⟩
        have hk := I.1
        rw [List.length_drop] at hk
        by_cases hin : at' + k < l.length
        · obtain ⟨d, hd⟩ : ∃ d, l[at' + k]? = some d := ⟨_, List.getElem?_eq_getElem hin⟩
          have hd' : (l.drop at')[k]? = some d := by rw [List.getElem?_drop]; exact hd
          have c1 := hcl _ _ (bytes_at hd)
          have et : ((at' : Int) + (k : Int)).toNat = at' + k := by omega
          simp -implicitDefEqProofs (disch := omega) [go_sem, r0, r1, r4, c1, et]
          refine useC (nameB_ok d) ?_
          rintro _ h2 ⟨rfl, rfl⟩
          cases hb : nameB d with
          | true =>
            simp -implicitDefEqProofs (disch := omega) [go_sem, r0, r1, r4]
            refine ⟨⟨k + 1, by omega, ?_⟩, by omega⟩
            by_cases h0 : k = 0
            · subst h0; exact .first hc' hf
            · exact I.next (by omega) hd' hb
          | false =>
            have h0 : 0 < k := Nat.pos_of_ne_zero fun e => by
              subst e
              rw [hc'] at hd'
              rw [← Option.some.inj hd', hfb] at hb
              cases hb
            have e0 := key k (I.end h0 fun x hx => by rw [hd'] at hx; rw [← Option.some.inj hx]; exact hb)
            by_cases h255 : 255 < k
            · rw [if_pos (.inr h255)] at e0
              simp -implicitDefEqProofs (disch := omega) [go_sem, r0, r1, r4, e0]
            · rw [if_neg (by omega)] at e0
              simp -implicitDefEqProofs (disch := omega) [go_sem, r0, r1, r4, e0]
        · have hnone : ∀ x, (l.drop at')[k]? = some x → False := fun x hx => by
            rw [List.getElem?_drop] at hx
            have := (List.getElem?_eq_some_iff.1 hx).1
            omega
          have h0 : 0 < k := by omega
          have e0 := key k (I.end (by omega) fun x hx => (hnone x hx).elim)
          by_cases h255 : 255 < k
          · rw [if_pos (.inr h255)] at e0
            simp -implicitDefEqProofs (disch := omega) [go_sem, r0, r1, r4, e0]
          · rw [if_neg (by omega)] at e0
            simp -implicitDefEqProofs (disch := omega) [go_sem, r0, r1, r4, e0]
theorem nameGood_ok (l : List UInt8) (hl : l.length < 2 ^ 40) : CallsH Tryz.prog 50 [S l] h fun r h' => r = .bool (nameOk l) ∧ Gr h h' := by
  refine calls_of 19 [.tmp 2] Go.Proofs.Tryz.func50 rfl rfl rfl ?_
  simp -implicitDefEqProofs (disch := omega) [go_sem]
  intro rest
  simp -implicitDefEqProofs (disch := omega) [go_sem]
  have C := scanP_ok (h := h.push (.cells (l.map byteV ++ rest).toArray 5 (l.length + rest.length, l.length + rest.length + 1))) (n := l.length) (cp := l.length + rest.length) (at' := 0) push_row rfl (by omega) hl
  rw [List.drop_zero] at C
  refine useC C ?_
  rintro _ h2 ⟨rfl, rfl⟩
  by_cases h2 : (scanN l).2 = 0
  · simp -implicitDefEqProofs (disch := omega) [go_sem, h2]
    refine ⟨?_, (Fr.refl _ _).push⟩
    unfold nameOk
    rw [h2, Bool.eq_iff_iff]
    simp only [decide_true, Bool.true_and, decide_eq_true_eq]
    omega
  · simp -implicitDefEqProofs (disch := omega) [go_sem, h2]
    refine ⟨?_, (Fr.refl _ _).push⟩
    unfold nameOk
    rw [decide_eq_false h2]; rfl
end
end Xe

/- Versions. -/
namespace Xe
open Go Go.Proofs
set_option maxRecDepth 16000
set_option maxHeartbeats 1000000

/-- a version in memory: its rows of identifiers -/
structure VerR (h : Heap) (v : Ver) (A : Option Addr) (a : Nat) (B : Option Addr) (b : Nat) : Prop where
  pre : RowAt h A (strs v.pre)
  build : RowAt h B (strs v.build)
  ca : v.pre.length ≤ a
  cb : v.build.length ≤ b
  la : v.pre.length < 2 ^ 40
  lb : v.build.length < 2 ^ 40
  m1 : v.maj < 18446744073709551616
  m2 : v.min < 18446744073709551616
  m3 : v.pat < 18446744073709551616
/-- its cells -/
def verC (v : Ver) (A : Option Addr) (a : Nat) (B : Option Addr) (b : Nat) : List Value := [.int .u64 v.maj, .int .u64 v.min, .int .u64 v.pat, .slice A v.pre.length a, .slice B v.build.length b]
def verV (v : Ver) (A : Option Addr) (a : Nat) (B : Option Addr) (b : Nat) : Value := .agg (verC v A a B b).toArray
theorem VerR.gr {h h' : Heap} {v : Ver} {A : Option Addr} {a : Nat} {B : Option Addr} {b : Nat} (V : VerR h v A a B b) (f : Gr h h') : VerR h' v A a B b :=
  ⟨V.pre.fr0 f, V.build.fr0 f, V.ca, V.cb, V.la, V.lb, V.m1, V.m2, V.m3⟩

section
variable {h : Heap} {v w : Ver} {A B A' B' : Option Addr} {a b a' b' : Nat}

theorem verOk_bad1 (hb : ¬ (v.maj < 9223372036854775808 ∧ v.min < 9223372036854775808 ∧ v.pat < 9223372036854775808)) : verOk v = false := by
  unfold verOk
  by_cases h1 : v.maj < 9223372036854775808
  · by_cases h2 : v.min < 9223372036854775808
    · have h3 : ¬ v.pat < 9223372036854775808 := fun h3 => hb ⟨h1, h2, h3⟩
      rw [decide_eq_false h3]; simp
    · rw [decide_eq_false h2]; simp
  · rw [decide_eq_false h1]; simp
theorem verOk_good (hb : v.maj < 9223372036854775808 ∧ v.min < 9223372036854775808 ∧ v.pat < 9223372036854775808) : verOk v = (idsFrom true 0 v.pre && idsFrom false 0 v.build) := by
  unfold verOk
  rw [decide_eq_true hb.1, decide_eq_true hb.2.1, decide_eq_true hb.2.2]; simp

theorem vgood03_ok (V : VerR h v A a B b) : CallsH Tryz.prog 44 [verV v A a B b] h fun r h' => r = .bool (verOk v) ∧ Gr h h' := by
  obtain ⟨ma, mi, pa, pre, bu⟩ := v
  have V1 := V.m1; have V2 := V.m2; have V3 := V.m3
  simp only at V1 V2 V3
  refine calls_of 26 [.tmp 2] Go.Proofs.Tryz.func44 rfl rfl rfl ?_
  unfold verV verC
  by_cases h1 : ma < 9223372036854775808
  · by_cases h2 : mi < 9223372036854775808
    · by_cases h3 : pa < 9223372036854775808
      · rw [verOk_good ⟨h1, h2, h3⟩]
        simp -implicitDefEqProofs (disch := omega) [go_sem]
        refine useC (good02_ok (V.gr (Fr.refl _ _).push).pre rfl V.la true) ?_
        rintro _ h2 ⟨rfl, rfl⟩
        cases e1 : idsFrom true 0 pre with
        | false =>
          simp -implicitDefEqProofs (disch := omega) [go_sem]
          exact (Fr.refl _ _).push
        | true =>
          simp -implicitDefEqProofs (disch := omega) [go_sem]
          refine useC (good02_ok (V.gr (Fr.refl _ _).push).build rfl V.lb false) ?_
          rintro _ h2 ⟨rfl, rfl⟩
          simp -implicitDefEqProofs (disch := omega) [go_sem]
          exact (Fr.refl _ _).push
      · rw [verOk_bad1 fun h => h3 h.2.2]
        simp -implicitDefEqProofs (disch := omega) [go_sem]
        exact (Fr.refl _ _).push
    · rw [verOk_bad1 fun h => h2 h.2.1]
      simp -implicitDefEqProofs (disch := omega) [go_sem]
      exact (Fr.refl _ _).push
  · rw [verOk_bad1 fun h => h1 h.1]
    simp -implicitDefEqProofs (disch := omega) [go_sem]
    exact (Fr.refl _ _).push
theorem vgoodP_ok (V : VerR h v A a B b) : CallsH Tryz.prog 51 [verV v A a B b] h fun r h' => r = .bool (verOk v) ∧ Gr h h' := by
  obtain ⟨ma, mi, pa, pre, bu⟩ := v
  have V1 := V.m1; have V2 := V.m2; have V3 := V.m3
  simp only at V1 V2 V3
  refine calls_of 21 [.tmp 2] Go.Proofs.Tryz.func51 rfl rfl rfl ?_
  unfold verV verC
  by_cases h1 : ma < 9223372036854775808 ∧ mi < 9223372036854775808 ∧ pa < 9223372036854775808
  · rw [verOk_good h1]
    simp -implicitDefEqProofs (disch := omega) [go_sem]
    refine useC (goodP_ok (V.gr (Fr.refl _ _).push).pre rfl V.la true) ?_
    rintro _ h2 ⟨rfl, f⟩
    have f2 := (Fr.refl _ h).push.trans f
    have g1 : ∀ o, hcell h2 ⟨h.size, o, none⟩ = hcell (h.push (.cells (verC ⟨ma, mi, pa, pre, bu⟩ A a B b).toArray 98)) ⟨h.size, o, none⟩ := fun o => f.cell (by rw [push_size]; omega) id
    have g2 := g1 4
    rw [hcell_push_lit] at g2
    have g3 : hcell h2 ⟨h.size, 4, none⟩ = some (.slice B bu.length b) := g2
    cases e1 : idsFrom true 0 pre with
    | false =>
      simp -implicitDefEqProofs (disch := omega) [go_sem]
      exact f2
    | true =>
      simp -implicitDefEqProofs (disch := omega) [go_sem, g3]
      refine useC (goodP_ok (V.gr f2).build rfl V.lb false) ?_
      rintro _ h3 ⟨rfl, f3⟩
      simp -implicitDefEqProofs (disch := omega) [go_sem]
      exact f2.trans f3
  · rw [verOk_bad1 h1]
    simp -implicitDefEqProofs (disch := omega) [go_sem]
    exact (Fr.refl _ _).push
theorem vsame03_ok (V : VerR h v A a B b) (W : VerR h w A' a' B' b') : CallsH Tryz.prog 61 [verV v A a B b, verV w A' a' B' b'] h fun r h' => r = .bool (decide (v = w)) ∧ Gr h h' := by
  obtain ⟨ma, mi, pa, pre, bu⟩ := v
  obtain ⟨ma', mi', pa', pre', bu'⟩ := w
  have V1 := V.m1; have V2 := V.m2; have V3 := V.m3
  have W1 := W.m1; have W2 := W.m2; have W3 := W.m3
  simp only at V1 V2 V3 W1 W2 W3
  refine calls_of 38 [.tmp 4] Go.Proofs.Tryz.func61 rfl rfl rfl ?_
  unfold verV verC
  have f0 := ((Fr.refl (fun _ => False) h).push (X := .cells (verC ⟨ma, mi, pa, pre, bu⟩ A a B b).toArray 98)).push (X := .cells (verC ⟨ma', mi', pa', pre', bu'⟩ A' a' B' b').toArray 98)
  have VV := V.gr f0
  have WW := W.gr f0
  rw [Bool.eq_iff_iff.2 (show decide (Ver.mk ma mi pa pre bu = Ver.mk ma' mi' pa' pre' bu') = true ↔ (decide (ma = ma') && decide (mi = mi') && decide (pa = pa') && decide (pre = pre') && decide (bu = bu')) = true by simp [and_assoc])]
  by_cases h1 : ma = ma'
  · subst h1
    by_cases h2 : mi = mi'
    · subst h2
      by_cases h3 : pa = pa'
      · subst h3
        simp -implicitDefEqProofs (disch := first | omega | (simp only [push_size, hset_size]; done) | (simp only [push_size, hset_size]; omega)) [go_sem]
        refine useC (same02_ok VV.pre WW.pre rfl rfl V.la W.la) ?_
        rintro _ h2 ⟨rfl, rfl⟩
        by_cases e1 : pre = pre'
        · subst e1
          simp -implicitDefEqProofs (disch := first | omega | (simp only [push_size, hset_size]; done) | (simp only [push_size, hset_size]; omega)) [go_sem]
          refine useC (same02_ok VV.build WW.build rfl rfl V.lb W.lb) ?_
          rintro _ h2 ⟨rfl, rfl⟩
          simp -implicitDefEqProofs (disch := first | omega | (simp only [push_size, hset_size]; done) | (simp only [push_size, hset_size]; omega)) [go_sem]
          exact f0
        · simp -implicitDefEqProofs (disch := first | omega | (simp only [push_size, hset_size]; done) | (simp only [push_size, hset_size]; omega)) [go_sem, e1]
          exact f0
      · simp -implicitDefEqProofs (disch := first | omega | (simp only [push_size, hset_size]; done) | (simp only [push_size, hset_size]; omega)) [go_sem, h3]
        exact f0
    · simp -implicitDefEqProofs (disch := first | omega | (simp only [push_size, hset_size]; done) | (simp only [push_size, hset_size]; omega)) [go_sem, h2]
      exact f0
  · simp -implicitDefEqProofs (disch := first | omega | (simp only [push_size, hset_size]; done) | (simp only [push_size, hset_size]; omega)) [go_sem, h1]
    exact f0
end
end Xe

/- Texts of versions. -/
namespace Xe
open Go Go.Proofs
set_option maxRecDepth 16000
set_option maxHeartbeats 1000000

section
variable {h : Heap} {v : Ver} {A B : Option Addr} {a b : Nat}
theorem sadd {P : Program} {t : Nat} {x y : List UInt8} (hl : x.length + y.length ≤ 9223372036854775807) : cmpV P .add t (S x) (S y) = some (S (x ++ y)) := cmpV_sadd hl
theorem vtext03_ok (V : VerR h v A a B b) (hg : (verText v).length ≤ 2 ^ 39) : CallsH Tryz.prog 56 [verV v A a B b] h fun r h' => r = S (verText v) ∧ Gr h h' := by
  obtain ⟨ma, mi, pa, pre, bu⟩ := v
  have V1 := V.m1; have V2 := V.m2; have V3 := V.m3
  simp only at V1 V2 V3
  have d1 := decDigits_le V1; have d2 := decDigits_le V2; have d3 := decDigits_le V3
  have hT : verText ⟨ma, mi, pa, pre, bu⟩ = Lib.decDigits ma ++ (46 :: (Lib.decDigits mi ++ (46 :: (Lib.decDigits pa ++ (tailT 45 pre ++ tailT 43 bu))))) := rfl
  rw [hT] at hg ⊢
  simp only [List.length_append, List.length_cons] at hg
  refine calls_of 38 [.tmp 2] Go.Proofs.Tryz.func56 rfl rfl rfl ?_
  unfold verV verC
  simp -implicitDefEqProofs (disch := omega) [go_sem]
  obtain ⟨H, hH⟩ : ∃ H, H = h.push (.cells #[.int .u64 ma, .int .u64 mi, .int .u64 pa, .slice A pre.length a, .slice B bu.length b] 98) := ⟨_, rfl⟩
  rw [← hH]
  have f0 : Gr h H := by rw [hH]; exact (Fr.refl _ _).push
  have VH := V.gr f0
  have hlt : h.size < H.size := by rw [hH, push_size]; omega
  have g : ∀ o v, hcell H ⟨h.size, o, none⟩ = some v → ∀ h', Gr H h' → hcell h' ⟨h.size, o, none⟩ = some v := fun o v hv h' f => (f.cell hlt id).trans hv
  have b0 := g 0 (.int .u64 ma) (by rw [hH]; exact hcell_push_lit)
  have b1 := g 1 (.int .u64 mi) (by rw [hH]; exact hcell_push_lit)
  have b2 := g 2 (.int .u64 pa) (by rw [hH]; exact hcell_push_lit)
  have b3 := g 3 (.slice A pre.length a) (by rw [hH]; exact hcell_push_lit)
  have b4 := g 4 (.slice B bu.length b) (by rw [hH]; exact hcell_push_lit)
  clear hH g
  refine drawC [(0, 0), (1, 1), (4, 0), (5, 2), (9, 0), (10, 2), (2, 3), (3, 0), (6, 3), (7, 0), (8, 0), (11, 3), (12, 0), (13, 0)] (fun h' => Gr H h') (Fr.refl _ _) ?_
  have b00 := b0 H (Fr.refl _ _)
  simp -implicitDefEqProofs (disch := first | omega | (simp only [List.length_append, List.length_cons, List.length_nil]; omega)) [go_sem, b00]
  refine float2 (.int .u64 mi) (fun h' hC => by simp -implicitDefEqProofs (disch := first | omega | (simp only [List.length_append, List.length_cons, List.length_nil]; omega)) [go_sem, b1 h' hC]) ?_
  simp -implicitDefEqProofs (disch := first | omega | (simp only [List.length_append, List.length_cons, List.length_nil]; omega)) [go_sem]
  refine float2 (.int .u64 pa) (fun h' hC => by simp -implicitDefEqProofs (disch := first | omega | (simp only [List.length_append, List.length_cons, List.length_nil]; omega)) [go_sem, b2 h' hC]) ?_
  simp -implicitDefEqProofs (disch := first | omega | (simp only [List.length_append, List.length_cons, List.length_nil]; omega)) [go_sem]
  refine useC (rtext01_ok ma V1) ?_
  rintro _ h2 ⟨rfl, f2⟩
  refine ⟨f2, ?_⟩
  simp -implicitDefEqProofs (disch := first | omega | (simp only [List.length_append, List.length_cons, List.length_nil]; omega)) [go_sem]
  refine useC (rtext01_ok mi V2) ?_
  rintro _ h3 ⟨rfl, f3⟩
  refine ⟨f2.trans f3, ?_⟩
  simp -implicitDefEqProofs (disch := first | omega | (simp only [List.length_append, List.length_cons, List.length_nil]; omega)) [go_sem]
  refine useC (rtext01_ok pa V3) ?_
  rintro _ h4 ⟨rfl, f4⟩
  have f24 := (f2.trans f3).trans f4
  refine ⟨f24, ?_⟩
  have b34 := b3 h4 f24
  have b44 := b4 h4 f24
  simp -implicitDefEqProofs (disch := first | omega | (simp only [List.length_append, List.length_cons, List.length_nil]; omega)) [go_sem, b34, b44]
  have V4 := V.gr (f0.trans f24)
  have hp : pre.length = 0 → pre = [] := List.eq_nil_of_length_eq_zero
  have hq : bu.length = 0 → bu = [] := List.eq_nil_of_length_eq_zero
  have t1 : pre ≠ [] → tailT 45 pre = 45 :: glue 46 pre := fun h => if_neg h
  have t2 : bu ≠ [] → tailT 43 bu = 43 :: glue 46 bu := fun h => if_neg h
  have t3 : tailT 45 [] = [] := rfl
  have t4 : tailT 43 [] = [] := rfl
  by_cases h1 : pre = []
  · by_cases h2 : bu = []
    · subst h1 h2
      simp -implicitDefEqProofs (disch := first | omega | (simp only [List.length_append, List.length_cons, List.length_nil]; omega)) [go_sem, b34, b44]
      exact ⟨by rw [t3, t4]; simp, f0.trans f24⟩
    · have hb : 0 < bu.length := List.length_pos_iff.2 h2
      rw [t2 h2] at hg ⊢
      rw [List.length_cons] at hg
      have C := text02_ok (cp := b) V4.build rfl V.lb (by simp only at hg ⊢; omega)
      subst h1
      simp -implicitDefEqProofs (disch := first | omega | (simp only [List.length_append, List.length_cons, List.length_nil]; omega)) [go_sem, b34, b44]
      refine useC C ?_
      rintro _ h5 ⟨rfl, rfl⟩
      simp -implicitDefEqProofs (disch := first | omega | (simp only [List.length_append, List.length_cons, List.length_nil]; omega)) [go_sem, b34, b44]
      exact ⟨by rw [t3]; simp, f0.trans f24⟩
  · have ha : 0 < pre.length := List.length_pos_iff.2 h1
    rw [t1 h1] at hg ⊢
    rw [List.length_cons] at hg
    have C := text02_ok (cp := a) V4.pre rfl V.la (by simp only at hg ⊢; omega)
    simp -implicitDefEqProofs (disch := first | omega | (simp only [List.length_append, List.length_cons, List.length_nil]; omega)) [go_sem, b34, b44]
    refine useC C ?_
    rintro _ h5 ⟨rfl, rfl⟩
    by_cases h2 : bu = []
    · subst h2
      simp -implicitDefEqProofs (disch := first | omega | (simp only [List.length_append, List.length_cons, List.length_nil]; omega)) [go_sem, b34, b44]
      exact ⟨by rw [t4]; simp, f0.trans f24⟩
    · have hb : 0 < bu.length := List.length_pos_iff.2 h2
      rw [t2 h2] at hg ⊢
      rw [List.length_cons] at hg
      have C := text02_ok (cp := b) V4.build rfl V.lb (by simp only at hg ⊢; omega)
      simp -implicitDefEqProofs (disch := first | omega | (simp only [List.length_append, List.length_cons, List.length_nil]; omega)) [go_sem, b34, b44]
      refine useC C ?_
      rintro _ h5 ⟨rfl, rfl⟩
      simp -implicitDefEqProofs (disch := first | omega | (simp only [List.length_append, List.length_cons, List.length_nil]; omega)) [go_sem, b34, b44]
      exact f0.trans f24
end
end Xe

/- The program's texts of versions and pins. -/
namespace Xe
open Go Go.Proofs
set_option maxRecDepth 16000
set_option maxHeartbeats 1000000

section
variable {h : Heap} {v : Ver} {A B : Option Addr} {a b : Nat}
@[go_sem ↓ high] theorem fill3i {k k1 k2 : IntKind} {x y z : Int} {u v w : Value} : Instr.fill (fun i => some (i * 1, 1)) #[u, v, w] [(0, .int k x), (1, .int k1 y), (2, .int k2 z)] = some #[.int k x, .int k1 y, .int k2 z] := rfl
@[go_sem ↓ high] theorem fill3s {x y z : List UInt8} {u v w : Value} : Instr.fill (fun i => some (i * 1, 1)) #[u, v, w] [(0, S x), (1, S y), (2, S z)] = some #[S x, S y, S z] := rfl
theorem Fr.gb {b : Nat} {h h' : Heap} (f : Gr h h') : Gb b h h' := f.mono fun _ _ hf => hf.elim
/-- up to a new builder, and from there on -/
theorem Fr.upto {N : Nat} {h h1 h' : Heap} (f : Gr h h1) (g : Gb N h1 h') (hn : h.size ≤ N) : Gr h h' := f.trans' g fun y hy he => by omega
def pfx (v : Ver) : Nat → List UInt8
  | 0 => []
  | 1 => Lib.decDigits v.maj
  | 2 => Lib.decDigits v.maj ++ 46 :: Lib.decDigits v.min
  | _ => Lib.decDigits v.maj ++ 46 :: (Lib.decDigits v.min ++ 46 :: Lib.decDigits v.pat)

theorem vtextP_ok (G : Glob h) (V : VerR h v A a B b) (hg : (verText v).length ≤ 2 ^ 39) : CallsH Tryz.prog 47 [verV v A a B b] h fun r h' => r = S (verText v) ∧ Gr h h' := by
  obtain ⟨ma, mi, pa, pre, bu⟩ := v
  have V1 := V.m1; have V2 := V.m2; have V3 := V.m3
  simp only at V1 V2 V3
  have d1 := decDigits_le V1; have d2 := decDigits_le V2; have d3 := decDigits_le V3
  have hT : verText ⟨ma, mi, pa, pre, bu⟩ = pfx ⟨ma, mi, pa, pre, bu⟩ 3 ++ (tailT 45 pre ++ tailT 43 bu) := by
    unfold verText pfx; simp
  rw [hT] at hg ⊢
  simp only [List.length_append] at hg
  have hpl : ∀ i, (pfx ⟨ma, mi, pa, pre, bu⟩ i).length ≤ 62 := fun i => by
    match i with
    | 0 => simp [pfx]
    | 1 => simp only [pfx]; omega
    | 2 => simp only [pfx, List.length_append, List.length_cons]; omega
    | i + 3 => simp only [pfx, List.length_append, List.length_cons]; omega
  have hs := G.size
  refine calls_of 43 [.tmp 2] Go.Proofs.Tryz.func47 rfl rfl rfl ?_
  unfold verV verC
  simp -implicitDefEqProofs (disch := first | omega | (simp only [push_size, hset_size]; done) | (simp only [push_size, hset_size]; omega)) [go_sem]
  obtain ⟨H, hH⟩ : ∃ H, H = h.push (.cells #[.int .u64 ma, .int .u64 mi, .int .u64 pa, .slice A pre.length a, .slice B bu.length b] 98) := ⟨_, rfl⟩
  have hlt : H.size = h.size + 1 := by rw [hH, push_size]
  obtain ⟨K, hK⟩ : ∃ K, K = H.push (.cells #[.pointer none, .slice none 0 0] 61) := ⟨_, rfl⟩
  rw [← hH, ← hK]
  have f0 : Gr h K := by rw [hK, hH]; exact (Fr.refl _ _).push.push
  have B0 : Bld (h.size + 1) [] K := by rw [← hlt, hK]; exact Bld.new
  have b3 : hcell K ⟨h.size, 3, none⟩ = some (.slice A pre.length a) := by rw [hK, hcell_push_old (by omega), hH]; exact hcell_push_lit
  have b4 : hcell K ⟨h.size, 4, none⟩ = some (.slice B bu.length b) := by rw [hK, hcell_push_old (by omega), hH]; exact hcell_push_lit
  have hKs : h.size + 2 ≤ K.size := by rw [hK, push_size]; omega
  clear hH hK
  refine loopK (fun ρ h' => ρ 1 = .pointer (some ⟨h.size, 0, none⟩) ∧ ρ 3 = .pointer (some ⟨h.size + 1, 0, none⟩) ∧ ρ 12 = .agg #[.int .u64 ma, .int .u64 mi, .int .u64 pa] ∧ Gb (h.size + 1) K h' ∧ ∃ i : Nat, ρ 13 = .int .i64 i ∧ i ≤ 3 ∧ Bld (h.size + 1) (pfx ⟨ma, mi, pa, pre, bu⟩ i) h') (fun ρ _ => 3 - (intOf (ρ 13)).toNat) (by kernel_rfl) ?_ ?_
  · exact ⟨rfl, by simp [put, hlt], rfl, Fr.refl _ _, 0, rfl, by omega, B0⟩
  · rintro ρ h1 ⟨r1, r3, r12, f1, i, r13, hi, B1⟩
    have G1 : Glob h1 := (G.gr f0).gb f1 (by omega)
    have o3 : hcell h1 ⟨h.size, 3, none⟩ = some (.slice A pre.length a) := (f1.cell (by omega) (by omega)).trans b3
    have o4 : hcell h1 ⟨h.size, 4, none⟩ = some (.slice B bu.length b) := (f1.cell (by omega) (by omega)).trans b4
    by_cases hi3 : i < 3
    · rcases (show i = 0 ∨ i = 1 ∨ i = 2 by omega) with rfl | rfl | rfl
      · simp -implicitDefEqProofs (disch := first | omega | (simp only [push_size, hset_size]; done) | (simp only [push_size, hset_size]; omega)) [go_sem, r1, r3, r12, r13]
        refine useC (numText_ok G1 ma V1) ?_
        rintro _ h2 ⟨rfl, f2⟩
        simp -implicitDefEqProofs (disch := first | omega | (simp only [push_size, hset_size]; done) | (simp only [push_size, hset_size]; omega)) [go_sem, r1, r3, r12, r13]
        refine useC (writeString_ok (B1.gr f2) (Lib.decDigits ma) (by have := hpl 0; omega)) ?_
        rintro v h3 ⟨B3, f3⟩
        simp -implicitDefEqProofs (disch := first | omega | (simp only [push_size, hset_size]; done) | (simp only [push_size, hset_size]; omega)) [go_sem, r1, r3, r12, r13]
        exact ⟨(f1.trans f2.gb).trans f3, 1, by omega, by omega, B3⟩
      · simp -implicitDefEqProofs (disch := first | omega | (simp only [push_size, hset_size]; done) | (simp only [push_size, hset_size]; omega)) [go_sem, r1, r3, r12, r13]
        refine useC (writeByte_ok B1 46 (by have := hpl 1; omega)) ?_
        rintro _ h2 ⟨B2, f2⟩
        simp -implicitDefEqProofs (disch := first | omega | (simp only [push_size, hset_size]; done) | (simp only [push_size, hset_size]; omega)) [go_sem, r1, r3, r12, r13]
        refine useC (numText_ok (G1.gb f2 (by omega)) mi V2) ?_
        rintro _ h3 ⟨rfl, f3⟩
        simp -implicitDefEqProofs (disch := first | omega | (simp only [push_size, hset_size]; done) | (simp only [push_size, hset_size]; omega)) [go_sem, r1, r3, r12, r13]
        refine useC (writeString_ok (B2.gr f3) (Lib.decDigits mi) (by have := hpl 1; rw [List.length_append]; simp only [List.length_cons, List.length_nil]; omega)) ?_
        rintro v h4 ⟨B4, f4⟩
        simp -implicitDefEqProofs (disch := first | omega | (simp only [push_size, hset_size]; done) | (simp only [push_size, hset_size]; omega)) [go_sem, r1, r3, r12, r13]
        refine ⟨((f1.trans f2).trans f3.gb).trans f4, 2, by omega, by omega, ?_⟩
        have e : pfx ⟨ma, mi, pa, pre, bu⟩ 1 ++ [46] ++ Lib.decDigits mi = pfx ⟨ma, mi, pa, pre, bu⟩ 2 := by simp [pfx]
        rw [← e]; exact B4
      · simp -implicitDefEqProofs (disch := first | omega | (simp only [push_size, hset_size]; done) | (simp only [push_size, hset_size]; omega)) [go_sem, r1, r3, r12, r13]
        refine useC (writeByte_ok B1 46 (by have := hpl 2; omega)) ?_
        rintro _ h2 ⟨B2, f2⟩
        simp -implicitDefEqProofs (disch := first | omega | (simp only [push_size, hset_size]; done) | (simp only [push_size, hset_size]; omega)) [go_sem, r1, r3, r12, r13]
        refine useC (numText_ok (G1.gb f2 (by omega)) pa V3) ?_
        rintro _ h3 ⟨rfl, f3⟩
        simp -implicitDefEqProofs (disch := first | omega | (simp only [push_size, hset_size]; done) | (simp only [push_size, hset_size]; omega)) [go_sem, r1, r3, r12, r13]
        refine useC (writeString_ok (B2.gr f3) (Lib.decDigits pa) (by have := hpl 2; rw [List.length_append]; simp only [List.length_cons, List.length_nil]; omega)) ?_
        rintro v h4 ⟨B4, f4⟩
        simp -implicitDefEqProofs (disch := first | omega | (simp only [push_size, hset_size]; done) | (simp only [push_size, hset_size]; omega)) [go_sem, r1, r3, r12, r13]
        refine ⟨((f1.trans f2).trans f3.gb).trans f4, 3, by omega, by omega, ?_⟩
        have e : pfx ⟨ma, mi, pa, pre, bu⟩ 2 ++ [46] ++ Lib.decDigits pa = pfx ⟨ma, mi, pa, pre, bu⟩ 3 := by simp [pfx]
        rw [← e]; exact B4
    · have e : i = 3 := by omega
      subst e
      simp -implicitDefEqProofs (disch := first | omega | (simp only [push_size, hset_size]; done) | (simp only [push_size, hset_size]; omega)) [go_sem, r1, r3, r12, r13, o3, o4]
      have V4 := (V.gr f0)
      have V5 : VerR h1 ⟨ma, mi, pa, pre, bu⟩ A a B b := V.gr (f0.upto f1 (by omega))
      have t1 : pre ≠ [] → tailT 45 pre = 45 :: glue 46 pre := fun h => if_neg h
      have t2 : bu ≠ [] → tailT 43 bu = 43 :: glue 46 bu := fun h => if_neg h
      have t3 : tailT 45 [] = [] := rfl
      have t4 : tailT 43 [] = [] := rfl
      have h62 := hpl 3
      have fin : ∀ {h' : Heap} {l : List UInt8}, Gb (h.size + 1) K h' → Bld (h.size + 1) l h' → l = pfx ⟨ma, mi, pa, pre, bu⟩ 3 ++ (tailT 45 pre ++ tailT 43 bu) → CallsH Tryz.prog 22 [.pointer (some ⟨h.size + 1, 0, none⟩)] h' fun r h'' => r = S (pfx ⟨ma, mi, pa, pre, bu⟩ 3 ++ (tailT 45 pre ++ tailT 43 bu)) ∧ Gr h h'' := fun f B e => by
        refine (string_ok B).mono ?_
        rintro _ h2 ⟨rfl, _, f2⟩
        exact ⟨by rw [e], f0.upto (f.trans f2) (by omega)⟩
      by_cases h1 : pre = []
      · by_cases h2 : bu = []
        · subst h1 h2
          simp -implicitDefEqProofs (disch := first | omega | (simp only [push_size, hset_size]; done) | (simp only [push_size, hset_size]; omega)) [go_sem, r1, r3, r12, r13, o3, o4]
          refine useC (fin f1 B1 (by rw [t3, t4]; simp)) ?_
          rintro _ h6 ⟨rfl, f6⟩
          simp -implicitDefEqProofs (disch := first | omega | (simp only [push_size, hset_size]; done) | (simp only [push_size, hset_size]; omega)) [go_sem]
          exact f6
        · have hb : 0 < bu.length := List.length_pos_iff.2 h2
          have hg2 := hg
          rw [t2 h2, List.length_cons] at hg2
          have C := textP_ok (cp := b) V5.build rfl V.cb V.lb (by simp only at hg2 ⊢; omega)
          subst h1
          simp -implicitDefEqProofs (disch := first | omega | (simp only [push_size, hset_size]; done) | (simp only [push_size, hset_size]; omega)) [go_sem, r1, r3, r12, r13, o3, o4]
          refine useC C ?_
          rintro _ h5 ⟨rfl, f5⟩
          simp -implicitDefEqProofs (disch := first | omega | (simp only [List.length_append, List.length_cons, List.length_nil]; omega)) [go_sem, r1, r3, r12, r13, o3, o4]
          refine useC (writeString_ok (B1.gr f5) (43 :: glue 46 bu) (by simp only [List.length_cons]; omega)) ?_
          rintro v h6 ⟨B6, f6⟩
          simp -implicitDefEqProofs (disch := first | omega | (simp only [push_size, hset_size]; done) | (simp only [push_size, hset_size]; omega)) [go_sem, r1, r3, r12, r13, o3, o4]
          refine useC (fin ((f1.trans f5.gb).trans f6) B6 (by rw [t3, t2 h2]; simp)) ?_
          rintro _ h7 ⟨rfl, f7⟩
          simp -implicitDefEqProofs (disch := first | omega | (simp only [push_size, hset_size]; done) | (simp only [push_size, hset_size]; omega)) [go_sem]
          exact f7
      · have ha : 0 < pre.length := List.length_pos_iff.2 h1
        have hg2 := hg
        rw [t1 h1, List.length_cons] at hg2
        have C := textP_ok (cp := a) V5.pre rfl V.ca V.la (by simp only at hg2 ⊢; omega)
        simp -implicitDefEqProofs (disch := first | omega | (simp only [push_size, hset_size]; done) | (simp only [push_size, hset_size]; omega)) [go_sem, r1, r3, r12, r13, o3, o4]
        refine useC C ?_
        rintro _ h5 ⟨rfl, f5⟩
        simp -implicitDefEqProofs (disch := first | omega | (simp only [List.length_append, List.length_cons, List.length_nil]; omega)) [go_sem, r1, r3, r12, r13, o3, o4]
        refine useC (writeString_ok (B1.gr f5) (45 :: glue 46 pre) (by simp only [List.length_cons]; omega)) ?_
        rintro v h6 ⟨B6, f6⟩
        have f16 := (f1.trans f5.gb).trans f6
        have q4 : hcell h6 ⟨h.size, 4, none⟩ = some (.slice B bu.length b) := (f16.cell (by omega) (by omega)).trans b4
        by_cases h2 : bu = []
        · subst h2
          simp -implicitDefEqProofs (disch := first | omega | (simp only [push_size, hset_size]; done) | (simp only [push_size, hset_size]; omega)) [go_sem, r1, r3, r12, r13, q4]
          refine useC (fin f16 B6 (by rw [t1 h1, t4]; simp)) ?_
          rintro _ h7 ⟨rfl, f7⟩
          simp -implicitDefEqProofs (disch := first | omega | (simp only [push_size, hset_size]; done) | (simp only [push_size, hset_size]; omega)) [go_sem]
          exact f7
        · have hb : 0 < bu.length := List.length_pos_iff.2 h2
          rw [t2 h2, List.length_cons] at hg2
          have V6 : VerR h6 ⟨ma, mi, pa, pre, bu⟩ A a B b := V.gr (f0.upto f16 (by omega))
          have C := textP_ok (cp := b) V6.build rfl V.cb V.lb (by simp only at hg2 ⊢; omega)
          simp -implicitDefEqProofs (disch := first | omega | (simp only [push_size, hset_size]; done) | (simp only [push_size, hset_size]; omega)) [go_sem, r1, r3, r12, r13, q4]
          refine useC C ?_
          rintro _ h7 ⟨rfl, f7⟩
          simp -implicitDefEqProofs (disch := first | omega | (simp only [List.length_append, List.length_cons, List.length_nil]; omega)) [go_sem, r1, r3, r12, r13]
          refine useC (writeString_ok (B6.gr f7) (43 :: glue 46 bu) (by simp only [List.length_append, List.length_cons]; omega)) ?_
          rintro v h8 ⟨B8, f8⟩
          simp -implicitDefEqProofs (disch := first | omega | (simp only [push_size, hset_size]; done) | (simp only [push_size, hset_size]; omega)) [go_sem, r1, r3, r12, r13]
          refine useC (fin ((f16.trans f7.gb).trans f8) B8 (by rw [t1 h1, t2 h2]; simp)) ?_
          rintro _ h9 ⟨rfl, f9⟩
          simp -implicitDefEqProofs (disch := first | omega | (simp only [push_size, hset_size]; done) | (simp only [push_size, hset_size]; omega)) [go_sem]
          exact f9
end
end Xe

/- Pins: in memory; which are right; their texts. -/
namespace Xe
open Go Go.Proofs
set_option maxRecDepth 16000
set_option maxHeartbeats 1000000

/-- pins in memory -/
structure PinsR (h : Heap) (A : Option Addr) (ps : List PinS) : Prop where
  at' : ∀ (i : Nat) p, ps[i]? = some p → ∃ bk off C c D d, A = some ⟨bk, off, none⟩ ∧ hcell h ⟨bk, off + i * 6, none⟩ = some (S p.name) ∧ hcell h ⟨bk, off + i * 6 + 1, none⟩ = some (.int .u64 p.v.maj) ∧
    hcell h ⟨bk, off + i * 6 + 2, none⟩ = some (.int .u64 p.v.min) ∧ hcell h ⟨bk, off + i * 6 + 3, none⟩ = some (.int .u64 p.v.pat) ∧
    hcell h ⟨bk, off + i * 6 + 4, none⟩ = some (.slice C p.v.pre.length c) ∧ hcell h ⟨bk, off + i * 6 + 5, none⟩ = some (.slice D p.v.build.length d) ∧ VerR h p.v C c D d
theorem PinsR.nil {h : Heap} {A : Option Addr} : PinsR h A [] := ⟨fun i p hp => by simp at hp⟩
theorem PinsR.gr {h h' : Heap} {A : Option Addr} {ps : List PinS} (R : PinsR h A ps) (f : Gr h h') : PinsR h' A ps := ⟨fun i p hp => by
  obtain ⟨bk, off, C, c, D, d, e, c0, c1, c2, c3, c4, c5, V⟩ := R.at' i p hp
  have g : ∀ o v, hcell h ⟨bk, o, none⟩ = some v → hcell h' ⟨bk, o, none⟩ = some v := fun o v hv => (f.cell (hcell_lt hv) id).trans hv
  exact ⟨bk, off, C, c, D, d, e, g _ _ c0, g _ _ c1, g _ _ c2, g _ _ c3, g _ _ c4, g _ _ c5, V.gr f⟩⟩

theorem pinsOk_snoc (l : List PinS) (p : PinS) : pinsOk (l ++ [p]) = (pinsOk l && (nameOk p.name && verOk p.v && decide (p.name ∉ l.map PinS.name))) := by
  unfold pinsOk
  rw [Bool.eq_iff_iff]
  simp only [List.all_append, List.map_append, List.nodup_append, Bool.and_eq_true, decide_eq_true_eq, List.all_cons, List.all_nil, Bool.and_true, List.map_cons, List.map_nil, List.mem_singleton]
  constructor
  · rintro ⟨⟨h1, h2⟩, h3, _, h4⟩
    exact ⟨⟨h1, h3⟩, h2, fun hm => h4 _ hm _ rfl rfl⟩
  · rintro ⟨⟨h1, h3⟩, h2, h4⟩
    refine ⟨⟨h1, h2⟩, h3, by simp, fun a ha b hb e => ?_⟩
    subst hb
    exact h4 (e ▸ ha)
theorem pinsOk_take {l : List PinS} {i : Nat} (h : pinsOk (l.take i) = false) : pinsOk l = false := by
  cases hl : pinsOk l with
  | false => rfl
  | true =>
    exfalso
    unfold pinsOk at h hl
    simp only [Bool.and_eq_true, decide_eq_true_eq, List.all_eq_true] at hl
    have h1 : (l.take i).all (fun p => nameOk p.name && verOk p.v) = true := List.all_eq_true.2 fun x hx => by simpa using hl.1 x (List.mem_of_mem_take hx)
    have h2 : ((l.take i).map PinS.name).Nodup := by rw [List.map_take]; exact hl.2.sublist (List.take_sublist _ _)
    rw [h1, decide_eq_true h2] at h
    cases h
theorem pinsOk_step {l : List PinS} {i : Nat} {p : PinS} (hp : l[i]? = some p) : pinsOk (l.take (i + 1)) = (pinsOk (l.take i) && (nameOk p.name && verOk p.v && decide (p.name ∉ (l.take i).map PinS.name))) := by
  rw [List.take_add_one, hp]
  exact pinsOk_snoc _ _
/-- up to here all is right -/
def PinsTo (l : List PinS) (i : Nat) : Prop := pinsOk (l.take i) = true
theorem PinsTo.zero {l : List PinS} : PinsTo l 0 := by show pinsOk ([] : List PinS) = true; decide
theorem PinsTo.bad1 {l : List PinS} {i : Nat} {p : PinS} (hp : l[i]? = some p) (h : nameOk p.name = false) : pinsOk l = false := pinsOk_take (i := i + 1) (by rw [pinsOk_step hp, h]; simp)
theorem PinsTo.bad2 {l : List PinS} {i : Nat} {p : PinS} (hp : l[i]? = some p) (h : verOk p.v = false) : pinsOk l = false := pinsOk_take (i := i + 1) (by rw [pinsOk_step hp, h]; simp)
theorem PinsTo.bad3 {l : List PinS} {i : Nat} {p : PinS} (hp : l[i]? = some p) (h : p.name ∈ (l.take i).map PinS.name) : pinsOk l = false := pinsOk_take (i := i + 1) (by rw [pinsOk_step hp, decide_eq_false (fun g => g h)]; simp)
theorem PinsTo.next {l : List PinS} {i : Nat} {p : PinS} (I : PinsTo l i) (hp : l[i]? = some p) (h1 : nameOk p.name = true) (h2 : verOk p.v = true) (h3 : p.name ∉ (l.take i).map PinS.name) : PinsTo l (i + 1) := by
  unfold PinsTo at I ⊢
  rw [pinsOk_step hp, I, h1, h2, decide_eq_true h3]; rfl
theorem PinsTo.fin {l : List PinS} (I : PinsTo l l.length) : pinsOk l = true := by unfold PinsTo at I; rwa [List.take_length] at I
/-- what is told of pins: a place, and an error's number, which is 0 just where all is right -/
def PinsE (l : List PinS) (r : Value) : Prop := ∃ a e : Int, r = .tuple #[.int .i64 a, .int .i64 e] ∧ (e = 0 ↔ pinsOk l = true)
theorem PinsE.bad {l : List PinS} {a e : Int} (h : pinsOk l = false) (he : e ≠ 0) : PinsE l (.tuple #[.int .i64 a, .int .i64 e]) := ⟨a, e, rfl, fun h0 => absurd h0 he, fun h1 => by rw [h] at h1; cases h1⟩
theorem PinsE.good {l : List PinS} {a : Int} (h : pinsOk l = true) : PinsE l (.tuple #[.int .i64 a, .int .i64 0]) := ⟨a, 0, rfl, fun _ => h, fun _ => rfl⟩

section
variable {h : Heap} {A B : Option Addr} {n m c d : Nat} {ps qs : List PinS}
theorem rpins09_ok (R : PinsR h A ps) (hn : n = ps.length) (hl : n < 2 ^ 40) (hb : ∀ p ∈ ps, p.name.length < 2 ^ 40) : CallsH Tryz.prog 16 [.slice A n c] h fun r h' => PinsE ps r ∧ Gr h h' := by
  subst hn
  refine calls_of 45 [.tmp 2, .tmp 3] Go.Proofs.Tryz.func16 rfl rfl rfl ?_
  simp -implicitDefEqProofs (disch := omega) [go_sem]
  refine loopK (fun ρ h' => ρ 0 = .slice A ps.length c ∧ Gr h h' ∧ ∃ i : Nat, ρ 4 = .int .i64 i ∧ i ≤ ps.length ∧ PinsTo ps i) (fun ρ _ => ps.length - (intOf (ρ 4)).toNat) (by kernel_rfl) ?_ ?_
  · exact ⟨rfl, Fr.refl _ _, 0, rfl, by omega, .zero⟩
  · rintro ρ h1 ⟨r0, f1, i, r4, hi, I⟩
    by_cases hil : i < ps.length
    · obtain ⟨p, hp⟩ : ∃ p, ps[i]? = some p := ⟨_, List.getElem?_eq_getElem hil⟩
      obtain ⟨bk, off, C, cc, D, dd, rfl, c0, c1, c2, c3, c4, c5, V⟩ := (R.gr f1).at' i p hp
      simp -implicitDefEqProofs (disch := omega) [go_sem, r0, r4, c0]
      refine useC (good08_ok p.name (hb p (List.mem_of_getElem? hp))) ?_
      rintro _ h2 ⟨rfl, rfl⟩
      cases hn1 : nameOk p.name with
      | false =>
        simp -implicitDefEqProofs (disch := omega) [go_sem, r0, r4]
        exact ⟨(.bad (PinsTo.bad1 hp hn1) (by decide)), f1⟩
      | true =>
        simp -implicitDefEqProofs (disch := omega) [go_sem, r0, r4, c1, c2, c3, c4, c5]
        refine useC (vgood03_ok V) ?_
        rintro _ h3 ⟨rfl, f3⟩
        cases hv : verOk p.v with
        | false =>
          simp -implicitDefEqProofs (disch := omega) [go_sem, r0, r4]
          exact ⟨(.bad (PinsTo.bad2 hp hv) (by decide)), f1.trans f3⟩
        | true =>
          simp -implicitDefEqProofs (disch := omega) [go_sem, r0, r4]
          have f13 := f1.trans f3
          have R3 := R.gr f13
          refine loopK (fun ρ h' => ρ 0 = .slice (some ⟨bk, off, none⟩) ps.length c ∧ h' = h3 ∧ ρ 4 = .int .i64 i ∧ ∃ j : Nat, ρ 5 = .int .i64 j ∧ j ≤ i ∧ ∀ (k : Nat) q, k < j → ps[k]? = some q → q.name ≠ p.name) (fun ρ _ => i - (intOf (ρ 5)).toNat) (by kernel_rfl) ?_ ?_
          · exact ⟨by simp [put, r0], rfl, by simp [put, r4], 0, rfl, by omega, fun k q hk => by omega⟩
          · rintro ρ' h' ⟨s0, rfl, s4, j, s5, hj, hd⟩
            by_cases hji : j < i
            · obtain ⟨q, hq⟩ : ∃ q, ps[j]? = some q := ⟨_, List.getElem?_eq_getElem (by omega)⟩
              obtain ⟨bk', off', _, _, _, _, e1, g0, _⟩ := R3.at' j q hq
              cases e1
              obtain ⟨bk', off', _, _, _, _, e1, k0, _⟩ := R3.at' i p hp
              cases e1
              simp -implicitDefEqProofs (disch := omega) [go_sem, s0, s4, s5]
              refine drawC [(0, 0), (1, 0), (2, 0), (3, 0), (4, 1), (5, 0), (6, 0), (7, 0), (8, 0), (9, 1), (10, 0)] (Eq h') rfl ?_
              simp -implicitDefEqProofs (disch := omega) [go_sem, s0, s4, s5, g0, k0]
              by_cases e : q.name = p.name
              · simp -implicitDefEqProofs (disch := omega) [go_sem, s0, s4, s5, e]
                exact ⟨(.bad (PinsTo.bad3 hp (List.mem_map.2 ⟨q, List.mem_of_getElem? (by rw [List.getElem?_take, if_pos hji]; exact hq), e⟩)) (by decide)), f13⟩
              · simp -implicitDefEqProofs (disch := omega) [go_sem, s0, s4, s5, e]
                refine ⟨⟨j + 1, by omega, by omega, fun k x hk hx => ?_⟩, by omega⟩
                by_cases ek : k = j
                · subst ek; rw [hq] at hx; rw [← Option.some.inj hx]; exact e
                · exact hd k x (by omega) hx
            · have e : j = i := by omega
              subst e
              simp -implicitDefEqProofs (disch := omega) [go_sem, r4, s0, s4, s5]
              refine ⟨⟨f13, j + 1, by omega, by omega, I.next hp hn1 hv fun hm => ?_⟩, by omega⟩
              obtain ⟨q, hq, eq⟩ := List.mem_map.1 hm
              obtain ⟨k, hk⟩ := List.getElem?_of_mem hq
              rw [List.getElem?_take] at hk
              split at hk
              · exact hd k q (by assumption) hk eq
              · cases hk
    · have e : i = ps.length := by omega
      subst e
      simp -implicitDefEqProofs (disch := omega) [go_sem, r0, r4]
      exact ⟨.good I.fin, f1⟩
end
end Xe

/- Are two rows of pins the same? -/
namespace Xe
open Go Go.Proofs
set_option maxRecDepth 16000
set_option maxHeartbeats 1000000
section
variable {h : Heap} {A B : Option Addr} {n m c d : Nat} {ps qs : List PinS}
theorem pins_eq {ps qs : List PinS} (hl : ps.length = qs.length) (hd : ∀ (k : Nat) p q, ps[k]? = some p → qs[k]? = some q → p = q) : ps = qs := by
  apply List.ext_getElem? 
  intro k
  by_cases hk : k < ps.length
  · rw [List.getElem?_eq_getElem hk, List.getElem?_eq_getElem (by omega)]
    exact congrArg some (hd k _ _ (List.getElem?_eq_getElem hk) (List.getElem?_eq_getElem (by omega)))
  · rw [List.getElem?_eq_none (by omega), List.getElem?_eq_none (by omega)]
theorem pins28_ok (R : PinsR h A ps) (R' : PinsR h B qs) (hn : n = ps.length) (hm : m = qs.length) (hl : n < 2 ^ 40) (hl' : m < 2 ^ 40) :
    CallsH Tryz.prog 36 [.slice A n c, .slice B m d] h fun r h' => r = .bool (decide (ps = qs)) ∧ Gr h h' := by
  subst hn hm
  refine calls_of 42 [.tmp 4] Go.Proofs.Tryz.func36 rfl rfl rfl ?_
  by_cases hll : ps.length = qs.length
  · simp -implicitDefEqProofs (disch := omega) [go_sem, hll]
    rw [← hll]
    refine loopK (fun ρ h' => ρ 0 = .slice A ps.length c ∧ ρ 1 = .slice B ps.length d ∧ Gr h h' ∧ ∃ i : Nat, ρ 5 = .int .i64 i ∧ i ≤ ps.length ∧ ∀ (k : Nat) p q, k < i → ps[k]? = some p → qs[k]? = some q → p = q) (fun ρ _ => ps.length - (intOf (ρ 5)).toNat) (by kernel_rfl) ?_ ?_
    · exact ⟨rfl, rfl, Fr.refl _ _, 0, rfl, by omega, fun k p q hk => by omega⟩
    · rintro ρ h1 ⟨r0, r1, f1, i, r5, hi, hd⟩
      by_cases hil : i < ps.length
      · obtain ⟨p, hp⟩ : ∃ p, ps[i]? = some p := ⟨_, List.getElem?_eq_getElem hil⟩
        obtain ⟨q, hq⟩ : ∃ q, qs[i]? = some q := ⟨_, List.getElem?_eq_getElem (by omega)⟩
        obtain ⟨bk, off, C, cc, D, dd, rfl, c0, c1, c2, c3, c4, c5, V⟩ := (R.gr f1).at' i p hp
        obtain ⟨bk', off', C', cc', D', dd', rfl, d0, d1, d2, d3, d4, d5, V'⟩ := (R'.gr f1).at' i q hq
        simp -implicitDefEqProofs (disch := omega) [go_sem, r0, r1, r5]
        refine drawC [(0, 0), (1, 0), (2, 0), (3, 0), (4, 1), (5, 0), (6, 0), (7, 0), (8, 0), (9, 1), (10, 0), (11, 0), (12, 0), (13, 0), (14, 0), (15, 0), (16, 1), (17, 0), (18, 0), (19, 0), (20, 0), (21, 1), (22, 3), (23, 0), (24, 0)] (fun h' => Gr h1 h') (Fr.refl _ _) ?_
        by_cases e : p.name = q.name
        · rw [← e] at d0
          simp -implicitDefEqProofs (disch := omega) [go_sem, r0, r1, r5, c0, d0, c1, c2, c3, c4, c5, d1, d2, d3, d4, d5]
          refine useC (vsame03_ok V V') ?_
          rintro _ h2 ⟨rfl, f2⟩
          refine ⟨f2, ?_⟩
          by_cases e2 : p.v = q.v
          · simp -implicitDefEqProofs (disch := omega) [go_sem, r0, r1, r5, e2]
            refine ⟨⟨f1.trans f2, i + 1, by omega, by omega, fun k x y hk hx hy => ?_⟩, by omega⟩
            by_cases ek : k = i
            · subst ek
              rw [hp] at hx; rw [hq] at hy
              rw [← Option.some.inj hx, ← Option.some.inj hy]
              cases p; cases q; simp_all
            · exact hd k x y (by omega) hx hy
          · simp -implicitDefEqProofs (disch := omega) [go_sem, r0, r1, r5, e2]
            refine ⟨fun e3 => e2 ?_, f1.trans f2⟩
            subst e3
            rw [hp] at hq
            rw [Option.some.inj hq]
        · simp -implicitDefEqProofs (disch := omega) [go_sem, r0, r1, r5, c0, d0, e]
          refine ⟨fun e3 => e ?_, f1⟩
          subst e3
          rw [hp] at hq
          rw [Option.some.inj hq]
      · have e : i = ps.length := by omega
        subst e
        simp -implicitDefEqProofs (disch := omega) [go_sem, r0, r1, r5]
        exact ⟨pins_eq hll fun k p q hp hq => hd k p q (by
          have := (List.getElem?_eq_some_iff.1 hp).1; omega) hp hq, f1⟩
  · simp -implicitDefEqProofs (disch := omega) [go_sem, hll]
    exact ⟨fun e => hll (by rw [e]), Fr.refl _ _⟩
end
end Xe
