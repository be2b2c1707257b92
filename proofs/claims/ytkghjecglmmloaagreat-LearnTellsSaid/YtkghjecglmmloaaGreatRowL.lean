/- clause.Models, walked. -/
import Derived.Test.YtkghjecglmmloaaGreatL12
import Derived.Test.YtkghjecglmmloaaGreatWP4
namespace Xe
open Go Tp Go.Proofs
set_option maxRecDepth 16000
set_option maxHeartbeats 1000000

/-- rows of truths, one's own -/
structure RowsB (h : Heap) (N : Nat) (A : Option Addr) (cap : Nat) (ms : List (List Bool)) (vs : List Value) (b6 : Nat) : Prop where
  S : SlAt h A cap vs
  len : vs.length = ms.length
  own : ∀ y, blk A y → N ≤ y ∧ y ≠ b6
  one : ∀ w ∈ vs, w.oneCell' = true
  at' : ∀ (i : Nat) bs, ms[i]? = some bs → ∃ B d, vs[i]? = some (Value.slice B bs.length d) ∧ RowAt h B (bools bs) ∧ ∀ y, blk B y → y < h.size ∧ y ≠ b6 ∧ ¬ blk A y
theorem RowsB.fr {h : Heap} {N : Nat} {A : Option Addr} {cap : Nat} {ms : List (List Bool)} {vs : List Value} {b6 : Nat} (R : RowsB h N A cap ms vs b6) {h' : Heap} (f : Fr (fun y => y = b6) h h') : RowsB h' N A cap ms vs b6 where
  S := R.S.fr f fun y hy => (R.own y hy).2
  len := R.len
  own := R.own
  one := R.one
  at' i k hk := by
    obtain ⟨B, c, h1, h2, h3⟩ := R.at' i k hk
    exact ⟨B, c, h1, h2.fr f fun y hy => (h3 y hy).2.1, fun y hy => ⟨Nat.lt_of_lt_of_le (h3 y hy).1 f.size, (h3 y hy).2⟩⟩

/-- what Models gives -/
def ModR (N : Nat) (h' : Heap) (r : Value) (vars : Nat) (Ks : List (List Int)) : Prop := ∃ R ms d vs b6, r = .slice R (ms : List (List Bool)).length d ∧ RowsB h' N R d ms vs b6 ∧ ms.length ≤ 4096 ∧ ∀ bs ∈ ms, bs.length = vars ∧ ∀ K ∈ Ks, holdB bs K = true
/-- what stands at Models' label -/
structure MJ (h0 : Heap) (A : Option Addr) (c : Nat) (Ks : List (List Int)) (vars b6 : Nat) (m : Nat) (ρ : Env) (h : Heap) : Prop where
  r0 : ρ 0 = .slice A Ks.length c
  r1 : ρ 1 = .int .i64 vars
  r6 : ρ 6 = .pointer (some ⟨b6, 0, none⟩)
  n : ∃ n : Nat, ρ 7 = .int .i64 n ∧ n < 2 ^ vars ∧ m = 2 ^ vars - n
  out : ∃ R ms d vs, ρ 5 = .slice R ms.length d ∧ RowsB h h0.size R d ms vs b6 ∧ ms.length + m ≤ 2 ^ vars ∧ ∀ bs ∈ ms, bs.length = vars ∧ ∀ K ∈ Ks, holdB bs K = true
  bits : ∃ bs : List Bool, bs.length = 12 ∧ ListB h b6 (bools bs)
  fr : Fr (fun _ => False) h0 h
  hb : h0.size ≤ b6

section
variable {h : Heap} {A : Option Addr} {n c : Nat}
theorem cloneB_ok {cap : Nat} {vs : List Value} (R : RowAt h A vs) (hn : n = vs.length) (hone : ∀ w ∈ vs, w.oneCell' = true) (hl : n < 2 ^ 40) :
    CallsH Tryz.prog 71 [.slice A n cap] h fun r h' => ∃ A' c', r = .slice A' n c' ∧ SlAt h' A' c' vs ∧ (∀ x, blk A' x → h.size ≤ x) ∧ Fr (fun _ => False) h h' := by
  subst hn
  refine calls_of 8 [.tmp 2] Go.Proofs.Tryz.func71 rfl rfl rfl (by kernel_rfl) (Nat.le_of_ble_eq_true rfl) ?_
  cases A with
  | none =>
    have hv : vs = [] := by
      rcases R with h | ⟨_, _, h, _⟩
      · exact h
      · cases h
    subst hv
    simp -implicitDefEqProofs (disch := omega) [go_sem]
    exact ⟨none, 0, ⟨rfl, rfl⟩, SlAt.nil _, fun x ⟨_, h, _⟩ => (nomatch h), Fr.refl _ _⟩
  | some a =>
    simp -implicitDefEqProofs (disch := omega) [go_sem]
    refine build0 ?_
    simp -implicitDefEqProofs (disch := omega) [go_sem]
    have f0 : Fr (fun _ => False) h (h.push (.cells #[] 4)) := (Fr.refl _ _).push
    refine appendN (vs := []) (cap := 0) (SlAt.new (vs := []) (e := 4)) rfl (R.fr0 f0) (by omega) (by omega) hone (by omega) (by omega) ?_
    intro A' c' h2 S f hA
    simp -implicitDefEqProofs (disch := omega) [go_sem]
    refine ⟨A', c', ⟨rfl, rfl⟩, ?_, fun x hx => ?_, f0.trans' f fun x hx ⟨a, ha, e⟩ => ?_⟩
    · rw [Nat.mul_one] at S; exact S
    · rcases hA x hx with ⟨a, ha, rfl⟩ | h
      · cases ha; exact Nat.le_refl _
      · rw [push_size] at h; omega
    · cases ha; simp at e; omega

theorem models_ok {Ks : List (List Int)} (R : RowsA h A Ks) (hn : n = Ks.length) (hs : n < 2 ^ 40) {vars : Nat} (hv : vars ≤ 12) (hK : ∀ K ∈ Ks, K.length < 2 ^ 40 ∧ ∀ x ∈ K, x.natAbs ≤ 16777216) :
    CallsH Tryz.prog 17 [.slice A n c, .int .i64 vars] h fun r h' => Fr (fun _ => False) h h' ∧ ModR h.size h' r vars Ks := by
  subst hn
  have hp1 : 1 ≤ 2 ^ vars := Nat.one_le_two_pow
  have hp2 : 2 ^ vars ≤ 4096 := Nat.pow_le_pow_right (n := 2) (by omega) hv
  have esh : IntKind.i64.wrap (1 * 2 ^ min (vars : Int).toNat IntKind.i64.bits) = ((2 ^ vars : Nat) : Int) := by
    have e1 : min (vars : Int).toNat IntKind.i64.bits = vars := by
      show min (vars : Int).toNat 64 = vars
      omega
    rw [e1, Int.one_mul, IntWalk.i64_in _ (by
      have : ((2 : Int) ^ vars) = ((2 ^ vars : Nat) : Int) := by norm_cast
      rw [this]; omega)]
    norm_cast
  have esh' : IntKind.i64.wrap ((2 : Int) ^ vars) = ((2 ^ vars : Nat) : Int) := by
    have : ((2 : Int) ^ vars) = ((2 ^ vars : Nat) : Int) := by norm_cast
    rw [this, IntWalk.i64_in _ (by omega)]
  refine calls_of 49 [.tmp 4] Go.Proofs.Tryz.func17 rfl rfl rfl (by kernel_rfl) (Nat.le_of_ble_eq_true rfl) ?_
  simp -implicitDefEqProofs (disch := omega) [go_sem]
  refine scopeMG 0 (MJ h A c Ks vars h.size) rfl rfl (by kernel_rfl) ?_ ?_
  · simp -implicitDefEqProofs (disch := omega) [go_sem]
    refine ⟨2 ^ vars, rfl, rfl, rfl, ⟨0, rfl, by omega, rfl⟩, ⟨none, [], 0, [], rfl, ⟨SlAt.nil _, rfl, fun y ⟨_, h, _⟩ => (nomatch h), fun w hw => (nomatch hw), fun i bs h => by simp at h⟩, by simp, fun bs hbs => (nomatch hbs)⟩, ⟨List.replicate 12 false, rfl, ?_⟩, (Fr.refl _ _).push, Nat.le_refl _⟩
    exact ListB.new (vs := bools (List.replicate 12 false))
  · rintro m ρ h1 ⟨r0, r1, r6, ⟨n, r7, hn, hm⟩, ⟨X, ms, d, vs, r5, RB, hml, hms⟩, ⟨bs, hbl, BB⟩, f1, hb⟩
    simp -implicitDefEqProofs (disch := omega) [go_sem, r1]
    refine loopK (fun ρ h' => ρ 0 = .slice A Ks.length c ∧ ρ 1 = .int .i64 vars ∧ ρ 6 = .pointer (some ⟨h.size, 0, none⟩) ∧ ρ 7 = .int .i64 n ∧ ρ 5 = .slice X ms.length d ∧ ρ 16 = .int .i64 vars ∧ ∃ (i : Nat) (bs : List Bool), ρ 17 = .int .i64 i ∧ i ≤ vars ∧ bs.length = 12 ∧ ListB h' h.size (bools bs) ∧ Fr (fun y => y = h.size) h1 h')
      (fun ρ _ => vars - (intOf (ρ 17)).toNat) (by kernel_rfl) ?_ ?_
    · exact ⟨r0, r1, r6, r7, r5, rfl, 0, bs, rfl, by omega, hbl, BB, Fr.refl _ _⟩
    · clear r0 r1 r6 r7 r5 hbl BB
      rintro ρ h2 ⟨r0, r1, r6, r7, r5, r16, i, bs, r17, hi, hbl, BB, f2⟩
      by_cases hin : i < vars
      · have e := List.getElem?_eq_getElem (show i < bs.length by omega)
        have c0 := BB.at' i _ (bools_at e)
        have fz := BB.fz
        simp -implicitDefEqProofs (disch := omega) [go_sem, r0, r1, r5, r6, r7, r16, r17, cmpV_shr, cmpV_and, c0, fz]
        generalize decide (IntKind.i64.wrap _ = 1) = bv
        refine ⟨⟨i + 1, by omega, by omega, bs.set i bv, by rw [List.length_set]; exact hbl, ?_, f2.set rfl⟩, by omega⟩
        have eb : ∀ b : Bool, bools (bs.set i b) = (bools bs).set i (.bool b) := fun b => by unfold bools; rw [List.map_set]
        rw [eb]
        exact BB.set _ (by rw [bools_len]; omega)
      · have e : i = vars := by omega
        subst e
        simp -implicitDefEqProofs (disch := omega) [go_sem, r0, r1, r5, r6, r7, r16, r17]
        obtain ⟨b9, eb9⟩ : ∃ b9, b9 = h2.size := ⟨_, rfl⟩
        obtain ⟨h3, e3⟩ : ∃ h3, h3 = hset (h2.push (.cells #[.slice none 0 0] 38)) ⟨h2.size, 0, none⟩ (.slice (some ⟨h.size, 0, none⟩) i 12) := ⟨_, rfl⟩
        have f3 : Fr (fun _ => False) h2 h3 := by rw [e3]; exact (Fr.refl _ _).push.new (Nat.le_refl _)
        have V3 : ListB h3 b9 [.slice (some ⟨h.size, 0, none⟩) i 12] := by
          rw [e3, eb9]
          have := (ListB.new (h := h2) (vs := [.slice none 0 0]) (e := 38)).set (i := 0) (.slice (some ⟨h.size, 0, none⟩) i 12) (by simp)
          simpa using this
        rw [← e3, ← eb9]
        have BB3 := BB.fr f3 fun h => h
        have Ra : RowAt h3 (some ⟨h.size, 0, none⟩) (bools (bs.take i)) := .inr ⟨h.size, 0, rfl, fun q v hq => by
          rw [Nat.zero_add]
          refine BB3.at' q v ?_
          unfold bools at hq ⊢
          rw [List.map_take, List.getElem?_take] at hq
          split at hq
          · exact hq
          · cases hq⟩
        have f12 : Fr (fun y => y = h.size) h1 h3 := f2.trans (f3.mono fun _ _ h => h.elim)
        have f03 : Fr (fun _ => False) h h3 := f1.trans' f12 fun y hy h => by omega
        have hlt : (bs.take i).length = i := by rw [List.length_take]; omega
        have v3 := V3.at' 0 _ rfl
        refine useC (containsRows_ok (cs := [.pointer (some ⟨b9, 0, none⟩)]) (R.fr0 f03) rfl (by omega) (fun K => !holdB (bs.take i) K) fun h' f K hKm B d RB => ?_) ?_
        · exact modelsF_ok ((f.cell (hcell_lt v3) fun h => h).trans v3) (Ra.fr0 f) hlt.symm (by omega) RB rfl (hK K hKm).1 (hK K hKm).2
        rintro _ h4 ⟨rfl, f4⟩
        have v4 := (f4.cell (hcell_lt v3) fun h => h).trans v3
        have f14 : Fr (fun y => y = h.size) h1 h4 := f12.trans (f4.mono fun _ _ h => h.elim)
        have RB4 := RB.fr f14
        have BB4 := BB3.fr f4 fun h => h
        have f04 : Fr (fun _ => False) h h4 := f03.trans f4
        -- on to the next, or the end
        have next : ∀ {h5 : Heap} {X' : Option Addr} {ms' : List (List Bool)} {d' : Nat} {vs' : List Value}, RowsB h5 h.size X' d' ms' vs' h.size → ms'.length ≤ ms.length + 1 → (∀ bs ∈ ms', bs.length = i ∧ ∀ K ∈ Ks, holdB bs K = true) → ListB h5 h.size (bools bs) → Fr (fun _ => False) h h5 →
            n + 1 < 2 ^ i → ∀ ρ' : Env, ρ' 0 = .slice A Ks.length c → ρ' 1 = .int .i64 i → ρ' 6 = .pointer (some ⟨h.size, 0, none⟩) → ρ' 7 = .int .i64 ((n : Int) + 1) → ρ' 5 = .slice X' ms'.length d' → ∃ m', m' < m ∧ MJ h A c Ks i h.size m' ρ' h5 := by
          intro h5 X' ms' d' vs' RB5 hl5 hm5 B5 f5 hn5 ρ' q0 q1 q6 q7 q5
          exact ⟨2 ^ i - (n + 1), by omega, q0, q1, q6, ⟨n + 1, by rw [q7]; simp, hn5, rfl⟩, ⟨X', ms', d', vs', q5, RB5, by omega, hm5⟩, ⟨bs, hbl, B5⟩, f5, Nat.le_refl _⟩
        have ep : ((2 : Int) ^ i) = ((2 ^ i : Nat) : Int) := by norm_cast
        cases hany : Ks.any fun K => !holdB (bs.take i) K with
        | true =>
          by_cases hend : n + 1 < 2 ^ i
          · have hend' : (n : Int) + 1 < (2 : Int) ^ i := by rw [ep]; omega
            simp -implicitDefEqProofs (disch := omega) [go_sem, r0, r1, r5, r6, r7, r16, r17, cmpV_shl, esh, esh', hend']
            refine next RB4 (by omega) hms BB4 f04 hend _ ?_ ?_ ?_ ?_ ?_
            · exact r0
            · exact r1
            · exact r6
            · rfl
            · exact r5
          · have hend' : ¬ (n : Int) + 1 < (2 : Int) ^ i := by rw [ep]; omega
            simp -implicitDefEqProofs (disch := omega) [go_sem, r0, r1, r5, r6, r7, r16, r17, cmpV_shl, esh, esh', hend']
            exact ⟨f04, X, ms, d, vs, h.size, rfl, RB4, by omega, hms⟩
        | false =>
          simp -implicitDefEqProofs (disch := omega) [go_sem, r0, r1, r5, r6, r7, r16, r17, v4]
          refine useC (cloneB_ok (Ra.fr0 f4) (by rw [bools_len]; exact hlt.symm) bools_one (by omega)) ?_
          rintro _ h5 ⟨A5, d5, rfl, S5, own5, f5⟩
          simp -implicitDefEqProofs (disch := omega) [go_sem, r0, r1, r5, r6, r7, r16, r17]
          refine build1 rfl rfl ?_
          simp -implicitDefEqProofs (disch := omega) [go_sem, r0, r1, r5, r6, r7, r16, r17]
          have f6 : Fr (fun _ => False) h5 (h5.push (.cells #[.slice A5 i d5] 38)) := (Fr.refl _ _).push
          have f46 := f5.trans f6
          have RB5 := RB4.fr (f46.mono fun _ _ h => h.elim)
          refine appendN (sz := 1) (ws := [.slice A5 i d5]) (by rw [Nat.mul_one]; exact RB5.S) (by rw [Nat.mul_one, RB5.len]) (SlAt.new (vs := [.slice A5 i d5])).row rfl (by omega) (by simp [Value.oneCell']) (by omega) (by omega) ?_
          intro A7 d7 h7 S7 f7 hA7
          rw [Nat.mul_one] at S7
          have hz5 := f5.size
          have hz6 : h5.size ≤ (h5.push (.cells #[.slice A5 i d5] 38)).size := f6.size
          have hz7 := f7.size
          have hz04 := f04.size
          have BB5 := BB4.fr f46 fun h => h
          have nX : ∀ y, blk X y → y ≠ h.size ∧ y < h4.size := fun y hy => ⟨(RB4.own y hy).2, RB4.S.blk_lt hy⟩
          have hbb := BB4.lt
          have BB7 := BB5.fr f7 fun hb => (nX _ hb).1 rfl
          have f07 : Fr (fun _ => False) h h7 := (f04.trans f46).trans' f7 fun y hy hb => by have := (RB4.own y hb).1; omega
          have own7 : ∀ y, blk A7 y → h.size ≤ y ∧ y ≠ h.size ∧ ¬ blk A5 y := fun y hy => by
            rcases hA7 y hy with h1 | h1
            · have := RB4.own y h1
              refine ⟨this.1, this.2, fun h5 => ?_⟩
              have := own5 y h5
              have := (nX y h1).2
              omega
            · exact ⟨by omega, by omega, fun h5 => by have := S5.blk_lt h5; omega⟩
          have RB7 : RowsB h7 h.size A7 d7 (ms ++ [bs.take i]) (vs ++ [.slice A5 i d5]) h.size := by
            refine ⟨S7, by rw [List.length_append, List.length_append, RB5.len]; rfl, fun y hy => ⟨(own7 y hy).1, (own7 y hy).2.1⟩, fun w hw => ?_, fun q bs' hq => ?_⟩
            · rcases List.mem_append.1 hw with hw | hw
              · exact RB5.one w hw
              · rw [List.mem_singleton] at hw; rw [hw]; rfl
            · by_cases hql : q < ms.length
              · rw [List.getElem?_append_left hql] at hq
                obtain ⟨B, e, g1, g2, g3⟩ := RB5.at' q bs' hq
                refine ⟨B, e, by rw [List.getElem?_append_left (by rw [RB5.len]; exact hql)]; exact g1, g2.fr f7 fun y hy => (g3 y hy).2.2, fun y hy => ⟨by have := (g3 y hy).1; omega, (g3 y hy).2.1, fun h7 => ?_⟩⟩
                rcases hA7 y h7 with h1 | h1
                · exact (g3 y hy).2.2 h1
                · have := (g3 y hy).1; omega
              · have hq2 := (List.getElem?_eq_some_iff.1 hq).1
                rw [List.length_append] at hq2
                simp only [List.length_singleton] at hq2
                have eq : q = ms.length := by omega
                subst eq
                rw [List.getElem?_append_right (Nat.le_refl _), Nat.sub_self] at hq
                simp only [List.getElem?_cons_zero, Option.some.injEq] at hq
                subst hq
                refine ⟨A5, d5, ?_, (S5.row.fr0 f6).fr f7 fun y hy hb => ?_, fun y hy => ⟨?_, ?_, fun h7 => (own7 y h7).2.2 hy⟩⟩
                · rw [List.getElem?_append_right (by rw [RB5.len]; exact Nat.le_refl _), RB5.len, Nat.sub_self, hlt]; rfl
                · have := own5 y hy; have := (nX y hb).2; omega
                · have := S5.blk_lt hy; omega
                · have := own5 y hy; omega
          have hms7 : ∀ bs' ∈ ms ++ [bs.take i], bs'.length = i ∧ ∀ K ∈ Ks, holdB bs' K = true := fun bs' hb => by
            rcases List.mem_append.1 hb with hb | hb
            · exact hms bs' hb
            · rw [List.mem_singleton] at hb
              subst hb
              refine ⟨hlt, fun K hKm => ?_⟩
              rw [List.any_eq_false] at hany
              have := hany K hKm
              simpa using this
          have hml7 : (ms ++ [bs.take i]).length = ms.length + 1 := by simp
          by_cases hend : n + 1 < 2 ^ i
          · have hend' : (n : Int) + 1 < (2 : Int) ^ i := by rw [ep]; omega
            simp -implicitDefEqProofs (disch := omega) [go_sem, r0, r1, r5, r6, r7, r16, r17, cmpV_shl, esh, esh', hend']
            refine next RB7 (by omega) hms7 BB7 f07 hend _ ?_ ?_ ?_ ?_ ?_
            · exact r0
            · exact r1
            · exact r6
            · rfl
            · rw [hml7]; rfl
          · have hend' : ¬ (n : Int) + 1 < (2 : Int) ^ i := by rw [ep]; omega
            simp -implicitDefEqProofs (disch := omega) [go_sem, r0, r1, r5, r6, r7, r16, r17, cmpV_shl, esh, esh', hend']
            exact ⟨f07, A7, ms ++ [bs.take i], d7, _, h.size, by rw [hml7], RB7, by omega, hms7⟩
end
end Xe

/- The law's example. -/
namespace Xe
open Go Tp Go.Proofs
set_option maxRecDepth 16000
set_option maxHeartbeats 1000000

theorem US.lev {C : List (List Int × Bool)} {lev : Nat} {l l' : List St} (h : US C lev l l') (h0 : ∀ t ∈ l, t.lv = lev) : ∀ t ∈ l', t.lv = lev := by
  induction h with
  | refl => exact h0
  | step _ _ _ ih =>
    intro t ht
    rcases List.mem_append.1 ht with ht | ht
    · exact ih t ht
    · rw [List.mem_singleton] at ht; rw [ht]
def C19 : List (List Int × Bool) := [([-1, 2], false), ([-1, 3], false), ([-2, -3], false)]
theorem noquiet19 {l : List St} {vars : Nat} (G : Good vars l) (h1 : trI l (-1) = -1) (q : Quiet C19 l) : False := by
  have neg : ∀ {x : Int}, trI l x = 1 → trI l (-x) = -1 := fun {x} h => by
    rw [tr_one] at h
    rw [tr_m1, Int.neg_neg]
    exact ⟨fun h2 => good_cons G h h2, h⟩
  have two : trI l 2 = 1 := by
    have := q 0 [-1, 2] rfl
    rcases trI_cases l 2 with h | h | h
    · exact h
    · exact absurd (fun y hy => by rcases List.mem_cons.1 hy with rfl | hy; exact h1; rw [List.mem_singleton] at hy; rw [hy]; exact h) this.2
    · exact absurd ⟨by simp, h, fun y hy hn => by rcases List.mem_cons.1 hy with rfl | hy; exact h1; rw [List.mem_singleton] at hy; exact absurd hy hn⟩ (this.1 2)
  have three : trI l 3 = 1 := by
    have := q 1 [-1, 3] rfl
    rcases trI_cases l 3 with h | h | h
    · exact h
    · exact absurd (fun y hy => by rcases List.mem_cons.1 hy with rfl | hy; exact h1; rw [List.mem_singleton] at hy; rw [hy]; exact h) this.2
    · exact absurd ⟨by simp, h, fun y hy hn => by rcases List.mem_cons.1 hy with rfl | hy; exact h1; rw [List.mem_singleton] at hy; exact absurd hy hn⟩ (this.1 3)
  refine (q 2 [-2, -3] rfl).2 fun y hy => ?_
  rcases List.mem_cons.1 hy with rfl | hy
  · exact neg two
  · rw [List.mem_singleton] at hy; rw [hy]; exact neg three
/-- two assignments in which all three hold -/
def M19 (b : Int) (x : Int) : Prop := 0 < x * (if x.natAbs = 1 then -1 else if x.natAbs = 2 then b else -b)
theorem M19_mdl {b : Int} (hb : b = 1 ∨ b = -1) : Mdl (M19 b) := fun x hx => by
  unfold M19
  rw [Int.natAbs_neg]
  rcases hb with rfl | rfl <;> split <;> (try split) <;> omega
theorem M19_all {b : Int} (hb : b = 1 ∨ b = -1) {cs : List Ent} (h : absC cs = C19) : AllM (M19 b) cs := fun e he _ => by
  have h1 : (e.lits, e.gone) ∈ absC cs := List.mem_map.2 ⟨e, he, rfl⟩
  rw [h] at h1
  unfold C19 at h1
  simp only [List.mem_cons, Prod.mk.injEq, List.not_mem_nil, or_false] at h1
  rcases h1 with ⟨h1, _⟩ | ⟨h1, _⟩ | ⟨h1, _⟩ <;> rw [h1]
  · exact ⟨-1, by simp, by unfold M19; rw [if_pos (by decide)]; decide⟩
  · exact ⟨-1, by simp, by unfold M19; rw [if_pos (by decide)]; decide⟩
  · rcases hb with rfl | rfl
    · exact ⟨-3, by simp, by unfold M19; decide⟩
    · exact ⟨-2, by simp, by unfold M19; decide⟩
theorem from19 {s : WS} (I : WInv s) (D : Dcs s.l) (Rn : Rm s.l) (hv : s.vars = 3) (hc : absC s.cs = C19) (hl : ∀ t ∈ s.l, t.lv = 1) {k : Nat} {en : Ent} (hk : s.cs[k]? = some en) (hg : en.gone = false) (hf : FailAt s.l en.lits) {cl : List Int} {lv e : Int} (h : FromR s k cl lv e) : cl = [-1] ∧ lv = 0 ∧ e = 0 := by
  have he : e = 0 := by
    cases h with
    | none hn => have := hn (by omega) en (by rw [Int.toNat_natCast]; exact hk); rw [hg] at this; cases this
    | nofail h1 h2 h3 h4 =>
      have e1 := Int.ofNat_inj.1 h1
      subst e1
      rw [hk] at h2
      cases h2
      exact absurd hf h4
    | ground => rfl
    | taught => rfl
  subst he
  obtain ⟨h1, h2, h3, h4⟩ := h.shape I D
  obtain ⟨y1, hy1, hM1⟩ := h.sound I D Rn (M19_mdl (.inl rfl)) (M19_all (.inl rfl) hc)
  obtain ⟨y2, hy2, hM2⟩ := h.sound I D Rn (M19_mdl (.inr rfl)) (M19_all (.inr rfl) hc)
  have one : ∀ x ∈ cl, lvx s.l x = 1 := fun x hx => by
    obtain ⟨k, t, g1, _, _, g4, _⟩ := false_at I.good (h1 x hx).1
    rw [g4, hl t (List.mem_of_getElem? g1)]; rfl
  obtain ⟨x, hx, hx2, hx3⟩ := h4 (fun e => by rw [e] at hy1; cases hy1)
  have hlv : lv = 0 := by have := one x hx; omega
  have only : ∀ y ∈ cl, y = x := fun y hy => by
    by_cases e : y = x
    · exact e
    · have := hx3 y hy e; have := one y hy; omega
  have hcl : cl = [x] := by
    match cl, h2, hx, only with
    | [z], _, hx, _ => rw [List.mem_singleton] at hx; rw [hx]
    | z :: w :: r, h2, _, only =>
      have e1 := only z (by simp)
      have e2 := only w (by simp)
      unfold Rise at h2
      have := (List.pairwise_cons.1 h2).1 w (by simp)
      rw [e1, e2] at this; omega
  rw [only y1 hy1] at hM1
  rw [only y2 hy2] at hM2
  have hr := (h1 x hx).2
  refine ⟨?_, hlv, rfl⟩
  rw [hcl]
  congr 1
  unfold M19 at hM1 hM2
  split at hM1 <;> (try split at hM1) <;> (split at hM2) <;> (try split at hM2) <;> omega
theorem clean19a : CleanR [-1, 2] (some [-1, 2]) := ⟨by simp [Rise], fun x => by
  constructor
  · intro h; refine ⟨h, ?_⟩; unfold okL; simp at h; omega
  · exact fun h => h.1⟩
theorem clean19b : CleanR [-1, 3] (some [-1, 3]) := ⟨by simp [Rise], fun x => by
  constructor
  · intro h; refine ⟨h, ?_⟩; unfold okL; simp at h; omega
  · exact fun h => h.1⟩
theorem clean19c : CleanR [-2, -3] (some [-2, -3]) := ⟨by simp [Rise], fun x => by
  constructor
  · intro h; refine ⟨h, ?_⟩; unfold okL; simp at h; omega
  · exact fun h => h.1⟩

section
variable {h : Heap}
theorem add19 {h0 : Heap} {bb : Nat} {p : BP} {s : WS} {x y : Int} {d : Nat} (F : Fil h0 h bb 3 p s) (hs : s.cs.length < 10 ∧ s.todo.length < 10) {A : Option Addr} (R : RowAt h A (ints [x, y])) (hx : 1 ≤ x.natAbs ∧ x.natAbs ≤ 3) (hy : 1 ≤ y.natAbs ∧ y.natAbs ≤ 3) (hc : CleanR [x, y] (some [x, y])) :
    CallsH Tryz.prog 59 [.pointer (some ⟨bb, 0, none⟩), .slice A 2 d] h fun r h' => ∃ p', Fil h0 h' bb 3 p' (addS s [x, y]) := by
  have hg : goodC s.vars [x, y] = true := by
    rw [F.W.vars]; unfold goodC; simp only [List.all_cons, List.all_nil, Bool.and_true, Bool.and_eq_true, decide_eq_true_eq]
    exact ⟨hx, hy⟩
  refine (badd_m F.W.M (by rw [F.W.vars]; omega) (n := 2) R rfl (by omega) (fun z hz => by simp at hz; omega) ⟨by omega, by omega⟩).mono ?_
  rintro r h' (⟨h1, _⟩ | ⟨_, h1, _⟩ | ⟨h1, L, h2, rfl, p', M', st⟩)
  · rw [hg] at h1; cases h1
  · cases CleanR.uniq hc h1
  · obtain rfl := Option.some.inj (CleanR.uniq hc h2)
    exact ⟨p', F.add hg hc M' st⟩
theorem awake19 : CallsH Tryz.prog 11 [] h fun r h' => r = .bool true ∧ Fr (fun _ => False) h h' := by
  refine calls_of 48 [.tmp 0] Go.Proofs.Tryz.func11 rfl rfl rfl (by kernel_rfl) (Nat.le_of_ble_eq_true rfl) ?_
  simp -implicitDefEqProofs (disch := omega) [go_sem]
  refine useC (bnew_m (x := 3) (by omega) (by omega)) ?_
  rintro _ h2 (⟨hneg, rfl, rfl⟩ | ⟨vars, bb, ev, hv, rfl, p2, M2, low2, fr2⟩)
  · omega
  have ev' : vars = 3 := by omega
  subst ev'
  have F2 : Fil h h2 bb 3 p2 (newW 3) := Fil.new ⟨M2, newW_inv hv, rfl, low2, fr2⟩
  have push : ∀ {h1 : Heap} {p : BP} {s : WS} {x y : Int}, Fil h h1 bb 3 p s → Fil h (h1.push (.cells #[.int .i64 x, .int .i64 y] 3)) bb 3 p s := fun F => F.fr0 (Fr.refl _ _).push
  simp -implicitDefEqProofs (disch := omega) [go_sem]
  refine build2 ?_
  simp -implicitDefEqProofs (disch := omega) [go_sem]
  refine useC (add19 (push F2) ⟨by show 0 < 10; omega, by show 0 < 10; omega⟩ (SlAt.new (h := h2) (vs := ints [-1, 2]) (e := 3)).row (by omega) (by omega) clean19a) ?_
  rintro _ h3 ⟨p3, F3⟩
  simp -implicitDefEqProofs (disch := omega) [go_sem]
  refine build2 ?_
  simp -implicitDefEqProofs (disch := omega) [go_sem]
  refine useC (add19 (push F3) ⟨by show 1 < 10; omega, by show 1 < 10; omega⟩ (SlAt.new (h := h3) (vs := ints [-1, 3]) (e := 3)).row (by omega) (by omega) clean19b) ?_
  rintro _ h4 ⟨p4, F4⟩
  simp -implicitDefEqProofs (disch := omega) [go_sem]
  refine build2 ?_
  simp -implicitDefEqProofs (disch := omega) [go_sem]
  refine useC (add19 (push F4) ⟨by show 2 < 10; omega, by show 2 < 10; omega⟩ (SlAt.new (h := h4) (vs := ints [-2, -3]) (e := 3)).row (by omega) (by omega) clean19c) ?_
  rintro _ h5 ⟨p5, F5⟩
  simp -implicitDefEqProofs (disch := omega) [go_sem]
  refine useC (bdecide_m F5.W.M (x := 1) (by omega) (by omega)) ?_
  rintro _ h6 ⟨rfl, p6, M6, st6⟩
  have F6 := F5.dec 1 M6 st6
  simp -implicitDefEqProofs (disch := omega) [go_sem]
  refine useC (prop_m F6.W.M F6.W.I) ?_
  rintro r7 h7 ⟨p7, s7, M7, st7, I7, ad7, hor⟩
  have F7 := F6.adv M7 I7 ad7 st7
  obtain ⟨l0, hl0⟩ : ∃ l0, l0 = (decS (addS (addS (addS (newW 3) [-1, 2]) [-1, 3]) [-2, -3]) 1).l := ⟨_, rfl⟩
  have hlit0 : lits l0 = [1] := by rw [hl0]; decide
  have hlvs0 : l0.map (·.lv) = [1] := by rw [hl0]; decide
  have hlev0 : (decS (addS (addS (addS (newW 3) [-1, 2]) [-1, 3]) [-2, -3]) 1).level = 1 := by decide
  have hcs : absC s7.cs = C19 := ad7.cs
  have hus := ad7.us
  rw [← hl0, hlev0] at hus
  have hlv : ∀ t ∈ s7.l, t.lv = 1 := hus.lev fun t ht => by
    have : t.lv ∈ l0.map (·.lv) := List.mem_map.2 ⟨t, ht, rfl⟩
    rw [hlvs0, List.mem_singleton] at this; exact this
  have h1t : trI s7.l (-1) = -1 := by
    obtain ⟨ext, hext⟩ := hus.pre
    have hm : (1 : Int) ∈ lits s7.l := by
      rw [hext]
      unfold lits at hlit0 ⊢
      rw [List.map_append, hlit0]; simp
    rw [tr_m1]
    exact ⟨fun h2 => good_cons I7.good hm h2, hm⟩
  rcases hor with ⟨id, e, rfl, he, hg, hf⟩ | ⟨rfl, ht, hh⟩
  · simp -implicitDefEqProofs (disch := omega) [go_sem]
    have hsm := M7.sm.1
    have hid := (List.getElem?_eq_some_iff.1 he).1
    refine useC (from_ok M7 I7 F7.D F7.R (by have := F7.W.vars; omega) (id := id) (by omega) (by omega)) ?_
    rintro _ h8 ⟨f8, A, d, cl, lv, en, rfl, S8, own8, hR⟩
    obtain ⟨rfl, rfl, rfl⟩ := from19 I7 F7.D F7.R F7.W.vars hcs hlv he hg hf hR
    simp -implicitDefEqProofs (disch := omega) [go_sem]
    refine build1 rfl rfl ?_
    simp -implicitDefEqProofs (disch := omega) [go_sem]
    have f9 : Fr (fun _ => False) h8 (h8.push (.cells #[.int .i64 (-1)] 3)) := (Fr.refl _ _).push
    have cs := same12_ok (n := 1) (m := 1) (c := d) (d := 1) (S8.row.fr0 f9) (SlAt.new (h := h8) (vs := ints [-1]) (e := 3)).row rfl rfl (by omega) (by omega)
    refine useC cs ?_
    rintro _ h10 ⟨rfl, rfl⟩
    simp -implicitDefEqProofs (disch := omega) [go_sem]
    exact (F7.W.fr.trans f8).trans f9
  · exact (noquiet19 I7.good h1t (by rw [← hcs]; exact I7.quiet ht hh)).elim
end
end Xe

/- LearnHolds: its parts. -/
namespace Xe
open Go Tp Go.Proofs
set_option maxRecDepth 16000
set_option maxHeartbeats 1000000

section
variable {h : Heap} {A : Option Addr} {n c : Nat} {bs : List Bool}
theorem rtruth12_ok (R : RowAt h A (bools bs)) (hn : n = bs.length) (hs : n < 2 ^ 40) {x : Int} (hx : x.natAbs ≤ 16777216) :
    CallsH Tryz.prog 52 [.int .i64 x, .slice A n c] h fun r h' => r = .int .i64 (truB bs x) ∧ h' = h := by
  subst hn
  have ev : var12 x = x.natAbs := if_pos hx
  refine calls_of 24 [.tmp 4] Go.Proofs.Tryz.func52 rfl rfl rfl (by kernel_rfl) (Nat.le_of_ble_eq_true rfl) ?_
  simp -implicitDefEqProofs (disch := omega) [go_sem]
  refine useC (var12_ok (x := x) (by omega) (by omega)) ?_
  rintro _ h2 ⟨rfl, rfl⟩
  rw [ev]
  unfold truB
  by_cases h0 : x.natAbs = 0
  · have h0' : (x.natAbs : Int) = 0 := by omega
    simp -implicitDefEqProofs (disch := omega) [go_sem, h0', h0]
  · have h0' : ¬ (x.natAbs : Int) = 0 := by omega
    rw [if_neg h0]
    by_cases h1 : bs.length < x.natAbs
    · have h1' : (bs.length : Int) < (x.natAbs : Int) := by omega
      rw [List.getElem?_eq_none (by omega)]
      simp -implicitDefEqProofs (disch := omega) [go_sem, h0', h1']
    · have h1' : ¬ (bs.length : Int) < (x.natAbs : Int) := by omega
      obtain ⟨bk, off, rfl, hc⟩ := R.get (by rw [bools_len]; omega)
      have e := List.getElem?_eq_getElem (show x.natAbs - 1 < bs.length by omega)
      have c0 := hc _ _ (bools_at e)
      rw [e]
      have ei : ((x.natAbs : Int) - 1).toNat = x.natAbs - 1 := by omega
      by_cases hb : bs[x.natAbs - 1] = decide (0 < x)
      · simp -implicitDefEqProofs (disch := omega) [go_sem, h0', h1', ei, c0, hb]
      · have hb2 : (bs[x.natAbs - 1] == decide (0 < x)) = false := by simpa using hb
        simp -implicitDefEqProofs (disch := omega) [go_sem, h0', h1', ei, c0, hb, hb2]
theorem truB_cases (bs : List Bool) (x : Int) : truB bs x = 1 ∨ truB bs x = -1 ∨ truB bs x = 0 := by
  unfold truB
  split
  · exact .inr (.inr rfl)
  · split
    · split
      · exact .inl rfl
      · exact .inr (.inl rfl)
    · exact .inr (.inr rfl)
theorem rholds12_ok (R : RowAt h A (bools bs)) (hn : n = bs.length) (hs : n < 2 ^ 40) {B : Option Addr} {m d : Nat} {k : List Int} (Rk : RowAt h B (ints k)) (hm : m = k.length) (hs2 : m < 2 ^ 40) (hk : ∀ x ∈ k, x.natAbs ≤ 16777216) :
    CallsH Tryz.prog 18 [.slice B m d, .slice A n c] h fun r h' => r = .bool (holdB bs k) ∧ h' = h := by
  subst hm
  refine calls_of 19 [.tmp 4] Go.Proofs.Tryz.func18 rfl rfl rfl (by kernel_rfl) (Nat.le_of_ble_eq_true rfl) ?_
  simp -implicitDefEqProofs (disch := omega) [go_sem]
  refine loopK (fun ρ h' => ρ 0 = .slice B k.length d ∧ ρ 1 = .slice A n c ∧ h' = h ∧ ∃ i : Nat, ρ 5 = .int .i64 i ∧ i ≤ k.length ∧ ∀ (j : Nat) x, j < i → k[j]? = some x → ¬ 0 < truB bs x) (fun ρ _ => k.length - (intOf (ρ 5)).toNat) (by kernel_rfl) ?_ ?_
  · exact ⟨rfl, rfl, rfl, 0, rfl, by omega, fun j x hj => by omega⟩
  · rintro ρ h1 ⟨r0, r1, rfl, i, r5, hi, hj⟩
    by_cases hin : i < k.length
    · obtain ⟨bk, off, rfl, hc⟩ := Rk.get (by rw [ints_len]; omega)
      obtain ⟨x, hx⟩ := some_at hin
      have c0 := hc _ _ (ints_at hx)
      simp -implicitDefEqProofs (disch := omega) [go_sem, r0, r1, r5, c0]
      refine useC (rtruth12_ok R hn hs (hk x (List.mem_of_getElem? hx))) ?_
      rintro _ h2 ⟨rfl, rfl⟩
      by_cases ht : truB bs x = 1
      · simp -implicitDefEqProofs (disch := omega) [go_sem, r0, r1, r5, ht]
        unfold holdB
        rw [List.any_eq_true]
        exact ⟨x, List.mem_of_getElem? hx, by rw [ht]; rfl⟩
      · simp -implicitDefEqProofs (disch := omega) [go_sem, r0, r1, r5, ht]
        refine ⟨⟨i + 1, by omega, by omega, fun j x' hj' hx' => ?_⟩, by omega⟩
        by_cases e : j = i
        · subst e; rw [hx] at hx'; cases hx'
          have := truB_cases bs x
          omega
        · have := hj j x' (by omega) hx'; omega
    · simp -implicitDefEqProofs (disch := omega) [go_sem, r0, r1, r5]
      unfold holdB
      rw [List.any_eq_false]
      intro x hx
      obtain ⟨j, hj2⟩ := List.getElem?_of_mem hx
      have := hj j x (by have := (List.getElem?_eq_some_iff.1 hj2).1; omega) hj2
      simp; omega
end

/-- an assignment of truths, as one of all literals -/
def MB (bs : List Bool) (x : Int) : Prop := if 1 ≤ x.natAbs ∧ x.natAbs ≤ bs.length then truB bs x = 1 else 0 < x
theorem MB_mdl (bs : List Bool) : Mdl (MB bs) := fun x hx => by
  unfold MB
  rw [Int.natAbs_neg]
  split
  · rename_i h
    unfold truB
    rw [Int.natAbs_neg, if_neg (by omega), if_neg (by omega), List.getElem?_eq_getElem (by omega)]
    simp only
    have e : decide (0 < -x) = !decide (0 < x) := by
      by_cases h1 : 0 < x
      · rw [decide_eq_true h1, decide_eq_false (by omega)]; rfl
      · rw [decide_eq_false h1, decide_eq_true (by omega)]; rfl
    rw [e]
    cases bs[x.natAbs - 1] <;> cases decide (0 < x) <;> simp
  · omega
theorem MB_of {bs : List Bool} {k : List Int} (hk : ∀ x ∈ k, 1 ≤ x.natAbs ∧ x.natAbs ≤ bs.length) : SatM (MB bs) k ↔ holdB bs k = true := by
  unfold SatM holdB
  rw [List.any_eq_true]
  constructor
  · rintro ⟨x, hx, h⟩
    unfold MB at h
    rw [if_pos (hk x hx)] at h
    exact ⟨x, hx, by rw [h]; rfl⟩
  · rintro ⟨x, hx, h⟩
    have h1 := of_decide_eq_true h
    refine ⟨x, hx, ?_⟩
    unfold MB
    rw [if_pos (hk x hx)]
    have := truB_cases bs x
    omega

/-- behind going back it is a unit -/
theorem cut_unit {vars : Nat} {l : List St} {cl : List Int} {k : Nat} {x : Int} (G : Good vars l) (hf : ∀ y ∈ cl, trI l y = -1) (hx : x ∈ cl) (h1 : (k : Int) < lvx l x) (h2 : ∀ y ∈ cl, y ≠ x → lvx l y ≤ k) : UnitAt (cutTo l k) cl x := by
  have sub : ∀ y, y ∈ lits (cutTo l k) → y ∈ lits l := fun y hy => by
    obtain ⟨t, ht, rfl⟩ := List.mem_map.1 hy
    exact List.mem_map.2 ⟨t, (List.mem_filter.1 ht).1, rfl⟩
  refine ⟨hx, ?_, fun y hy hyx => ?_⟩
  · have hxf := tr_m1.1 (hf x hx)
    rw [tr_zero]
    refine ⟨fun h => hxf.1 (sub _ h), fun h => ?_⟩
    obtain ⟨t, ht, et⟩ := List.mem_map.1 h
    obtain ⟨ht1, ht2⟩ := List.mem_filter.1 ht
    have hk := of_decide_eq_true ht2
    obtain ⟨q, hq⟩ := List.getElem?_of_mem ht1
    have := G.lv hq
    rw [et] at this
    unfold lvx at h1
    rw [show (-x).natAbs = x.natAbs by omega] at this
    omega
  · have hyf := tr_m1.1 (hf y hy)
    obtain ⟨i, t, g1, g2, _, g4, _⟩ := false_at G (hf y hy)
    have hk := h2 y hy hyx
    rw [tr_m1]
    refine ⟨fun h => hyf.1 (sub _ h), List.mem_map.2 ⟨t, List.mem_filter.2 ⟨List.mem_of_getElem? g1, by simp; omega⟩, g2⟩⟩

section
variable {h : Heap}
theorem RowsK.snoc {N : Nat} {A A' : Option Addr} {cap cap' : Nat} {K : List (List Int)} {vs : List Value} (R : RowsK h N A cap K vs) {h' : Heap} {B : Option Addr} {d : Nat} {k : List Int} (f : Fr (blk A) h h') (S : SlAt h' A' cap' (vs ++ [.slice B k.length d])) (hA : ∀ y, blk A' y → blk A y ∨ h.size ≤ y) (hN : N ≤ h.size) (RB : RowAt h B (ints k)) (hB : ∀ y, blk B y → y < h.size ∧ ¬ blk A y) :
    RowsK h' N A' cap' (K ++ [k]) (vs ++ [.slice B k.length d]) where
  S := S
  len := by rw [List.length_append, List.length_append, R.len]; rfl
  own y hy := (hA y hy).elim (R.own y) fun h => Nat.le_trans hN h
  one w hw := by
    rcases List.mem_append.1 hw with hw | hw
    · exact R.one w hw
    · rw [List.mem_singleton] at hw; rw [hw]; rfl
  at' q k' hq := by
    have hsz := f.size
    by_cases hql : q < K.length
    · rw [List.getElem?_append_left hql] at hq
      obtain ⟨B', e, g1, g2, g3⟩ := R.at' q k' hq
      refine ⟨B', e, by rw [List.getElem?_append_left (by rw [R.len]; exact hql)]; exact g1, g2.fr f fun y hy => (g3 y hy).2, fun y hy => ⟨by have := (g3 y hy).1; omega, fun h7 => ?_⟩⟩
      rcases hA y h7 with h1 | h1
      · exact (g3 y hy).2 h1
      · have := (g3 y hy).1; omega
    · have hq2 := (List.getElem?_eq_some_iff.1 hq).1
      rw [List.length_append] at hq2
      simp only [List.length_singleton] at hq2
      have eq : q = K.length := by omega
      subst eq
      rw [List.getElem?_append_right (Nat.le_refl _), Nat.sub_self] at hq
      simp only [List.getElem?_cons_zero, Option.some.injEq] at hq
      subst hq
      refine ⟨B, d, ?_, RB.fr f fun y hy => (hB y hy).2, fun y hy => ⟨by have := (hB y hy).1; omega, fun h7 => ?_⟩⟩
      · rw [List.getElem?_append_right (by rw [R.len]; exact Nat.le_refl _), R.len, Nat.sub_self]; rfl
      · rcases hA y h7 with h1 | h1
        · exact (hB y hy).2 h1
        · have := (hB y hy).1; omega
theorem RowsK.nil (N : Nat) : RowsK h N none 0 [] [] := ⟨SlAt.nil _, rfl, fun y ⟨_, h, _⟩ => (nomatch h), fun w hw => (nomatch hw), fun i k hk => by simp at hk⟩
theorem RowsK.rowsA {N : Nat} {A : Option Addr} {cap : Nat} {K : List (List Int)} {vs : List Value} (R : RowsK h N A cap K vs) : RowsA h A K := fun i k hk => by
  obtain ⟨B, d, g1, g2, _⟩ := R.at' i k hk
  have := (List.getElem?_eq_some_iff.1 g1).1
  obtain ⟨bk, rfl, _, _, hc⟩ := R.S.base (by omega)
  exact ⟨bk, 0, B, d, rfl, by rw [Nat.zero_add]; exact hc i _ g1, g2⟩
end
end Xe

/- LearnHolds, walked. -/
namespace Xe
open Go Tp Go.Proofs
set_option maxRecDepth 16000
set_option maxHeartbeats 1000000

section
variable {h : Heap}
theorem holds_walk (a0 : Int) (w0 : -9223372036854775808 ≤ a0 ∧ a0 ≤ 9223372036854775807) (A : Option Addr) (m c : Nat) (gs : Nat → List Int) (R : Args2 h A m gs) (B : Option Addr) (q d : Nat) (ds : List Int) (RD : RowAt h B (ints ds)) (hq : q = ds.length) (hqs : q < 2 ^ 63) (hdr : ∀ x ∈ ds, -9223372036854775808 ≤ x ∧ x ≤ 9223372036854775807) :
    CallsH Tryz.prog 3 [.int .i64 a0, .slice A m c, .slice B q d] h fun r h' => r = .bool true ∧ Fr (fun _ => False) h h' := by
  refine calls_of 134 [.tmp 6] Go.Proofs.Tryz.func3 rfl rfl rfl (by kernel_rfl) (Nat.le_of_ble_eq_true rfl) ?_
  simp -implicitDefEqProofs (disch := omega) [go_sem]
  refine useC awake19 ?_
  rintro _ h1 ⟨rfl, f1⟩
  simp -implicitDefEqProofs (disch := omega) [go_sem]
  refine useC (small19_ok (R.fr f1) hqs w0) ?_
  rintro _ h2 ⟨rfl, b, rfl, hsm⟩
  cases b with
  | false =>
    simp -implicitDefEqProofs (disch := omega) [go_sem]
    exact f1
  | true =>
    obtain ⟨s1, s2, s3, s4, s5⟩ := hsm rfl
    simp -implicitDefEqProofs (disch := omega) [go_sem]
    refine useC (filled19_ok (B := B) (d := d) f1 R RD hq hdr ⟨s1, s2⟩ s3 s4 s5) ?_
    rintro _ h3 ⟨bb, vars, p, s, id, rfl, rfl, F, hcs, hid⟩
    have M := F.W.M
    have I := F.W.I
    have hvs := F.W.vars
    have f03 := f1.trans F.W.fr
    simp -implicitDefEqProofs (disch := omega) [go_sem]
    rcases Or.symm hid with rfl | ⟨k, e, rfl, he, hf⟩
    · simp -implicitDefEqProofs (disch := omega) [go_sem]
      exact f03
    have hkl := (List.getElem?_eq_some_iff.1 he).1
    have hg := F.g e (List.mem_of_getElem? he)
    simp -implicitDefEqProofs (disch := omega) [go_sem]
    refine useC (from_ok M I F.D F.R (by omega) (id := k) (by omega) (by omega)) ?_
    rintro _ h4 ⟨f4, C, cd, cl, lv, er, rfl, SC, ownC, hR⟩
    have her : er = 0 := by
      cases hR with
      | none hn => have := hn (by omega) e (by rw [Int.toNat_natCast]; exact he); rw [hg] at this; cases this
      | nofail h1 h2 h3 h4 =>
        have e1 := Int.ofNat_inj.1 h1
        subst e1
        rw [he] at h2
        cases h2
        exact absurd hf h4
      | ground => rfl
      | taught => rfl
    subst her
    obtain ⟨q1, q2, q3, q4⟩ := hR.shape I F.D
    have hcl := rise_length (a := 0) (n := s.vars) q2 fun x hx => ⟨(q1 x hx).2.1, (q1 x hx).2.2⟩
    have M4 := M.fr0 f4
    have hC3 : ∀ y, blk C y → h3.size ≤ y := ownC
    simp -implicitDefEqProofs (disch := omega) [go_sem]
    obtain ⟨Ks, hKs⟩ : ∃ Ks, Ks = s.cs.map (·.lits) := ⟨_, rfl⟩
    have hKl : Ks.length = s.cs.length := by rw [hKs, List.length_map]
    have hz4 := f4.size
    refine loopK (fun ρ h' => ρ 0 = .int .i64 vars ∧ ρ 7 = .pointer (some ⟨bb, 0, none⟩) ∧ ρ 9 = .slice C cl.length cd ∧ ρ 10 = .int .i64 lv ∧ Fr (fun _ => False) h4 h' ∧ ∃ (i : Nat) (X : Option Addr) (xc : Nat) (vs : List Value), ρ 13 = .int .i64 i ∧ i ≤ s.cs.length ∧ ρ 12 = .slice X (Ks.take i).length xc ∧ RowsK h' h4.size X xc (Ks.take i) vs)
      (fun ρ _ => s.cs.length - (intOf (ρ 13)).toNat) (by kernel_rfl) ?_ ?_
    · exact ⟨rfl, rfl, rfl, rfl, Fr.refl _ _, 0, none, 0, [], rfl, by omega, rfl, RowsK.nil _⟩
    · rintro ρ h5 ⟨r0, r7, r9, r10, f5, i, X, xc, vs, r13, hi, r12, RX⟩
      have M5 := M4.fr0 f5
      have hz5 := f5.size
      simp -implicitDefEqProofs (disch := omega) [go_sem, r0, r7, r9, r10, r12, r13]
      refine useC (blen_m M5) ?_
      rintro _ h6 ⟨rfl, rfl⟩
      have hsm := M5.sm.1
      by_cases hin : i < s.cs.length
      · obtain ⟨e', he'⟩ : ∃ e', s.cs[i]? = some e' := ⟨_, List.getElem?_eq_getElem hin⟩
        have hK : Ks[i]? = some e'.lits := by rw [hKs, List.getElem?_map, he']; rfl
        have htl : (Ks.take i).length = i := by rw [List.length_take]; omega
        simp -implicitDefEqProofs (disch := omega) [go_sem, r0, r7, r9, r10, r12, r13]
        refine useC (clause_some M5 he' (F.g e' (List.mem_of_getElem? he'))) ?_
        rintro _ h7 ⟨D, dc, rfl, SD, ownD, f7⟩
        simp -implicitDefEqProofs (disch := omega) [go_sem, r0, r7, r9, r10, r12, r13]
        refine build1 rfl rfl ?_
        simp -implicitDefEqProofs (disch := omega) [go_sem, r0, r7, r9, r10, r12, r13]
        have f8 : Fr (fun _ => False) h7 (h7.push (.cells #[.slice D e'.lits.length dc] 23)) := (Fr.refl _ _).push
        have RX8 := (RX.fr0 f7).fr0 f8
        have hz7 := f7.size
        have hz8 := f8.size
        refine appendN (sz := 1) (ws := [.slice D e'.lits.length dc]) (by rw [Nat.mul_one]; exact RX8.S) (by rw [Nat.mul_one, RX8.len, htl]) (SlAt.new (vs := [.slice D e'.lits.length dc])).row rfl (by omega) (by simp [Value.oneCell']) (by omega) (by omega) ?_
        intro A9 d9 h9 S9 f9 hA9
        rw [Nat.mul_one] at S9
        have RX9 := RX8.snoc f9 S9 hA9 (by omega) (SD.row.fr0 f8) (fun y hy => ⟨by have := SD.blk_lt hy; omega, fun hx => by have := ownD y hy; have := RX.S.blk_lt hx; omega⟩)
        rw [← take_at hK] at RX9
        have htk : (Ks.take (i + 1)).length = (Ks.take i).length + 1 := by rw [take_at hK, List.length_append]; rfl
        simp -implicitDefEqProofs (disch := omega) [go_sem, r0, r7, r9, r10, r12, r13]
        refine ⟨⟨(f5.trans (f7.trans f8)).trans' f9 fun y hy hb => by have := RX.own y hb; omega, i + 1, by omega, by omega, A9, d9, ⟨rfl, by omega, rfl⟩, _, RX9⟩, by omega⟩
      · have e1 : i = s.cs.length := by omega
        rw [List.take_of_length_le (by omega)] at r12 RX
        simp -implicitDefEqProofs (disch := omega) [go_sem, r0, r7, r9, r10, r12, r13]
        refine useC (models_ok RX.rowsA rfl (by omega) (by omega) fun K hK => ?_) ?_
        · rw [hKs] at hK
          obtain ⟨e', he', rfl⟩ := List.mem_map.1 hK
          have hcl' := I.cl e' he'
          have := rise_length (a := 0) (n := s.vars) hcl'.1 fun x hx => ⟨(hcl'.2 x hx).1, (hcl'.2 x hx).2⟩
          exact ⟨by omega, fun x hx => by have := hcl'.2 x hx; omega⟩
        rintro _ h7 ⟨f7, X7, ms, d7, vs7, b6, rfl, RB, hml, hms⟩
        have f47 := f5.trans f7
        have SC7 := SC.fr f47 fun _ _ h => h
        have hall : ∀ bs ∈ ms, bs.length = vars ∧ holdB bs cl = true := fun bs hbs => by
          obtain ⟨g1, g2⟩ := hms bs hbs
          refine ⟨g1, (MB_of fun x hx => ?_).1 (hR.sound I F.D F.R (MB_mdl bs) fun e' he' hg' => ?_)⟩
          · have := q1 x hx; omega
          · refine (MB_of fun x hx => ?_).2 (g2 e'.lits (by rw [hKs]; exact List.mem_map.2 ⟨e', he', rfl⟩))
            have := (I.cl e' he').2 x hx; omega
        simp -implicitDefEqProofs (disch := omega) [go_sem, r0, r7, r9, r10]
        refine loopK (fun ρ h' => ρ 7 = .pointer (some ⟨bb, 0, none⟩) ∧ ρ 9 = .slice C cl.length cd ∧ ρ 10 = .int .i64 lv ∧ ρ 16 = .slice X7 ms.length d7 ∧ h' = h7 ∧ ∃ i : Nat, ρ 17 = .int .i64 i ∧ i ≤ ms.length) (fun ρ _ => ms.length - (intOf (ρ 17)).toNat) (by kernel_rfl) ?_ ?_
        · exact ⟨r7, r9, r10, rfl, rfl, 0, rfl, by omega⟩
        · clear r0 r7 r9 r10 r12 r13
          rintro ρ h8 ⟨r7, r9, r10, r16, rfl, i, r17, hi⟩
          by_cases hin : i < ms.length
          · obtain ⟨bs, hbs⟩ : ∃ bs, ms[i]? = some bs := ⟨_, List.getElem?_eq_getElem hin⟩
            obtain ⟨D, dc, g1, g2, _⟩ := RB.at' i bs hbs
            obtain ⟨bk, rfl, _, _, hc⟩ := RB.S.base (by have := RB.len; omega)
            have c0 := hc i _ g1
            obtain ⟨g3, g4⟩ := hall bs (List.mem_of_getElem? hbs)
            simp -implicitDefEqProofs (disch := omega) [go_sem, r7, r9, r10, r16, r17, c0]
            refine useC (rholds12_ok g2 rfl (by omega) SC7.row rfl (by omega) fun x hx => by have := q1 x hx; omega) ?_
            rintro _ h9 ⟨rfl, rfl⟩
            rw [g4]
            simp -implicitDefEqProofs (disch := omega) [go_sem, r7, r9, r10, r16, r17]
            exact ⟨⟨i + 1, by omega, by omega⟩, by omega⟩
          · have M8 := M4.fr0 f47
            have hT := M8.T.len
            have hvv := I.hv
            simp -implicitDefEqProofs (disch := omega) [go_sem, r7, r9, r10, r16, r17]
            refine useC (btrail_m M8) ?_
            rintro _ h9 ⟨rfl, rfl⟩
            simp -implicitDefEqProofs (disch := omega) [go_sem, r7, r9, r10, r16, r17]
            refine useC (tlits_ok M8.T) ?_
            rintro _ h10 ⟨Y, yc, rfl, SY, ownY, f10⟩
            have SC10 := SC7.fr f10 fun _ _ h => h
            simp -implicitDefEqProofs (disch := omega) [go_sem, r7, r9, r10, r16, r17]
            refine useC (state17_ok SC10.row rfl (by omega) SY.row rfl (by omega) fun x hx => by have := q1 x hx; omega) ?_
            rintro _ h11 ⟨rfl, rfl⟩
            have hst0 : (stI s.l cl).1 = 0 := stI_0.2 fun y hy => (q1 y hy).1
            have M11 := M8.fr0 f10
            have f411 := f47.trans f10
            have f011 := f03.trans (f4.trans f411)
            simp -implicitDefEqProofs (disch := omega) [go_sem, r7, r9, r10, r16, r17, hst0]
            by_cases hnil : cl = []
            · have hms0 : ms = [] := by
                match ms, hall with
                | [], _ => rfl
                | bs :: r, hall =>
                  have := (hall bs (by simp)).2
                  rw [hnil] at this
                  cases this
              have hl0 : cl.length = 0 := by rw [hnil]; rfl
              have hl1 : ms.length = 0 := by rw [hms0]; rfl
              simp -implicitDefEqProofs (disch := omega) [go_sem, r7, r9, r10, r16, r17, hnil, hms0]
              exact f011
            · obtain ⟨x, hx, hx1, hx2⟩ := q4 hnil
              have hl0 : 0 < cl.length := List.length_pos_iff.2 hnil
              -- how many stand above
              have hcnt : ∀ j, j ≤ cl.length → ((cl.take j).filter fun y => decide (lv < lvx s.l y)).length ≤ j := fun j hj => Nat.le_trans (List.length_filter_le _ _) (by rw [List.length_take]; omega)
              have hone : (cl.filter fun y => decide (lv < lvx s.l y)).length = 1 := by
                have e1 : (cl.filter fun y => decide (lv < lvx s.l y)) = cl.filter fun y => y == x := List.filter_congr fun y hy => by
                  by_cases e : y = x
                  · subst e; simp [hx1]
                  · have := hx2 y hy e
                    rw [show (y == x) = false by simp [e]]
                    exact decide_eq_false (by omega)
                rw [e1]
                have := List.Nodup.count (a := x) (rise_nodup q2)
                rw [if_pos hx, List.count_eq_length_filter] at this
                exact this
              obtain ⟨G, hG⟩ : ∃ G : Nat → Nat, G = fun j => ((cl.take j).filter fun y => decide (lv < lvx s.l y)).length := ⟨_, rfl⟩
              have G0 : G 0 = 0 := by rw [hG]; rfl
              have Gl : ∀ j, j ≤ cl.length → G j ≤ j := fun j hj => by rw [hG]; exact hcnt j hj
              have Ge : G cl.length = 1 := by rw [hG]; simp only [List.take_length]; exact hone
              have Gs : ∀ {j : Nat} {y : Int}, cl[j]? = some y → G (j + 1) = if lv < lvx s.l y then G j + 1 else G j := fun hy => by
                rw [hG]; simp only []
                rw [take_at hy, List.filter_append, List.length_append, List.filter_cons]
                split
                · rename_i h; rw [if_pos (by simpa using h)]; rfl
                · rename_i h; rw [if_neg (by simpa using h)]; rfl
              clear hG
              simp -implicitDefEqProofs (disch := omega) [go_sem, r7, r9, r10, r16, r17, hnil]
              refine loopK (fun ρ h' => ρ 7 = .pointer (some ⟨bb, 0, none⟩) ∧ ρ 9 = .slice C cl.length cd ∧ ρ 10 = .int .i64 lv ∧ h' = h11 ∧ ∃ j : Nat, ρ 21 = .int .i64 j ∧ j ≤ cl.length ∧ ρ 20 = .int .i64 (G j)) (fun ρ _ => cl.length - (intOf (ρ 21)).toNat) (by kernel_rfl) ?_ ?_
              · exact ⟨r7, r9, r10, rfl, 0, rfl, by omega, by rw [G0]; rfl⟩
              · clear r7 r9 r10 r16 r17
                rintro ρ h12 ⟨r7, r9, r10, rfl, j, r21, hj, r20⟩
                have hgj := Gl j hj
                by_cases hjn : j < cl.length
                · obtain ⟨bk, off, rfl, hc⟩ := SC10.row.get (by rw [ints_len]; omega)
                  obtain ⟨y, hy⟩ := some_at hjn
                  have c0 := hc _ _ (ints_at hy)
                  have hyr := (q1 y (List.mem_of_getElem? hy)).2
                  have gs := Gs hy
                  have ev : var12 y = y.natAbs := if_pos (by omega)
                  simp -implicitDefEqProofs (disch := omega) [go_sem, r7, r9, r10, r20, r21]
                  refine drawC [(0, 0), (2, 0), (3, 0), (4, 0), (5, 2), (8, 0), (1, 3), (6, 3), (7, 3), (9, 0)] (Eq _) mixed (by kernel_rfl) rfl ?_
                  simp -implicitDefEqProofs (disch := omega) [go_sem, r7, r9, r10, r20, r21, c0]
                  refine useC (btrail_m M11) ?_
                  rintro _ h13 ⟨rfl, rfl⟩
                  simp -implicitDefEqProofs (disch := omega) [go_sem, r7, r9, r10, r20, r21, c0]
                  refine useC (var12_ok (x := y) (by omega) (by omega)) ?_
                  rintro _ h13 ⟨rfl, rfl⟩
                  rw [ev]
                  simp -implicitDefEqProofs (disch := omega) [go_sem, r7, r9, r10, r20, r21, c0]
                  refine useC (tlevelOf_ok M11.T (by omega) (by omega)) ?_
                  rintro _ h13 ⟨rfl, rfl⟩
                  rw [lvi_nat]
                  by_cases hlt : lv < lvx s.l y
                  · rw [if_pos hlt] at gs
                    simp -implicitDefEqProofs (disch := omega) [go_sem, r7, r9, r10, r20, r21, hlt]
                    exact ⟨⟨j + 1, by omega, by omega, by omega⟩, by omega⟩
                  · rw [if_neg hlt] at gs
                    simp -implicitDefEqProofs (disch := omega) [go_sem, r7, r9, r10, r20, r21, hlt]
                    exact ⟨⟨j + 1, by omega, by omega, by omega⟩, by omega⟩
                · have e1 : j = cl.length := by omega
                  subst e1
                  rw [Ge] at r20
                  have v1 := LVi_b M11.T (x.natAbs : Int)
                  rw [lvi_nat] at v1
                  simp -implicitDefEqProofs (disch := omega) [go_sem, r7, r9, r10, r20, r21]
                  refine useC (bback_m M11 (n := lv) (by omega) (by omega)) ?_
                  rintro _ h13 ⟨p13, M13, st13⟩
                  have hxl : lvx s.l x ≤ s.level := by
                    obtain ⟨i, t, g1, _, _, g4, _⟩ := false_at I.good (q1 x hx).1
                    have := I.lvs.le t (List.mem_of_getElem? g1)
                    omega
                  rw [if_pos (by omega), show max lv 0 = lv by omega] at M13
                  have hCc : ∀ y, blk C y → p.c y = none := fun y hy => by
                    cases hpc : p.c y with
                    | none => rfl
                    | some t => have := M.low y t hpc; have := ownC y hy; omega
                  have SC13 := SC10.fr st13.fr fun y hy hn => hn (hCc y hy)
                  have f0 : Fr (fun _ => False) h h13 := f011.trans' st13.fr fun y hy hn => by
                    cases hpc : p.c y with
                    | none => exact hn hpc
                    | some t => have := F.W.low y t hpc; have := f1.size; omega
                  simp -implicitDefEqProofs (disch := omega) [go_sem, r7, r9, r10, r20, r21]
                  refine useC (btrail_m M13) ?_
                  rintro _ h14 ⟨rfl, rfl⟩
                  have hl13 := M13.T.len
                  have hv13 := M13.T.hv
                  simp -implicitDefEqProofs (disch := omega) [go_sem, r7, r9, r10, r20, r21]
                  refine useC (tlits_ok M13.T) ?_
                  rintro _ h15 ⟨Z, zc, rfl, SZ, ownZ, f15⟩
                  have SC15 := SC13.fr f15 fun _ _ h => h
                  simp -implicitDefEqProofs (disch := omega) [go_sem, r7, r9, r10, r20, r21]
                  refine useC (state17_ok SC15.row rfl (by omega) SZ.row rfl (by omega) fun y hy => by have := q1 y hy; omega) ?_
                  rintro _ h16 ⟨rfl, rfl⟩
                  have hu : UnitAt (cutTo s.l lv.toNat) cl x := cut_unit I.good (fun y hy => (q1 y hy).1) hx (by omega) fun y hy hn => by have := hx2 y hy hn; omega
                  have hst2 : stI (backS s lv.toNat).l cl = (2, x) := (stI_2 (rise_nodup q2)).2 hu
                  rw [hst2]
                  simp -implicitDefEqProofs (disch := omega) [go_sem, r7, r9, r10, r20, r21]
                  exact f0.trans f15
end
end Xe

/- An argument that is a row of numbers. -/
namespace Xe
open Go Go.ChangeShapes Go.WideShapes Go.ChangeAt Go.RowKit Go.Proofs
section
variable {H : Type} {enc : TypeId × Value → H} {P : Program} {w : World} {sp : Nat → Bool} {held : Bool} {r : Reach} {b0 : Nat} {t e q : TypeId}

/-- a slice among other cells -/
theorem open_row1 {v : Value} {d : DataW H} {ps : List MemPlace} (ht : P.underlying t = some (.slice e)) (he : P.underlying e = some (.int .i64)) (hc : P.cellsOf e = 1) (hval : Value.okWide P w r b0 t v) (h : DataW.Trod enc P w 0 sp held t v d ps) :
    ∃ A cap, ∃ l : List Int, v = .slice A l.length cap ∧ l.length < 2 ^ 63 ∧ RowAt w.heap A (ints l) ∧ ∀ x ∈ l, -9223372036854775808 ≤ x ∧ x ≤ 9223372036854775807 := by
  obtain ⟨a, len, cap, rfl⟩ := okWide_slice ht hval
  obtain ⟨fuel, hf⟩ := h
  obtain ⟨A, c, l, h1, h2, h3, h4⟩ := open_intsC ht he hc hf
  simp [Value.cells] at h1
  obtain ⟨rfl, rfl, rfl⟩ := h1
  exact ⟨_, _, l, rfl, h2, h3, h4⟩
end
theorem holds_row {h : Heap} (a0 : Int) (w0 : -9223372036854775808 ≤ a0 ∧ a0 ≤ 9223372036854775807) (A : Option Addr) (m c : Nat) (gs : Nat → List Int) (R : Args2 h A m gs) (B : Option Addr) (d : Nat) (ds : List Int) (n : ds.length < 2 ^ 63) (RD : RowAt h B (ints ds)) (hdr : ∀ x ∈ ds, -9223372036854775808 ≤ x ∧ x ≤ 9223372036854775807) :
    CallsH Tryz.prog 3 [.int .i64 a0, .slice A m c, .slice B ds.length d] h fun r h' => r = .bool true ∧ Fr (fun _ => False) h h' := holds_walk a0 w0 A m c gs R B ds.length d ds RD rfl n hdr
end Xe
