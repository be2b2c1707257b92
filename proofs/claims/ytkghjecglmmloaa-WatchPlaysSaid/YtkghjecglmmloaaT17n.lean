/- The law's own answers: Close, and the clauses that are there. -/
import Derived.Test.YtkghjecglmmloaaT17m
namespace Xe
open Go Tp Go.Proofs
set_option maxRecDepth 16000
set_option maxHeartbeats 1000000

/-- rows of numbers, of which the row is one's own -/
structure RowsK (h : Heap) (N : Nat) (A : Option Addr) (cap : Nat) (K : List (List Int)) (vs : List Value) : Prop where
  S : SlAt h A cap vs
  len : vs.length = K.length
  own : ∀ y, blk A y → N ≤ y
  one : ∀ w ∈ vs, w.oneCell' = true
  at' : ∀ (i : Nat) k, K[i]? = some k → ∃ B c, vs[i]? = some (Value.slice B k.length c) ∧ RowAt h B (ints k) ∧ ∀ y, blk B y → y < h.size ∧ ¬ blk A y

section
variable {h : Heap}
theorem RowsK.fr0 {N : Nat} {A : Option Addr} {cap : Nat} {K : List (List Int)} {vs : List Value} (R : RowsK h N A cap K vs) {h' : Heap} (f : Fr (fun _ => False) h h') : RowsK h' N A cap K vs where
  S := R.S.fr f fun _ _ h => h
  len := R.len
  own := R.own
  one := R.one
  at' i k hk := by
    obtain ⟨B, c, h1, h2, h3⟩ := R.at' i k hk
    exact ⟨B, c, h1, h2.fr0 f, fun y hy => ⟨Nat.lt_of_lt_of_le (h3 y hy).1 f.size, (h3 y hy).2⟩⟩

theorem close17_ok {vars N : Nat} {A B : Option Addr} {cap n m d : Nat} {K : List (List Int)} {vs : List Value} {l : List St} (R : RowsK h N A cap K vs) (hn : n = K.length) (hs : n < 2 ^ 30) (Rl : RowAt h B (ints (lits l))) (hm : m = l.length) (G : Good vars l) (hv : vars ≤ 16777216)
    (hK : ∀ c ∈ K, c.Nodup ∧ c.length < 2 ^ 40 ∧ ∀ x ∈ c, 1 ≤ x.natAbs ∧ x.natAbs ≤ vars) :
    CallsH Try.prog 91 [.slice A n cap, .slice B m d] h fun r h' => Fr (fun _ => False) h h' ∧
      ((∃ o C e, r = .tuple #[.slice C (o.length : Nat) e, .bool true] ∧ RowAt h' C (ints (lits o)) ∧ Least vars K l o ∧ QuietK K o) ∨
       (r = .tuple #[.slice none 0 0, .bool false] ∧ ∃ o c, Least vars K l o ∧ c ∈ K ∧ FailAt o c)) := by
  subst hn hm
  have hlen := G.len
  have hll := lits_len l
  refine calls_of 39 [.tmp 4, .tmp 5] Go.Proofs.Try.func91 rfl rfl rfl (by kernel_rfl) (Nat.le_of_ble_eq_true rfl) ?_
  simp -implicitDefEqProofs (disch := omega) [go_sem]
  refine build0 ?_
  have f1 : Fr (fun _ => False) h (h.push (.cells #[] 3)) := (Fr.refl _ _).push
  have S1 : SlAt (h.push (.cells #[] 3)) (some ⟨h.size, 0, none⟩) (0 * 1) [] := SlAt.new (vs := [])
  simp -implicitDefEqProofs (disch := omega) [go_sem]
  refine appendN (n := 0) (m := l.length) (ws := ints (lits l)) S1 rfl (Rl.fr0 f1) (by rw [ints_len]; omega) (by omega) ints_one (by omega) (by omega) ?_
  intro A2 c2 h2 S2 f2 hA2
  rw [Nat.mul_one, List.nil_append] at S2
  have hb2 : ∀ x, blk A2 x → h.size ≤ x := fun x hx => (hA2 x hx).elim (fun ⟨a, ha, hb⟩ => by cases ha; subst hb; exact Nat.le_refl _) fun h => by rw [push_size] at h; omega
  have f02 : Fr (fun _ => False) h h2 := f1.trans' f2 fun x hx ⟨a, ha, hb⟩ => by cases ha; subst hb; exact absurd hx (Nat.lt_irrefl _)
  simp -implicitDefEqProofs (disch := omega) [go_sem]
  refine loopK (fun ρ h' => ρ 0 = .slice A K.length cap ∧ ∃ (o : List St) (C : Option Addr) (e : Nat) (ag : Bool), ρ 6 = .slice C o.length e ∧ ρ 7 = .bool ag ∧ SlAt h' C e (ints (lits o)) ∧ (∀ x, blk C x → h.size ≤ x) ∧ Least vars K l o ∧ (ag = false → QuietK K o) ∧ Fr (fun _ => False) h h')
    (fun ρ _ => 2 * (vars - lenOf (ρ 6)) + flagOf (ρ 7)) (by kernel_rfl) ?_ ?_
  · exact ⟨rfl, l, A2, c2, true, by simp [put], rfl, S2, hb2, Least.refl G, fun h => (nomatch h), f02⟩
  · rintro ρ h3 ⟨r0, o, C, e, ag, r6, r7, S3, own3, L3, q3, f3⟩
    cases ag with
    | false =>
      simp -implicitDefEqProofs (disch := omega) [go_sem, r0, r6, r7]
      exact ⟨f3, o, C, ⟨rfl, rfl⟩, S3.row, L3, q3 rfl⟩
    | true =>
      have hol := L3.good.len
      have hmu : 2 * (vars - lenOf (ρ 6)) + flagOf (ρ 7) = 2 * (vars - o.length) + 1 := by rw [r6, r7]; rfl
      simp -implicitDefEqProofs (disch := omega) [go_sem, r0, r6, r7]
      refine loopK (fun ρ h' => ρ 0 = .slice A K.length cap ∧ ∃ (i : Nat) (o' : List St) (C : Option Addr) (e : Nat) (ag : Bool), ρ 8 = .int .i64 i ∧ i ≤ K.length ∧ ρ 6 = .slice C o'.length e ∧ ρ 7 = .bool ag ∧ SlAt h' C e (ints (lits o')) ∧ (∀ x, blk C x → h.size ≤ x) ∧ Least vars K l o' ∧
          (ag = false → o' = o ∧ ∀ c ∈ K.take i, (∀ x, ¬ UnitAt o c x) ∧ ¬ FailAt o c) ∧ (ag = true → o.length < o'.length) ∧ Fr (fun _ => False) h h')
        (fun ρ _ => K.length - (intOf (ρ 8)).toNat) (by kernel_rfl) ?_ ?_
      · exact ⟨by simp [put, r0], 0, o, C, e, false, rfl, by omega, by simp [put, r6], rfl, S3, own3, L3, fun _ => ⟨rfl, fun c hc => by simp at hc⟩, fun h => (nomatch h), f3⟩
      · rintro ρ' h4 ⟨r0', i, o', C', e', ag, r8, hi, r6', r7', S4, own4, L4, q4, g4, f4⟩
        have hol4 := L4.good.len
        by_cases hiK : i < K.length
        · obtain ⟨k, hk⟩ : ∃ k, K[i]? = some k := ⟨_, List.getElem?_eq_getElem hiK⟩
          have hkm := List.mem_of_getElem? hk
          obtain ⟨hknd, hkl, hkr⟩ := hK k hkm
          obtain ⟨Bk, ck, hvk, Rk, hbk⟩ := (R.fr0 f4).at' i k hk
          obtain ⟨bkA, hA, _, _, hcA⟩ := (R.fr0 f4).S.base (by rw [R.len]; omega)
          have c0 := hcA i _ hvk
          have hll4 := lits_len o'
          subst hA
          simp -implicitDefEqProofs (disch := omega) [go_sem, r0', r6', r7', r8, c0]
          refine useC (state17_ok Rk rfl hkl S4.row rfl (by omega) (fun x hx => by have := hkr x hx; omega)) ?_
          rintro _ h5 ⟨rfl, rfl⟩
          have etk := take_at hk
          by_cases e0 : (stI o' k).1 = 0
          · simp -implicitDefEqProofs (disch := omega) [go_sem, r0', r6', r7', r8, e0]
            exact ⟨f4, o', L4, k, hkm, stI_0.1 e0⟩
          · by_cases e2 : (stI o' k).1 = 2
            · have hst : stI o' k = (2, (stI o' k).2) := Prod.ext e2 rfl
              have hu := (stI_2 hknd).1 hst
              have hx := hkr _ hu.1
              simp -implicitDefEqProofs (disch := omega) [go_sem, r0', r6', r7', r8, e0, e2]
              refine build1 rfl rfl ?_
              have f5 : Fr (fun _ => False) h5 (h5.push (.cells #[.int .i64 (stI o' k).2] 3)) := (Fr.refl _ _).push
              simp -implicitDefEqProofs (disch := omega) [go_sem, r0', r6', r7', r8]
              have S5 := S4.fr f5 (fun _ _ h => h)
              have z1 := f4.size
              refine append1 S5 (by rw [ints_len]; omega) (v := .int .i64 (stI o' k).2) (by rw [hcell_push_new]; rfl) rfl (by omega) (by omega) ?_
              intro C6 e6 h6 S6 f6 hC6
              have f56 : Fr (fun _ => False) h h6 := (f4.trans f5).trans' f6 fun x hx hb => by have := own4 x hb; omega
              simp -implicitDefEqProofs (disch := omega) [go_sem, r0', r6', r7', r8]
              have L6 := L4.step hkm hu hx.1 hx.2 0 0
              have ei : ints (lits o') ++ [.int .i64 (stI o' k).2] = ints (lits (o' ++ [⟨(stI o' k).2, 0, 0⟩])) := by rw [lits_push]; simp [ints]
              rw [ei] at S6
              have e1 : (o' ++ [(⟨(stI o' k).2, 0, 0⟩ : St)]).length = o'.length + 1 := by simp
              have g6 : o.length < o'.length + 1 := by
                cases ag with
                | false => rw [(q4 rfl).1]; omega
                | true => have := g4 rfl; omega
              refine ⟨⟨i + 1, by omega, by omega, o' ++ [⟨(stI o' k).2, 0, 0⟩], C6, e6, by rw [e1]; exact ⟨rfl, rfl, rfl⟩, S6, fun x hx => (hC6 x hx).elim (own4 x) fun h => by rw [push_size] at h; omega, L6, by rw [e1]; exact g6, f56⟩, by omega⟩
            · simp -implicitDefEqProofs (disch := omega) [go_sem, r0', r6', r7', r8, e0, e2]
              refine ⟨⟨i + 1, by omega, by omega, o', C', e', ⟨rfl, rfl, rfl⟩, S4, own4, L4, fun h => ⟨(q4 h).1, fun c hc => ?_⟩, g4, f4⟩, by omega⟩
              rw [etk, List.mem_append, List.mem_singleton] at hc
              rcases hc with hc | rfl
              · exact (q4 h).2 c hc
              · rw [← (q4 h).1]
                refine ⟨fun x hu => ?_, fun hf => e0 (stI_0.2 hf)⟩
                have := (stI_2 hknd).2 hu
                rw [this] at e2; exact e2 rfl
        · have e : i = K.length := by omega
          subst e
          rw [List.take_length] at q4
          simp -implicitDefEqProofs (disch := omega) [go_sem, r0', r6', r7', r8]
          have hmu' : 2 * (vars - lenOf (ρ' 6)) + flagOf (ρ' 7) = 2 * (vars - o'.length) + flagOf (.bool ag) := by rw [r6', r7']; rfl
          refine ⟨⟨o', C', e', ⟨rfl, rfl, rfl⟩, S4, own4, L4, fun h => ?_, f4⟩, ?_⟩
          · rw [(q4 h).1]; exact (q4 h).2
          · have q1 : lenOf (Value.slice C' o'.length e') = o'.length := rfl
            have q2 : lenOf (Value.slice C o.length e) = o.length := rfl
            have q3 : flagOf (.bool true) = 1 := rfl
            cases ag with
            | false =>
              have e1 := (q4 rfl).1
              have : flagOf (.bool false) = 0 := rfl
              subst e1
              omega
            | true =>
              have e1 := g4 rfl
              have : flagOf (.bool true) = 1 := rfl
              omega
end
end Xe
