/- Package graph: Reach. -/
import Derived.Test.YtkghjecglmmloaaG11
namespace Xe
open Go Go.Proofs Gr
set_option maxRecDepth 16000
set_option maxHeartbeats 1000000

/-- what some points reach -/
def RS (E : Nat → List Nat) (m : Nat) (fl : List Int) (x : Nat) : Prop := ∃ p : Nat, (p : Int) ∈ fl ∧ p < m ∧ Rch E p x
theorem sumR_const (c : Nat) : ∀ n, sumR (fun _ => c) n = n * c
  | 0 => by rw [Nat.zero_mul]; rfl
  | n + 1 => by rw [sumR, sumR_const c n, Nat.succ_mul]
/-- what is left to walk -/
def rms (E : Nat → List Nat) (m : Nat) (sn : Nat → Bool) (td : List Int) : Nat := sumR (fun p => if sn p = true then 0 else (E p).length + 1) m + td.length
structure RInv (E : Nat → List Nat) (m : Nat) (fl : List Int) (sn : Nat → Bool) (td : List Int) : Prop where
  a : ∀ p, p < m → sn p = true → RS E m fl p
  b : ∀ p : Nat, (p : Int) ∈ td → p < m → RS E m fl p
  c : ∀ p : Nat, (p : Int) ∈ fl → p < m → sn p = true ∨ (p : Int) ∈ td
  d : ∀ p, p < m → sn p = true → ∀ q ∈ E p, sn q = true ∨ (q : Int) ∈ td
  r : ∀ x ∈ td, -9223372036854775808 ≤ x ∧ x ≤ 9223372036854775807
section
variable {E : Nat → List Nat} {m : Nat} {fl : List Int} {sn : Nat → Bool} {td : List Int}
/-- the last one is no point, or was seen -/
theorem RInv.skip {x : Int} (I : RInv E m fl sn (td ++ [x])) (h : ∀ p : Nat, x = p → p < m → sn p = true) (G : Gd E m) : RInv E m fl sn td := by
  have key : ∀ p : Nat, p < m → sn p = true ∨ (p : Int) ∈ td ++ [x] → sn p = true ∨ (p : Int) ∈ td := fun p hp k => by
    rcases k with k | k
    · exact .inl k
    · rcases List.mem_append.1 k with k | k
      · exact .inr k
      · rw [List.mem_singleton] at k; exact .inl (h p k.symm hp)
  exact ⟨I.a, fun p hp => I.b p (List.mem_append_left _ hp), fun p h1 h2 => key p h2 (I.c p h1 h2), fun p h1 h2 q hq => key q (G p h1 q hq) (I.d p h1 h2 q hq), fun y hy => I.r y (List.mem_append_left _ hy)⟩
/-- the last one is seen now -/
theorem RInv.see {x : Nat} (I : RInv E m fl sn (td ++ [(x : Int)])) (hx : x < m) (hm : m ≤ 4096) (G : Gd E m) : RInv E m fl (fun p => if p = x then true else sn p) (td ++ toI (E x)) := by
  have hRx := I.b x (List.mem_append_right _ (List.mem_singleton_self _)) hx
  have key : ∀ p : Nat, sn p = true ∨ (p : Int) ∈ td ++ [(x : Int)] → (if p = x then true else sn p) = true ∨ (p : Int) ∈ td ++ toI (E x) := fun p k => by
    by_cases e : p = x
    · exact .inl (if_pos e)
    · rw [if_neg e]
      rcases k with k | k
      · exact .inl k
      · rcases List.mem_append.1 k with k | k
        · exact .inr (List.mem_append_left _ k)
        · rw [List.mem_singleton] at k; exact absurd (by omega) e
  refine ⟨fun p hp h => ?_, fun p hp h => ?_, fun p h1 h2 => key p (I.c p h1 h2), fun p h1 h2 q hq => ?_, fun y hy => ?_⟩
  · by_cases e : p = x
    · rw [e]; exact hRx
    · simp only [if_neg e] at h; exact I.a p hp h
  · rcases List.mem_append.1 hp with k | k
    · exact I.b p (List.mem_append_left _ k) h
    · rw [mem_toI] at k
      obtain ⟨y, h1, h2, h3⟩ := hRx
      exact ⟨y, h1, h2, .step h3 k⟩
  · by_cases e : p = x
    · subst e; exact .inr (List.mem_append_right _ (mem_toI.2 hq))
    · simp only [if_neg e] at h2
      exact key q (I.d p h1 h2 q hq)
  · rcases List.mem_append.1 hy with k | k
    · exact I.r y (List.mem_append_left _ k)
    · unfold toI at k
      obtain ⟨z, hz, rfl⟩ := List.mem_map.1 k
      have := G x hx z hz
      omega
theorem RInv.fin (I : RInv E m fl sn []) (G : Gd E m) : ∀ p, p < m → (sn p = true ↔ RS E m fl p) := fun p hp => by
  refine ⟨I.a p hp, ?_⟩
  rintro ⟨y, h1, h2, h3⟩
  have h0 : sn y = true := (I.c y h1 h2).elim id fun k => by cases k
  have := h3.stay (S := fun x => x < m ∧ sn x = true) ⟨h2, h0⟩ fun x hx z hz => ⟨G x hx.1 z hz, (I.d x hx.1 hx.2 z hz).elim id fun k => by cases k⟩
  exact this.2
theorem rms_see {x : Nat} (hx : x < m) (h : sn x = false) : rms E m (fun p => if p = x then true else sn p) (td ++ toI (E x)) + 2 = rms E m sn (td ++ [(x : Int)]) := by
  have := sumR_upd (f := fun p => if sn p = true then 0 else (E p).length + 1) (g := fun p => if (if p = x then true else sn p) = true then 0 else (E p).length + 1) hx (fun i _ hi => by simp only [if_neg hi])
  simp only [h, if_true, Bool.false_eq_true, if_false] at this
  unfold rms
  rw [List.length_append, List.length_append, toI_len]
  simp only [List.length_singleton]
  omega
theorem rms_skip {x : Int} : rms E m sn td + 1 = rms E m sn (td ++ [x]) := by unfold rms; rw [List.length_append]; rfl
theorem rms_start (hd : ∀ i, i < m → (E i).length ≤ 4096) (hm : m ≤ 4096) : rms E m (fun _ => false) td ≤ 16781312 + td.length := by
  unfold rms
  have := sumR_le (f := fun p => if (fun _ => false : Nat → Bool) p = true then 0 else (E p).length + 1) (g := fun _ => 4097) (n := m) fun i hi => by
    simp only [Bool.false_eq_true, if_false]
    have := hd i hi; omega
  rw [sumR_const] at this
  have h2 : m * 4097 ≤ 4096 * 4097 := Nat.mul_le_mul_right _ hm
  omega
def fR (b : Nat → Bool) (i : Nat) : List Nat := (List.range i).filter b
theorem those_filter {S : Nat → Prop} {b : Nat → Bool} {n : Nat} (h : ∀ p, p < n → (b p = true ↔ S p)) : fR b n = those S n := by
  unfold fR
  refine Inc.eq ((inc_range n).filter _) (inc_those _ _) fun x => ?_
  rw [mem_those, List.mem_filter, List.mem_range]
  constructor
  · rintro ⟨h1, h2⟩; exact ⟨h1, (h x h1).1 h2⟩
  · rintro ⟨h1, h2⟩; exact ⟨h1, (h x h1).2 h2⟩
theorem filt_succ (b : Nat → Bool) (i : Nat) : fR b (i + 1) = fR b i ++ if b i = true then [i] else [] := by
  unfold fR
  rw [List.range_succ, List.filter_append]
  by_cases h : b i <;> simp [h]
theorem filt_len (b : Nat → Bool) (i : Nat) : (fR b i).length ≤ i := by
  unfold fR
  have := List.length_filter_le b (List.range i)
  rw [List.length_range] at this
  exact this
end

structure RJ0 (h h' : Heap) (A : Option Addr) (m : Nat) (gs : Nat → List Int) (fl : List Int) (mm : Nat) (h1 : Heap) (sb : Nat) (sn : Nat → Bool) (K : Option Addr) (kc : Nat) (td : List Int) : Prop where
  good : GoodG m gs
  sb0 : h.size ≤ sb
  sb1 : sb < h1.size
  T : FnB h' sb m (fun p => .bool (sn p))
  S : SlAt h' K kc (ints td)
  own : ∀ x, blk K x → h.size ≤ x ∧ x ≠ sb
  f : Fr (fun _ => False) h h'
  I : RInv (EG m gs) m fl sn td
  me : rms (EG m gs) m sn td = mm
  mb : mm ≤ 16785408
def RJ (h : Heap) (A : Option Addr) (m c : Nat) (gs : Nat → List Int) (fl : List Int) (mm : Nat) (ρ : Env) (h' : Heap) : Prop := ∃ (h1 : Heap) (sb : Nat) (sn : Nat → Bool) (K : Option Addr) (kc : Nat) (td : List Int), ρ 0 = .slice A m c ∧ ρ 5 = .slice (some ⟨sb, 0, none⟩) m m ∧ ρ 6 = .slice K td.length kc ∧ RJ0 h h' A m gs fl mm h1 sb sn K kc td
section
variable {h : Heap} {A F : Option Addr} {m c fc : Nat} {gs : Nat → List Int} {fl : List Int}
theorem reach_ok (R : ArgsG h A m gs) (RF : RowAt h F (ints fl)) (hfl : fl.length ≤ 4096) (hr : ∀ x ∈ fl, -9223372036854775808 ≤ x ∧ x ≤ 9223372036854775807) :
    CallsH Try.prog 68 [.slice A m c, .slice F fl.length fc] h fun r h' => Fr (fun _ => False) h h' ∧ ((¬ GoodG m gs ∧ r = .slice none 0 0) ∨ (GoodG m gs ∧ ∃ K kc, r = .slice K (those (RS (EG m gs) m fl) m).length kc ∧ SlAt h' K kc (nts (those (RS (EG m gs) m fl) m)))) := by
  have hms := R.small
  refine calls_of 70 [.tmp 4] Go.Proofs.Try.func68 rfl rfl rfl (by kernel_rfl) (Nat.le_of_ble_eq_true rfl) ?_
  simp -implicitDefEqProofs (disch := omega) [go_sem]
  refine scopeMG 0 (RJ h A m c gs fl) rfl rfl (by kernel_rfl) ?_ ?_
  · simp -implicitDefEqProofs (disch := omega) [go_sem]
    refine useC (goodG_ok R) ?_
    rintro _ h1 ⟨b, rfl, hb, rfl⟩
    cases b with
    | false =>
      simp -implicitDefEqProofs (disch := omega) [go_sem]
      exact ⟨Fr.refl _ _, .inl fun k => by have := hb.2 k; cases this⟩
    | true =>
      have hG := hb.1 rfl
      have hm := hG.1
      simp -implicitDefEqProofs (disch := omega) [go_sem]
      obtain ⟨h2, e2⟩ : ∃ h2, h2 = h1.push (.cells (zerosOf (Value.bool false).cells ((m : Int).toNat * 1)) 4) := ⟨_, rfl⟩
      rw [← e2]
      have f2 : Fr (fun _ => False) h1 h2 := by rw [e2]; exact (Fr.refl _ _).push
      have z2 : h2.size = h1.size + 1 := by rw [e2, push_size]
      have T2 : FnB h2 h1.size m (fun p => .bool ((fun _ => false) p)) := FnB.ofPush (e := 4) (by rw [e2, push_new]; simp [Value.cells])
      refine useC (clone_ok (RF.fr0 f2) (by rw [ints_len]) ints_one (by omega)) ?_
      rintro _ h3 ⟨K, kc, rfl, S3, own3, f3⟩
      simp -implicitDefEqProofs (disch := omega) [go_sem]
      have f13 := f2.trans f3
      have z3 := f3.size
      have hms0 := rms_start (E := EG m gs) (m := m) (td := fl) (EG_deg hG) hm
      refine ⟨rms (EG m gs) m (fun _ => false) fl, h2, h1.size, fun _ => false, K, kc, fl, ?_, ?_, ?_, ?_⟩
      · simp -implicitDefEqProofs (disch := omega) [go_sem]
      · simp -implicitDefEqProofs (disch := omega) [go_sem]
      · simp -implicitDefEqProofs (disch := omega) [go_sem]
      · exact {
          good := hG, sb0 := Nat.le_refl _, sb1 := by omega, T := T2.fr f3 id, S := S3
          own := fun x hx => by have := own3 x hx; omega
          f := f13
          I := ⟨fun p _ k => (by cases k), fun p hp hpm => ⟨p, hp, hpm, .refl _⟩, fun p hp _ => .inr hp, fun p _ k => (by cases k), hr⟩
          me := rfl, mb := by omega }
  · intro mm ρ h2 hJ
    obtain ⟨h1, sb, sn, K, kc, td, r0, r5, r6, J⟩ := hJ
    have hG := J.good
    have T2 := J.T
    have S2 := J.S
    have f2 := J.f
    have I := J.I
    have hmm := J.me
    have hmb := J.mb
    have hm := hG.1
    have hgd := EG_gd hG
    have z2 := f2.size
    have M2 : GrM h2 (fun x => x < h.size) A m (EG m gs) := (R.gr hG).fr0 f2
    have htl : td.length ≤ mm := by rw [← hmm]; unfold rms; omega
    obtain ⟨n, hn⟩ : ∃ n, n = td.length := ⟨_, rfl⟩
    rcases List.eq_nil_or_concat td with rfl | ⟨td', x, rfl⟩
    · have hfin := I.fin hgd
      simp -implicitDefEqProofs (disch := omega) [go_sem, r0, r5, r6]
      refine loopK (fun ρ h' => ρ 56 = .slice (some ⟨sb, 0, none⟩) m m ∧ ρ 57 = .int .i64 m ∧ ∃ (i : Nat) (O : Option Addr) (oc : Nat), ρ 9 = .slice O (fR sn i).length oc ∧ ρ 58 = .int .i64 i ∧ i ≤ m ∧ SlAt h' O oc (nts (fR sn i)) ∧ (∀ x, blk O x → h2.size ≤ x) ∧ Fr (fun _ => False) h2 h')
        (fun ρ _ => m - (intOf (ρ 58)).toNat) (by kernel_rfl) ?_ ?_
      · exact ⟨rfl, rfl, 0, none, 0, rfl, rfl, by omega, SlAt.nil _, fun x ⟨a, ha, _⟩ => (by cases ha), Fr.refl _ _⟩
      · clear r0 r5 r6
        rintro ρ h3 ⟨r56, r57, i, O, oc, r9, r58, hi, S3, own3, f3⟩
        have hmu : (intOf (ρ 58)).toNat = i := by rw [r58]; rfl
        have hll := filt_len sn i
        have hfs := filt_succ sn i
        by_cases him : i < m
        · have ci := (T2.fr f3 id).at' i him
          cases hs : sn i with
          | true =>
            rw [hs] at ci
            rw [hs, if_pos rfl] at hfs
            simp -implicitDefEqProofs (disch := omega) [go_sem, r56, r57, r9, r58, ci]
            refine build1 rfl rfl ?_
            obtain ⟨h4, e4⟩ : ∃ h4, h4 = h3.push (.cells #[.int .i64 (i : Int)] 3) := ⟨_, rfl⟩
            rw [← e4]
            have f4 : Fr (fun _ => False) h3 h4 := by rw [e4]; exact (Fr.refl _ _).push
            have z4 := f4.size
            have z3 := f3.size
            simp -implicitDefEqProofs (disch := omega) [go_sem, r56, r57, r9, r58]
            refine append1 (v := .int .i64 (i : Int)) (S3.fr f4 fun _ _ k => k) (by rw [nts_len]) (by rw [e4, hcell_push_new]; rfl) rfl (by omega) (by omega) ?_
            intro O' oc' h5 S5 f5 own5
            rw [nts_snoc, ← hfs] at S5
            have hlen : (fR sn i).length + 1 = (fR sn (i + 1)).length := by rw [hfs, List.length_append]; rfl
            rw [hlen]
            simp -implicitDefEqProofs (disch := omega) [go_sem, r56, r57, r9, r58]
            exact ⟨⟨i + 1, O', oc', ⟨rfl, rfl, rfl⟩, by omega, by omega, S5, fun x hx => (own5 x hx).elim (own3 x) fun k => by omega, (f3.trans f4).trans' f5 fun x hx k => by have := own3 x k; omega⟩, by omega⟩
          | false =>
            rw [hs] at ci
            rw [hs] at hfs
            simp only [Bool.false_eq_true, if_false, List.append_nil] at hfs
            simp -implicitDefEqProofs (disch := omega) [go_sem, r56, r57, r9, r58, ci]
            exact ⟨⟨i + 1, O, oc, ⟨rfl, by rw [hfs], rfl⟩, by omega, by omega, by rw [hfs]; exact S3, own3, f3⟩, by omega⟩
        · have e : i = m := by omega
          subst e
          have et := those_filter hfin
          rw [et] at r9 S3
          simp -implicitDefEqProofs (disch := omega) [go_sem, r56, r57, r9, r58]
          exact ⟨f2.trans f3, .inr ⟨hG, O, oc, ⟨rfl, rfl⟩, S3⟩⟩
    · rw [List.concat_eq_append] at r6 S2 I hmm htl J
      rw [List.length_append] at htl
      simp only [List.length_singleton] at htl
      have hx := I.r x (List.mem_append_right _ (List.mem_singleton_self _))
      have hl : ((td' ++ [x]).length : Int) - 1 = td'.length := by rw [List.length_append]; simp
      obtain ⟨bk, hK, _, _, hc⟩ := S2.base (by rw [ints_len, List.length_append]; simp)
      subst hK
      have ce := hc td'.length (.int .i64 x) (ints_at (by simp))
      have S2' := S2.take td'.length
      have htk : (ints (td' ++ [x])).take td'.length = ints td' := by rw [ints_append, ← ints_len td', List.take_left]
      rw [htk] at S2'
      have hlc := S2.len
      rw [ints_len, List.length_append] at hlc
      simp only [List.length_singleton] at hlc
      have hms1 := rms_skip (E := EG m gs) (m := m) (sn := sn) (td := td') (x := x)
      rw [List.length_append] at r6
      simp only [List.length_singleton] at r6
      have skip : (∀ p : Nat, x = p → p < m → sn p = true) → RJ0 h h2 A m gs fl (rms (EG m gs) m sn td') h1 sb sn (some ⟨bk, 0, none⟩) kc td' := fun k =>
        ⟨hG, J.sb0, J.sb1, T2, S2', J.own, f2, I.skip k hgd, rfl, by omega⟩
      by_cases hx0 : 0 ≤ x
      · by_cases hxm : x < m
        · obtain ⟨q, rfl⟩ : ∃ q : Nat, x = q := ⟨x.toNat, by omega⟩
          have hqm : q < m := by omega
          have ct := T2.at' q hqm
          have wt := T2.fz
          cases hs : sn q with
          | true =>
            rw [hs] at ct
            simp -implicitDefEqProofs (disch := omega) [go_sem, r0, r5, r6, ce, ct]
            refine ⟨rms (EG m gs) m sn td', ?_, h1, sb, sn, _, kc, td', ?_, ?_, ?_, skip fun p e _ => (show sn p = true by rw [show p = q by omega]; exact hs)⟩
            · omega
            · simp -implicitDefEqProofs (disch := omega) [go_sem, r0, r5, r6]
            · simp -implicitDefEqProofs (disch := omega) [go_sem, r0, r5, r6]
            · simp -implicitDefEqProofs (disch := omega) [go_sem, r0, r5, r6]
          | false =>
            rw [hs] at ct
            obtain ⟨gk, off, D, d, rfl, g0, gR, hgk, hgD⟩ := M2.at' q hqm
            have hdq := EG_deg hG q hqm
            have nsb : ¬ gk = sb := fun e => by have := J.sb0; omega
            simp -implicitDefEqProofs (disch := omega) [go_sem, r0, r5, r6, ce, ct, wt, g0, nsb]
            obtain ⟨h3, e3⟩ : ∃ h3, h3 = hset h2 ⟨sb, q, none⟩ (.bool true) := ⟨_, rfl⟩
            rw [← e3]
            have f3 : Fr (fun x => x = sb) h2 h3 := by rw [e3]; exact (Fr.refl _ _).set rfl
            have z3 := f3.size
            have T3 := T2.set (.bool true) hqm
            rw [← e3] at T3
            have b0 := J.sb0
            have b1 := T2.lt
            have S3 : SlAt h3 (some ⟨bk, 0, none⟩) (kc * 1) (ints td') := by rw [Nat.mul_one]; exact S2'.fr f3 fun x hx => (J.own x hx).2
            have gR3 : RowAt h3 D (nts (EG m gs q)) := by
              by_cases e : EG m gs q = []
              · rw [e]; exact .nil
              · exact gR.fr f3 fun x hx k => by have := hgD e x hx; omega
            refine appendN S3 (by rw [ints_len, Nat.mul_one]) gR3 (by rw [nts_len, Nat.mul_one]) (by omega) nts_one (by omega) (by omega) ?_
            intro K' kc' h4 S4 f4 own4
            rw [Nat.mul_one] at S4
            have z4 := f4.size
            have eL : td'.length + (EG m gs q).length = (td' ++ toI (EG m gs q)).length := by rw [List.length_append, toI_len]
            rw [eL]
            have hse := rms_see (E := EG m gs) (td := td') hqm hs
            have e4 : ints td' ++ nts (EG m gs q) = ints (td' ++ toI (EG m gs q)) := by unfold nts; rw [ints_append]
            rw [e4] at S4
            simp -implicitDefEqProofs (disch := omega) [go_sem, r0, r5, r6]
            refine ⟨rms (EG m gs) m (fun p => if p = q then true else sn p) (td' ++ toI (EG m gs q)), by omega, h1, sb, fun p => if p = q then true else sn p, K', kc', td' ++ toI (EG m gs q), ?_, ?_, ?_, ?_⟩
            · simp -implicitDefEqProofs (disch := omega) [go_sem, r0, r5, r6]
            · simp -implicitDefEqProofs (disch := omega) [go_sem, r0, r5, r6]
            · simp -implicitDefEqProofs (disch := omega) [go_sem, r0, r5, r6]
            · exact {
                good := hG, sb0 := J.sb0, sb1 := J.sb1
                T := (T3.fr f4 fun k => (J.own sb k).2 rfl).cong fun j _ => by
                  by_cases e : j = q
                  · rw [if_pos e, if_pos e]
                  · rw [if_neg e, if_neg e]
                S := S4
                own := fun x hx => (own4 x hx).elim (J.own x) fun k => by omega
                f := (f2.trans' f3 fun x hx k => by omega).trans' f4 fun x hx k => by have := J.own x k; omega
                I := I.see hqm hm hgd
                me := rfl, mb := by omega }
        · simp -implicitDefEqProofs (disch := omega) [go_sem, r0, r5, r6, ce, hx0, hxm]
          refine ⟨rms (EG m gs) m sn td', ?_, h1, sb, sn, _, kc, td', ?_, ?_, ?_, skip fun p e hp => by omega⟩
          · omega
          · simp -implicitDefEqProofs (disch := omega) [go_sem, r0, r5, r6]
          · simp -implicitDefEqProofs (disch := omega) [go_sem, r0, r5, r6]
          · simp -implicitDefEqProofs (disch := omega) [go_sem, r0, r5, r6]
      · simp -implicitDefEqProofs (disch := omega) [go_sem, r0, r5, r6, ce, hx0]
        refine ⟨rms (EG m gs) m sn td', ?_, h1, sb, sn, _, kc, td', ?_, ?_, ?_, skip fun p e hp => by omega⟩
        · omega
        · simp -implicitDefEqProofs (disch := omega) [go_sem, r0, r5, r6]
        · simp -implicitDefEqProofs (disch := omega) [go_sem, r0, r5, r6]
        · simp -implicitDefEqProofs (disch := omega) [go_sem, r0, r5, r6]
end
end Xe
