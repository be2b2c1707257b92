/- Package learn: shrink. -/
import Derived.Test.YtkghjecglmmloaaGreatL7
namespace Xe
open Go Tp Go.Proofs
set_option maxRecDepth 16000
set_option maxHeartbeats 1000000

/-- a literal left out, if it may be -/
def shr1 (s : WS) (keep : Int) (c : List Int) (x : Int) : List Int := if x ≠ keep ∧ ndl s c x = true then c.filter (fun y => decide (y ≠ x)) else c
def shr (s : WS) (keep : Int) (c L : List Int) : List Int := L.foldl (shr1 s keep) c
theorem shr1_sub {s : WS} {keep : Int} {c : List Int} {x : Int} : (shr1 s keep c x).Sublist c := by
  unfold shr1; split
  · exact List.filter_sublist
  · exact List.Sublist.refl _
theorem shr_sub {s : WS} {keep : Int} : ∀ {L c : List Int}, (shr s keep c L).Sublist c := by
  intro L
  induction L with
  | nil => intro c; exact List.Sublist.refl _
  | cons x L ih => intro c; exact (ih (c := shr1 s keep c x)).trans shr1_sub
theorem shr_snoc {s : WS} {keep : Int} {c L : List Int} {x : Int} : shr s keep c (L ++ [x]) = shr1 s keep (shr s keep c L) x := by unfold shr; rw [List.foldl_append]; rfl
/-- by falling place -/
def Fall (l : List St) (L : List Int) : Prop := L.Pairwise fun x y => plx l y ≤ plx l x
def plC (l : List St) (x y : Int) : Int := plx l y - plx l x
theorem plC_ok (l : List St) (ok : Int → Prop) : CmpOk (plC l) ok where
  le x y _ _ h := by unfold plC at *; omega
  tr x y z _ _ _ h1 h2 := by unfold plC at *; omega

section
variable {N : Nat} {h : Heap} {bb : Nat} {p : BP} {s : WS} {xb : Nat} {K U : Option Addr} {c u : List Int}
theorem LrM.setC (L : LrM N h bb p s xb K U c u) {h' : Heap} {kc : Nat} {c' : List Int} (f : Fr (blk K) h h') (S : SlAt h' K kc (ints c')) : LrM N (hset h' ⟨xb, 2, none⟩ (.slice K c'.length kc)) bb p s xb K U c' u := by
  obtain ⟨kc1, uc1, B, SK, SU, hK, hU⟩ := L.ex
  have f' : Fr (fun y => y = xb ∨ blk K y) h (hset h' ⟨xb, 2, none⟩ (.slice K c'.length kc)) := (f.mono fun _ _ h => .inr h).set (.inl rfl)
  refine ⟨L.baseFr (f'.mono fun y _ h => h.elim (fun h => by rw [h]; exact L.hx) fun h => (hK y h).1), ⟨kc, uc1, ?_, ?_, SU.fr f' fun y hy h => h.elim (hU y hy).2.1 fun h => (hU y hy).2.2 h, hK, hU⟩, L.hx, L.hN⟩
  · have := (B.fr f fun h => (hK _ h).2 rfl).set (i := 2) (.slice K c'.length kc) (by simp)
    simpa using this
  · exact S.keep (fun y hy => hset_other (hK y hy).2) (by rw [hset_size]; exact Nat.le_refl _)
theorem shrink_ok (L : LrM N h bb p s xb K U c u) (I : WInv s) (Rn : Rm s.l) (F : Cf s.vars s.l c) {keep : Int} (hkp : keep.natAbs ≤ 16777216) (hNh : N ≤ h.size) :
    CallsH Tryz.prog 64 [.pointer (some ⟨xb, 0, none⟩), .int .i64 keep] h fun _ h' => ∃ S, S.Perm c ∧ Fall s.l S ∧ LrM N h' bb p s xb K U ((shr s keep c S).filter fun y => !decide (lvx s.l y = 0)) u ∧ Fr (fun y => N ≤ y) h h' := by
  have hv := I.hv
  have hcl := F.len
  refine calls_of 48 [] Go.Proofs.Tryz.func64 rfl rfl rfl (by kernel_rfl) (Nat.le_of_ble_eq_true rfl) ?_
  simp -implicitDefEqProofs (disch := omega) [go_sem]
  obtain ⟨b2, eb⟩ : ∃ b2, b2 = h.size := ⟨_, rfl⟩
  obtain ⟨h1, e1⟩ : ∃ h1, h1 = h.push (.cells #[.pointer (some ⟨xb, 0, none⟩)] 95) := ⟨_, rfl⟩
  have f1 : Fr (fun _ => False) h h1 := by rw [e1]; exact (Fr.refl _ _).push
  have V1 : ListB h1 b2 [.pointer (some ⟨xb, 0, none⟩)] := by rw [e1, eb]; exact ListB.new
  have s1 : h1.size = h.size + 1 := by rw [e1, push_size]
  rw [← e1, ← eb]
  have v1 := V1.at' 0 _ rfl
  have L1 := L.fr0 f1
  obtain ⟨kc, uc, B1, SK1, SU1, hK, hU⟩ := L1.ex
  have b12 := B1.at' 2 _ rfl
  obtain ⟨_, _, B0, SK0, SU0, _, _⟩ := L.ex
  have hb2x : b2 ≠ xb := by have := B0.lt; omega
  have hb2K : ¬ blk K b2 := fun hk => by have := SK0.blk_lt hk; omega
  have hb2U : ¬ blk U b2 := fun hk => by have := SU0.blk_lt hk; omega
  simp -implicitDefEqProofs (disch := omega) [go_sem, v1, b12]
  refine useC (clone_ok SK1.row (by rw [ints_len]) ints_one (by omega)) ?_
  rintro _ h2 ⟨A, d, rfl, SA, ownA, f2⟩
  have g2 := f2.size
  have L2 := L1.fr0 f2
  have V2 := V1.fr f2 fun h => h
  have v2 := V2.at' 0 _ rfl
  simp -implicitDefEqProofs (disch := omega) [go_sem]
  have hAx : ¬ blk A xb := fun h => by have := ownA _ h; have := B1.lt; omega
  have hAb : ¬ blk A b2 := fun h => by have := ownA _ h; have := V1.lt; omega
  have hAK : ∀ y, blk A y → ¬ blk K y := fun y h hk => by have := ownA _ h; have := SK1.blk_lt hk; omega
  have hAU : ∀ y, blk A y → ¬ blk U y := fun y h hk => by have := ownA _ h; have := SU1.blk_lt hk; omega
  have hAN : ∀ y, blk A y → N ≤ y := fun y h => by have := ownA _ h; omega
  have keepL : ∀ {h' : Heap}, Fr (blk A) h2 h' → LrM N h' bb p s xb K U c u := fun {h'} f => by
    obtain ⟨kc2, uc2, B2, SK2, SU2, hK2, hU2⟩ := L2.ex
    exact ⟨L2.baseFr (f.mono fun y _ h => hAN y h), ⟨kc2, uc2, B2.fr f hAx, SK2.fr f fun y h hb => hAK y hb h, SU2.fr f fun y h hb => hAU y hb h, hK2, hU2⟩, L2.hx, L2.hN⟩
  refine useC (sortC_ok (cs := [.pointer (some ⟨b2, 0, none⟩)]) (plC_ok s.l fun x => x.natAbs ≤ 16777216) SA (fun x hx => by have := F.rng x hx; omega) rfl (by omega) (fun h' f x y hx hy => ?_)) ?_
  · refine (shrinkF1_ok (keepL f) ((V2.fr f hAb).at' 0 _ rfl) hx hy).mono ?_
    rintro r h'' ⟨rfl, rfl⟩
    exact ⟨rfl, Fr.refl _ _⟩
  rintro _ h3 ⟨S, hP, hO, SA3, f3⟩
  have L3 := keepL f3
  have V3 := V2.fr f3 hAb
  have hSl := hP.length_eq
  have hfall : Fall s.l S := by
    unfold Fall
    rw [List.pairwise_iff_getElem]
    intro i j hi hj hij
    have := hO i j hij (by omega)
    have e1 := gt_at hi
    have e2 := gt_at hj
    rw [List.getElem?_eq_getElem hi, Option.some.injEq] at e1
    rw [List.getElem?_eq_getElem hj, Option.some.injEq] at e2
    unfold plC at this
    rw [e1, e2]; omega
  have f03 : Fr (fun y => N ≤ y) h h3 := ((f1.trans f2).mono fun _ _ h => h.elim).trans (f3.mono fun y _ h => hAN y h)
  have g3 := f3.size
  rw [← hSl]
  simp -implicitDefEqProofs (disch := omega) [go_sem]
  refine loopK (fun ρ h' => ρ 1 = .int .i64 keep ∧ ρ 2 = .pointer (some ⟨b2, 0, none⟩) ∧ ρ 15 = .slice A S.length d ∧ ρ 16 = .int .i64 S.length ∧ ∃ i : Nat, ρ 17 = .int .i64 i ∧ i ≤ S.length ∧ LrM N h' bb p s xb K U (shr s keep c (S.take i)) u ∧
      ListB h' b2 [.pointer (some ⟨xb, 0, none⟩)] ∧ RowAt h' A (ints S) ∧ Fr (fun y => N ≤ y) h h' ∧ h3.size ≤ h'.size) (fun ρ _ => S.length - (intOf (ρ 17)).toNat) (by kernel_rfl) ?_ ?_
  · exact ⟨rfl, rfl, rfl, rfl, 0, rfl, by omega, L3, V3, SA3.row, f03, Nat.le_refl _⟩
  · rintro ρ h4 ⟨r1, r2, r15, r16, i, r17, hi, L4, V4, R4, f4, g4⟩
    obtain ⟨w, hw⟩ : ∃ w, w = shr s keep c (S.take i) := ⟨_, rfl⟩
    rw [← hw] at L4
    have hws : w.Sublist c := by rw [hw]; exact shr_sub
    have hwl := hws.length_le
    have v4 := V4.at' 0 _ rfl
    by_cases hin : i < S.length
    · obtain ⟨bk, off, rfl, hc⟩ := R4.get (by rw [ints_len]; omega)
      obtain ⟨x, hx⟩ := some_at hin
      have c0 := hc _ _ (ints_at hx)
      have hsn : shr s keep c (S.take (i + 1)) = shr1 s keep w x := by rw [take_at hx, shr_snoc, hw]
      have hxr := F.rng x (hP.mem_iff.1 (List.mem_of_getElem? hx))
      simp -implicitDefEqProofs (disch := omega) [go_sem, r1, r2, r15, r16, r17, c0]
      obtain ⟨b6, eb6⟩ : ∃ b6, b6 = h4.size := ⟨_, rfl⟩
      obtain ⟨h5, e5⟩ : ∃ h5, h5 = hset (h4.push (.cells #[.int .i64 0] 3)) ⟨h4.size, 0, none⟩ (.int .i64 x) := ⟨_, rfl⟩
      have f5 : Fr (fun _ => False) h4 h5 := by rw [e5]; exact (Fr.refl _ _).push.new (Nat.le_refl _)
      have V6 : ListB h5 b6 [.int .i64 x] := by
        rw [e5, eb6]
        have := (ListB.new (h := h4) (vs := [.int .i64 0]) (e := 3)).set (i := 0) (.int .i64 x) (by simp)
        simpa using this
      rw [← e5, ← eb6]
      have L5 := L4.fr0 f5
      have V5 := V4.fr f5 fun h => h
      have v5 := V5.at' 0 _ rfl
      have v6 := V6.at' 0 _ rfl
      have g5 := f5.size
      by_cases hk : x = keep
      · have es : shr1 s keep w x = w := by unfold shr1; rw [if_neg (fun h => h.1 hk)]
        rw [es] at hsn
        simp -implicitDefEqProofs (disch := omega) [go_sem, r1, r2, r15, r16, r17, hk]
        exact ⟨⟨i + 1, by omega, by omega, by rw [hsn]; exact L5, V5, R4.fr0 f5, f4.trans (f5.mono fun _ _ h => h.elim), by omega⟩, by omega⟩
      simp -implicitDefEqProofs (disch := omega) [go_sem, r1, r2, r15, r16, r17, hk, v5, v6]
      refine useC (needless_ok L5 I Rn (x := x) (by omega) (by omega)) ?_
      rintro _ h6 ⟨rfl, f6⟩
      have L6 := L5.fr0 f6
      have V56 := V5.fr f6 fun h => h
      have V66 := V6.fr f6 fun h => h
      have v56 := V56.at' 0 _ rfl
      have g6 := f6.size
      have R6 := (R4.fr0 f5).fr0 f6
      have f06 : Fr (fun y => N ≤ y) h h6 := f4.trans ((f5.trans f6).mono fun _ _ h => h.elim)
      cases hnd : ndl s w x with
      | false =>
        have es : shr1 s keep w x = w := by unfold shr1; rw [if_neg (fun h => by rw [hnd] at h; cases h.2)]
        rw [es] at hsn
        simp -implicitDefEqProofs (disch := omega) [go_sem, r1, r2, r15, r16, r17]
        exact ⟨⟨i + 1, by omega, by omega, by rw [hsn]; exact L6, V56, R6, f06, by omega⟩, by omega⟩
      | true =>
        have es : shr1 s keep w x = w.filter fun y => decide (y ≠ x) := by unfold shr1; rw [if_pos ⟨hk, hnd⟩]
        rw [es] at hsn
        obtain ⟨kc6, uc6, B6, SK6, SU6, hK6, hU6⟩ := L6.ex
        have b62 := B6.at' 2 _ rfl
        simp -implicitDefEqProofs (disch := omega) [go_sem, r1, r2, r15, r16, r17]
        refine drawC [(0, 2), (1, 1), (2, 0), (3, 0), (4, 1), (5, 0), (6, 3), (7, 0), (8, 0), (9, 4)] (fun h' => hcell h' ⟨b2, 0, none⟩ = some (.pointer (some ⟨xb, 0, none⟩))) mixed (by kernel_rfl) v56 ?_
        simp -implicitDefEqProofs (disch := omega) [go_sem, r1, r2, r15, r16, r17]
        refine float2 (.pointer (some ⟨xb, 0, none⟩)) (fun h' hC => by simp -implicitDefEqProofs (disch := omega) [go_sem, r2, hC]) ?_
        simp -implicitDefEqProofs (disch := omega) [go_sem, r1, r2, r15, r16, r17, v56, b62]
        have hKb6 : ¬ blk K b6 := fun hk => by
          obtain ⟨_, _, _, SK4, _⟩ := L4.ex
          have := SK4.blk_lt hk
          omega
        refine useC (delete_ok (cs := [.pointer (some ⟨b6, 0, none⟩)]) SK6 rfl (by omega) (fun y => decide (y = x)) fun h' f y _ => shrinkF2_ok ((V66.fr f hKb6).at' 0 _ rfl)) ?_
        rintro _ h7 ⟨rfl, S7, f7⟩
        have V7 := V56.fr f7 hb2K
        have v7 := V7.at' 0 _ rfl
        have ef : (w.filter fun y => !decide (y = x)) = w.filter fun y => decide (y ≠ x) := List.filter_congr fun y _ => by simp
        rw [ef] at S7
        have L8 := L6.setC f7 S7
        have B7 := B6.fr f7 fun h => (hK6 _ h).2 rfl
        have b72 := B7.at' 2 _ rfl
        have bz7 := B7.fz
        have g7 := f7.size
        refine ⟨v7, ?_⟩
        simp -implicitDefEqProofs (disch := omega) [go_sem, r1, r2, r15, r16, r17, b72, bz7]
        have f8 : Fr (fun y => y = xb ∨ blk K y) h6 (hset h7 ⟨xb, 2, none⟩ (.slice K (w.filter fun y => decide (y ≠ x)).length kc6)) := (f7.mono fun _ _ h => .inr h).set (.inl rfl)
        have hv8 : ¬ (b2 = xb ∨ blk K b2) := fun h => h.elim hb2x hb2K
        refine ⟨⟨i + 1, by omega, by omega, ?_, ?_, ?_, ?_, ?_⟩, by omega⟩
        · rw [hsn, ef]; exact L8
        · rw [ef]; exact V56.fr f8 hv8
        · rw [ef]; exact R6.fr f8 fun y hy h => h.elim (fun h => hAx (by rw [← h]; exact hy)) (hAK y hy)
        · rw [ef]; exact f06.trans' f8 fun y _ h => h.elim (fun h => by rw [h]; exact L.hx) fun h => (hK6 y h).1
        · omega
    · have e : i = S.length := by omega
      subst e
      rw [List.take_length] at hw
      obtain ⟨kc4, uc4, B4, SK4, SU4, hK4, hU4⟩ := L4.ex
      have b41 := B4.at' 1 _ rfl
      have b42 := B4.at' 2 _ rfl
      simp -implicitDefEqProofs (disch := omega) [go_sem, r1, r2, r15, r16, r17]
      refine drawC [(0, 2), (1, 1), (2, 0), (3, 0), (4, 1), (5, 0), (6, 3), (7, 0), (8, 0), (9, 4)] (fun h' => hcell h' ⟨b2, 0, none⟩ = some (.pointer (some ⟨xb, 0, none⟩))) mixed (by kernel_rfl) v4 ?_
      simp -implicitDefEqProofs (disch := omega) [go_sem, r1, r2, r15, r16, r17]
      refine float2 (.pointer (some ⟨xb, 0, none⟩)) (fun h' hC => by simp -implicitDefEqProofs (disch := omega) [go_sem, r2, hC]) ?_
      simp -implicitDefEqProofs (disch := omega) [go_sem, r1, r2, r15, r16, r17, v4, b42]
      have hnx : ¬ blk K xb := fun h => (hK4 _ h).2 rfl
      refine useC (delete_ok (cs := [.pointer (some ⟨b2, 0, none⟩)]) SK4 rfl (by omega) (fun y => decide (lvx s.l y = 0)) fun h' f y hy => ?_) ?_
      · have := F.rng y (hws.subset hy)
        have M' := L4.baseFr (f.mono fun z _ h => (hK4 z h).1)
        exact shrinkF3_ok M'.T ((V4.fr f hb2K).at' 0 _ rfl) ((B4.fr f hnx).at' 1 _ rfl) (by omega)
      rintro _ h7 ⟨rfl, S7, f7⟩
      have v7 := (V4.fr f7 hb2K).at' 0 _ rfl
      have L8 := L4.setC f7 S7
      have B7 := B4.fr f7 hnx
      have b72 := B7.at' 2 _ rfl
      have bz7 := B7.fz
      refine ⟨v7, ?_⟩
      simp -implicitDefEqProofs (disch := omega) [go_sem, r1, r2, r15, r16, r17, b72, bz7]
      have f8 : Fr (fun y => y = xb ∨ blk K y) h4 (hset h7 ⟨xb, 2, none⟩ (.slice K (w.filter fun y => !decide (lvx s.l y = 0)).length kc4)) := (f7.mono fun _ _ h => .inr h).set (.inl rfl)
      refine ⟨S, hP, hfall, by rw [← hw]; exact L8, f4.trans' f8 fun y _ h => h.elim (fun h => by rw [h]; exact L.hx) fun h => (hK4 y h).1⟩
end
end Xe

/- Package learn: From, Used. -/
namespace Xe
open Go Tp Go.Proofs
set_option maxRecDepth 16000
set_option maxHeartbeats 1000000

/-- a clause's number is none that is there -/
def NotThere (s : WS) (id : Int) : Prop := 0 ≤ id → ∀ e, s.cs[id.toNat]? = some e → e.gone = true
theorem there_or (s : WS) (id : Int) : NotThere s id ∨ ∃ (k : Nat) (e : Ent), id = k ∧ s.cs[k]? = some e ∧ e.gone = false := by
  by_cases h0 : 0 ≤ id
  · cases hc : s.cs[id.toNat]? with
    | none => exact .inl fun _ e he => by rw [hc] at he; cases he
    | some e =>
      cases hg : e.gone with
      | true => exact .inl fun _ e' he => by rw [hc] at he; cases he; exact hg
      | false => exact .inr ⟨id.toNat, e, by omega, hc, hg⟩
  · exact .inl fun h => absurd h h0
/-- the greatest level but one literal's -/
def mxL (l : List St) (keep : Int) (c : List Int) : Int := c.foldl (fun m y => if y ≠ keep then max m (lvx l y) else m) 0
theorem mxL_snoc {l : List St} {keep : Int} {c : List Int} {x : Int} : mxL l keep (c ++ [x]) = if x ≠ keep then max (mxL l keep c) (lvx l x) else mxL l keep c := by unfold mxL; rw [List.foldl_append]; rfl
/-- what a conflict teaches -/
inductive FromR (s : WS) (id : Int) : List Int → Int → Int → Prop
  | none : NotThere s id → FromR s id [] 0 7
  | nofail {k : Nat} {e : Ent} : id = k → s.cs[k]? = some e → e.gone = false → ¬ FailAt s.l e.lits → FromR s id [] 0 10
  | ground {k : Nat} {e : Ent} {rs : List (List Int)} {c : List Int} : id = k → s.cs[k]? = some e → e.gone = false → FailAt s.l e.lits → Ch s.cs s.l e.lits rs c → Stop s.l c → (c = [] ∨ ∃ x, Lat s.l c x ∧ lvx s.l x ≤ 0) → FromR s id [] 0 0
  | taught {k : Nat} {e : Ent} {rs : List (List Int)} {c S : List Int} {x : Int} : id = k → s.cs[k]? = some e → e.gone = false → FailAt s.l e.lits → Ch s.cs s.l e.lits rs c → Stop s.l c → Lat s.l c x → 0 < lvx s.l x → S.Perm c → Fall s.l S →
      FromR s id ((shr s x c S).filter fun y => !decide (lvx s.l y = 0)) (mxL s.l x ((shr s x c S).filter fun y => !decide (lvx s.l y = 0))) 0
/-- what was used -/
inductive UsedR (s : WS) (id : Int) : List Int → Prop
  | none : NotThere s id → UsedR s id []
  | nofail {k : Nat} {e : Ent} : id = k → s.cs[k]? = some e → e.gone = false → ¬ FailAt s.l e.lits → UsedR s id []
  | used {k : Nat} {e : Ent} {rs : List (List Int)} {c ul : List Int} : id = k → s.cs[k]? = some e → e.gone = false → FailAt s.l e.lits → Ch s.cs s.l e.lits rs c → Stop s.l c → ul.Pairwise (· < ·) → (∀ v, v ∈ ul ↔ v ∈ varsL e.lits ∨ v ∈ varsL rs.flatten) → UsedR s id ul

section
variable {h : Heap} {bb : Nat} {p : BP} {s : WS}
theorem from_ok (M : BaseM h bb p s) (I : WInv s) (D : Dcs s.l) (Rn : Rm s.l) (hvs : s.vars ≤ 10000) {id : Int} (h0 : -9223372036854775808 ≤ id) (h1 : id ≤ 9223372036854775807) :
    CallsH Tryz.prog 14 [.pointer (some ⟨bb, 0, none⟩), .int .i64 id] h fun r h' => Fr (fun _ => False) h h' ∧ ∃ A d cl lv e, r = .tuple #[.slice A (cl : List Int).length d, .int .i64 lv, .int .i64 e] ∧ SlAt h' A d (ints cl) ∧ (∀ y, blk A y → h.size ≤ y) ∧ FromR s id cl lv e := by
  have nilB : ∀ y, blk none y → h.size ≤ y := fun y ⟨_, h, _⟩ => (nomatch h)
  refine calls_of 58 [.tmp 4, .tmp 5, .tmp 6] Go.Proofs.Tryz.func14 rfl rfl rfl (by kernel_rfl) (Nat.le_of_ble_eq_true rfl) ?_
  simp -implicitDefEqProofs (disch := omega) [go_sem]
  rcases there_or s id with hn | ⟨k, e, rfl, he, hg⟩
  · refine useC (start_none M h0 h1 hn) ?_
    rintro _ h2 ⟨rfl, rfl⟩
    simp -implicitDefEqProofs (disch := omega) [go_sem]
    exact ⟨Fr.refl _ _, none, 0, [], 0, 7, by simp, SlAt.nil _, nilB, .none hn⟩
  · refine useC (start_some M I he hg) ?_
    rintro _ h2 ⟨f2, hor⟩
    rcases hor with ⟨hnf, rfl⟩ | ⟨hfa, xb, K, U, rfl, L2⟩
    · simp -implicitDefEqProofs (disch := omega) [go_sem]
      exact ⟨f2, none, 0, [], 0, 10, by simp, SlAt.nil _, nilB, .nofail rfl he hg hnf⟩
    · have hcl := I.cl e (List.mem_of_getElem? he)
      have F0 : Cf s.vars s.l e.lits := ⟨hcl.1, hcl.2, hfa⟩
      have hlen := F0.len
      have hg2 := f2.size
      simp -implicitDefEqProofs (disch := omega) [go_sem]
      refine useC (lresolve_ok L2 I D Rn F0 hvs (by unfold varsL; rw [List.length_map]; omega)) ?_
      rintro _ h3 ⟨x, lv, c, rs, K3, U3, rfl, L3, hch, hrl, hst, hor, f3⟩
      have F3 := hch.cf I D F0
      have f03 : Fr (fun _ => False) h h3 := f2.trans' f3 fun y hy h => by omega
      by_cases hlv : lv ≤ 0
      · simp -implicitDefEqProofs (disch := omega) [go_sem, hlv]
        exact ⟨f03, none, 0, [], 0, 0, by simp, SlAt.nil _, nilB, .ground rfl he hg hfa hch hst (hor.imp (fun h => h.1) fun h => ⟨x, h.1, by rw [← h.2]; exact hlv⟩)⟩
      rcases hor with ⟨_, rfl⟩ | ⟨hlat, rfl⟩
      · omega
      have hv := I.hv
      have hxr := F3.rng x hlat.1
      have hg3 := f3.size
      simp -implicitDefEqProofs (disch := omega) [go_sem, hlv]
      refine useC (shrink_ok L3 I Rn F3 (keep := x) (by omega) (by omega)) ?_
      rintro _ h4 ⟨S, hP, hS, L4, f4⟩
      have res := FromR.taught rfl he hg hfa hch hst hlat (by omega) hP hS
      obtain ⟨w, hw⟩ : ∃ w, w = (shr s x c S).filter fun y => !decide (lvx s.l y = 0) := ⟨_, rfl⟩
      have hws : w.Sublist c := by rw [hw]; exact List.filter_sublist.trans shr_sub
      rw [← hw] at L4 res
      have hwl := hws.length_le
      have hcl3 := F3.len
      have f04 : Fr (fun _ => False) h h4 := f03.trans' f4 fun y hy h => by omega
      obtain ⟨kc, uc, B4, SK4, SU4, hK4, hU4⟩ := L4.ex
      have b41 := B4.at' 1 _ rfl
      have b42 := B4.at' 2 _ rfl
      have T4 := L4.M.T
      simp -implicitDefEqProofs (disch := omega) [go_sem, b42]
      have hmx : ∀ i, 0 ≤ mxL s.l x (w.take i) ∧ mxL s.l x (w.take i) ≤ 16777216 := fun i => by
        induction i with
        | zero => exact ⟨Int.le_refl _, by unfold mxL; simp⟩
        | succ i ih =>
          by_cases hin : i < w.length
          · obtain ⟨y, hy⟩ := some_at hin
            have v1 := LVi_b T4 (y.natAbs : Int)
            rw [lvi_nat] at v1
            rw [take_at hy, mxL_snoc]
            split <;> omega
          · rw [List.take_of_length_le (by omega)] at ih ⊢; exact ih
      refine loopK (fun ρ h' => h' = h4 ∧ ρ 7 = .pointer (some ⟨xb, 0, none⟩) ∧ ρ 8 = .int .i64 x ∧ ρ 6 = .int .i64 0 ∧ ρ 34 = .slice K3 w.length kc ∧ ρ 35 = .int .i64 w.length ∧ ∃ i : Nat, ρ 36 = .int .i64 i ∧ i ≤ w.length ∧ ρ 5 = .int .i64 (mxL s.l x (w.take i)))
        (fun ρ _ => w.length - (intOf (ρ 36)).toNat) (by kernel_rfl) ?_ ?_
      · exact ⟨rfl, rfl, rfl, rfl, rfl, rfl, 0, rfl, by omega, rfl⟩
      · rintro ρ h5 ⟨rfl, r7, r8, r6, r34, r35, i, r36, hi, r5⟩
        have hmi := hmx i
        by_cases hin : i < w.length
        · obtain ⟨bk, off, rfl, hc⟩ := SK4.row.get (by rw [ints_len]; omega)
          obtain ⟨y, hy⟩ := some_at hin
          have c0 := hc _ _ (ints_at hy)
          have hyr := F3.rng y (hws.subset (List.mem_of_getElem? hy))
          have v1 := LVi_b T4 (y.natAbs : Int)
          rw [lvi_nat] at v1
          have hsn := mxL_snoc (l := s.l) (keep := x) (c := w.take i) (x := y)
          rw [← take_at hy] at hsn
          by_cases hyx : y = x
          · rw [if_neg (by simpa using hyx)] at hsn
            simp -implicitDefEqProofs (disch := omega) [go_sem, r5, r6, r7, r8, r34, r35, r36, c0, hyx]
            exact ⟨⟨i + 1, by omega, by omega, by rw [hsn]⟩, by omega⟩
          · rw [if_pos hyx] at hsn
            simp -implicitDefEqProofs (disch := omega) [go_sem, r5, r6, r7, r8, r34, r35, r36, c0, hyx]
            refine drawC [(0, 0), (1, 0), (2, 0), (3, 0), (4, 2), (5, 0), (6, 3), (7, 3), (8, 0), (9, 0)] (Eq _) mixed (by kernel_rfl) rfl ?_
            simp -implicitDefEqProofs (disch := omega) [go_sem, r5, r6, r7, r8, r34, r35, r36, b41]
            refine useC (variable_ok (x := y) (by omega) (by omega)) ?_
            rintro _ h6 ⟨rfl, rfl⟩
            simp -implicitDefEqProofs (disch := omega) [go_sem, r5, r6, r7, r8, r34, r35, r36, b41]
            refine useC (tlevelOf_ok T4 (by omega) (by omega)) ?_
            rintro _ h6 ⟨rfl, rfl⟩
            rw [lvi_nat]
            simp -implicitDefEqProofs (disch := omega) [go_sem, r5, r6, r7, r8, r34, r35, r36, b41]
            exact ⟨⟨i + 1, by omega, by omega, by rw [hsn]⟩, by omega⟩
        · have e : i = w.length := by omega
          subst e
          rw [List.take_length] at r5
          simp -implicitDefEqProofs (disch := omega) [go_sem, r5, r6, r7, r8, r34, r35, r36, b42]
          exact ⟨f04, K3, kc, w, _, 0, by simp, SK4, fun y hy => (hK4 y hy).1, res⟩

theorem used_ok (M : BaseM h bb p s) (I : WInv s) (D : Dcs s.l) (Rn : Rm s.l) (hvs : s.vars ≤ 10000) {id : Int} (h0 : -9223372036854775808 ≤ id) (h1 : id ≤ 9223372036854775807) :
    CallsH Tryz.prog 28 [.pointer (some ⟨bb, 0, none⟩), .int .i64 id] h fun r h' => Fr (fun _ => False) h h' ∧ ∃ A d ul, r = .slice A (ul : List Int).length d ∧ SlAt h' A d (ints ul) ∧ (∀ y, blk A y → h.size ≤ y) ∧ UsedR s id ul := by
  have nilB : ∀ y, blk none y → h.size ≤ y := fun y ⟨_, h, _⟩ => (nomatch h)
  refine calls_of 27 [.tmp 4] Go.Proofs.Tryz.func28 rfl rfl rfl (by kernel_rfl) (Nat.le_of_ble_eq_true rfl) ?_
  simp -implicitDefEqProofs (disch := omega) [go_sem]
  rcases there_or s id with hn | ⟨k, e, rfl, he, hg⟩
  · refine useC (start_none M h0 h1 hn) ?_
    rintro _ h2 ⟨rfl, rfl⟩
    simp -implicitDefEqProofs (disch := omega) [go_sem]
    exact ⟨Fr.refl _ _, none, 0, [], by simp, SlAt.nil _, nilB, .none hn⟩
  · refine useC (start_some M I he hg) ?_
    rintro _ h2 ⟨f2, hor⟩
    rcases hor with ⟨hnf, rfl⟩ | ⟨hfa, xb, K, U, rfl, L2⟩
    · simp -implicitDefEqProofs (disch := omega) [go_sem]
      exact ⟨f2, none, 0, [], by simp, SlAt.nil _, nilB, .nofail rfl he hg hnf⟩
    · have hcl := I.cl e (List.mem_of_getElem? he)
      have F0 : Cf s.vars s.l e.lits := ⟨hcl.1, hcl.2, hfa⟩
      have hlen := F0.len
      have hg2 := f2.size
      simp -implicitDefEqProofs (disch := omega) [go_sem]
      refine useC (lresolve_ok L2 I D Rn F0 hvs (by unfold varsL; rw [List.length_map]; omega)) ?_
      rintro _ h3 ⟨x, lv, c, rs, K3, U3, rfl, L3, hch, hrl, hst, hor, f3⟩
      have f03 : Fr (fun _ => False) h h3 := f2.trans' f3 fun y hy h => by omega
      have hfl := flat_len (hch.len I.cl)
      have hmul : rs.length * s.vars ≤ 10000 * 10000 := Nat.mul_le_mul (by omega) hvs
      obtain ⟨w, hw⟩ : ∃ w, w = varsL e.lits ++ varsL rs.flatten := ⟨_, rfl⟩
      have hwl : w.length ≤ 10000 + 10000 * 10000 := by
        rw [hw, List.length_append]; unfold varsL; rw [List.length_map, List.length_map]; omega
      have hw0 : ∀ v ∈ w, 0 ≤ v := fun v hv => by
        rw [hw] at hv
        rcases List.mem_append.1 hv with hv | hv
        · obtain ⟨y, _, rfl⟩ := List.mem_map.1 hv; omega
        · obtain ⟨y, _, rfl⟩ := List.mem_map.1 hv; omega
      rw [← hw] at L3
      obtain ⟨kc, uc, B3, SK3, SU3, hK3, hU3⟩ := L3.ex
      have b33 := B3.at' 3 _ rfl
      simp -implicitDefEqProofs (disch := omega) [go_sem, b33]
      refine useC (sortI_ok SU3 rfl (by omega)) ?_
      rintro _ h4 ⟨g, hP, hS, SU4, f4⟩
      have b43 := (f4.cell (o := 3) (hcell_lt b33) fun h => (hU3 _ h).2.1 rfl).trans b33
      have hgl := hP.length_eq
      simp -implicitDefEqProofs (disch := omega) [go_sem, b43]
      refine useC (compact_ok SU4 hgl.symm (by omega)) ?_
      rintro _ h5 ⟨rfl, SU5, f5⟩
      have hsort : ∀ p q, p < q → q < g.length → gt g p ≤ gt g q := fun p q h1 h2 => by
        have := List.pairwise_iff_getElem.1 hS p q (by omega) h2 h1
        have e1 := gt_at (show p < g.length by omega)
        have e2 := gt_at h2
        rw [List.getElem?_eq_getElem (by omega), Option.some.injEq] at e1
        rw [List.getElem?_eq_getElem h2, Option.some.injEq] at e2
        omega
      have hg0 : ∀ p, p < g.length → 0 ≤ gt g p := fun p hp => hw0 _ (hP.mem_iff.1 (List.mem_of_getElem? (gt_at hp)))
      have hspec := cN_spec (l := g) (fun p q h1 h2 => by
        have := hsort p q h1 h2
        have := hg0 p (by omega)
        unfold lexLt; omega) g.length (Nat.le_refl _)
      rw [← hgl] at SU5 ⊢
      simp -implicitDefEqProofs (disch := omega) [go_sem]
      have hmem : ∀ v, v ∈ cN g g.length ↔ v ∈ w := fun v => by rw [hspec.1 v, ← mem_gt, hP.mem_iff]
      refine ⟨?_, U3, uc, cN g g.length, ⟨rfl, rfl, rfl⟩, SU5, fun y hy => (hU3 y hy).1, .used rfl he hg hfa hch hst ?_ fun v => ?_⟩
      · exact (f03.trans' f4 fun y hy h => by have := (hU3 y h).1; omega).trans' f5 fun y hy h => by have := (hU3 y h).1; omega
      · refine List.Pairwise.imp_of_mem (fun {a b} ha hb hl => ?_) hspec.2
        have := hw0 a ((hmem a).1 ha)
        have := hw0 b ((hmem b).1 hb)
        unfold lexLt at hl
        omega
      · rw [hmem v, hw, List.mem_append]
end
end Xe

/- The plain law of what is taught: it holds wherever all clauses hold; it fails over the trail; one literal is of the conflict's level. -/
namespace Xe
open Tp

/-- an assignment: of a literal and its negation one holds -/
def Mdl (M : Int → Prop) : Prop := ∀ x, x ≠ 0 → (M (-x) ↔ ¬ M x)
def SatM (M : Int → Prop) (c : List Int) : Prop := ∃ x ∈ c, M x
def AllM (M : Int → Prop) (cs : List Ent) : Prop := ∀ e ∈ cs, e.gone = false → SatM M e.lits

section
variable {s : WS} {M : Int → Prop}
theorem lv0_holds (I : WInv s) (Rn : Rm s.l) (hM : Mdl M) (hA : AllM M s.cs) : ∀ (i : Nat) (t : St), s.l[i]? = some t → t.lv = 0 → M t.lit := by
  intro i
  induction i using Nat.strongRecOn with
  | ind i ih =>
    intro t ht h0
    have hr : 0 ≤ t.rs := by
      by_cases h : 0 ≤ t.rs
      · exact h
      · have := (Rn t (List.mem_of_getElem? ht)).2 (by omega); omega
    obtain ⟨e, he, hg, hu1, hu2, hu3⟩ := I.rs i t ht hr
    have hcl := I.cl e (List.mem_of_getElem? he)
    obtain ⟨y, hy, hMy⟩ := hA e (List.mem_of_getElem? he) hg
    by_cases hyt : y = t.lit
    · rw [← hyt]; exact hMy
    · exfalso
      have h1 := (tr_m1.1 (hu3 y hy hyt)).2
      obtain ⟨w, hw, ew⟩ := List.mem_map.1 h1
      obtain ⟨q, hq⟩ := List.getElem?_of_mem hw
      rw [List.getElem?_take] at hq
      split at hq
      · rename_i hqi
        have hlv : w.lv ≤ t.lv := by
          have := List.pairwise_iff_getElem.1 I.lvs.mono q i (List.getElem?_eq_some_iff.1 hq).1 (List.getElem?_eq_some_iff.1 ht).1 hqi
          rw [(List.getElem?_eq_some_iff.1 hq).2, (List.getElem?_eq_some_iff.1 ht).2] at this
          exact this
        have := ih q hqi w hq (by omega)
        rw [ew] at this
        exact ((hM y (by have := (hcl.2 y hy).1; omega)).1 this) hMy
      · cases hq
theorem lv0_fails (I : WInv s) (Rn : Rm s.l) (hM : Mdl M) (hA : AllM M s.cs) {x : Int} (hx : trI s.l x = -1) (h0 : lvx s.l x = 0) : ¬ M x := by
  obtain ⟨k, t, h1, h2, _, h4, _⟩ := false_at I.good hx
  have := lv0_holds I Rn hM hA k t h1 (by omega)
  rw [h2] at this
  refine (hM x ?_).1 this
  have := (I.good.rng t (List.mem_of_getElem? h1)).1
  rw [h2] at this
  omega
theorem stp_sat {c r c' : List Int} (hM : Mdl M) (hA : AllM M s.cs) (hx0 : ∀ x ∈ c, x ≠ 0) (h : Stp1 s.cs s.l c r c') (hc : SatM M c) : SatM M c' := by
  obtain ⟨x, h1, _, _, ⟨k, e, _, h5, h6, h7⟩, _, h9⟩ := h
  obtain ⟨y, hy, hMy⟩ := hc
  by_cases e1 : y = x
  · subst e1
    obtain ⟨z, hz, hMz⟩ := hA e (List.mem_of_getElem? h5) h6
    rw [h7] at hz
    by_cases e2 : z = -y
    · subst e2; exact absurd hMy ((hM y (hx0 y hy)).1 hMz)
    · exact ⟨z, (h9 z).2 (.inr ⟨hz, e2⟩), hMz⟩
  · exact ⟨y, (h9 y).2 (.inl ⟨hy, e1⟩), hMy⟩
theorem ch_sat {c0 c : List Int} {rs : List (List Int)} (I : WInv s) (D : Dcs s.l) (hM : Mdl M) (hA : AllM M s.cs) (F : Cf s.vars s.l c0) (h : Ch s.cs s.l c0 rs c) (hc : SatM M c0) : SatM M c := by
  induction h with
  | nil => exact hc
  | step hch hst ih => exact stp_sat hM hA (fun x hx => by have := ((hch.cf I D F).rng x hx).1; omega) hst ih
theorem shr1_sat {c : List Int} {keep x : Int} (I : WInv s) (Rn : Rm s.l) (hM : Mdl M) (hA : AllM M s.cs) (hx : trI s.l x = -1) (hc : SatM M c) : SatM M (shr1 s keep c x) := by
  unfold shr1
  split
  · rename_i hnd
    obtain ⟨y, hy, hMy⟩ := hc
    by_cases e1 : y = x
    · subst e1
      have h2 := hnd.2
      unfold ndl at h2
      rw [Bool.and_eq_true, decide_eq_true_eq] at h2
      obtain ⟨h3, h4⟩ := h2
      obtain ⟨i, t, hi, ht, _, _, hr⟩ := false_at I.good hx
      rw [hr] at h3 h4
      obtain ⟨e, he, hg, hu1, hu2, hu3⟩ := I.rs i t hi h3
      rw [he] at h4
      simp only [Bool.not_eq_true', List.any_eq_false] at h4
      have hcl := I.cl e (List.mem_of_getElem? he)
      obtain ⟨z, hz, hMz⟩ := hA e (List.mem_of_getElem? he) hg
      have hy0 : y ≠ 0 := by
        have := (I.good.rng t (List.mem_of_getElem? hi)).1
        rw [ht] at this; omega
      have hzy : z ≠ -y := fun e => by rw [e] at hMz; exact ((hM y hy0).1 hMz) hMy
      have hzf : trI s.l z = -1 := by
        have h1 := (tr_m1.1 (hu3 z hz (by rw [ht]; exact hzy))).2
        obtain ⟨w, hw, ew⟩ := List.mem_map.1 h1
        obtain ⟨q, hq⟩ := List.getElem?_of_mem hw
        rw [List.getElem?_take] at hq
        split at hq
        · rw [tr_at I.good hq (x := z) (by rw [ew]; omega), if_neg]
          have := (hcl.2 z hz).1
          rw [ew]; omega
        · cases hq
      have h5 := h4 z hz
      unfold ndP at h5
      have hzc : z ∈ c := by
        by_cases hzc : z ∈ c
        · exact hzc
        · exfalso
          by_cases hl : 0 < lvx s.l z
          · simp [hzy, hl, hzc] at h5
          · have := lvx_fail I.good hzf
            exact lv0_fails I Rn hM hA hzf (by omega) hMz
      have hzny : z ≠ y := fun e => by
        subst e
        have h6 : -z ∈ e.lits := by rw [← ht]; exact hu1
        exact hzy (rise_abs hcl.1 hz h6 (by omega))
      exact ⟨z, List.mem_filter.2 ⟨hzc, by simpa using hzny⟩, hMz⟩
    · exact ⟨y, List.mem_filter.2 ⟨hy, by simpa using e1⟩, hMy⟩
  · exact hc
theorem shr_sat {keep : Int} (I : WInv s) (Rn : Rm s.l) (hM : Mdl M) (hA : AllM M s.cs) : ∀ {L c : List Int}, (∀ x ∈ L, trI s.l x = -1) → SatM M c → SatM M (shr s keep c L) := by
  intro L
  induction L with
  | nil => intro c _ h; exact h
  | cons x L ih => intro c hx h; exact ih (c := shr1 s keep c x) (fun y hy => hx y (List.mem_cons_of_mem _ hy)) (shr1_sat I Rn hM hA (hx x (List.mem_cons_self ..)) h)
theorem shr_keep {keep : Int} : ∀ {L c : List Int}, keep ∈ c → keep ∈ shr s keep c L := by
  intro L
  induction L with
  | nil => intro c h; exact h
  | cons x L ih =>
    intro c h
    refine ih (c := shr1 s keep c x) ?_
    unfold shr1
    split
    · rename_i hn; exact List.mem_filter.2 ⟨h, by simpa using fun e => hn.1 e.symm⟩
    · exact h

/-- it holds wherever all clauses hold -/
theorem FromR.sound {id : Int} {cl : List Int} {lv : Int} (I : WInv s) (D : Dcs s.l) (Rn : Rm s.l) (hM : Mdl M) (hA : AllM M s.cs) (h : FromR s id cl lv 0) : SatM M cl := by
  cases h with
  | @ground k e rs c hk he hg hf hch hst hor =>
    have hcl := I.cl e (List.mem_of_getElem? he)
    have F0 : Cf s.vars s.l e.lits := ⟨hcl.1, hcl.2, hf⟩
    obtain ⟨y, hy, hMy⟩ := ch_sat I D hM hA F0 hch (hA e (List.mem_of_getElem? he) hg)
    have F := hch.cf I D F0
    rcases hor with rfl | ⟨x, hx, hl⟩
    · cases hy
    · have h1 := lvx_mono I.good I.lvs (F.fail y hy) (F.fail x hx.1) (hx.2 y hy)
      have h2 := lvx_fail I.good (F.fail y hy)
      exact absurd hMy (lv0_fails I Rn hM hA (F.fail y hy) (by omega))
  | @taught k e rs c S x hk he hg hf hch hst hx hl hP hS =>
    have hcl := I.cl e (List.mem_of_getElem? he)
    have F0 : Cf s.vars s.l e.lits := ⟨hcl.1, hcl.2, hf⟩
    have F := hch.cf I D F0
    have h1 := ch_sat I D hM hA F0 hch (hA e (List.mem_of_getElem? he) hg)
    obtain ⟨y, hy, hMy⟩ := shr_sat (keep := x) I Rn hM hA (L := S) (fun z hz => F.fail z (hP.mem_iff.1 hz)) h1
    refine ⟨y, List.mem_filter.2 ⟨hy, ?_⟩, hMy⟩
    have : lvx s.l y ≠ 0 := fun e => lv0_fails I Rn hM hA (F.fail y (shr_sub.subset hy)) e hMy
    simpa using this

theorem mxL_le {l : List St} {keep : Int} : ∀ {c : List Int} {b : Int}, 0 ≤ b → (∀ y ∈ c, y ≠ keep → lvx l y ≤ b) → mxL l keep c ≤ b ∧ 0 ≤ mxL l keep c ∧ ∀ y ∈ c, y ≠ keep → lvx l y ≤ mxL l keep c := by
  have key : ∀ (c : List Int) (b : Int), 0 ≤ b → (∀ y ∈ c, y ≠ keep → lvx l y ≤ b) → mxL l keep c ≤ b ∧ 0 ≤ mxL l keep c ∧ ∀ y ∈ c, y ≠ keep → lvx l y ≤ mxL l keep c := by
    intro c
    generalize hn : c.length = n
    induction n generalizing c with
    | zero =>
      intro b hb _
      obtain rfl := List.eq_nil_of_length_eq_zero hn
      exact ⟨hb, Int.le_refl _, fun y hy => by cases hy⟩
    | succ n ih =>
      intro b hb h
      obtain ⟨d, x, rfl⟩ : ∃ d x, c = d ++ [x] := ⟨c.dropLast, c.getLast (fun e => by rw [e] at hn; cases hn), (List.dropLast_concat_getLast _).symm⟩
      have hd : d.length = n := by rw [List.length_append] at hn; simpa using hn
      obtain ⟨h1, h2, h3⟩ := ih d hd b hb fun y hy => h y (List.mem_append_left _ hy)
      have hx := h x (List.mem_append_right _ (List.mem_singleton.2 rfl))
      rw [mxL_snoc]
      by_cases e : x = keep
      · rw [if_neg (by simpa using e)]
        refine ⟨h1, h2, fun y hy hk => ?_⟩
        rcases List.mem_append.1 hy with hy | hy
        · exact h3 y hy hk
        · rw [List.mem_singleton] at hy; exact absurd (hy.trans e) hk
      · rw [if_pos e]
        have := hx e
        refine ⟨by omega, by omega, fun y hy hk => ?_⟩
        rcases List.mem_append.1 hy with hy | hy
        · have := h3 y hy hk; omega
        · rw [List.mem_singleton] at hy; rw [hy]; omega
  exact fun {c b} => key c b

/-- it fails over the trail; one literal stands above the level -/
theorem FromR.shape {id : Int} {cl : List Int} {lv : Int} (I : WInv s) (D : Dcs s.l) (h : FromR s id cl lv 0) : (∀ x ∈ cl, trI s.l x = -1 ∧ 1 ≤ x.natAbs ∧ x.natAbs ≤ s.vars) ∧ Rise cl ∧ 0 ≤ lv ∧ (cl ≠ [] → ∃ x ∈ cl, lv < lvx s.l x ∧ ∀ y ∈ cl, y ≠ x → lvx s.l y ≤ lv) := by
  cases h with
  | ground => exact ⟨fun x hx => (nomatch hx), List.Pairwise.nil, Int.le_refl _, fun h => absurd rfl h⟩
  | @taught k e rs c S x hk he hg hf hch hst hx hl hP hS =>
    have hcl := I.cl e (List.mem_of_getElem? he)
    have F0 : Cf s.vars s.l e.lits := ⟨hcl.1, hcl.2, hf⟩
    have F := hch.cf I D F0
    obtain ⟨w, hw⟩ : ∃ w, w = (shr s x c S).filter fun y => !decide (lvx s.l y = 0) := ⟨_, rfl⟩
    have hws : w.Sublist c := by rw [hw]; exact List.filter_sublist.trans shr_sub
    rw [← hw]
    have hxw : x ∈ w := by
      rw [hw]
      refine List.mem_filter.2 ⟨shr_keep hx.1, ?_⟩
      have : lvx s.l x ≠ 0 := by omega
      simpa using this
    -- the others of the clause stand at lower levels
    have hlow : ∀ y ∈ c, y ≠ x → lvx s.l y ≤ lvx s.l x - 1 := fun y hy hyx => by
      have h1 := lvx_mono I.good I.lvs (F.fail y hy) (F.fail x hx.1) (hx.2 y hy)
      by_cases e : lvx s.l y = lvx s.l x
      · exfalso
        rcases hst with rfl | ⟨x', hx', hor⟩
        · cases hy
        · have exx := hx'.uniq I.good F.fail hx
          subst exx
          rcases hor with hor | hor
          · omega
          · unfold cntL at hor
            have m1 : x' ∈ c.filter fun z => decide (lvx s.l z = lvx s.l x') := List.mem_filter.2 ⟨hx.1, by simp⟩
            have m2 : y ∈ c.filter fun z => decide (lvx s.l z = lvx s.l x') := List.mem_filter.2 ⟨hy, by simp [e]⟩
            obtain ⟨z, hz⟩ := List.length_eq_one_iff.1 hor
            rw [hz, List.mem_singleton] at m1 m2
            exact hyx (m2.trans m1.symm)
      · omega
    obtain ⟨g1, g2, g3⟩ := mxL_le (l := s.l) (keep := x) (c := w) (b := lvx s.l x - 1) (by omega) fun y hy hk => hlow y (hws.subset hy) hk
    exact ⟨fun y hy => ⟨F.fail y (hws.subset hy), F.rng y (hws.subset hy)⟩, List.Pairwise.sublist hws F.rise, g2, fun _ => ⟨x, hxw, by omega, g3⟩⟩
end
end Xe

/- The law's own base: small, filled. -/
namespace Xe
open Go Tp Go.Proofs
set_option maxRecDepth 16000
set_option maxHeartbeats 1000000

/-- a clause that fails, or none -/
def CfId (s : WS) (id : Int) : Prop := (∃ (k : Nat) (e : Ent), id = k ∧ s.cs[k]? = some e ∧ FailAt s.l e.lits) ∨ id = -1
/-- a base of the law's own: none of its clauses is gone -/
structure Fil (h0 h : Heap) (bb vars : Nat) (p : BP) (s : WS) : Prop where
  W : Wst h0 h bb vars p s
  D : Dcs s.l
  R : Rm s.l
  g : ∀ e ∈ s.cs, e.gone = false
theorem goneS {s s' : WS} (h : absC s'.cs = absC s.cs) (g : ∀ e ∈ s.cs, e.gone = false) : ∀ e ∈ s'.cs, e.gone = false := fun e he => by
  have h1 : (e.lits, e.gone) ∈ absC s'.cs := List.mem_map.2 ⟨e, he, rfl⟩
  rw [h] at h1
  obtain ⟨e', he', h2⟩ := List.mem_map.1 h1
  have := g e' he'
  rw [Prod.mk.injEq] at h2
  rw [← h2.2]; exact this
theorem Fil.adv {h0 h h' : Heap} {bb vars : Nat} {p p' : BP} {s s' : WS} (F : Fil h0 h bb vars p s) (M' : BaseM h' bb p' s') (I' : WInv s') (ad : Adv s s') (st : Stp p p' h h') : Fil h0 h' bb vars p' s' :=
  ⟨F.W.step M' I' ad.vars st, Dcs.us ad.us F.D, Rm.us ad.us F.R, goneS ad.cs F.g⟩
theorem Fil.fr0 {h0 h h' : Heap} {bb vars : Nat} {p : BP} {s : WS} (F : Fil h0 h bb vars p s) (f : Fr (fun _ => False) h h') : Fil h0 h' bb vars p s := ⟨F.W.fr0 f, F.D, F.R, F.g⟩
theorem Fil.dec {h0 h h' : Heap} {bb vars : Nat} {p p' : BP} {s : WS} (F : Fil h0 h bb vars p s) (x : Int) (M' : BaseM h' bb p' (decS s x)) (st : Stp p p' h h') : Fil h0 h' bb vars p' (decS s x) := by
  refine ⟨F.W.step M' (F.W.I.dec x) rfl st, ?_, ?_, F.g⟩
  · show Dcs (pushL s.vars s.l x (-1) (s.level + 1))
    unfold pushL
    split
    · exact F.D.push fun _ u hu => by have := F.W.I.lvs.le u hu; simp only; omega
    · exact F.D
  · show Rm (pushL s.vars s.l x (-1) (s.level + 1))
    unfold pushL
    split
    · exact F.R.push (by simp only; omega) (fun _ => by simp only; omega)
    · exact F.R
theorem Fil.add {h0 h h' : Heap} {bb vars : Nat} {p p' : BP} {s : WS} {l L : List Int} (F : Fil h0 h bb vars p s) (hg : goodC s.vars l = true) (hc : CleanR l (some L)) (M' : BaseM h' bb p' (addS s L)) (st : Stp p p' h h') : Fil h0 h' bb vars p' (addS s L) :=
  ⟨F.W.step M' (addS_inv F.W.I hg hc) rfl st, F.D, F.R, fun e he => by
    rcases List.mem_append.1 he with he | he
    · exact F.g e he
    · rw [List.mem_singleton] at he; rw [he]⟩
theorem Fil.new {h0 h : Heap} {bb vars : Nat} {p : BP} (W : Wst h0 h bb vars p (newW vars)) : Fil h0 h bb vars p (newW vars) := ⟨W, Dcs.nil, Rm.nil, fun e he => by cases he⟩

section
variable {h : Heap}
theorem small19_ok {A B : Option Addr} {m c q d : Nat} {gs : Nat → List Int} (R : Args2 h A m gs) (hq : q < 2 ^ 63) {a0 : Int} (w0 : -9223372036854775808 ≤ a0 ∧ a0 ≤ 9223372036854775807) :
    CallsH Tryz.prog 12 [.int .i64 a0, .slice A m c, .slice B q d] h fun r h' => h' = h ∧ ∃ b : Bool, r = .bool b ∧ (b = true → 0 ≤ a0 ∧ a0 ≤ 8 ∧ m ≤ 20 ∧ q ≤ 10 ∧ ∀ i, i < m → (gs i).length ≤ 10) := by
  have hms := R.small
  refine calls_of 36 [.tmp 6] Go.Proofs.Tryz.func12 rfl rfl rfl (by kernel_rfl) (Nat.le_of_ble_eq_true rfl) ?_
  simp -implicitDefEqProofs (disch := omega) [go_sem]
  by_cases h1 : a0 < 0
  · simp -implicitDefEqProofs (disch := omega) [go_sem, h1]
  by_cases h2 : 8 < a0
  · simp -implicitDefEqProofs (disch := omega) [go_sem, h1, h2]
  by_cases h3 : 20 < m
  · have h3' : (20 : Int) < m := by omega
    simp -implicitDefEqProofs (disch := omega) [go_sem, h1, h2, h3']
  by_cases h4 : 10 < q
  · have h3' : ¬ (20 : Int) < m := by omega
    have h4' : (10 : Int) < q := by omega
    simp -implicitDefEqProofs (disch := omega) [go_sem, h1, h2, h3', h4']
  have h3' : ¬ (20 : Int) < m := by omega
  have h4' : ¬ (10 : Int) < q := by omega
  simp -implicitDefEqProofs (disch := omega) [go_sem, h1, h2, h3', h4']
  refine loopK (fun ρ h' => ρ 1 = .slice A m c ∧ h' = h ∧ ∃ i : Nat, ρ 7 = .int .i64 i ∧ i ≤ m ∧ ∀ j, j < i → (gs j).length ≤ 10) (fun ρ _ => m - (intOf (ρ 7)).toNat) (by kernel_rfl) ?_ ?_
  · exact ⟨rfl, rfl, 0, rfl, by omega, fun j h => by omega⟩
  · rintro ρ h' ⟨r1, rfl, i, r7, hi, hj⟩
    by_cases hin : i < m
    · obtain ⟨bk, off, B', cB, rfl, e0, RB, hBl, hBr⟩ := R.at' i hin
      by_cases hlen : 10 < (gs i).length
      · have hl' : (10 : Int) < (gs i).length := by omega
        simp -implicitDefEqProofs (disch := omega) [go_sem, r1, r7, e0, hl']
      · have hl' : ¬ (10 : Int) < (gs i).length := by omega
        simp -implicitDefEqProofs (disch := omega) [go_sem, r1, r7, e0, hl']
        refine ⟨⟨i + 1, by omega, by omega, fun j hj2 => ?_⟩, by omega⟩
        by_cases e : j = i
        · subst e; omega
        · exact hj j (by omega)
    · have e : i = m := by omega
      subst e
      simp -implicitDefEqProofs (disch := omega) [go_sem, r1, r7]
      exact ⟨by omega, by omega, by omega, by omega, hj⟩

theorem filled19_ok {h0 : Heap} (f0 : Fr (fun _ => False) h0 h) {A B : Option Addr} {m c q d : Nat} {gs : Nat → List Int} {ds : List Int} (R : Args2 h0 A m gs) (RD : RowAt h0 B (ints ds)) (hq : q = ds.length) (hdr : ∀ x ∈ ds, -9223372036854775808 ≤ x ∧ x ≤ 9223372036854775807)
    {a0 : Int} (ha : 0 ≤ a0 ∧ a0 ≤ 8) (hm : m ≤ 20) (hq10 : q ≤ 10) (hl : ∀ i, i < m → (gs i).length ≤ 10) :
    CallsH Tryz.prog 13 [.int .i64 a0, .slice A m c, .slice B q d] h fun r h' => ∃ (bb vars : Nat) (p : BP) (s : WS) (id : Int), r = .tuple #[.pointer (some ⟨bb, 0, none⟩), .int .i64 id] ∧ a0 = vars ∧ Fil h h' bb vars p s ∧ s.cs.length ≤ m ∧
      CfId s id := by
  subst hq
  refine calls_of 56 [.tmp 6, .tmp 7] Go.Proofs.Tryz.func13 rfl rfl rfl (by kernel_rfl) (Nat.le_of_ble_eq_true rfl) ?_
  simp -implicitDefEqProofs (disch := omega) [go_sem]
  refine useC (bnew_m (x := a0) (by omega) (by omega)) ?_
  rintro _ h2 (⟨hneg, rfl, rfl⟩ | ⟨vars, bb, rfl, hv, rfl, p2, M2, low2, fr2⟩)
  · omega
  have W2 : Wst h h2 bb vars p2 (newW vars) := ⟨M2, newW_inv hv, rfl, low2, fr2⟩
  simp -implicitDefEqProofs (disch := omega) [go_sem]
  refine loopK (fun ρ h' => ρ 1 = .slice A m c ∧ ρ 2 = .slice B ds.length d ∧ ρ 8 = .pointer (some ⟨bb, 0, none⟩) ∧ ∃ (i : Nat) (p : BP) (s : WS), ρ 9 = .int .i64 i ∧ i ≤ m ∧ Fil h h' bb vars p s ∧ s.cs.length ≤ i ∧ s.todo.length ≤ i) (fun ρ _ => m - (intOf (ρ 9)).toNat) (by kernel_rfl) ?_ ?_
  · exact ⟨rfl, rfl, rfl, 0, p2, newW vars, rfl, by omega, Fil.new W2, Nat.le_refl _, Nat.le_refl _⟩
  · clear W2 M2
    rintro ρ h3 ⟨r1, r2, r8, i, p, s, r9, hi, F3, hcs, htd⟩
    have W3 := F3.W
    by_cases him : i < m
    · obtain ⟨bk, off, B', cB, rfl, e0, RB, hBl, hBr⟩ := (R.fr (f0.trans W3.fr)).at' i him
      have hli := hl i him
      simp -implicitDefEqProofs (disch := omega) [go_sem, r1, r2, r8, r9, e0]
      refine useC (badd_m W3.M (by rw [W3.vars]; exact hv) RB rfl (by omega) hBr ⟨by omega, by omega⟩) ?_
      rintro _ h4 (⟨hg, rfl, f4⟩ | ⟨hg, hc, rfl, f4⟩ | ⟨hg, L, hc, rfl, p4, M4, st4⟩)
      · simp -implicitDefEqProofs (disch := omega) [go_sem, r1, r2, r8, r9]
        exact ⟨⟨i + 1, by omega, by omega, p, s, F3.fr0 f4, by omega, by omega⟩, by omega⟩
      · simp -implicitDefEqProofs (disch := omega) [go_sem, r1, r2, r8, r9]
        exact ⟨⟨i + 1, by omega, by omega, p, s, F3.fr0 f4, by omega, by omega⟩, by omega⟩
      · simp -implicitDefEqProofs (disch := omega) [go_sem, r1, r2, r8, r9]
        have hl1 : (addS s L).cs.length = s.cs.length + 1 := by unfold addS; simp
        have hl2 : (addS s L).todo.length = s.todo.length + 1 := by unfold addS; simp
        exact ⟨⟨i + 1, by omega, by omega, p4, addS s L, F3.add hg hc M4 st4, by omega, by omega⟩, by omega⟩
    · have e : i = m := by omega
      subst e
      have prop : ∀ {h3 : Heap} {p : BP} {s : WS}, Fil h h3 bb vars p s → s.cs.length ≤ i → CallsH Tryz.prog 61 [.pointer (some ⟨bb, 0, none⟩)] h3 fun r h' => ∃ p' s' id ok, r = .tuple #[.int .i64 id, .bool ok] ∧ Fil h h' bb vars p' s' ∧ s'.cs.length ≤ i ∧
          CfId s' id := fun {h3 p s} F hcs => by
        refine (prop_m F.W.M F.W.I).mono ?_
        rintro r h5 ⟨p5, s5, M5, st5, I5, ad5, hor⟩
        have hlen : s5.cs.length = s.cs.length := by
          have := congrArg List.length ad5.cs
          unfold absC at this
          simpa using this
        rcases hor with ⟨id, e, rfl, he, _, hf⟩ | ⟨rfl, _⟩
        · exact ⟨p5, s5, _, _, rfl, F.adv M5 I5 ad5 st5, by omega, .inl ⟨id, e, rfl, he, hf⟩⟩
        · exact ⟨p5, s5, _, _, rfl, F.adv M5 I5 ad5 st5, by omega, .inr rfl⟩
      simp -implicitDefEqProofs (disch := omega) [go_sem, r1, r2, r8, r9]
      refine useC (prop F3 hcs) ?_
      rintro _ h4 ⟨p4, s4, id4, ok4, rfl, F4, hcs4, hor4⟩
      simp -implicitDefEqProofs (disch := omega) [go_sem, r1, r2, r8, r9]
      refine loopK (fun ρ h' => ρ 2 = .slice B ds.length d ∧ ρ 8 = .pointer (some ⟨bb, 0, none⟩) ∧ ∃ (j : Nat) (p : BP) (s : WS) (id : Int) (ok : Bool), ρ 12 = .int .i64 j ∧ j ≤ ds.length ∧ ρ 10 = .int .i64 id ∧ ρ 11 = .bool ok ∧ Fil h h' bb vars p s ∧ s.cs.length ≤ i ∧
          CfId s id) (fun ρ _ => ds.length - (intOf (ρ 12)).toNat) (by kernel_rfl) ?_ ?_
      · exact ⟨r2, r8, 0, p4, s4, id4, ok4, rfl, by omega, rfl, rfl, F4, hcs4, hor4⟩
      · clear r1 r2 r8 r9 hor4 hcs4 F4
        rintro ρ h5 ⟨r2, r8, j, p5, s5, id5, ok5, r12, hj, r10, r11, F5, hcs5, hor5⟩
        by_cases hjn : j < ds.length
        · cases ok5 with
          | false =>
            simp -implicitDefEqProofs (disch := omega) [go_sem, r2, r8, r10, r11, r12]
            exact ⟨bb, vars, p5, s5, id5, ⟨rfl, rfl⟩, rfl, F5, hcs5, hor5⟩
          | true =>
            obtain ⟨bk, off, rfl, hc⟩ := (RD.fr0 (f0.trans F5.W.fr)).get (by rw [ints_len]; omega)
            obtain ⟨x, hx⟩ := some_at hjn
            have c0 := hc _ _ (ints_at hx)
            have hxr := hdr x (List.mem_of_getElem? hx)
            simp -implicitDefEqProofs (disch := omega) [go_sem, r2, r8, r10, r11, r12, c0]
            refine useC (bdecide_m F5.W.M hxr.1 hxr.2) ?_
            rintro _ h6 ⟨rfl, p6, M6, st6⟩
            have F6 := F5.dec x M6 st6
            simp -implicitDefEqProofs (disch := omega) [go_sem, r2, r8, r10, r11, r12]
            refine useC (prop F6 hcs5) ?_
            rintro _ h7 ⟨p7, s7, id7, ok7, rfl, F7, hcs7, hor7⟩
            simp -implicitDefEqProofs (disch := omega) [go_sem, r2, r8, r10, r11, r12]
            exact ⟨⟨j + 1, by omega, by omega, p7, s7, F7, hcs7, hor7⟩, by omega⟩
        · have e : j = ds.length := by omega
          subst e
          simp -implicitDefEqProofs (disch := omega) [go_sem, r2, r8, r10, r11, r12]
          exact ⟨bb, vars, p5, s5, id5, ⟨rfl, rfl⟩, rfl, F5, hcs5, hor5⟩
end
end Xe

/- clause.Holds, clause.Models: each model it finds is one. -/
namespace Xe
open Go Tp Go.Proofs
set_option maxRecDepth 16000
set_option maxHeartbeats 1000000

def bools (l : List Bool) : List Value := l.map Value.bool
theorem bools_len (l : List Bool) : (bools l).length = l.length := List.length_map ..
theorem bools_at {l : List Bool} {i : Nat} {b : Bool} (h : l[i]? = some b) : (bools l)[i]? = some (.bool b) := by simp [bools, h]
theorem bools_one {l : List Bool} : ∀ w ∈ bools l, w.oneCell' = true := by
  intro w hw
  obtain ⟨x, _, rfl⟩ := List.mem_map.1 hw
  rfl
/-- a literal's truth in an assignment -/
def truB (bs : List Bool) (x : Int) : Int := if x.natAbs = 0 then 0 else match bs[x.natAbs - 1]? with
  | some b => if b = decide (0 < x) then 1 else -1
  | none => 0
/-- does a clause hold? -/
def holdB (bs : List Bool) (k : List Int) : Bool := k.any fun x => decide (0 < truB bs x)

section
variable {h : Heap} {A : Option Addr} {n c : Nat} {bs : List Bool}
theorem truth12_ok (R : RowAt h A (bools bs)) (hn : n = bs.length) (hs : n < 2 ^ 40) {x : Int} (hx : x.natAbs ≤ 16777216) :
    CallsH Tryz.prog 127 [.int .i64 x, .slice A n c] h fun r h' => r = .int .i64 (truB bs x) ∧ h' = h := by
  subst hn
  have ev : var12 x = x.natAbs := if_pos hx
  refine calls_of 26 [.tmp 4] Go.Proofs.Tryz.func127 rfl rfl rfl (by kernel_rfl) (Nat.le_of_ble_eq_true rfl) ?_
  simp -implicitDefEqProofs (disch := omega) [go_sem]
  refine useC (abs12_ok (x := x) (by omega) (by omega)) ?_
  rintro _ h2 ⟨rfl, rfl⟩
  rw [ev]
  unfold truB
  by_cases h0 : x.natAbs = 0
  · have h0' : (x.natAbs : Int) = 0 := by omega
    simp -implicitDefEqProofs (disch := omega) [go_sem, h0', h0]
  · have h0' : ¬ (x.natAbs : Int) = 0 := by omega
    rw [if_neg h0]
    by_cases h1 : bs.length < x.natAbs
    · have h1' : (bs.length : Int) < (x.natAbs : Int) := by omega
      rw [List.getElem?_eq_none (by omega)]
      simp -implicitDefEqProofs (disch := omega) [go_sem, h0', h1']
    · have h1' : ¬ (bs.length : Int) < (x.natAbs : Int) := by omega
      obtain ⟨bk, off, rfl, hc⟩ := R.get (by rw [bools_len]; omega)
      have e := List.getElem?_eq_getElem (show x.natAbs - 1 < bs.length by omega)
      have c0 := hc _ _ (bools_at e)
      rw [e]
      have ei : ((x.natAbs : Int) - 1).toNat = x.natAbs - 1 := by omega
      by_cases hb : bs[x.natAbs - 1] = decide (0 < x)
      · simp -implicitDefEqProofs (disch := omega) [go_sem, h0', h1', ei, c0, hb]
      · have hb2 : (bs[x.natAbs - 1] == decide (0 < x)) = false := by simpa using hb
        simp -implicitDefEqProofs (disch := omega) [go_sem, h0', h1', ei, c0, hb, hb2]
theorem holdsF_ok {b3 : Nat} (h3 : hcell h ⟨b3, 0, none⟩ = some (.slice A n c)) (R : RowAt h A (bools bs)) (hn : n = bs.length) (hs : n < 2 ^ 40) {x : Int} (hx : x.natAbs ≤ 16777216) :
    CallsH Tryz.prog 126 ([.int .i64 x] ++ [.pointer (some ⟨b3, 0, none⟩)]) h fun r h' => r = .bool (decide (0 < truB bs x)) ∧ h' = h := by
  refine calls_of 8 [.tmp 3] Go.Proofs.Tryz.func126 rfl rfl rfl (by kernel_rfl) (Nat.le_of_ble_eq_true rfl) ?_
  simp -implicitDefEqProofs (disch := omega) [go_sem, h3]
  refine useC (truth12_ok R hn hs hx) ?_
  rintro _ h2 ⟨rfl, rfl⟩
  simp -implicitDefEqProofs (disch := omega) [go_sem]
theorem holds_ok (R : RowAt h A (bools bs)) (hn : n = bs.length) (hs : n < 2 ^ 40) {B : Option Addr} {m d : Nat} {k : List Int} (Rk : RowAt h B (ints k)) (hm : m = k.length) (hs2 : m < 2 ^ 40) (hk : ∀ x ∈ k, x.natAbs ≤ 16777216) :
    CallsH Tryz.prog 70 [.slice B m d, .slice A n c] h fun r h' => r = .bool (holdB bs k) ∧ Fr (fun _ => False) h h' := by
  refine calls_of 8 [.tmp 4] Go.Proofs.Tryz.func70 rfl rfl rfl (by kernel_rfl) (Nat.le_of_ble_eq_true rfl) ?_
  simp -implicitDefEqProofs (disch := omega) [go_sem]
  obtain ⟨h1, e1⟩ : ∃ h1, h1 = h.push (.cells #[.slice A n c] 38) := ⟨_, rfl⟩
  have f1 : Fr (fun _ => False) h h1 := by rw [e1]; exact (Fr.refl _ _).push
  have V1 : ListB h1 h.size [.slice A n c] := by rw [e1]; exact ListB.new
  rw [← e1]
  refine useC (containsFunc_ok (cs := [.pointer (some ⟨h.size, 0, none⟩)]) (Rk.fr0 f1) hm hs2 (fun x => decide (0 < truB bs x)) fun x hx => holdsF_ok (V1.at' 0 _ rfl) (R.fr0 f1) hn hs (hk x hx)) ?_
  rintro _ h2 ⟨rfl, rfl⟩
  simp -implicitDefEqProofs (disch := omega) [go_sem]
  exact ⟨rfl, f1⟩
theorem modelsF_ok {b3 : Nat} (h3 : hcell h ⟨b3, 0, none⟩ = some (.slice A n c)) (R : RowAt h A (bools bs)) (hn : n = bs.length) (hs : n < 2 ^ 40) {B : Option Addr} {m d : Nat} {k : List Int} (Rk : RowAt h B (ints k)) (hm : m = k.length) (hs2 : m < 2 ^ 40) (hk : ∀ x ∈ k, x.natAbs ≤ 16777216) :
    CallsH Tryz.prog 69 ([.slice B m d] ++ [.pointer (some ⟨b3, 0, none⟩)]) h fun r h' => r = .bool (!holdB bs k) ∧ Fr (fun _ => False) h h' := by
  refine calls_of 8 [.tmp 3] Go.Proofs.Tryz.func69 rfl rfl rfl (by kernel_rfl) (Nat.le_of_ble_eq_true rfl) ?_
  simp -implicitDefEqProofs (disch := omega) [go_sem, h3]
  refine useC (holds_ok R hn hs Rk hm hs2 hk) ?_
  rintro _ h2 ⟨rfl, f⟩
  simp -implicitDefEqProofs (disch := omega) [go_sem]
  exact f

/-- rows of numbers, read -/
def RowsA (h : Heap) (A : Option Addr) (Ks : List (List Int)) : Prop := ∀ (i : Nat) (K : List Int), Ks[i]? = some K → ∃ bk off B d, A = some ⟨bk, off, none⟩ ∧ hcell h ⟨bk, off + i, none⟩ = some (.slice B K.length d) ∧ RowAt h B (ints K)
theorem RowsA.fr0 {Ks : List (List Int)} (R : RowsA h A Ks) {h' : Heap} (f : Fr (fun _ => False) h h') : RowsA h' A Ks := fun i K hK => by
  obtain ⟨bk, off, B, d, h1, h2, h3⟩ := R i K hK
  exact ⟨bk, off, B, d, h1, (f.cell (hcell_lt h2) fun h => h).trans h2, h3.fr0 f⟩
theorem containsRows_ok {Ks : List (List Int)} {fn : FuncId} {cs : List Value} (R : RowsA h A Ks) (hn : n = Ks.length) (hs : n < 2 ^ 40) (p : List Int → Bool)
    (hf : ∀ h', Fr (fun _ => False) h h' → ∀ K ∈ Ks, ∀ B d, RowAt h' B (ints K) → CallsH Tryz.prog fn ([.slice B K.length d] ++ cs) h' fun r h'' => r = .bool (p K) ∧ Fr (fun _ => False) h' h'') :
    CallsH Tryz.prog 68 [.slice A n c, .func (.func fn) #[] cs.toArray] h fun r h' => r = .bool (Ks.any p) ∧ Fr (fun _ => False) h h' := by
  subst hn
  have ix : CallsH Tryz.prog 125 [.slice A Ks.length c, .func (.func fn) #[] cs.toArray] h fun r h' => ∃ i : Int, r = .int .i64 i ∧ (0 ≤ i ↔ Ks.any p = true) ∧ -1 ≤ i ∧ i < 2 ^ 40 ∧ Fr (fun _ => False) h h' := by
    refine calls_of 19 [.tmp 4] Go.Proofs.Tryz.func125 rfl rfl rfl (by kernel_rfl) (Nat.le_of_ble_eq_true rfl) ?_
    simp -implicitDefEqProofs (disch := omega) [go_sem]
    refine loopK (fun ρ h' => ρ 0 = .slice A Ks.length c ∧ ρ 1 = .func (.func fn) #[] cs.toArray ∧ ρ 7 = .int .i64 Ks.length ∧ Fr (fun _ => False) h h' ∧ ∃ i : Nat, ρ 8 = .int .i64 i ∧ i ≤ Ks.length ∧ ∀ (j : Nat) K, j < i → Ks[j]? = some K → p K = false)
      (fun ρ _ => Ks.length - (intOf (ρ 8)).toNat) (by kernel_rfl) ?_ ?_
    · exact ⟨rfl, rfl, rfl, Fr.refl _ _, 0, rfl, by omega, fun j K hj => by omega⟩
    · rintro ρ h1 ⟨r0, r1, r7, f1, i, r8, hi, hj⟩
      by_cases hin : i < Ks.length
      · obtain ⟨K, hK⟩ : ∃ K, Ks[i]? = some K := ⟨_, List.getElem?_eq_getElem hin⟩
        obtain ⟨bk, off, B, d, rfl, c0, RB⟩ := (R.fr0 f1) i K hK
        simp -implicitDefEqProofs (disch := omega) [go_sem, r0, r1, r7, r8, c0]
        refine useC (hf h1 f1 K (List.mem_of_getElem? hK) B d RB) ?_
        rintro _ h2 ⟨rfl, f2⟩
        cases hp : p K with
        | true =>
          simp -implicitDefEqProofs (disch := omega) [go_sem, r0, r1, r7, r8]
          exact ⟨⟨K, List.mem_of_getElem? hK, hp⟩, by omega, f1.trans f2⟩
        | false =>
          simp -implicitDefEqProofs (disch := omega) [go_sem, r0, r1, r7, r8]
          refine ⟨⟨f1.trans f2, i + 1, by omega, by omega, fun j K' hj' hK' => ?_⟩, by omega⟩
          by_cases e : j = i
          · subst e; rw [hK] at hK'; cases hK'; exact hp
          · exact hj j K' (by omega) hK'
      · simp -implicitDefEqProofs (disch := omega) [go_sem, r0, r1, r7, r8]
        refine ⟨fun K hK => ?_, f1⟩
        obtain ⟨j, hj2⟩ := List.getElem?_of_mem hK
        exact hj j K (by have := (List.getElem?_eq_some_iff.1 hj2).1; omega) hj2
  refine calls_of 9 [.tmp 4] Go.Proofs.Tryz.func68 rfl rfl rfl (by kernel_rfl) (Nat.le_of_ble_eq_true rfl) ?_
  simp -implicitDefEqProofs (disch := omega) [go_sem]
  refine useC ix ?_
  rintro _ h2 ⟨i, rfl, hi, h1, h3, f⟩
  cases hp : Ks.any p with
  | true =>
    have h4 := hi.2 hp
    simp -implicitDefEqProofs (disch := omega) [go_sem, h4]
    exact f
  | false =>
    have h4 : ¬ 0 ≤ i := fun h => by have := hi.1 h; rw [hp] at this; cases this
    simp -implicitDefEqProofs (disch := omega) [go_sem, h4]
    exact f
end
end Xe
