/- Reading rows of identifiers. -/
import Derived.Test.YtgebeiaffjpcaaaGreatDoorE32
namespace Xe
open Go Go.Proofs
set_option maxRecDepth 16000
set_option maxHeartbeats 2000000

def NoId (rest : List UInt8) : Prop := ∀ c, rest[0]? = some c → idB c = false ∧ c ≠ 46
def RowOf (pre : Bool) (d : List UInt8) (ids : List (List UInt8)) (rest : List UInt8) : Prop := ids ≠ [] ∧ idsFrom pre 0 ids = true ∧ d = glue 46 ids ++ rest ∧ NoId rest
def RowCmp (pre : Bool) (d : List UInt8) (L : List (List UInt8)) (f : Nat) : Prop := ∀ ids rest, RowOf pre d ids rest → ∃ ids', ids' ≠ [] ∧ ids = L ++ ids' ∧ d.drop f = glue 46 ids' ++ rest
theorem idsFrom_mid {pre : Bool} {a : List UInt8} {r : List (List UInt8)} : ∀ {L : List (List UInt8)} {i : Nat}, idsFrom pre i (L ++ a :: r) = true → wrongI a (i + L.length) pre = 0 ∧ a.all idB = true
  | [], i, h => by
    simp only [List.nil_append, idsFrom, Bool.and_eq_true, decide_eq_true_eq] at h
    exact ⟨h.1.1, h.1.2⟩
  | b :: L, i, h => by
    simp only [List.cons_append, idsFrom, Bool.and_eq_true] at h
    have := idsFrom_mid h.2
    rwa [show i + 1 + L.length = i + (b :: L).length by rw [List.length_cons]; omega] at this
theorem idB_dot : idB 46 = false := by decide
theorem glue_cons {c : UInt8} {a : List UInt8} {r : List (List UInt8)} : glue c (a :: r) = a ++ (if r = [] then [] else c :: glue c r) := by
  cases r with
  | nil => simp [glue]
  | cons b r => rw [if_neg (by simp)]; rfl
/-- one identifier is read -/
theorem RowCmp.one {pre : Bool} {d : List UInt8} {L : List (List UInt8)} {f t : Nat} (C : RowCmp pre d L f) (hft : f ≤ t) (ht : t ≤ d.length) (hA : AllT idB ((d.drop f).take (t - f))) (he : ∀ c, d[t]? = some c → idB c = false)
    {ids : List (List UInt8)} {rest : List UInt8} (R : RowOf pre d ids rest) : wrongI ((d.drop f).take (t - f)) L.length pre = 0 ∧
      ∃ r, ids = L ++ (d.drop f).take (t - f) :: r ∧ (d[t]? = some 46 ↔ r ≠ []) ∧ (r ≠ [] → d.drop (t + 1) = glue 46 r ++ rest) ∧ (r = [] → d.drop t = rest) := by
  obtain ⟨ids', hne, e1, e2⟩ := C ids rest R
  obtain ⟨a, r, rfl⟩ := List.exists_cons_of_ne_nil hne
  obtain ⟨_, hid, _, hno⟩ := R
  rw [e1] at hid
  obtain ⟨hw, ha⟩ := idsFrom_mid hid
  rw [Nat.zero_add] at hw
  have hl1 : ((d.drop f).takeWhile idB).length = t - f := takeWhile_len (by rw [List.length_drop]; omega) hA fun c hc => he c (by rw [List.getElem?_drop, show f + (t - f) = t by omega] at hc; exact hc)
  rw [glue_cons, List.append_assoc] at e2
  have hl2 : ((d.drop f).takeWhile idB).length = a.length := by
    rw [e2]
    refine takeWhile_len (by simp) (by rw [List.take_left']; exact ha; rfl) fun c hc => ?_
    rw [List.getElem?_append_right (Nat.le_refl _), Nat.sub_self] at hc
    by_cases hr : r = []
    · rw [if_pos hr, List.nil_append] at hc
      exact (hno c hc).1
    · rw [if_neg hr] at hc
      simp only [List.cons_append, List.getElem?_cons_zero, Option.some.injEq] at hc
      subst hc; exact idB_dot
  have hta : t - f = a.length := by omega
  have hs : (d.drop f).take (t - f) = a := by rw [hta, e2, List.take_left']; rfl
  have hd : d.drop t = (if r = [] then [] else 46 :: glue 46 r) ++ rest := by
    have := congrArg (List.drop (t - f)) e2
    rw [List.drop_drop, show f + (t - f) = t by omega, hta, List.drop_left'] at this
    · exact this
    · rfl
  rw [hs]
  refine ⟨hw, r, e1, ?_, fun hr => ?_, fun hr => ?_⟩
  · have h0 : d[t]? = (d.drop t)[0]? := by rw [List.getElem?_drop, Nat.add_zero]
    rw [h0, hd]
    by_cases hr : r = []
    · rw [if_pos hr, List.nil_append]
      exact ⟨fun g => absurd rfl (hno 46 g).2, fun g => absurd hr g⟩
    · rw [if_neg hr]
      exact ⟨fun _ => hr, fun _ => rfl⟩
  · rw [if_neg hr] at hd
    have := congrArg (List.drop 1) hd
    rw [List.drop_drop] at this
    rw [this]; rfl
  · rw [if_pos hr, List.nil_append] at hd; exact hd
theorem RowCmp.zero {pre : Bool} {d : List UInt8} : RowCmp pre d [] 0 := fun ids rest R => ⟨ids, R.1, rfl, by rw [List.drop_zero]; exact R.2.2.1⟩
theorem RowCmp.next {pre : Bool} {d : List UInt8} {L : List (List UInt8)} {f t : Nat} (C : RowCmp pre d L f) (hft : f ≤ t) (ht : t ≤ d.length) (hA : AllT idB ((d.drop f).take (t - f))) (h46 : d[t]? = some 46) : RowCmp pre d (L ++ [(d.drop f).take (t - f)]) (t + 1) := fun ids rest R => by
  obtain ⟨_, r, h1, h2, h3, _⟩ := C.one hft ht hA (fun c hc => by rw [h46] at hc; cases hc; exact idB_dot) R
  exact ⟨r, h2.1 h46, by rw [h1, List.append_assoc]; rfl, h3 (h2.1 h46)⟩

section
variable {h : Heap} {A : Option Addr} {n cp at' : Nat} {l : List UInt8}
/-- what ident.Row hands back -/
def IdRowR (N : Nat) (pre : Bool) (d : List UInt8) (h' : Heap) (r : Value) : Prop := ∃ (L : List (List UInt8)) (X : Option Addr) (x n e : Nat), r = .tuple #[.slice X L.length x, .int .i64 n, .int .i64 e] ∧ RowAt h' X (strs L) ∧ L.length ≤ x ∧ (∀ y, blk X y → N ≤ y) ∧
  n ≤ d.length ∧ L.length ≤ 16 ∧ (∀ a ∈ L, a.length ≤ 255) ∧ ∀ ids rest, RowOf pre d ids rest → L = ids ∧ n = (glue 46 ids).length ∧ e = 0
theorem IdRowR.bad {N : Nat} {pre : Bool} {d : List UInt8} {h' : Heap} {e : Nat} (hno : ∀ ids rest, ¬ RowOf pre d ids rest) : IdRowR N pre d h' (.tuple #[.slice none 0 0, .int .i64 0, .int .i64 e]) :=
  ⟨[], none, 0, 0, e, rfl, .nil, Nat.le_refl _, (fun y ⟨a, ha, _⟩ => nomatch ha), Nat.zero_le _, by simp, by simp, fun ids rest R => absurd R (hno ids rest)⟩
theorem RowAt.gb {vs : List Value} {h' : Heap} (R : RowAt h A vs) (f : Gb h.size h h') : RowAt h' A vs := by
  rcases R with e | ⟨bk, off, e, hc⟩
  · exact .inl e
  · exact .inr ⟨bk, off, e, fun i v hv => (f.cell (hcell_lt (hc i v hv)) (by have := hcell_lt (hc i v hv); omega)).trans (hc i v hv)⟩
/-- what holds at the label -/
def RowJ (N : Nat) (pre : Bool) (at' : Nat) (d : List UInt8) (h' : Heap) (v9 v10 v6 : Value) : Prop := ∃ (f t : Nat) (L : List (List UInt8)) (X : Option Addr) (x : Nat), v9 = .int .i64 ((at' + f : Nat)) ∧ v10 = .int .i64 ((at' + t : Nat)) ∧ v6 = .slice X L.length x ∧
  f ≤ t ∧ t ≤ d.length ∧ AllT idB ((d.drop f).take (t - f)) ∧ RowCmp pre d L f ∧ SlAt h' X x (strs L) ∧ (∀ y, blk X y → N ≤ y) ∧ L.length ≤ 16 ∧ ∀ a ∈ L, a.length ≤ 255
theorem idRow_ok (R : RowAt h A (l.map byteV)) (hn : n = l.length) (hcp : n ≤ cp) (hat : at' ≤ l.length) (hl : l.length < 2 ^ 40) (pre : Bool) :
    CallsH Tryz.prog 248 [.slice A n cp, .int .i64 at', .bool pre] h fun r h' => IdRowR h.size pre (l.drop at') h' r ∧ Gr h h' := by
  subst hn
  refine calls_of 71 [.tmp 6, .tmp 7, .tmp 8] Go.Proofs.Tryz.func248 rfl rfl rfl ?_
  simp -implicitDefEqProofs (disch := first | omega | (simp only [push_size, hset_size]; done) | (simp only [push_size, hset_size]; omega)) [go_sem]
  refine scopeM 0 (fun ρ h' => ρ 0 = .slice A l.length cp ∧ ρ 1 = .int .i64 at' ∧ ρ 2 = .bool pre ∧ Gb h.size h h' ∧ RowJ h.size pre at' (l.drop at') h' (ρ 9) (ρ 10) (ρ 6))
    (fun ρ _ => l.length - (intOf (ρ 10)).toNat) rfl rfl (by kernel_rfl) ?_ ?_
  · simp -implicitDefEqProofs (disch := first | omega | (simp only [push_size, hset_size]; done) | (simp only [push_size, hset_size]; omega)) [go_sem]
    exact ⟨Fr.refl _ _, 0, 0, [], none, 0, rfl, rfl, rfl, Nat.le_refl _, Nat.zero_le _, rfl, .zero, SlAt.nil h, fun y ⟨a, ha, _⟩ => (nomatch ha), by simp, by simp⟩
  · rintro ρ h1 ⟨r0, r1, r2, f1, f, t, L, X, x, r9, r10, r6, hft, ht, hA, C, SX, own, hL, hLb⟩
    have R1 := R.gb f1
    have f01 : Gr h h1 := Fr.of_new f1 (Nat.le_refl _)
    have htl : at' + t ≤ l.length := by rw [List.length_drop] at ht; omega
    by_cases htn : at' + t < l.length
    · obtain ⟨c, hc⟩ : ∃ c, l[at' + t]? = some c := ⟨_, List.getElem?_eq_getElem htn⟩
      have hc' : (l.drop at')[t]? = some c := by rw [List.getElem?_drop]; exact hc
      obtain ⟨bk, off, hA1, hcell⟩ := R1.get (by simp; omega)
      cases hA1
      have c0 := hcell _ _ (bytes_at hc)
      have eT : ((at' : Int) + (t : Int)).toNat = at' + t := by omega
      simp -implicitDefEqProofs (disch := first | omega | (simp only [push_size, hset_size]; done) | (simp only [push_size, hset_size]; omega)) [go_sem, r0, r1, r2, r6, r9, r10, c0, eT]
      refine useC (isByte_ok c) ?_
      rintro _ h2 ⟨rfl, rfl⟩
      cases hd : idB c with
      | true =>
        simp -implicitDefEqProofs (disch := first | omega | (simp only [push_size, hset_size]; done) | (simp only [push_size, hset_size]; omega)) [go_sem, r0, r1, r2, r6, r9, r10, eT]
        refine ⟨⟨f1, f, t + 1, L, X, x, rfl, by rw [Int.natCast_add, Int.natCast_add]; simp [Int.add_assoc], rfl, by omega, by rw [List.length_drop]; omega, ?_, C, SX, own, hL, hLb⟩, by omega⟩
        rw [show t + 1 - f = t - f + 1 by omega]
        exact all_take hA (by rw [List.getElem?_drop, show f + (t - f) = t by omega]; exact hc') hd
      | false =>
        have he : ∀ z, (l.drop at')[t]? = some z → idB z = false := fun z hz => by rw [hc'] at hz; cases hz; exact hd
        have hs1 := f1.size
        have hsn : (l.drop (at' + f)).take (at' + t - (at' + f)) = ((l.drop at').drop f).take (t - f) := by rw [List.drop_drop, show at' + t - (at' + f) = t - f by omega]
        obtain ⟨A', hsl, hb2s⟩ := sub_str (i := at' + f) (j := at' + t) R1 hcp (by omega) (by omega)
        rw [hsn] at hb2s
        rw [Int.natCast_add, Int.natCast_add] at hsl
        obtain ⟨s, hs⟩ : ∃ s, s = ((l.drop at').drop f).take (t - f) := ⟨_, rfl⟩
        rw [← hs] at hb2s
        simp -implicitDefEqProofs (disch := first | omega | (simp only [push_size, hset_size]; done) | (simp only [push_size, hset_size]; omega)) [go_sem, r0, r1, r2, r6, r9, r10, eT, hsl, hb2s]
        refine useC (check_ok s L.length pre (by omega)) ?_
        rintro _ h3 ⟨rfl, f3⟩
        by_cases hw : wrongI s L.length pre = 0
        case neg =>
          have hw' : ((wrongI s L.length pre : Nat) : Int) ≠ 0 := by omega
          simp -implicitDefEqProofs (disch := first | omega | (simp only [push_size, hset_size]; done) | (simp only [push_size, hset_size]; omega)) [go_sem, r0, r1, r2, r6, r9, r10, eT, hw']
          exact ⟨.bad fun ids rest RO => hw (by rw [hs]; exact (C.one hft ht hA he RO).1), f01.trans f3⟩
        simp -implicitDefEqProofs (disch := first | omega | (simp only [push_size, hset_size]; done) | (simp only [push_size, hset_size]; omega)) [go_sem, r0, r1, r2, r6, r9, r10, eT, hw]
        have hsl2 : s.length ≤ 255 ∧ L.length ≤ 15 := by
          unfold wrongI at hw
          split at hw
          · cases hw
          · split at hw
            · cases hw
            · rename_i h2; omega
        refine buildB rfl rfl fun X2 h4 S4 own4 f4 => ?_
        simp -implicitDefEqProofs (disch := first | omega | (simp only [push_size, hset_size]; done) | (simp only [push_size, hset_size]; omega)) [go_sem, r0, r1, r2, r6, r9, r10, eT]
        refine appendB (vs := strs L) (ws := [S s]) (SX.fr (f3.trans f4) fun _ _ h => h) (by rw [strs_len]) S4.row rfl (by simp [Value.oneCell', S]) (by omega) (by omega) ?_
        intro X5 x5 h5 S5 f5 own5
        have hL' : (L ++ [s]).length = L.length + 1 := by rw [List.length_append]; rfl
        have S5' : SlAt h5 X5 x5 (strs (L ++ [s])) := by unfold strs at S5 ⊢; rw [List.map_append]; exact S5
        have f15 : Gb h.size _ h5 := (f3.trans f4).gb.trans (f5.mono fun y _ hy => own y hy)
        have fb5 := f1.trans f15
        have fin : (∀ ids rest, RowOf pre (l.drop at') ids rest → L ++ [s] = ids ∧ t = (glue 46 ids).length) → IdRowR h.size pre (l.drop at') h5 (.tuple #[.slice X5 (L.length + 1) x5, .int .i64 t, .int .i64 0]) := fun hh =>
          ⟨L ++ [s], X5, x5, t, 0, by rw [hL']; rfl, S5'.row, by have := S5'.len; rw [strs_len] at this; exact this, (fun y hy => (own5 y hy).elim (own y) fun g => by have := (f3.trans f4).size; omega), ht, by omega, fun z hz => (List.mem_append.1 hz).elim (hLb z) fun hz => by rw [List.mem_singleton] at hz; subst hz; exact hsl2.1, fun ids rest RO => ⟨(hh ids rest RO).1, (hh ids rest RO).2, rfl⟩⟩
        have last : (l.drop at')[t]? ≠ some 46 → ∀ ids rest, RowOf pre (l.drop at') ids rest → L ++ [s] = ids ∧ t = (glue 46 ids).length := fun hne ids rest RO => by
          obtain ⟨_, r, g1, g2, _, g4⟩ := C.one hft ht hA he RO
          have hr : r = [] := Classical.byContradiction fun hr => hne (g2.2 hr)
          subst hr
          refine ⟨by rw [g1, hs], ?_⟩
          have e1 := g4 rfl
          have e2 := RO.2.2.1
          have e3 := congrArg List.length e2
          have e4 := congrArg List.length e1
          rw [List.length_append] at e3
          rw [List.length_drop] at e4
          omega
        have eS : (at' : Int) + (t : Int) - (at' : Int) = (t : Int) := by omega
        by_cases e46 : (c.toNat : Int) = 46
        · have hc46 : c = 46 := (byte_eq (n := 46) (by omega)).1 e46
          have c5 : Xe.hcell h5 ⟨bk, off + (at' + t), none⟩ = some (.int .u8 (c.toNat : Int)) := (f15.cell (hcell_lt c0) (by have := R.get (by simp; omega); obtain ⟨b2, o2, e2, hh⟩ := this; cases e2; have := hcell_lt (hh _ _ (bytes_at hc)); omega)).trans c0
          simp -implicitDefEqProofs (disch := first | omega | (simp only [push_size, hset_size]; done) | (simp only [push_size, hset_size]; omega)) [go_sem, r0, r1, r2, r6, r9, r10, eT, c5, e46]
          have C' : RowCmp pre (l.drop at') (L ++ [s]) (t + 1) := by rw [hs]; exact C.next hft ht hA (by rw [hc', hc46])
          refine ⟨⟨fb5, t + 1, t + 1, L ++ [s], X5, x5, by rw [Int.natCast_add, Int.natCast_add]; simp [Int.add_assoc], by rw [Int.natCast_add, Int.natCast_add]; simp [Int.add_assoc], by rw [hL'], Nat.le_refl _, by rw [List.length_drop]; omega, by rw [Nat.sub_self]; rfl, C', S5', fun y hy => ?_, by omega, fun z hz => (List.mem_append.1 hz).elim (hLb z) fun hz => by rw [List.mem_singleton] at hz; subst hz; exact hsl2.1⟩, by omega⟩
          rcases own5 y hy with hy | hy
          · exact own y hy
          · have := (f3.trans f4).size; omega
        · have c5 : Xe.hcell h5 ⟨bk, off + (at' + t), none⟩ = some (.int .u8 (c.toNat : Int)) := (f15.cell (hcell_lt c0) (by have := R.get (by simp; omega); obtain ⟨b2, o2, e2, hh⟩ := this; cases e2; have := hcell_lt (hh _ _ (bytes_at hc)); omega)).trans c0
          simp -implicitDefEqProofs (disch := first | omega | (simp only [push_size, hset_size]; done) | (simp only [push_size, hset_size]; omega)) [go_sem, r0, r1, r2, r6, r9, r10, eT, c5, e46, eS]
          exact ⟨fin (last (by rw [hc']; intro e; cases e; exact e46 rfl)), Fr.of_new fb5 (Nat.le_refl _)⟩
    · have he : ∀ z, (l.drop at')[t]? = some z → idB z = false := fun z hz => by
        rw [List.getElem?_drop, List.getElem?_eq_none (by omega)] at hz; cases hz
      have eT : ((at' : Int) + (t : Int)).toNat = at' + t := by omega
      have hs1 := f1.size
      have hsn : (l.drop (at' + f)).take (at' + t - (at' + f)) = ((l.drop at').drop f).take (t - f) := by rw [List.drop_drop, show at' + t - (at' + f) = t - f by omega]
      obtain ⟨A', hsl, hb2s⟩ := sub_str (i := at' + f) (j := at' + t) R1 hcp (by omega) (by omega)
      rw [hsn] at hb2s
      rw [Int.natCast_add, Int.natCast_add] at hsl
      obtain ⟨s, hs⟩ : ∃ s, s = ((l.drop at').drop f).take (t - f) := ⟨_, rfl⟩
      rw [← hs] at hb2s
      simp -implicitDefEqProofs (disch := first | omega | (simp only [push_size, hset_size]; done) | (simp only [push_size, hset_size]; omega)) [go_sem, r0, r1, r2, r6, r9, r10, eT, hsl, hb2s]
      refine useC (check_ok s L.length pre (by omega)) ?_
      rintro _ h3 ⟨rfl, f3⟩
      by_cases hw : wrongI s L.length pre = 0
      case neg =>
        have hw' : ((wrongI s L.length pre : Nat) : Int) ≠ 0 := by omega
        simp -implicitDefEqProofs (disch := first | omega | (simp only [push_size, hset_size]; done) | (simp only [push_size, hset_size]; omega)) [go_sem, r0, r1, r2, r6, r9, r10, eT, hw']
        exact ⟨.bad fun ids rest RO => hw (by rw [hs]; exact (C.one hft ht hA he RO).1), f01.trans f3⟩
      simp -implicitDefEqProofs (disch := first | omega | (simp only [push_size, hset_size]; done) | (simp only [push_size, hset_size]; omega)) [go_sem, r0, r1, r2, r6, r9, r10, eT, hw]
      have hsl2 : s.length ≤ 255 ∧ L.length ≤ 15 := by
        unfold wrongI at hw
        split at hw
        · cases hw
        · split at hw
          · cases hw
          · rename_i h2; omega
      refine buildB rfl rfl fun X2 h4 S4 own4 f4 => ?_
      simp -implicitDefEqProofs (disch := first | omega | (simp only [push_size, hset_size]; done) | (simp only [push_size, hset_size]; omega)) [go_sem, r0, r1, r2, r6, r9, r10, eT]
      refine appendB (vs := strs L) (ws := [S s]) (SX.fr (f3.trans f4) fun _ _ h => h) (by rw [strs_len]) S4.row rfl (by simp [Value.oneCell', S]) (by omega) (by omega) ?_
      intro X5 x5 h5 S5 f5 own5
      have hL' : (L ++ [s]).length = L.length + 1 := by rw [List.length_append]; rfl
      have S5' : SlAt h5 X5 x5 (strs (L ++ [s])) := by unfold strs at S5 ⊢; rw [List.map_append]; exact S5
      have f15 : Gb h.size _ h5 := (f3.trans f4).gb.trans (f5.mono fun y _ hy => own y hy)
      have fb5 := f1.trans f15
      have fin : (∀ ids rest, RowOf pre (l.drop at') ids rest → L ++ [s] = ids ∧ t = (glue 46 ids).length) → IdRowR h.size pre (l.drop at') h5 (.tuple #[.slice X5 (L.length + 1) x5, .int .i64 t, .int .i64 0]) := fun hh =>
        ⟨L ++ [s], X5, x5, t, 0, by rw [hL']; rfl, S5'.row, by have := S5'.len; rw [strs_len] at this; exact this, (fun y hy => (own5 y hy).elim (own y) fun g => by have := (f3.trans f4).size; omega), ht, by omega, fun z hz => (List.mem_append.1 hz).elim (hLb z) fun hz => by rw [List.mem_singleton] at hz; subst hz; exact hsl2.1, fun ids rest RO => ⟨(hh ids rest RO).1, (hh ids rest RO).2, rfl⟩⟩
      have last : (l.drop at')[t]? ≠ some 46 → ∀ ids rest, RowOf pre (l.drop at') ids rest → L ++ [s] = ids ∧ t = (glue 46 ids).length := fun hne ids rest RO => by
        obtain ⟨_, r, g1, g2, _, g4⟩ := C.one hft ht hA he RO
        have hr : r = [] := Classical.byContradiction fun hr => hne (g2.2 hr)
        subst hr
        refine ⟨by rw [g1, hs], ?_⟩
        have e1 := g4 rfl
        have e2 := RO.2.2.1
        have e3 := congrArg List.length e2
        have e4 := congrArg List.length e1
        rw [List.length_append] at e3
        rw [List.length_drop] at e4
        omega
      have eS : (at' : Int) + (t : Int) - (at' : Int) = (t : Int) := by omega
      simp -implicitDefEqProofs (disch := first | omega | (simp only [push_size, hset_size]; done) | (simp only [push_size, hset_size]; omega)) [go_sem, r0, r1, r2, r6, r9, r10, eT, eS]
      exact ⟨fin (last (by rw [List.getElem?_drop, List.getElem?_eq_none (by omega)]; intro e; cases e)), Fr.of_new fb5 (Nat.le_refl _)⟩
end
end Xe

/- Reading versions: their tails. -/
namespace Xe
open Go Go.Proofs
set_option maxRecDepth 16000
set_option maxHeartbeats 2000000
section
variable {h : Heap} {A : Option Addr} {n cp at' : Nat} {l : List UInt8}
/-- what semver.row hands back -/
def TailR (N : Nat) (pre : Bool) (c : UInt8) (at' : Nat) (d : List UInt8) (h' : Heap) (r : Value) : Prop := ∃ (L : List (List UInt8)) (X : Option Addr) (x n e : Nat), r = .tuple #[.slice X L.length x, .int .i64 ((at' + n : Nat)), .int .i64 e] ∧ RowAt h' X (strs L) ∧ L.length ≤ x ∧ (∀ y, blk X y → N ≤ y) ∧
  n ≤ d.length ∧ L.length ≤ 16 ∧ (∀ a ∈ L, a.length ≤ 255) ∧ ∀ ids rest, idsFrom pre 0 ids = true → d = tailT c ids ++ rest → NoId rest → rest[0]? ≠ some c → L = ids ∧ n = (tailT c ids).length ∧ e = 0
theorem row_ok (R : RowAt h A (l.map byteV)) (hn : n = l.length) (hcp : n ≤ cp) (hat : at' ≤ l.length) (hl : l.length < 2 ^ 40) (c : UInt8) (hc : c = 45 ∨ c = 43) :
    CallsH Tryz.prog 218 [.slice A n cp, .int .i64 at', .int .u8 c.toNat] h fun r h' => TailR h.size (decide (c = 45)) c at' (l.drop at') h' r ∧ Gr h h' := by
  subst hn
  have none' : (l.drop at')[0]? ≠ some c → TailR h.size (decide (c = 45)) c at' (l.drop at') h (.tuple #[.slice none 0 0, .int .i64 at', .int .i64 0]) := fun hne =>
    ⟨[], none, 0, 0, 0, rfl, .nil, Nat.le_refl _, (fun y ⟨a, ha, _⟩ => nomatch ha), Nat.zero_le _, by simp, by simp, fun ids rest hi hd hr hc0 => by
      by_cases e : ids = []
      · subst e; exact ⟨rfl, rfl, rfl⟩
      · exfalso
        have : tailT c ids = c :: glue 46 ids := if_neg e
        rw [hd, this] at hne
        exact hne rfl⟩
  refine calls_of 39 [.tmp 6, .tmp 7, .tmp 8] Go.Proofs.Tryz.func218 rfl rfl rfl ?_
  by_cases hatl : at' < l.length
  · obtain ⟨b, hb⟩ : ∃ c, l[at']? = some c := ⟨_, List.getElem?_eq_getElem hatl⟩
    have hb' : (l.drop at')[0]? = some b := by rw [List.getElem?_drop]; exact hb
    obtain ⟨bk, off, hA1, hcell⟩ := R.get (by simp; omega)
    have c0 := hcell _ _ (bytes_at hb)
    subst hA1
    by_cases e : b = c
    · subst e
      have hd1 : l.drop at' = b :: l.drop (at' + 1) := by rw [List.drop_eq_getElem_cons hatl]; rw [List.getElem?_eq_getElem hatl, Option.some.injEq] at hb; rw [hb]
      have hdec : decide ((b.toNat : Int) = 45) = decide (b = 45) := by rcases hc with rfl | rfl <;> decide
      simp -implicitDefEqProofs (disch := first | omega | (simp only [push_size, hset_size]; done) | (simp only [push_size, hset_size]; omega)) [go_sem, c0]
      rw [hdec, show (at' : Int) + 1 = ((at' + 1 : Nat) : Int) by omega]
      refine useC (idRow_ok R rfl hcp (by omega) hl (decide (b = 45))) ?_
      rintro _ h2 ⟨⟨L, X, x, n, e, rfl, RL, hx, own, hn, hL, hLb, hcmp⟩, f2⟩
      rw [List.length_drop] at hn
      simp -implicitDefEqProofs (disch := first | omega | (simp only [push_size, hset_size]; done) | (simp only [push_size, hset_size]; omega)) [go_sem]
      refine ⟨⟨L, X, x, n + 1, e, ?_, RL, hx, own, by rw [List.length_drop]; omega, hL, hLb, fun ids rest hi hd hr hc0 => ?_⟩, f2⟩
      · rw [show ((at' : Int) + 1 + (n : Int)) = ((at' + (n + 1) : Nat) : Int) by omega]
      · by_cases e0 : ids = []
        · exfalso
          subst e0
          rw [hd] at hb'
          exact hc0 hb'
        · have ht : tailT b ids = b :: glue 46 ids := if_neg e0
          rw [hd1, ht] at hd
          simp only [List.cons_append, List.cons.injEq, true_and] at hd
          obtain ⟨g1, g2, g3⟩ := hcmp ids rest ⟨e0, hi, hd, hr⟩
          exact ⟨g1, by rw [ht, List.length_cons, g2], g3⟩
    · have e2 : ¬ ((b.toNat : Int) = (c.toNat : Int)) := fun h => e (UInt8.toNat_inj.1 (by omega))
      simp -implicitDefEqProofs (disch := first | omega | (simp only [push_size, hset_size]; done) | (simp only [push_size, hset_size]; omega)) [go_sem, c0, e2]
      exact ⟨none' (by rw [hb']; simpa using e), Fr.refl _ _⟩
  · have : (l.drop at')[0]? ≠ some c := by rw [List.getElem?_drop, List.getElem?_eq_none (by omega)]; simp
    simp -implicitDefEqProofs (disch := first | omega | (simp only [push_size, hset_size]; done) | (simp only [push_size, hset_size]; omega)) [go_sem]
    exact ⟨none' this, Fr.refl _ _⟩
end
end Xe

/- Reading versions. -/
namespace Xe
open Go Go.Proofs
set_option maxRecDepth 16000
set_option maxHeartbeats 4000000

def verTails (w : Ver) : List UInt8 := tailT 45 w.pre ++ tailT 43 w.build
def verFrom (w : Ver) : Nat → List UInt8
  | 0 => Lib.decDigits w.maj ++ 46 :: (Lib.decDigits w.min ++ 46 :: (Lib.decDigits w.pat ++ verTails w))
  | 1 => Lib.decDigits w.min ++ 46 :: (Lib.decDigits w.pat ++ verTails w)
  | _ => Lib.decDigits w.pat ++ verTails w
theorem verFrom_zero (w : Ver) : verFrom w 0 = verText w := rfl
theorem dig_46 : dig 46 = false := by decide
theorem noDig_dot {l : List UInt8} : NoDig (46 :: l) := fun c hc => by
  simp only [List.getElem?_cons_zero, Option.some.injEq] at hc
  subst hc; exact dig_46
theorem tail_head {c : UInt8} {l : List (List UInt8)} {rest : List UInt8} : ∀ b, (tailT c l ++ rest)[0]? = some b → b = c ∨ rest[0]? = some b := fun b hb => by
  unfold tailT at hb
  split at hb
  · exact .inr hb
  · simp only [List.cons_append, List.getElem?_cons_zero, Option.some.injEq] at hb
    exact .inl hb.symm
theorem tails_head {w : Ver} : ∀ b, (verTails w)[0]? = some b → b = 45 ∨ b = 43 := fun b hb => by
  rcases tail_head b hb with h | h
  · exact .inl h
  · have h2 : (tailT 43 w.build ++ [])[0]? = some b := by rw [List.append_nil]; exact h
    rcases tail_head b h2 with h | h
    · exact .inr h
    · simp at h
theorem noDig_tails {w : Ver} : NoDig (verTails w) := fun c hc => by
  rcases tails_head c hc with rfl | rfl <;> decide
/-- so far it is read as it is written -/
def VerTo (l : List UInt8) (i a m0 m1 : Nat) : Prop := ∀ w, verOk w = true → l = verText w → l.drop a = verFrom w i ∧ (0 < i → m0 = w.maj) ∧ (1 < i → m1 = w.min)
theorem VerTo.zero {l : List UInt8} {m0 m1 : Nat} : VerTo l 0 0 m0 m1 := fun w _ h => ⟨by rw [List.drop_zero, verFrom_zero]; exact h, fun h => by omega, fun h => by omega⟩
theorem ver_small {w : Ver} (h : verOk w = true) : w.maj < 9223372036854775808 ∧ w.min < 9223372036854775808 ∧ w.pat < 9223372036854775808 ∧ idsFrom true 0 w.pre = true ∧ idsFrom false 0 w.build = true := by
  unfold verOk at h
  simp only [Bool.and_eq_true, decide_eq_true_eq] at h
  exact ⟨h.1.1.1.1, h.1.1.1.2, h.1.1.2, h.1.2, h.2⟩
def numOf (w : Ver) : Nat → Nat
  | 0 => w.maj
  | 1 => w.min
  | _ => w.pat
def restOf (w : Ver) : Nat → List UInt8
  | 0 => 46 :: verFrom w 1
  | 1 => 46 :: verFrom w 2
  | _ => verTails w
theorem verFrom_eq (w : Ver) : ∀ i, verFrom w i = Lib.decDigits (numOf w i) ++ restOf w i
  | 0 => rfl
  | 1 => rfl
  | _ + 2 => rfl
theorem noDig_rest (w : Ver) : ∀ i, NoDig (restOf w i)
  | 0 => noDig_dot
  | 1 => noDig_dot
  | _ + 2 => noDig_tails
theorem numOf_small {w : Ver} (h : verOk w = true) : ∀ i, numOf w i < 9223372036854775808
  | 0 => (ver_small h).1
  | 1 => (ver_small h).2.1
  | _ + 2 => (ver_small h).2.2.1
/-- a number is read -/
theorem VerTo.num {l : List UInt8} {i a m0 m1 x n e : Nat} (V : VerTo l i a m0 m1)
    (H : ∀ v rest, v < 9223372036854775808 → l.drop a = Lib.decDigits v ++ rest → NoDig rest → x = v ∧ n = (Lib.decDigits v).length ∧ e = 0) {w : Ver} (hw : verOk w = true) (hl : l = verText w) :
    x = numOf w i ∧ e = 0 ∧ l.drop (a + n) = restOf w i := by
  obtain ⟨h1, _⟩ := V w hw hl
  rw [verFrom_eq] at h1
  obtain ⟨g1, g2, g3⟩ := H _ _ (numOf_small hw i) h1 (noDig_rest w i)
  refine ⟨g1, g3, ?_⟩
  have := congrArg (List.drop n) h1
  rw [List.drop_drop] at this
  rw [this, g2, List.drop_left']; rfl
theorem VerTo.next {l : List UInt8} {i a m0 m1 x n e : Nat} (V : VerTo l i a m0 m1) (hi : i < 2)
    (H : ∀ v rest, v < 9223372036854775808 → l.drop a = Lib.decDigits v ++ rest → NoDig rest → x = v ∧ n = (Lib.decDigits v).length ∧ e = 0) :
    VerTo l (i + 1) (a + n + 1) (if i = 0 then x else m0) (if i = 1 then x else m1) := fun w hw hl => by
  obtain ⟨g1, g2, g3⟩ := V.num H hw hl
  obtain ⟨_, k1, k2⟩ := V w hw hl
  have h3 := congrArg (List.drop 1) g3
  rw [List.drop_drop] at h3
  rcases (show i = 0 ∨ i = 1 by omega) with rfl | rfl
  · exact ⟨h3, fun _ => g1, fun h => by omega⟩
  · exact ⟨h3, fun _ => k1 (by omega), fun _ => g1⟩
/-- what semver.Parse hands back, from the beginning -/
def ParseR (N : Nat) (l : List UInt8) (h' : Heap) (r : Value) : Prop := ∃ (v : Ver) (A : Option Addr) (a : Nat) (B : Option Addr) (b n e : Nat), r = .tuple #[verV v A a B b, .int .i64 n, .int .i64 e] ∧ VerR h' v A a B b ∧ (∀ y, blk A y → N ≤ y) ∧ (∀ y, blk B y → N ≤ y) ∧ n ≤ l.length ∧
  v.pre.length ≤ 16 ∧ v.build.length ≤ 16 ∧ (∀ x ∈ v.pre, x.length ≤ 255) ∧ (∀ x ∈ v.build, x.length ≤ 255) ∧ ∀ w, verOk w = true → l = verText w → v = w ∧ n = l.length ∧ e = 0
def zeroV : Ver := ⟨0, 0, 0, [], []⟩
theorem VerR.zero {h : Heap} : VerR h zeroV none 0 none 0 := ⟨.nil, .nil, Nat.le_refl _, Nat.le_refl _, by show 0 < _; omega, by show 0 < _; omega, by show 0 < _; omega, by show 0 < _; omega, by show 0 < _; omega⟩
theorem ParseR.bad {N : Nat} {l : List UInt8} {h' : Heap} {n e : Nat} (hn : n ≤ l.length) (hno : ∀ w, verOk w = true → l ≠ verText w) : ParseR N l h' (.tuple #[verV zeroV none 0 none 0, .int .i64 n, .int .i64 e]) :=
  ⟨zeroV, none, 0, none, 0, n, e, rfl, .zero, (fun y ⟨a, ha, _⟩ => nomatch ha), (fun y ⟨a, ha, _⟩ => nomatch ha), hn, by simp [zeroV], by simp [zeroV], by simp [zeroV], by simp [zeroV], fun w hw hl => absurd hl (hno w hw)⟩
end Xe

/- Reading versions: semver.Parse. -/
namespace Xe
open Go Go.Proofs
set_option maxRecDepth 16000
set_option maxHeartbeats 4000000
section
variable {h : Heap} {A : Option Addr} {n cp : Nat} {l : List UInt8}
structure PsH (h h' : Heap) (m0 m1 m2 : Nat) : Prop where
  gr : Gr h h'
  v0 : hcell h' ⟨h.size, 0, none⟩ = some (.int .u64 0)
  v1 : hcell h' ⟨h.size, 1, none⟩ = some (.int .u64 0)
  v2 : hcell h' ⟨h.size, 2, none⟩ = some (.int .u64 0)
  v3 : hcell h' ⟨h.size, 3, none⟩ = some (.slice none 0 0)
  v4 : hcell h' ⟨h.size, 4, none⟩ = some (.slice none 0 0)
  z : ∀ o, hfrz h' ⟨h.size, o, none⟩ = false
  n0 : hcell h' ⟨h.size + 1, 0, none⟩ = some (.int .u64 m0)
  n1 : hcell h' ⟨h.size + 1, 1, none⟩ = some (.int .u64 m1)
  n2 : hcell h' ⟨h.size + 1, 2, none⟩ = some (.int .u64 m2)
  y : ∀ o, hfrz h' ⟨h.size + 1, o, none⟩ = false
  b0 : m0 < 18446744073709551616
  b1 : m1 < 18446744073709551616
  b2 : m2 < 18446744073709551616
theorem PsH.fr {h h' h2 : Heap} {m0 m1 m2 : Nat} (P : PsH h h' m0 m1 m2) (f : Gr h' h2) : PsH h h2 m0 m1 m2 := by
  have g : ∀ {b i v}, hcell h' ⟨b, i, none⟩ = some v → hcell h2 ⟨b, i, none⟩ = some v := fun hv => (f.cell (hcell_lt hv) id).trans hv
  exact ⟨P.gr.trans f, g P.v0, g P.v1, g P.v2, g P.v3, g P.v4, fun o => (f.frz (hcell_lt P.v0) id).trans (P.z o), g P.n0, g P.n1, g P.n2, fun o => (f.frz (hcell_lt P.n0) id).trans (P.y o), P.b0, P.b1, P.b2⟩
theorem PsH.set {h h' : Heap} {m0 m1 m2 x i : Nat} (P : PsH h h' m0 m1 m2) (hi : i < 3) (hx : x < 18446744073709551616) : PsH h (hset h' ⟨h.size + 1, i, none⟩ (.int .u64 x)) (if i = 0 then x else m0) (if i = 1 then x else m1) (if i = 2 then x else m2) := by
  have o : ∀ {k v}, hcell h' ⟨h.size, k, none⟩ = some v → hcell (hset h' ⟨h.size + 1, i, none⟩ (.int .u64 x)) ⟨h.size, k, none⟩ = some v := fun hv => by rw [hcell_hset, if_neg (by omega)]; exact hv
  refine ⟨P.gr.newA (by omega), o P.v0, o P.v1, o P.v2, o P.v3, o P.v4, fun k => by rw [hfrz_hset]; exact P.z k, ?_, ?_, ?_, fun k => by rw [hfrz_hset]; exact P.y k, ?_, ?_, ?_⟩
  all_goals rcases (show i = 0 ∨ i = 1 ∨ i = 2 by omega) with rfl | rfl | rfl <;> simp [hcell_hset, P.n0, P.n1, P.n2, P.b0, P.b1, P.b2, hx]
theorem PsH.new {t1 t2 : Nat} : PsH h ((h.push (.cells #[.int .u64 0, .int .u64 0, .int .u64 0, .slice none 0 0, .slice none 0 0] t1)).push (.cells #[.int .u64 0, .int .u64 0, .int .u64 0] t2)) 0 0 0 := by
  refine ⟨(Fr.refl _ _).push.push, ?_, ?_, ?_, ?_, ?_, ?_, ?_, ?_, ?_, ?_, by omega, by omega, by omega⟩ <;> simp -implicitDefEqProofs (disch := first | omega | (simp only [push_size, hset_size]; done) | (simp only [push_size, hset_size]; omega)) [go_sem]
theorem RowAt.keepS {h h' : Heap} {A : Option Addr} {L : List (List UInt8)} (R : RowAt h A (strs L)) (hk : ∀ bk o s, hcell h ⟨bk, o, none⟩ = some (S s) → hcell h' ⟨bk, o, none⟩ = some (S s)) : RowAt h' A (strs L) := by
  rcases R with e | ⟨bk, off, e, hc⟩
  · exact .inl e
  · refine .inr ⟨bk, off, e, fun i v hv => ?_⟩
    have hv' := hv
    unfold strs at hv'
    rw [List.getElem?_map, Option.map_eq_some_iff] at hv'
    obtain ⟨s, _, rfl⟩ := hv'
    exact hk _ _ _ (hc i _ hv)
def PsJ (l : List UInt8) (h h' : Heap) (w1 w8 : Value) : Prop := ∃ i a m0 m1 m2 : Nat, w1 = .int .i64 a ∧ w8 = .int .i64 i ∧ i ≤ 2 ∧ a ≤ l.length ∧ PsH h h' m0 m1 m2 ∧ VerTo l i a m0 m1
theorem parse_ok (R : RowAt h A (l.map byteV)) (hn : n = l.length) (hcp : n ≤ cp) (hl : l.length < 2 ^ 30) :
    CallsH Tryz.prog 178 [.slice A n cp, .int .i64 0] h fun r h' => ParseR h.size l h' r ∧ Gr h h' := by
  subst hn
  refine calls_of 112 [.cell 4 98, .tmp 5, .tmp 6] Go.Proofs.Tryz.func178 rfl rfl rfl ?_
  simp -implicitDefEqProofs (disch := first | omega | (simp only [push_size, hset_size]; done) | (simp only [push_size, hset_size]; omega)) [go_sem]
  refine scopeM 0 (fun ρ h' => ρ 0 = .slice A l.length cp ∧ ρ 4 = .pointer (some ⟨h.size, 0, none⟩) ∧ ρ 7 = .pointer (some ⟨h.size + 1, 0, none⟩) ∧ PsJ l h h' (ρ 1) (ρ 8))
    (fun ρ _ => 2 - (intOf (ρ 8)).toNat) rfl rfl (by kernel_rfl) ?_ ?_
  · simp -implicitDefEqProofs (disch := first | omega | (simp only [push_size, hset_size]; done) | (simp only [push_size, hset_size]; omega)) [go_sem]
    exact ⟨0, 0, 0, 0, 0, rfl, rfl, by omega, by omega, PsH.new, .zero⟩
  rintro ρ h1 ⟨r0, r4, r7, i, a, m0, m1, m2, r1, r8, hi, ha, P, V⟩
  have z1 : (h.size = h.size + 1) = False := by rw [eq_iff_iff, iff_false]; omega
  simp -implicitDefEqProofs (disch := first | omega | (simp only [push_size, hset_size]; done) | (simp only [push_size, hset_size]; omega)) [go_sem, r0, r1, r4, r7, r8]
  refine useC (numParse_ok (R.fr0 P.gr) rfl ha (by omega)) ?_
  rintro _ h2 ⟨⟨x, k, e, rfl, hx, hk, H⟩, hh⟩
  subst hh
  rw [List.length_drop] at hk
  obtain ⟨gr, v0, v1, v2, v3, v4, z, n0, n1, n2, y, b0, b1, b2⟩ := id P
  have fin : ∀ {h' : Heap} {r : Value}, ParseR h.size l h' r → Gr h h' → ParseR h.size l h' r ∧ Gr h h' := fun a b => ⟨a, b⟩
  by_cases he : e = 0
  case neg =>
    have he' : ((e : Nat) : Int) ≠ 0 := by omega
    simp -implicitDefEqProofs (disch := first | omega | (simp only [push_size, hset_size]; done) | (simp only [push_size, hset_size]; omega)) [go_sem, r0, r1, r4, r7, r8, he', v0, v1, v2, v3, v4, z]
    refine fin (.bad ha fun w hw hl' => he (V.num H hw hl').2.1) ?_
    iterate 5 refine Fr.newA ?_ (by omega)
    exact gr
  subst he
  by_cases hi2 : i < 2
  · by_cases hend : a + k = l.length
    · have hend' : ((a : Int) + (k : Int)) = (l.length : Int) := by omega
      simp -implicitDefEqProofs (disch := first | omega | (simp only [push_size, hset_size]; done) | (simp only [push_size, hset_size]; omega)) [go_sem, r0, r1, r4, r7, r8, hend', v0, v1, v2, v3, v4, z]
      refine fin (.bad (Nat.le_refl _) fun w hw hl' => ?_) ?_
      · have h3 := (V.num H hw hl').2.2
        rw [hend, List.drop_length] at h3
        rcases (show i = 0 ∨ i = 1 by omega) with rfl | rfl <;> cases h3
      · iterate 5 refine Fr.newA ?_ (by omega)
        exact gr
    · have hend' : ¬ ((a : Int) + (k : Int)) = (l.length : Int) := by omega
      obtain ⟨c, hc⟩ : ∃ c, l[a + k]? = some c := ⟨_, List.getElem?_eq_getElem (by omega)⟩
      have hc' : (l.drop (a + k))[0]? = some c := by rw [List.getElem?_drop]; exact hc
      obtain ⟨bk, off, hA1, hcell⟩ := (R.fr0 gr).get (by simp; omega)
      cases hA1
      have c0 := hcell _ _ (bytes_at hc)
      have eT : ((a : Int) + (k : Int)).toNat = a + k := by omega
      by_cases e46 : (c.toNat : Int) = 46
      case neg =>
        simp -implicitDefEqProofs (disch := first | omega | (simp only [push_size, hset_size]; done) | (simp only [push_size, hset_size]; omega)) [go_sem, r0, r1, r4, r7, r8, hend', c0, eT, e46, v0, v1, v2, v3, v4, z]
        refine fin ?_ ?_
        · rw [show ((a : Int) + (k : Int)) = ((a + k : Nat) : Int) by omega]
          refine .bad (by omega) fun w hw hl' => ?_
          have h3 := (V.num H hw hl').2.2
          rw [h3] at hc'
          have : c = 46 := by rcases (show i = 0 ∨ i = 1 by omega) with rfl | rfl <;> (injection hc' with hc'; exact hc'.symm)
          exact e46 (by rw [this]; rfl)
        · iterate 5 refine Fr.newA ?_ (by omega)
          exact gr
      have PS := P.set (x := x) (i := i) (by omega) hx
      have VN := V.next hi2 H
      rcases (show i = 0 ∨ i = 1 by omega) with rfl | rfl
      · simp -implicitDefEqProofs (disch := first | omega | (simp only [push_size, hset_size]; done) | (simp only [push_size, hset_size]; omega)) [go_sem, r0, r1, r4, r7, r8, hend', c0, eT, e46, n0, n1, n2, y]
        exact ⟨1, a + k + 1, _, _, _, by rw [show ((a : Int) + (k : Int) + 1) = ((a + k + 1 : Nat) : Int) by omega], rfl, by omega, by omega, PS, VN⟩
      · simp -implicitDefEqProofs (disch := first | omega | (simp only [push_size, hset_size]; done) | (simp only [push_size, hset_size]; omega)) [go_sem, r0, r1, r4, r7, r8, hend', c0, eT, e46, n0, n1, n2, y]
        exact ⟨2, a + k + 1, _, _, _, by rw [show ((a : Int) + (k : Int) + 1) = ((a + k + 1 : Nat) : Int) by omega], rfl, by omega, by omega, PS, VN⟩
  · obtain rfl : i = 2 := by omega
    have PS := P.set (x := x) (i := 2) (by omega) hx
    have PS : PsH h _ m0 m1 x := PS
    simp -implicitDefEqProofs (disch := first | omega | (simp only [push_size, hset_size]; done) | (simp only [push_size, hset_size]; omega)) [go_sem, r0, r1, r4, r7, r8, n0, n1, n2, y]
    obtain ⟨H3, hH3⟩ : ∃ H3, H3 = hset h2 ⟨h.size + 1, 2, none⟩ (.int .u64 x) := ⟨_, rfl⟩
    rw [← hH3] at PS ⊢
    clear hH3
    rw [show ((a : Int) + (k : Int)) = ((a + k : Nat) : Int) by omega]
    have C1 := row_ok (at' := a + k) (R.fr0 PS.gr) rfl hcp (by omega) (by omega) 45 (.inl rfl)
    rw [show (((45 : UInt8).toNat : Nat) : Int) = 45 from rfl] at C1
    refine useC C1 ?_
    rintro _ h4 ⟨⟨L, X, xx, n1', e1, rfl, RL, hxL, ownL, hn1, hL, hLb, H1⟩, f4⟩
    rw [List.length_drop] at hn1
    have P4 := PS.fr f4
    have full : ∀ w, verOk w = true → l = verText w → x = w.pat ∧ m0 = w.maj ∧ m1 = w.min ∧ L = w.pre ∧ n1' = (tailT 45 w.pre).length ∧ e1 = 0 ∧ l.drop (a + k + n1') = tailT 43 w.build ++ [] := fun w hw hl' => by
      obtain ⟨g1, g2, g3⟩ := V.num H hw hl'
      obtain ⟨_, q1, q2⟩ := V w hw hl'
      have g3 : l.drop (a + k) = tailT 45 w.pre ++ tailT 43 w.build := g3
      have hd : ∀ b, (tailT 43 w.build)[0]? = some b → b = 43 := fun b hb => by
        rcases tail_head (rest := []) b (by rw [List.append_nil]; exact hb) with h | h
        · exact h
        · simp at h
      obtain ⟨j1, j2, j3⟩ := H1 w.pre (tailT 43 w.build) (ver_small hw).2.2.2.1 g3 (fun c hc => by rw [hd c hc]; decide) (fun hc => by have := hd 45 hc; revert this; decide)
      refine ⟨g1, q1 (by omega), q2 (by omega), j1, j2, j3, ?_⟩
      have := congrArg (List.drop n1') g3
      rw [List.drop_drop] at this
      rw [this, j2, List.drop_left', List.append_nil]; rfl
    obtain ⟨gr, v0, v1, v2, v3, v4, z, n0, n1, n2, y, b0, b1, b2⟩ := id P4
    by_cases he1 : e1 = 0
    case neg =>
      have he' : ((e1 : Nat) : Int) ≠ 0 := by omega
      simp -implicitDefEqProofs (disch := first | omega | (simp only [push_size, hset_size]; done) | (simp only [push_size, hset_size]; omega)) [go_sem, r0, r1, r4, r7, r8, he', v0, v1, v2, v3, v4, z]
      refine fin ?_ ?_
      · rw [show ((a : Int) + (k : Int) + (n1' : Int)) = ((a + k + n1' : Nat) : Int) by omega]
        exact .bad (by omega) fun w hw hl' => he1 (full w hw hl').2.2.2.2.2.1
      · iterate 5 refine Fr.newA ?_ (by omega)
        exact gr
    subst he1
    simp -implicitDefEqProofs (disch := first | omega | (simp only [push_size, hset_size]; done) | (simp only [push_size, hset_size]; omega)) [go_sem, r0, r1, r4, r7, r8]
    rw [show ((a : Int) + (k : Int) + (n1' : Int)) = ((a + k + n1' : Nat) : Int) by omega]
    have C2 := row_ok (at' := a + k + n1') (R.fr0 P4.gr) rfl hcp (by omega) (by omega) 43 (.inr rfl)
    rw [show (((43 : UInt8).toNat : Nat) : Int) = 43 from rfl] at C2
    refine useC C2 ?_
    rintro _ h5 ⟨⟨L2, X2, xx2, n2', e2, rfl, RL2, hxL2, ownL2, hn2, hL2, hLb2, H2⟩, f5⟩
    rw [List.length_drop] at hn2
    have P5 := P4.fr f5
    have full2 : ∀ w, verOk w = true → l = verText w → L2 = w.build ∧ a + k + n1' + n2' = l.length ∧ e2 = 0 := fun w hw hl' => by
      obtain ⟨_, _, _, _, _, _, g⟩ := full w hw hl'
      obtain ⟨j1, j2, j3⟩ := H2 w.build [] (ver_small hw).2.2.2.2 g (fun c hc => by simp at hc) (by simp)
      refine ⟨j1, ?_, j3⟩
      have := congrArg List.length g
      rw [List.length_drop, List.append_nil] at this
      omega
    obtain ⟨gr, v0, v1, v2, v3, v4, z, n0, n1, n2, y, b0, b1, b2⟩ := id P5
    by_cases he2 : e2 = 0
    case neg =>
      have he' : ((e2 : Nat) : Int) ≠ 0 := by omega
      simp -implicitDefEqProofs (disch := first | omega | (simp only [push_size, hset_size]; done) | (simp only [push_size, hset_size]; omega)) [go_sem, r0, r1, r4, r7, r8, he', v0, v1, v2, v3, v4, z]
      refine fin ?_ ?_
      · rw [show ((a : Int) + (k : Int) + (n1' : Int) + (n2' : Int)) = ((a + k + n1' + n2' : Nat) : Int) by omega]
        exact .bad (by omega) fun w hw hl' => he2 (full2 w hw hl').2.2
      · iterate 5 refine Fr.newA ?_ (by omega)
        exact gr
    subst he2
    simp -implicitDefEqProofs (disch := first | omega | (simp only [push_size, hset_size]; done) | (simp only [push_size, hset_size]; omega)) [go_sem, r0, r1, r4, r7, r8, n0, n1, n2, v0, v1, v2, v3, v4, z]
    obtain ⟨Hf, hHf⟩ : ∃ Hf, Hf = hset (hset (hset (hset (hset h5 ⟨h.size, 0, none⟩ (.int .u64 m0)) ⟨h.size, 1, none⟩ (.int .u64 m1)) ⟨h.size, 2, none⟩ (.int .u64 x)) ⟨h.size, 3, none⟩ (.slice X L.length xx)) ⟨h.size, 4, none⟩ (.slice X2 L2.length xx2) := ⟨_, rfl⟩
    rw [← hHf]
    have keep : ∀ bk o s, Xe.hcell h5 ⟨bk, o, none⟩ = some (S s) → Xe.hcell Hf ⟨bk, o, none⟩ = some (S s) := fun bk o s hv => by
      have e0 : ¬ (bk = h.size ∧ o = 0) := by rintro ⟨rfl, rfl⟩; rw [v0] at hv; cases hv
      have e1 : ¬ (bk = h.size ∧ o = 1) := by rintro ⟨rfl, rfl⟩; rw [v1] at hv; cases hv
      have e2 : ¬ (bk = h.size ∧ o = 2) := by rintro ⟨rfl, rfl⟩; rw [v2] at hv; cases hv
      have e3 : ¬ (bk = h.size ∧ o = 3) := by rintro ⟨rfl, rfl⟩; rw [v3] at hv; cases hv
      have e4 : ¬ (bk = h.size ∧ o = 4) := by rintro ⟨rfl, rfl⟩; rw [v4] at hv; cases hv
      rw [hHf, hcell_hset, if_neg e4, hcell_hset, if_neg e3, hcell_hset, if_neg e2, hcell_hset, if_neg e1, hcell_hset, if_neg e0]
      exact hv
    refine fin ⟨⟨m0, m1, x, L, L2⟩, X, xx, X2, xx2, a + k + n1' + n2', 0, ?_, ?_, (fun y hy => by have := ownL y hy; have := PS.gr.size; omega), (fun y hy => by have := ownL2 y hy; have := P4.gr.size; omega), by omega, hL, hL2, hLb, hLb2, fun w hw hl' => ?_⟩ ?_
    · rw [show ((a : Int) + (k : Int) + (n1' : Int) + (n2' : Int)) = ((a + k + n1' + n2' : Nat) : Int) by omega]; rfl
    · exact ⟨(RL.fr0 f5).keepS keep, RL2.keepS keep, hxL, hxL2, by show L.length < _; omega, by show L2.length < _; omega, b0, b1, b2⟩
    · obtain ⟨t1, t2, t3, t4, _⟩ := full w hw hl'
      obtain ⟨t5, t6, _⟩ := full2 w hw hl'
      refine ⟨?_, t6, rfl⟩
      cases w
      simp only at t1 t2 t3 t4 t5
      subst t1 t2 t3 t4 t5; rfl
    · rw [hHf]
      iterate 5 refine Fr.newA ?_ (by omega)
      exact gr
end
end Xe

/- Reading versions: semver.Read. -/
namespace Xe
open Go Go.Proofs
set_option maxRecDepth 16000
set_option maxHeartbeats 4000000
section
variable {h : Heap}
/-- what semver.Read hands back -/
def ReadV (N : Nat) (s : List UInt8) (h' : Heap) (r : Value) : Prop := ∃ (v : Ver) (A : Option Addr) (a : Nat) (B : Option Addr) (b n e : Nat), r = .tuple #[verV v A a B b, .int .i64 n, .int .i64 e] ∧ VerR h' v A a B b ∧ (∀ y, blk A y → N ≤ y) ∧ (∀ y, blk B y → N ≤ y) ∧ n ≤ s.length ∧
  v.pre.length ≤ 16 ∧ v.build.length ≤ 16 ∧ (∀ x ∈ v.pre, x.length ≤ 255) ∧ (∀ x ∈ v.build, x.length ≤ 255) ∧ ∀ w, verOk w = true → s = verText w → v = w ∧ e = 0
theorem readV_ok (s : List UInt8) (hl : s.length < 2 ^ 30) : CallsH Tryz.prog 143 [S s] h fun r h' => ReadV h.size s h' r ∧ Gr h h' := by
  refine calls_of 27 [.cell 2 98, .tmp 3, .tmp 4] Go.Proofs.Tryz.func143 rfl rfl rfl ?_
  simp -implicitDefEqProofs (disch := first | omega | (simp only [push_size, hset_size]; done) | (simp only [push_size, hset_size]; omega)) [go_sem]
  intro rest
  simp -implicitDefEqProofs (disch := first | omega | (simp only [push_size, hset_size]; done) | (simp only [push_size, hset_size]; omega)) [go_sem]
  obtain ⟨H1, hH1⟩ : ∃ H1, H1 = h.push (.cells #[.int .u64 0, .int .u64 0, .int .u64 0, .slice none 0 0, .slice none 0 0] 98) := ⟨_, rfl⟩
  obtain ⟨H, hH⟩ : ∃ H, H = H1.push (.cells (s.map byteV ++ rest).toArray 5 (s.length + rest.length, s.length + rest.length + 1)) := ⟨_, rfl⟩
  have hs1 : H1.size = h.size + 1 := by rw [hH1, push_size]
  have RH : RowAt H (some ⟨h.size + 1, 0, none⟩) (s.map byteV) := by rw [hH, ← hs1]; exact push_row
  have f0 : Gr h H := by rw [hH, hH1]; exact (Fr.refl _ _).push.push
  have q : Gr H1 H := by rw [hH]; exact (Fr.refl _ _).push
  have w0 : Xe.hcell H ⟨h.size, 0, none⟩ = some (.int .u64 0) := (q.cell (by omega) id).trans (by rw [hH1]; exact hcell_push_lit)
  have w1 : Xe.hcell H ⟨h.size, 1, none⟩ = some (.int .u64 0) := (q.cell (by omega) id).trans (by rw [hH1]; exact hcell_push_lit)
  have w2 : Xe.hcell H ⟨h.size, 2, none⟩ = some (.int .u64 0) := (q.cell (by omega) id).trans (by rw [hH1]; exact hcell_push_lit)
  have w3 : Xe.hcell H ⟨h.size, 3, none⟩ = some (.slice none 0 0) := (q.cell (by omega) id).trans (by rw [hH1]; exact hcell_push_lit)
  have w4 : Xe.hcell H ⟨h.size, 4, none⟩ = some (.slice none 0 0) := (q.cell (by omega) id).trans (by rw [hH1]; exact hcell_push_lit)
  have wz : ∀ o, hfrz H ⟨h.size, o, none⟩ = false := fun o => (q.frz (by omega) id).trans (by rw [hH1]; exact hfrz_push_new)
  have hHs : H.size = h.size + 2 := by rw [hH, push_size, hs1]
  have C := parse_ok RH rfl (show s.length ≤ s.length + rest.length by omega) hl
  rw [hH, hH1] at C
  refine useC C ?_
  rw [← hH1, ← hH]
  clear C hH hH1
  rintro _ h2 ⟨⟨v, A, a, B, b, n, e, rfl, V, oA, oB, hn, hp, hb, hpl, hbl, hcmp⟩, f2⟩
  obtain ⟨ma, mi, pa, pre, bu⟩ := v
  have v0 := (f2.cell (by omega) id).trans w0
  have v1 := (f2.cell (by omega) id).trans w1
  have v2 := (f2.cell (by omega) id).trans w2
  have v3 := (f2.cell (by omega) id).trans w3
  have v4 := (f2.cell (by omega) id).trans w4
  have z : ∀ o, hfrz h2 ⟨h.size, o, none⟩ = false := fun o => (f2.frz (by omega) id).trans (wz o)
  have f02 := f0.trans f2
  have E : ∀ bk o s, Xe.hcell h2 ⟨bk, o, none⟩ = some (S s) → ¬ (bk = h.size ∧ o = 0) ∧ ¬ (bk = h.size ∧ o = 1) ∧ ¬ (bk = h.size ∧ o = 2) ∧ ¬ (bk = h.size ∧ o = 3) ∧ ¬ (bk = h.size ∧ o = 4) := fun bk o s hv => by
    refine ⟨?_, ?_, ?_, ?_, ?_⟩ <;> rintro ⟨rfl, rfl⟩
    · rw [v0] at hv; cases hv
    · rw [v1] at hv; cases hv
    · rw [v2] at hv; cases hv
    · rw [v3] at hv; cases hv
    · rw [v4] at hv; cases hv
  unfold verV verC
  by_cases he : e = 0
  · subst he
    by_cases hnl : n < s.length
    · simp -implicitDefEqProofs (disch := first | omega | (simp only [push_size, hset_size]; done) | (simp only [push_size, hset_size]; omega)) [go_sem, v0, v1, v2, v3, v4, z]
      refine ⟨⟨zeroV, none, 0, none, 0, n, 13, rfl, .zero, (fun y ⟨a, ha, _⟩ => nomatch ha), (fun y ⟨a, ha, _⟩ => nomatch ha), hn, by simp [zeroV], by simp [zeroV], by simp [zeroV], by simp [zeroV], fun w hw hs => ?_⟩, ?_⟩
      · have := (hcmp w hw hs).2.1
        omega
      · iterate 10 refine Fr.newA ?_ (by omega)
        exact f02
    · simp -implicitDefEqProofs (disch := first | omega | (simp only [push_size, hset_size]; done) | (simp only [push_size, hset_size]; omega)) [go_sem, v0, v1, v2, v3, v4, z]
      refine ⟨⟨⟨ma, mi, pa, pre, bu⟩, A, a, B, b, 0, 0, rfl, ⟨RowAt.keepS V.pre fun bk o s hv => ?_, RowAt.keepS V.build fun bk o s hv => ?_, V.ca, V.cb, V.la, V.lb, V.m1, V.m2, V.m3⟩, (fun y hy => by have := oA y hy; omega), (fun y hy => by have := oB y hy; omega), Nat.zero_le _, hp, hb, hpl, hbl, fun w hw hs => ⟨(hcmp w hw hs).1, rfl⟩⟩, ?_⟩
      · obtain ⟨e0, e1, e2, e3, e4⟩ := E bk o s hv
        simp only [hcell_hset, e0, e1, e2, e3, e4, if_false]
        exact hv
      · obtain ⟨e0, e1, e2, e3, e4⟩ := E bk o s hv
        simp only [hcell_hset, e0, e1, e2, e3, e4, if_false]
        exact hv
      · iterate 10 refine Fr.newA ?_ (by omega)
        exact f02
  · have he' : ((e : Nat) : Int) ≠ 0 := by omega
    simp -implicitDefEqProofs (disch := first | omega | (simp only [push_size, hset_size]; done) | (simp only [push_size, hset_size]; omega)) [go_sem, v0, v1, v2, v3, v4, z, he']
    refine ⟨⟨⟨ma, mi, pa, pre, bu⟩, A, a, B, b, n, e, rfl, ⟨RowAt.keepS V.pre fun bk o s hv => ?_, RowAt.keepS V.build fun bk o s hv => ?_, V.ca, V.cb, V.la, V.lb, V.m1, V.m2, V.m3⟩, (fun y hy => by have := oA y hy; omega), (fun y hy => by have := oB y hy; omega), hn, hp, hb, hpl, hbl, fun w hw hs => absurd (hcmp w hw hs).2.2 he⟩, ?_⟩
    · obtain ⟨e0, e1, e2, e3, e4⟩ := E bk o s hv
      simp only [hcell_hset, e0, e1, e2, e3, e4, if_false]
      exact hv
    · obtain ⟨e0, e1, e2, e3, e4⟩ := E bk o s hv
      simp only [hcell_hset, e0, e1, e2, e3, e4, if_false]
      exact hv
    · iterate 10 refine Fr.newA ?_ (by omega)
      exact f02
end
end Xe

/- A reader of lines: in memory; fail, blank. -/
namespace Xe
open Go Go.Proofs
set_option maxRecDepth 16000
set_option maxHeartbeats 2000000
/-- a reader: where the line begins, where its next part does, its end, a fault's place and its error -/
structure Rd where
  fr : Nat
  at' : Nat
  en : Nat
  fa : Nat
  e : Nat
structure RdAt (h : Heap) (r : Nat) (A : Option Addr) (n cp : Nat) (d : Rd) : Prop where
  c0 : hcell h ⟨r, 0, none⟩ = some (.slice A n cp)
  c1 : hcell h ⟨r, 1, none⟩ = some (.int .i64 d.fr)
  c2 : hcell h ⟨r, 2, none⟩ = some (.int .i64 d.at')
  c3 : hcell h ⟨r, 3, none⟩ = some (.int .i64 d.en)
  c4 : hcell h ⟨r, 4, none⟩ = some (.int .i64 d.fa)
  c5 : hcell h ⟨r, 5, none⟩ = some (.int .i64 d.e)
  z : ∀ o, hfrz h ⟨r, o, none⟩ = false
theorem RdAt.fr' {U : Nat → Prop} {h h' : Heap} {r : Nat} {A : Option Addr} {n cp : Nat} {d : Rd} (D : RdAt h r A n cp d) (f : Fr U h h') (hu : ¬ U r) : RdAt h' r A n cp d := by
  have g : ∀ {i v}, hcell h ⟨r, i, none⟩ = some v → hcell h' ⟨r, i, none⟩ = some v := fun hv => (f.cell (hcell_lt hv) hu).trans hv
  exact ⟨g D.c0, g D.c1, g D.c2, g D.c3, g D.c4, g D.c5, fun o => (f.frz (hcell_lt D.c0) hu).trans (D.z o)⟩
section
variable {h : Heap} {r : Nat} {A : Option Addr} {n cp : Nat} {d : Rd}
/-- only the reader turns -/
abbrev Ro (r : Nat) (h h' : Heap) : Prop := Fr (fun y => y = r) h h'
theorem RdAt.atSet {x : Nat} (D : RdAt h r A n cp d) : RdAt (hset h ⟨r, 2, none⟩ (.int .i64 x)) r A n cp { d with at' := x } := by
  refine ⟨?_, ?_, ?_, ?_, ?_, ?_, fun o => by rw [hfrz_hset]; exact D.z o⟩ <;> simp [hcell_hset, D.c0, D.c1, D.c2, D.c3, D.c4, D.c5]
/-- the first fault stays -/
def Rd.fail (d : Rd) (x e : Nat) : Rd := if d.e = 0 then { d with fa := x, e := e } else d
theorem fail_ok (D : RdAt h r A n cp d) (x e : Nat) : CallsH Tryz.prog 141 [.pointer (some ⟨r, 0, none⟩), .int .i64 x, .int .i64 e] h fun _ h' => RdAt h' r A n cp (d.fail x e) ∧ Ro r h h' ∧ ∀ bk o s, hcell h ⟨bk, o, none⟩ = some (S s) → hcell h' ⟨bk, o, none⟩ = some (S s) := by
  obtain ⟨c0, c1, c2, c3, c4, c5, z⟩ := D
  refine calls_of 19 [] Go.Proofs.Tryz.func141 rfl rfl rfl ?_
  by_cases e0 : d.e = 0
  · have e0' : ((d.e : Nat) : Int) = 0 := by omega
    simp -implicitDefEqProofs (disch := first | omega | (simp only [push_size, hset_size]; done) | (simp only [push_size, hset_size]; omega)) [go_sem, c4, c5, z, e0']
    have : d.fail x e = { d with fa := x, e := e } := if_pos e0
    rw [this]
    refine ⟨⟨?_, ?_, ?_, ?_, ?_, ?_, fun o => by rw [hfrz_hset, hfrz_hset]; exact z o⟩, ?_⟩
    · simp [hcell_hset, c0]
    · simp [hcell_hset, c1]
    · simp [hcell_hset, c2]
    · simp [hcell_hset, c3]
    · simp [hcell_hset, c4]
    · simp [hcell_hset, c5]
    · refine ⟨by refine Fr.setA (Fr.setA (Fr.refl _ _) ?_) ?_ <;> rfl, fun bk o s hv => ?_⟩
      have n4 : ¬ (bk = r ∧ o = 4) := by rintro ⟨rfl, rfl⟩; rw [c4] at hv; cases hv
      have n5 : ¬ (bk = r ∧ o = 5) := by rintro ⟨rfl, rfl⟩; rw [c5] at hv; cases hv
      simp only [hcell_hset, n4, n5, if_false]
      exact hv
  · have e0' : ((d.e : Nat) : Int) ≠ 0 := by omega
    simp -implicitDefEqProofs (disch := first | omega | (simp only [push_size, hset_size]; done) | (simp only [push_size, hset_size]; omega)) [go_sem, c4, c5, z, e0']
    have : d.fail x e = d := if_neg e0
    rw [this]
    exact ⟨⟨c0, c1, c2, c3, c4, c5, z⟩, Fr.refl _ _⟩
end
end Xe

/- The reader: a blank; a word. -/
namespace Xe
open Go Go.Proofs
set_option maxRecDepth 16000
set_option maxHeartbeats 2000000
section
variable {h : Heap} {r : Nat} {A : Option Addr} {n cp : Nat} {d : Rd}
/-- what taking a blank does -/
def Rd.blank (d : Rd) : Rd × Bool := if d.at' = d.en then (d.fail d.en 5, false) else if d.at' + 1 = d.en then (Rd.fail { d with at' := d.at' + 1 } d.en 5, false) else ({ d with at' := d.at' + 1 }, true)
theorem blank_reader_ok (D : RdAt h r A n cp d) (ha : d.at' < 2 ^ 60) (hn : d.en < 2 ^ 60) : CallsH Tryz.prog 142 [.pointer (some ⟨r, 0, none⟩)] h fun v h' => v = .bool d.blank.2 ∧ RdAt h' r A n cp d.blank.1 ∧ Ro r h h' := by
  obtain ⟨c0, c1, c2, c3, c4, c5, z⟩ := id D
  refine calls_of 40 [.tmp 2] Go.Proofs.Tryz.func142 rfl rfl rfl ?_
  simp -implicitDefEqProofs (disch := first | omega | (simp only [push_size, hset_size]; done) | (simp only [push_size, hset_size]; omega)) [go_sem]
  refine drawK [(0, 0), (1, 0), (2, 0), (3, 1), (4, 0), (5, 0), (6, 0), (7, 1), (8, 0)] ?_
  by_cases e1 : d.at' = d.en
  · have hb : d.blank = (d.fail d.en 5, false) := if_pos e1
    have e1' : ((d.at' : Nat) : Int) = (d.en : Nat) := by omega
    rw [hb]
    simp -implicitDefEqProofs (disch := first | omega | (simp only [push_size, hset_size]; done) | (simp only [push_size, hset_size]; omega)) [go_sem, c2, c3, e1']
    refine useC (fail_ok D d.en 5) ?_
    rintro _ h2 ⟨D2, f2, -⟩
    simp -implicitDefEqProofs (disch := first | omega | (simp only [push_size, hset_size]; done) | (simp only [push_size, hset_size]; omega)) [go_sem]
    exact ⟨D2, f2⟩
  · have e1' : ¬ ((d.at' : Nat) : Int) = (d.en : Nat) := by omega
    have D2 : RdAt _ r A n cp { d with at' := d.at' + 1 } := D.atSet (x := d.at' + 1)
    obtain ⟨b0, b1, b2, b3, b4, b5, y⟩ := id D2
    have f2 : Ro r h (hset h ⟨r, 2, none⟩ (.int .i64 ((d.at' + 1 : Nat)))) := by refine Fr.setA (Fr.refl _ _) ?_; rfl
    simp -implicitDefEqProofs (disch := first | omega | (simp only [push_size, hset_size]; done) | (simp only [push_size, hset_size]; omega)) [go_sem, c2, c3, z, e1']
    refine drawK [(0, 0), (1, 0), (2, 0), (3, 1), (4, 0), (5, 0), (6, 0), (7, 1), (8, 0)] ?_
    by_cases e2 : d.at' + 1 = d.en
    · have hb : d.blank = (Rd.fail { d with at' := d.at' + 1 } d.en 5, false) := by unfold Rd.blank; rw [if_neg e1, if_pos e2]
      have e2' : ((d.at' : Nat) : Int) + 1 = (d.en : Nat) := by omega
      rw [hb]
      simp -implicitDefEqProofs (disch := first | omega | (simp only [push_size, hset_size]; done) | (simp only [push_size, hset_size]; omega)) [go_sem, c2, c3, e2']
      refine useC (fail_ok D2 d.en 5) ?_
      rintro _ h3 ⟨D3, f3, -⟩
      simp -implicitDefEqProofs (disch := first | omega | (simp only [push_size, hset_size]; done) | (simp only [push_size, hset_size]; omega)) [go_sem]
      exact ⟨D3, f2.trans f3⟩
    · have hb : d.blank = ({ d with at' := d.at' + 1 }, true) := by unfold Rd.blank; rw [if_neg e1, if_neg e2]
      have e2' : ¬ ((d.at' : Nat) : Int) + 1 = (d.en : Nat) := by omega
      rw [hb]
      simp -implicitDefEqProofs (disch := first | omega | (simp only [push_size, hset_size]; done) | (simp only [push_size, hset_size]; omega)) [go_sem, c2, c3, e2']
      exact ⟨D2, f2⟩
end
end Xe
