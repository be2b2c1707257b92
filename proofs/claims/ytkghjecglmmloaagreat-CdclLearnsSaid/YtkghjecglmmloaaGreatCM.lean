/- The walks through package heap, fifth part: a heap as its users see it. -/
import Derived.Test.YtkghjecglmmloaaGreatHp4
import Derived.Test.YtkghjecglmmloaaGreatHP
import Derived.Test.YtkghjecglmmloaaGreatL20
namespace Xe.Hq
open Go Hp Go.Proofs
set_option maxRecDepth 16000

/-- a heap as its methods leave it: n are in, namely S; its blocks are O's -/
structure HeapOk (h : Heap) (b : Nat) (O : Nat → Prop) (vars n : Nat) (act : Nat → Int) (S : Nat → Prop) : Prop where
  ex : ∃ kb lb pb kc lc pc A l pl, HeapAt h b kb lb pb vars n kc lc pc A act l pl ∧ Wf vars n l pl ∧ Ord act n l ∧ (∀ v, In n l v ↔ S v) ∧ (O b ∧ O kb ∧ O pb ∧ ∀ x, blk A x → O x)
  acts : Acts vars act
  low : ∀ x, O x → x < h.size

section
variable {h : Heap} {b vars n : Nat} {O : Nat → Prop} {act : Nat → Int} {S : Nat → Prop}

theorem HeapAt.fr {kb lb pb kc lc pc : Nat} {A : Option Addr} {l : Nat → Nat} {pl : Nat → Int} (H : HeapAt h b kb lb pb vars n kc lc pc A act l pl) {h' : Heap} {T : Nat → Prop} (f : Fr T h h')
    (hb : ¬ T b) (hk : ¬ T kb) (hp : ¬ T pb) (hA : ∀ x, blk A x → ¬ T x) : ∃ lb', HeapAt h' b kb lb' pb vars n kc lc pc A act l pl ∧ (blk A lb' ∨ h'.size ≤ lb') := by
  obtain ⟨tb, tk, tp⟩ := H.lts
  have z := f.size
  rcases H.hA0 with ⟨rfl, h0⟩ | rfl
  · refine ⟨h'.size, ?_, .inr (Nat.le_refl _)⟩
    have hn0 := H.hnc
    exact { s0 := by rw [f.cell tb hb]; exact H.s0
            s1 := by rw [f.cell tb hb]; exact H.s1
            s2 := by rw [f.cell tb hb]; exact H.s2
            ck := fun v hv => by rw [f.cell tk hk]; exact H.ck v hv
            cl := fun i hi => by omega
            cp := fun v hv => by rw [f.cell tp hp]; exact H.cp v hv
            lr := fun i hi => by omega
            ll := fun e => (nomatch e)
            fb := fun o => by rw [f.frz tb hb]; exact H.fb o
            fk := fun o => by rw [f.frz tk hk]; exact H.fk o
            fl := fun o => hfrz_ge (Nat.le_refl _)
            fp := fun o => by rw [f.frz tp hp]; exact H.fp o
            bk := H.bk
            bl := by omega
            bp := H.bp
            kl := by omega
            kp := H.kp
            lp := by omega
            hA0 := .inl ⟨rfl, h0⟩
            hnc := H.hnc
            hv := H.hv
            hn := H.hn }
  · have tl := H.ll rfl
    have hl := hA lb ⟨_, rfl, rfl⟩
    refine ⟨lb, ?_, .inl ⟨_, rfl, rfl⟩⟩
    exact { s0 := by rw [f.cell tb hb]; exact H.s0
            s1 := by rw [f.cell tb hb]; exact H.s1
            s2 := by rw [f.cell tb hb]; exact H.s2
            ck := fun v hv => by rw [f.cell tk hk]; exact H.ck v hv
            cl := fun i hi => by rw [f.cell tl hl]; exact H.cl i hi
            cp := fun v hv => by rw [f.cell tp hp]; exact H.cp v hv
            lr := fun i hi => by rw [f.cell tl hl]; exact H.lr i hi
            ll := fun e => by omega
            fb := fun o => by rw [f.frz tb hb]; exact H.fb o
            fk := fun o => by rw [f.frz tk hk]; exact H.fk o
            fl := fun o => by rw [f.frz tl hl]; exact H.fl o
            fp := fun o => by rw [f.frz tp hp]; exact H.fp o
            bk := H.bk
            bl := H.bl
            bp := H.bp
            kl := H.kl
            kp := H.kp
            lp := H.lp
            hA0 := .inr rfl
            hnc := H.hnc
            hv := H.hv
            hn := H.hn }

/-- it stands on while its blocks are left alone -/
theorem HeapOk.fr (H : HeapOk h b O vars n act S) {h' : Heap} {T : Nat → Prop} (f : Fr T h h') (hT : ∀ x, O x → ¬ T x) : HeapOk h' b O vars n act S := by
  obtain ⟨kb, lb, pb, kc, lc, pc, A, l, pl, H1, W, Od, hin, hb, hk, hp, hA⟩ := H.ex
  obtain ⟨lb', H2, _⟩ := H1.fr f (hT _ hb) (hT _ hk) (hT _ hp) (fun x hx => hT _ (hA x hx))
  exact ⟨⟨kb, lb', pb, kc, lc, pc, A, l, pl, H2, W, Od, hin, hb, hk, hp, hA⟩, H.acts, fun x hx => Nat.lt_of_lt_of_le (H.low x hx) f.size⟩

theorem HeapOk.own (H : HeapOk h b O vars n act S) : ∃ kb lb pb kc lc pc A l pl, HeapAt h b kb lb pb vars n kc lc pc A act l pl ∧ Wf vars n l pl ∧ Ord act n l ∧ (∀ v, In n l v ↔ S v) ∧ (O b ∧ O kb ∧ O pb ∧ ∀ x, blk A x → O x) ∧ ∀ x, x < h.size → HB b kb lb pb x → O x := by
  obtain ⟨kb, lb, pb, kc, lc, pc, A, l, pl, H1, W, Od, hin, hb, hk, hp, hA⟩ := H.ex
  obtain ⟨lb', H2, h2⟩ := H1.fr (T := fun _ => False) (Fr.refl _ _) id id id (fun _ _ => id)
  refine ⟨kb, lb', pb, kc, lc, pc, A, l, pl, H2, W, Od, hin, ⟨hb, hk, hp, hA⟩, fun x hx h => ?_⟩
  rcases h with rfl | rfl | rfl | rfl
  · exact hb
  · exact hk
  · exact h2.elim (hA _) (fun h => by omega)
  · exact hp

theorem HeapOk.vars_le (H : HeapOk h b O vars n act S) : vars ≤ 16777216 := by obtain ⟨_, _, _, _, _, _, _, _, _, H1, _⟩ := H.ex; exact H1.hv
theorem HeapOk.n_le (H : HeapOk h b O vars n act S) : n ≤ vars := by obtain ⟨_, _, _, _, _, _, _, _, _, H1, _⟩ := H.ex; exact H1.hn
theorem HeapOk.range (H : HeapOk h b O vars n act S) {v : Nat} (hv : S v) : 1 ≤ v ∧ v ≤ vars := by
  obtain ⟨_, _, _, _, _, _, _, _, _, H1, W, _, hin, _⟩ := H.ex
  obtain ⟨i, hi, rfl⟩ := (hin v).2 hv
  exact ⟨W.low i hi, W.high i hi⟩
theorem HeapOk.cong (H : HeapOk h b O vars n act S) {S' : Nat → Prop} (e : ∀ v, S v ↔ S' v) : HeapOk h b O vars n act S' := by
  obtain ⟨kb, lb, pb, kc, lc, pc, A, l, pl, H1, W, Od, hin, r⟩ := H.ex
  exact ⟨⟨kb, lb, pb, kc, lc, pc, A, l, pl, H1, W, Od, fun v => (hin v).trans (e v), r⟩, H.acts, H.low⟩

/-- a foremost one -/
def Fst (act : Nat → Int) (S : Nat → Prop) (v : Nat) : Prop := S v ∧ ∀ w, S w → ¬ bef act w v
theorem Fst.uniq {v w : Nat} (h1 : Fst act S v) (h2 : Fst act S w) : v = w := by
  have a := h1.2 w h2.1
  have b := h2.2 v h1.1
  unfold bef at a b; omega

open Classical in
/-- the foremost, by their number -/
noncomputable def front (act : Nat → Int) (S : Nat → Prop) (vars : Nat) : List Nat := (List.range' 1 vars).filter fun v => decide (S v ∧ ∀ w, S w → act w ≤ act v)
theorem mem_front {v : Nat} (hS : ∀ v, S v → 1 ≤ v ∧ v ≤ vars) : v ∈ front act S vars ↔ S v ∧ ∀ w, S w → act w ≤ act v := by
  unfold front
  rw [List.mem_filter, List.mem_range'_1]
  simp only [decide_eq_true_eq]
  constructor
  · exact fun h => h.2
  · exact fun h => ⟨by have := hS v h.1; omega, h⟩
theorem front_nodup : (front act S vars).Nodup := (List.nodup_range' (step := 1)).filter _
theorem front_lt : (front act S vars).Pairwise (· < ·) := (List.pairwise_lt_range' (step := 1)).filter _

theorem front_fst (hS : ∀ v, S v → 1 ≤ v ∧ v ≤ vars) {t : Nat} (ht : t < (front act S vars).length) : Fst act (fun v => S v ∧ v ∉ (front act S vars).take t) (front act S vars)[t] := by
  have hm := (mem_front hS).1 (List.getElem_mem ht)
  refine ⟨⟨hm.1, fun hi => ?_⟩, fun w hw hb => ?_⟩
  · obtain ⟨j, hj, e⟩ := List.mem_take_iff_getElem.1 hi
    have := List.pairwise_iff_getElem.1 (front_lt (act := act) (S := S) (vars := vars)) j t (by omega) ht (by omega)
    omega
  · have h1 := hm.2 w hw.1
    rcases hb with h2 | ⟨h2, h3⟩
    · omega
    · have hwm : w ∈ front act S vars := (mem_front hS).2 ⟨hw.1, fun u hu => by rw [h2]; exact hm.2 u hu⟩
      obtain ⟨j, hj, e⟩ := List.mem_iff_getElem.1 hwm
      have hjt : t ≤ j := by
        rcases Nat.lt_or_ge j t with h | h
        · exact absurd (List.mem_take_iff_getElem.2 ⟨j, by omega, e⟩) hw.2
        · exact h
      rcases Nat.lt_or_eq_of_le hjt with h | h
      · have := List.pairwise_iff_getElem.1 (front_lt (act := act) (S := S) (vars := vars)) t j ht hj h
        omega
      · subst h; omega

theorem tieN_front {kb lb pb kc lc pc : Nat} {A : Option Addr} {l : Nat → Nat} {pl : Nat → Int} (W : Wf vars n l pl) (Od : Ord act n l) (hin : ∀ v, In n l v ↔ S v) : tieN act l n = (front act S vars).length := by
  have hS : ∀ v, S v → 1 ≤ v ∧ v ≤ vars := fun v hv => by
    obtain ⟨i, hi, rfl⟩ := (hin v).2 hv
    exact ⟨W.low i hi, W.high i hi⟩
  have htop : ∀ i, i < n → act (l i) ≤ act (l 0) := fun i hi => by
    have := Od.first i hi
    unfold bef at this; omega
  have key : ∀ v, v ∈ ((List.range n).filter fun i => decide (act (l i) = act (l 0))).map l ↔ v ∈ front act S vars := by
    intro v
    rw [mem_front hS, List.mem_map]
    constructor
    · rintro ⟨i, hi, rfl⟩
      rw [List.mem_filter, List.mem_range, decide_eq_true_eq] at hi
      refine ⟨(hin _).1 ⟨i, hi.1, rfl⟩, fun w hw => ?_⟩
      obtain ⟨j, hj, rfl⟩ := (hin w).2 hw
      rw [hi.2]; exact htop j hj
    · rintro ⟨h1, h2⟩
      obtain ⟨i, hi, rfl⟩ := (hin v).2 h1
      refine ⟨i, ?_, rfl⟩
      rw [List.mem_filter, List.mem_range, decide_eq_true_eq]
      have h3 := h2 (l 0) ((hin _).1 ⟨0, by omega, rfl⟩)
      have h4 := htop i hi
      exact ⟨hi, by omega⟩
  have nd : (((List.range n).filter fun i => decide (act (l i) = act (l 0))).map l).Nodup :=
    nodup_map (List.nodup_range.filter _) fun x hx y hy e => W.inj (List.mem_range.1 (List.mem_filter.1 hx).1) (List.mem_range.1 (List.mem_filter.1 hy).1) e
  have e1 := nodup_le nd (fun x hx => (key x).1 hx)
  have e2 := nodup_le front_nodup (fun x hx => (key x).2 hx)
  rw [List.length_map] at e1 e2
  unfold tieN
  omega

theorem ties_ok (H : HeapOk h b O vars n act S) : CallsH Tryz.prog 232 [.pointer (some ⟨b, 0, none⟩)] h fun r h' => r = .int .i64 ((front act S vars).length : Nat) ∧ h' = h := by
  obtain ⟨kb, lb, pb, kc, lc, pc, A, l, pl, H1, W, Od, hin, hO⟩ := H.ex
  rw [← tieN_front (kb := 0) (lb := 0) (pb := 0) (kc := 0) (lc := 0) (pc := 0) (A := none) W Od hin]
  exact ties_h H1 W H.acts

theorem take_ok (H : HeapOk h b O vars (n + 1) act S) : CallsH Tryz.prog 233 [.pointer (some ⟨b, 0, none⟩), .int .i64 0] h fun r h' =>
    ∃ v : Nat, r = .int .i64 v ∧ Fst act S v ∧ HeapOk h' b O vars n act (fun u => S u ∧ u ≠ v) ∧ Fr O h h' := by
  obtain ⟨kb, lb, pb, kc, lc, pc, A, l, pl, H1, W, Od, hin, hO⟩ := H.ex
  refine (take_h H1 W H.acts Od).mono ?_
  rintro _ h' ⟨rfl, l', pl', H', W', O', hin', hfr⟩
  refine ⟨l 0, rfl, ⟨(hin _).1 ⟨0, by omega, rfl⟩, fun w hw => ?_⟩, ⟨⟨kb, lb, pb, kc, lc, pc, A, l', pl', H', W', O', fun v => (hin' v).trans (by rw [hin v]), hO⟩, H.acts, fun x hx => Nat.lt_of_lt_of_le (H.low x hx) hfr.size⟩, hfr.mono fun x _ hx => ?_⟩
  · obtain ⟨j, hj, rfl⟩ := (hin w).2 hw
    exact Od.first j hj
  · rcases hx with rfl | rfl | rfl | rfl
    · exact hO.1
    · exact hO.2.1
    · exact hO.2.2.2 _ ⟨_, H1.hA (by omega), rfl⟩
    · exact hO.2.2.1

theorem put_ok (H : HeapOk h b O vars n act S) (x : Int) : CallsH Tryz.prog 132 [.pointer (some ⟨b, 0, none⟩), .int .i64 x] h fun r h' =>
    (∃ v : Nat, x = v ∧ r = .bool true ∧ 1 ≤ v ∧ v ≤ vars ∧ ¬ S v ∧ ∃ O', HeapOk h' b O' vars (n + 1) act (fun u => S u ∨ u = v) ∧ Nx O O' h h') ∨
    ((¬ (1 ≤ x ∧ x ≤ vars) ∨ S x.toNat) ∧ r = .bool false ∧ h' = h) := by
  obtain ⟨kb, lb, pb, kc, lc, pc, A, l, pl, H1, W, Od, hin, hO⟩ := H.ex
  refine (put_h H1 W H.acts Od x).mono ?_
  rintro r h' (⟨v, rfl, rfl, h1, h2, h3, lb', lc', A', l', pl', H', W', O', hin', hfr, hA⟩ | ⟨h1, rfl, rfl⟩)
  · refine .inl ⟨v, rfl, rfl, h1, h2, fun hs => h3 ((hin v).2 hs), fun x => (O x ∨ h.size ≤ x) ∧ x < h'.size, ⟨⟨kb, lb', pb, kc, lc', pc, A', l', pl', H', W', O', fun u => (hin' u).trans (by rw [hin u]), ?_⟩, H.acts, fun x hx => hx.2⟩, ⟨hfr.mono fun x _ hx => ?_, fun x hx => hx.1⟩⟩
    · obtain ⟨tb, tk, tp⟩ := H'.lts
      refine ⟨⟨.inl hO.1, tb⟩, ⟨.inl hO.2.1, tk⟩, ⟨.inl hO.2.2.1, tp⟩, fun x hx => ⟨(hA x hx).imp (hO.2.2.2 x) id, H'.sl.blk_lt hx⟩⟩
    · rcases hx with rfl | rfl | hx
      · exact hO.1
      · exact hO.2.2.1
      · exact hO.2.2.2 _ hx
  · exact .inr ⟨h1.imp id (hin _).1, rfl, rfl⟩

theorem bump_ok (H : HeapOk h b O vars n act S) (x y : Int) : CallsH Tryz.prog 180 [.pointer (some ⟨b, 0, none⟩), .int .i64 x, .int .i64 y] h fun r h' =>
    (∃ v : Nat, x = v ∧ r = .bool true ∧ 1 ≤ v ∧ v ≤ vars ∧ 1 ≤ y ∧ y ≤ 1048576 ∧ HeapOk h' b O vars n (bumped act v y) S ∧ Fr O h h') ∨
    (¬ (1 ≤ x ∧ x ≤ vars ∧ 1 ≤ y ∧ y ≤ 1048576) ∧ r = .bool false ∧ h' = h) := by
  obtain ⟨kb, lb, pb, kc, lc, pc, A, l, pl, H1, W, Od, hin, hO, hB⟩ := H.own
  refine (bump_h H1 W H.acts Od x y).mono ?_
  rintro r h' (⟨v, rfl, rfl, h1, h2, h3, h4, l', pl', H', W', O', A', hin', hfr⟩ | h1)
  · refine .inl ⟨v, rfl, rfl, h1, h2, h3, h4, ⟨⟨kb, lb, pb, kc, lc, pc, A, l', pl', H', W', O', fun u => (hin' u).trans (hin u), hO⟩, A', fun x hx => Nat.lt_of_lt_of_le (H.low x hx) hfr.size⟩, hfr.mono hB⟩
  · exact .inr h1

theorem decay_ok (H : HeapOk h b O vars n act S) : CallsH Tryz.prog 182 [.pointer (some ⟨b, 0, none⟩)] h fun r h' =>
    r = .tuple #[] ∧ HeapOk h' b O vars n (halved act (vars + 1)) S ∧ Fr O h h' := by
  obtain ⟨kb, lb, pb, kc, lc, pc, A, l, pl, H1, W, Od, hin, hO, hB⟩ := H.own
  refine (decay_h H1 W H.acts).mono ?_
  rintro r h' ⟨rfl, l', pl', H', W', O', hin', hfr⟩
  refine ⟨rfl, ⟨⟨kb, lb, pb, kc, lc, pc, A, l', pl', H', W', O', fun u => (hin' u).trans (hin u), hO⟩, halved_acts H.acts _, fun x hx => Nat.lt_of_lt_of_le (H.low x hx) hfr.size⟩, hfr.mono hB⟩
end
end Xe.Hq

/- The walks through package heap, sixth part: Pop, New. -/
namespace Xe.Hq
open Go Hp Go.Proofs
set_option maxRecDepth 16000

/-- numbers as a row of values -/
def nums (l : List Nat) : List Value := l.map fun (v : Nat) => .int .i64 (v : Int)
theorem nums_len (l : List Nat) : (nums l).length = l.length := List.length_map ..
theorem nums_at {l : List Nat} {i : Nat} (hi : i < l.length) : (nums l)[i]? = some (.int .i64 (l[i] : Int)) := by simp [nums, hi]
theorem nums_put (l : List Nat) (v : Nat) : nums l ++ [.int .i64 (v : Int)] = nums (l ++ [v]) := by simp [nums]

section
variable {h : Heap} {b vars n : Nat} {O : Nat → Prop} {act : Nat → Int} {S : Nat → Prop}

theorem tieN_pos {l : Nat → Nat} (hn : 0 < n) : 0 < tieN act l n := by
  unfold tieN
  exact List.length_pos_of_mem (a := 0) (List.mem_filter.2 ⟨List.mem_range.2 hn, by simp⟩)

theorem pop_ok (H : HeapOk h b O vars n act S) (x : Int) : CallsH Tryz.prog 188 [.pointer (some ⟨b, 0, none⟩), .int .i64 x] h fun r h' =>
    (n = 0 ∧ r = .tuple #[.int .i64 0, .bool false] ∧ h' = h) ∨
    (∃ v : Nat, r = .tuple #[.int .i64 v, .bool true] ∧ 0 < n ∧ (front act S vars)[(max x 0).toNat % (front act S vars).length]? = some v ∧
      ∃ O', HeapOk h' b O' vars (n - 1) act (fun u => S u ∧ u ≠ v) ∧ Nx O O' h h') := by
  obtain ⟨kb, lb, pb, kc, lc, pc, A, l, pl, H1, W, Od, hin, hO⟩ := H.ex
  have hc1 := H1.s1
  refine calls_of 43 [.tmp 4, .tmp 5] Go.Proofs.Tryz.func188 rfl rfl rfl (by kernel_rfl) (Nat.le_of_ble_eq_true rfl) ?_
  by_cases hn0 : n = 0
  · subst hn0
    simp -implicitDefEqProofs (disch := omega) [go_sem, hc1]
  · simp -implicitDefEqProofs (disch := omega) [go_sem, hc1, hn0]
    refine useC (ties_ok H) ?_
    rintro _ h ⟨rfl, rfl⟩
    have hF0 : 0 < (front act S vars).length := by
      rw [← tieN_front (kb := 0) (lb := 0) (pb := 0) (kc := 0) (lc := 0) (pc := 0) (A := none) W Od hin]
      exact tieN_pos (by omega)
    have hFn : (front act S vars).length ≤ n := by
      rw [← tieN_front (kb := 0) (lb := 0) (pb := 0) (kc := 0) (lc := 0) (pc := 0) (A := none) W Od hin]
      exact tieN_le _ _ _
    have hS : ∀ v, S v → 1 ≤ v ∧ v ≤ vars := fun v hv => H.range hv
    obtain ⟨F, hF⟩ : ∃ F, F = front act S vars := ⟨_, rfl⟩
    rw [← hF] at hF0 hFn ⊢
    obtain ⟨p, hp⟩ : ∃ p : Nat, p = (max x 0).toNat % F.length := ⟨_, rfl⟩
    have hpl : p < F.length := by rw [hp]; exact Nat.mod_lt _ hF0
    rw [← hp]
    have hvv := H.vars_le
    have hnn := H.n_le
    simp -implicitDefEqProofs (disch := omega) [go_sem]
    have hrem : (max x 0) % (F.length : Int) = (p : Int) := by
      rw [hp]
      obtain ⟨u, hu⟩ : ∃ u : Nat, max x 0 = (u : Int) := ⟨(max x 0).toNat, by omega⟩
      rw [hu, Int.toNat_natCast]; omega
    refine loopK (fun ρ h' => ρ 0 = .pointer (some ⟨b, 0, none⟩) ∧ ∃ (t : Nat) (Aa : Option Addr) (ca : Nat), t ≤ p ∧ ρ 6 = .slice Aa t ca ∧ ρ 7 = .int .i64 ((p : Int) - t) ∧ SlAt h' Aa ca (nums (F.take t)) ∧ (∀ x, blk Aa x → h.size ≤ x) ∧
      HeapOk h' b O vars (n - t) act (fun v => S v ∧ v ∉ F.take t) ∧ Fr O h h') (fun ρ _ => (intOf (ρ 7)).toNat) (by kernel_rfl) ?_ ?_
    · exact ⟨rfl, 0, none, 0, by omega, rfl, congrArg (Value.int .i64) (by rw [hrem]; omega), SlAt.nil _, fun x ⟨a, h, _⟩ => (nomatch h), H.cong fun v => by simp, Fr.refl _ _⟩
    · rintro ρ h1 ⟨r0, t, Aa, ca, htp, r6, r7, SA, hbA, HO, hfr⟩
      have hfst := front_fst (act := act) hS (t := t) (by rw [← hF]; omega)
      simp only [← hF] at hfst
      have htl : (F.take t).length = t := by rw [List.length_take]; omega
      obtain ⟨m, hm⟩ : ∃ m, n - t = m + 1 := ⟨n - t - 1, by omega⟩
      rw [hm] at HO
      by_cases hlt : t < p
      · have hlt' : (0 : Int) < p - t := by omega
        simp -implicitDefEqProofs (disch := omega) [go_sem, r0, r6, r7, hlt, hlt']
        refine useC (take_ok HO) ?_
        rintro _ h2 ⟨v, rfl, hv, HO2, hfr2⟩
        have hve := Fst.uniq hv hfst
        simp -implicitDefEqProofs (disch := omega) [go_sem, r0, r6, r7]
        have SA2 := SA.fr hfr2 (fun x hx ho => by have := hbA x hx; have := H.low x ho; omega)
        have SA3 := SA2.keep (h' := Array.push _ (.cells #[.int .i64 (v : Int)] 3 (0, 0))) (fun x hx => push_old (SA2.blk_lt hx)) (by rw [push_size]; omega)
        refine build1 rfl rfl ?_
        simp -implicitDefEqProofs (disch := omega) [go_sem]
        refine append1 (v := .int .i64 (v : Int)) SA3 (by rw [nums_len]; exact htl.symm) (by rw [hcell_push_new]; rfl) rfl (by omega) (by omega) ?_
        intro A' c' h3 S3 hfr3 hA3
        rw [nums_put] at S3
        have hz := hfr.size
        have hz2 := hfr2.size
        have htk : F.take t ++ [v] = F.take (t + 1) := by rw [hve]; exact (List.take_succ_eq_append_getElem (by omega)).symm
        rw [htk] at S3
        have HO3 := HO2.fr ((Fr.refl (blk Aa) h2).push.trans hfr3) (fun x hx hb => by have := hbA x hb; have := H.low x hx; omega)
        simp -implicitDefEqProofs (disch := omega) [go_sem, r0, r6, r7]
        refine ⟨⟨t + 1, by omega, A', c', ⟨rfl, rfl, rfl⟩, by omega, S3, fun x hx => (hA3 x hx).elim (hbA x) (fun h => by rw [push_size] at h; omega), ?_, ?_⟩, by omega⟩
        · have e : n - (t + 1) = m := by omega
          rw [e]
          refine HO3.cong fun u => ?_
          rw [← htk, List.mem_append, List.mem_singleton]
          constructor
          · exact fun ⟨⟨h1, h2⟩, h3⟩ => ⟨h1, fun h => h.elim h2 h3⟩
          · exact fun ⟨h1, h2⟩ => ⟨⟨h1, fun h => h2 (.inl h)⟩, fun h => h2 (.inr h)⟩
        · exact (hfr.trans hfr2).trans' ((Fr.refl (blk Aa) h2).push.trans hfr3) (fun x hx hb => by have := hbA x hb; omega)
      · have hte : t = p := by omega
        subst hte
        simp -implicitDefEqProofs (disch := omega) [go_sem, r0, r6, r7, hlt]
        refine useC (take_ok HO) ?_
        rintro _ h2 ⟨v, rfl, hv, HO2, hfr2⟩
        have hve := Fst.uniq hv hfst
        simp -implicitDefEqProofs (disch := omega) [go_sem, r0, r6, r7]
        have hz := hfr.size
        have hz2 := hfr2.size
        have SA2 := SA.fr hfr2 (fun x hx ho => by have := hbA x hx; have := H.low x ho; omega)
        refine loopK (fun ρ h' => ρ 0 = .pointer (some ⟨b, 0, none⟩) ∧ ρ 4 = .int .i64 v ∧ ρ 32 = .slice Aa t ca ∧ ρ 33 = .int .i64 t ∧ ∃ (i : Nat) (O' : Nat → Prop), ρ 34 = .int .i64 i ∧ i ≤ t ∧
          HeapOk h' b O' vars (m + i) act (fun u => S u ∧ u ≠ v ∧ u ∉ (F.take t).drop i) ∧ Nx O O' h2 h') (fun ρ _ => t - (intOf (ρ 34)).toNat) (by kernel_rfl) ?_ ?_
        · refine ⟨r0, rfl, rfl, rfl, 0, O, rfl, by omega, HO2.cong fun u => ?_, ⟨Fr.refl _ _, fun x hx => .inl hx⟩⟩
          simp only [List.drop_zero]
          exact ⟨fun h => ⟨h.1.1, h.2, h.1.2⟩, fun h => ⟨⟨h.1, h.2.2⟩, h.2.1⟩⟩
        · rintro ρ h3 ⟨q0, q4, q32, q33, i, O', q34, hit, HO3, nx⟩
          by_cases hi : i = t
          · subst hi
            simp -implicitDefEqProofs (disch := omega) [go_sem, q0, q4, q32, q33, q34]
            refine ⟨v, rfl, by omega, ?_, O', ?_, ?_⟩
            · rw [hve]
            · have e : n - 1 = m + i := by omega
              rw [e]
              refine HO3.cong fun u => ?_
              rw [List.drop_of_length_le (by omega)]
              exact ⟨fun h => ⟨h.1, h.2.1⟩, fun h => ⟨h.1, h.2, List.not_mem_nil⟩⟩
            · exact Nx.trans (O' := O) ⟨hfr.trans hfr2, fun x hx => .inl hx⟩ nx
          · have hil : (i : Int) < t := by omega
            have hiF : i < F.length := by omega
            have SA3 := SA2.fr nx.fr (fun x hx ho => by have := hbA x hx; have := H.low x ho; omega)
            obtain ⟨bk, rfl, _, _, hcl⟩ := SA3.base (by rw [nums_len, htl]; omega)
            have ci := hcl i _ (nums_at (by omega))
            rw [List.getElem_take] at ci
            obtain ⟨y, hy⟩ : ∃ y, y = F[i] := ⟨_, rfl⟩
            rw [← hy] at ci
            simp -implicitDefEqProofs (disch := omega) [go_sem, q0, q4, q32, q33, q34, hil, ci]
            have hyS := (mem_front hS).1 (show y ∈ front act S vars by rw [hy, ← hF]; exact List.getElem_mem hiF)
            have hdr : (F.take t).drop i = y :: (F.take t).drop (i + 1) := by
              rw [List.drop_eq_getElem_cons (by omega), List.getElem_take, ← hy]
            refine useC (put_ok HO3 y) ?_
            rintro _ h4 (⟨v', hv', rfl, _, _, _, O'', HO4, nx4⟩ | ⟨hbad, _, _⟩)
            · have hv'' : v' = y := by omega
              subst hv''
              simp -implicitDefEqProofs (disch := omega) [go_sem, q0, q4, q32, q33, q34]
              refine ⟨⟨i + 1, by omega, by omega, O'', ?_, nx.trans nx4⟩, by omega⟩
              refine HO4.cong fun u => ?_
              rw [hdr, List.mem_cons]
              have hyd : v' ∉ (F.take t).drop (i + 1) := by
                have hnd := (front_nodup (act := act) (S := S) (vars := vars))
                rw [← hF] at hnd
                have := ((hnd.sublist (List.take_sublist t F)).sublist (List.drop_sublist i _))
                rw [hdr, List.nodup_cons] at this
                exact this.1
              have hyv : v' ≠ v := by
                rw [hy, hve]
                intro e
                have hlt := front_lt (act := act) (S := S) (vars := vars)
                rw [← hF] at hlt
                have := List.pairwise_iff_getElem.1 hlt i t hiF (by omega) (by omega)
                omega
              constructor
              · rintro (⟨h1, h2, h3⟩ | rfl)
                · exact ⟨h1, h2, fun h => h3 (.inr h)⟩
                · exact ⟨hyS.1, hyv, hyd⟩
              · rintro ⟨h1, h2, h3⟩
                by_cases e : u = v'
                · exact .inr e
                · exact .inl ⟨h1, h2, fun h => h.elim e h3⟩
            · exfalso
              have := hS y hyS.1
              rcases hbad with h | h
              · omega
              · rw [Int.toNat_natCast, hdr] at h
                exact h.2.2 (List.mem_cons_self ..)

theorem new_ok (x : Int) : CallsH Tryz.prog 86 [.int .i64 x] h fun r h' =>
    (¬ (0 ≤ x ∧ x ≤ 16777216) ∧ r = .pointer none ∧ h' = h) ∨
    (∃ vars : Nat, x = vars ∧ vars ≤ 16777216 ∧ r = .pointer (some ⟨h.size, 0, none⟩) ∧ ∃ O, HeapOk h' h.size O vars vars (fun _ => 0) (fun v => 1 ≤ v ∧ v ≤ vars) ∧ Nx (fun _ => False) O h h') := by
  refine calls_of 51 [.tmp 2] Go.Proofs.Tryz.func86 rfl rfl rfl (by kernel_rfl) (Nat.le_of_ble_eq_true rfl) ?_
  by_cases hx0 : x < 0
  · simp -implicitDefEqProofs (disch := omega) [go_sem, hx0]
    omega
  by_cases hx1 : 16777216 < x
  · simp -implicitDefEqProofs (disch := omega) [go_sem, hx0, hx1]
  obtain ⟨vars, rfl⟩ : ∃ v : Nat, x = v := ⟨x.toNat, by omega⟩
  simp -implicitDefEqProofs (disch := omega) [go_sem, hx0, hx1]
  refine loopK (fun ρ h' => ρ 0 = .int .i64 vars ∧ ρ 3 = .pointer (some ⟨h.size, 0, none⟩) ∧ ρ 15 = .int .i64 ((vars : Int) + 1) ∧ ∃ (j : Nat) (A0 A2 : Option Addr) (c0 c2 : Nat), ρ 16 = .int .i64 j ∧ j ≤ vars + 1 ∧
    hcell h' ⟨h.size, 0, none⟩ = some (.slice A0 j c0) ∧ hcell h' ⟨h.size, 1, none⟩ = some (.slice none 0 0) ∧ hcell h' ⟨h.size, 2, none⟩ = some (.slice A2 j c2) ∧ (∀ o, hfrz h' ⟨h.size, o, none⟩ = false) ∧
    SlAt h' A0 c0 ((List.range j).map fun (v : Nat) => .complex .f64 (Fx.enc 0) (Fx.enc (-(v : Int)))) ∧ SlAt h' A2 c2 ((List.range j).map fun (v : Nat) => .int .i64 (-1)) ∧
    (∀ x, blk A0 x → h.size < x) ∧ (∀ x, blk A2 x → h.size < x) ∧ (∀ x, blk A0 x → ¬ blk A2 x) ∧ Fr (fun _ => False) h h') (fun ρ _ => vars + 1 - (intOf (ρ 16)).toNat) (by kernel_rfl) ?_ ?_
  · refine ⟨rfl, rfl, rfl, 0, none, none, 0, 0, rfl, by omega, by simp [hcell], by simp [hcell], by simp [hcell], fun o => hfrz_push_new, SlAt.nil _, SlAt.nil _, fun x ⟨a, h, _⟩ => (nomatch h), fun x ⟨a, h, _⟩ => (nomatch h), fun x ⟨a, h, _⟩ => (nomatch h), (Fr.refl _ _).push⟩
  · rintro ρ h1 ⟨r0, r3, r15, j, A0, A2, c0, c2, r16, hj, k0, k1, k2, kf, S0, S2, b0, b2, b02, hfr⟩
    by_cases hjn : j = vars + 1
    · subst hjn
      simp -implicitDefEqProofs (disch := omega) [go_sem, r0, r3, r15, r16]
      have zz := hcell_lt k0
      obtain ⟨kb, rfl, tk, fk, ck⟩ := S0.base (by simp)
      obtain ⟨pb, rfl, tp, fp, cp⟩ := S2.base (by simp)
      have ek := b0 kb ⟨_, rfl, rfl⟩
      have ep := b2 pb ⟨_, rfl, rfl⟩
      have ekp : kb ≠ pb := fun e => b02 kb ⟨_, rfl, rfl⟩ ⟨_, rfl, e.symm⟩
      have H1 : HeapAt h1 h.size kb h1.size pb vars 0 c0 0 c2 none (fun _ => 0) (fun _ => 0) (fun _ => -1) := {
        s0 := k0
        s1 := k1
        s2 := k2
        ck := fun v hv => ck v _ (by rw [List.getElem?_map, List.getElem?_range (by omega)]; rfl)
        cl := fun i hi => by omega
        cp := fun v hv => cp v _ (by rw [List.getElem?_map, List.getElem?_range (by omega)]; rfl)
        lr := fun i hi => by omega
        ll := fun e => (nomatch e)
        fb := kf
        fk := fk
        fl := fun o => hfrz_ge (Nat.le_refl _)
        fp := fp
        bk := by omega
        bl := by omega
        bp := by omega
        kl := by omega
        kp := ekp
        lp := by omega
        hA0 := .inl ⟨rfl, rfl⟩
        hnc := Nat.le_refl _
        hv := by omega
        hn := by omega }
      have HO : HeapOk h1 h.size (fun x => x = h.size ∨ x = kb ∨ x = pb) vars 0 (fun _ => 0) (fun _ => False) :=
        ⟨⟨kb, h1.size, pb, c0, 0, c2, none, _, _, H1, ⟨fun i hi => by omega, fun i hi => by omega, fun i hi => by omega, fun v _ _ => .inl rfl⟩, fun j _ hj => by omega, fun v => ⟨fun ⟨i, hi, _⟩ => by omega, False.elim⟩, .inl rfl, .inr (.inl rfl), .inr (.inr rfl), fun x ⟨a, h, _⟩ => (nomatch h)⟩,
          fun v hv => ⟨by omega, by omega⟩, fun x hx => by omega⟩
      have nx0 : Nx (fun _ => False) (fun x => x = h.size ∨ x = kb ∨ x = pb) h h1 := ⟨hfr, fun x hx => .inr (by omega)⟩
      refine loopK (fun ρ h' => ρ 0 = .int .i64 vars ∧ ρ 3 = .pointer (some ⟨h.size, 0, none⟩) ∧ ∃ (v : Nat) (O : Nat → Prop), ρ 5 = .int .i64 ((v : Int) + 1) ∧ v ≤ vars ∧ HeapOk h' h.size O vars v (fun _ => 0) (fun u => 1 ≤ u ∧ u ≤ v) ∧ Nx (fun _ => False) O h h')
        (fun ρ _ => vars + 1 - (intOf (ρ 5)).toNat) (by kernel_rfl) ?_ ?_
      · exact ⟨r0, r3, 0, _, rfl, by omega, HO.cong fun v => ⟨False.elim, fun h => by omega⟩, nx0⟩
      · rintro ρ h2 ⟨q0, q3, v, O, q5, hv, HO, nx⟩
        by_cases hvn : v = vars
        · subst hvn
          have hq : ¬ ((v : Int) + 1 ≤ v) := by omega
          simp -implicitDefEqProofs (disch := omega) [go_sem, q0, q3, q5, hq]
          exact ⟨v, rfl, by omega, O, HO, nx⟩
        · have hvl : (v : Int) + 1 ≤ vars := by omega
          simp -implicitDefEqProofs (disch := omega) [go_sem, q0, q3, q5, hvl]
          refine useC (put_ok HO _) ?_
          rintro _ h3 (⟨v', hv', rfl, _, _, _, O', HO', nx'⟩ | ⟨hbad, _, _⟩)
          · simp -implicitDefEqProofs (disch := omega) [go_sem, q0, q3, q5]
            obtain rfl : v' = v + 1 := by omega
            exact ⟨⟨v + 1, by omega, by omega, O', HO'.cong fun u => by omega, nx.trans nx'⟩, by omega⟩
          · exfalso
            rcases hbad with h | h
            · omega
            · omega
    · have hjl : (j : Int) < vars + 1 := by omega
      simp -implicitDefEqProofs (disch := omega) [go_sem, r0, r3, r15, r16, hjl, k0, k1, k2, kf]
      refine build1 rfl rfl ?_
      simp -implicitDefEqProofs (disch := omega) [go_sem]
      have t1 : h.size < h1.size := hcell_lt k0
      have nb0 : ¬ blk A0 h.size := fun hb => by have := b0 _ hb; omega
      have nb2 : ¬ blk A2 h.size := fun hb => by have := b2 _ hb; omega
      have S0' := S0.keep (h' := Array.push _ (.cells #[.complex .f64 (Fx.enc 0) (Fx.enc (-(j : Int)))] 108 (0, 0))) (fun x hx => push_old (S0.blk_lt hx)) (by rw [push_size]; omega)
      refine append1 (v := .complex .f64 (Fx.enc 0) (Fx.enc (-(j : Int)))) S0' (by simp) (by rw [hcell_push_new]; rfl) rfl (by omega) (by omega) ?_
      intro A0' c0' h2 T0 f2 own0
      rw [← List.map_singleton (f := fun (v : Nat) => Value.complex .f64 (Fx.enc 0) (Fx.enc (-(v : Int)))), ← List.map_append, ← List.range_succ] at T0
      have f12 := (Fr.refl (blk A0) h1).push.trans f2
      have g1 : ∀ o, hcell h2 ⟨h.size, o, none⟩ = hcell h1 ⟨h.size, o, none⟩ := fun o => f12.cell t1 nb0
      have g2 : ∀ o, hfrz h2 ⟨h.size, o, none⟩ = hfrz h1 ⟨h.size, o, none⟩ := fun o => f12.frz t1 nb0
      have own0' : ∀ x, blk A0' x → blk A0 x ∨ h1.size ≤ x := fun x hx => (own0 x hx).imp id (fun h => by rw [push_size] at h; omega)
      have nb0' : ¬ blk A0' h.size := fun hb => (own0' _ hb).elim nb0 (by omega)
      have z2 := f12.size
      simp -implicitDefEqProofs (disch := omega) [go_sem, g1, g2, k0, k1, k2, kf, r0, r3, r15, r16]
      refine build1 rfl rfl ?_
      simp -implicitDefEqProofs (disch := omega) [go_sem]
      obtain ⟨hA, ehA⟩ : ∃ hA, hA = hset h2 ⟨h.size, 0, none⟩ (.slice A0' (j + 1) c0') := ⟨_, rfl⟩
      have fA : Fr (fun x => blk A0 x ∨ x = h.size) h1 hA := by rw [ehA]; exact (f12.mono fun x _ h => .inl h).set (.inr rfl)
      have T2 : SlAt hA A2 c2 _ := S2.fr fA (fun x hx hb => hb.elim (fun h => b02 x h hx) (fun h => by subst h; exact nb2 hx))
      have T0A : SlAt hA A0' c0' _ := T0.fr (S := fun x => x = h.size) (by rw [ehA]; exact (Fr.refl _ _).set rfl) (fun x hx e => by subst e; exact nb0' hx)
      rw [← ehA]
      have T2' := T2.keep (h' := Array.push _ (.cells #[.int .i64 (-1)] 3 (0, 0))) (fun x hx => push_old (T2.blk_lt hx)) (by rw [push_size]; omega)
      refine append1 (v := .int .i64 (-1)) T2' (by simp) (by rw [show h2.size = hA.size by rw [ehA, hset_size], hcell_push_new]; rfl) rfl (by omega) (by omega) ?_
      intro A2' c2' h3 U2 f3 own2
      rw [← List.map_singleton (f := fun (v : Nat) => Value.int .i64 (-1)) (a := j), ← List.map_append, ← List.range_succ] at U2
      have fA3 := (Fr.refl (blk A2) hA).push.trans f3
      have zA : hA.size = h2.size := by rw [ehA, hset_size]
      have g3 : ∀ o, hcell h3 ⟨h.size, o, none⟩ = hcell hA ⟨h.size, o, none⟩ := fun o => fA3.cell (by omega) nb2
      have g4 : ∀ o, hfrz h3 ⟨h.size, o, none⟩ = hfrz hA ⟨h.size, o, none⟩ := fun o => fA3.frz (by omega) nb2
      have g5 : hcell hA ⟨h.size, 0, none⟩ = some (.slice A0' (j + 1) c0') := by rw [ehA, hcell_hset, if_pos ⟨rfl, rfl⟩, g1, k0]; rfl
      have g6 : hcell hA ⟨h.size, 1, none⟩ = some (.slice none 0 0) := by rw [ehA, hcell_hset, if_neg (fun e => absurd e.2 (by decide)), g1, k1]
      have g7 : hcell hA ⟨h.size, 2, none⟩ = some (.slice A2 j c2) := by rw [ehA, hcell_hset, if_neg (fun e => absurd e.2 (by decide)), g1, k2]
      have g8 : ∀ o, hfrz hA ⟨h.size, o, none⟩ = false := fun o => by rw [ehA, hfrz_hset, g2, kf]
      simp -implicitDefEqProofs (disch := omega) [go_sem, g3, g4, g5, g6, g7, g8, r0, r3, r15, r16]
      have own2' : ∀ x, blk A2' x → blk A2 x ∨ h2.size ≤ x := fun x hx => (own2 x hx).imp id (fun h => by rw [push_size] at h; omega)
      have d02 : ∀ x, blk A0' x → ¬ blk A2 x := fun x hx h2 => (own0' x hx).elim (fun h => b02 x h h2) (fun h => by have := S2.blk_lt h2; omega)
      have T0B := (T0A.fr fA3 d02).fr (S := fun x => x = h.size) ((Fr.refl _ _).set (ad := ⟨h.size, 2, none⟩) (v := .slice A2' (j + 1) c2') rfl) (fun x hx e => by subst e; exact nb0' hx)
      have nb2' : ¬ blk A2' h.size := fun hb => (own2' _ hb).elim nb2 (by omega)
      have U2B := U2.fr (S := fun x => x = h.size) ((Fr.refl _ _).set (ad := ⟨h.size, 2, none⟩) (v := .slice A2' (j + 1) c2') rfl) (fun x hx e => by subst e; exact nb2' hx)
      refine ⟨⟨j + 1, by omega, by omega, A0', A2', c0', ⟨rfl, rfl, rfl⟩, c2', ⟨rfl, rfl, rfl⟩, T0B, U2B, fun x hx => (own0' x hx).elim (b0 x) (by omega), fun x hx => (own2' x hx).elim (b2 x) (by omega), fun x hx h2 => ?_, ?_⟩, by omega⟩
      · exact (own2' x h2).elim (d02 x hx) (fun h => by have := T0.blk_lt hx; omega)
      · have e1 := hfr.trans' fA (fun x hx h => by rcases h with h | h; have := b0 x h; omega; omega)
        have e2 := e1.trans' fA3 (fun x hx h => by have := b2 x h; omega)
        exact e2.new (by simp)
end
end Xe.Hq

/- Package cdcl: a core's memory. -/
namespace Xe
open Go Tp Go.Proofs Hq
set_option maxRecDepth 16000

/-- whose a block is -/
inductive CT
  | base | heap | core | lrn | log | row
theorem recoC {α : Type} {c : Nat → Option α} {sz : Nat} (N : Nat → Prop) (t : α) (hN : ∀ x, N x → c x = some t ∨ sz ≤ x) (low : ∀ x u, c x = some u → x < sz) :
    ∃ c' : Nat → Option α, (∀ x, N x → c' x = some t) ∧ (∀ x u, c x = some u → c' x = some u) ∧ (∀ x u, c' x = some u → c x = some u ∨ (N x ∧ sz ≤ x)) := by
  classical
  refine ⟨fun x => if N x then some t else c x, fun x hx => if_pos hx, fun x u hx => ?_, fun x u hx => ?_⟩
  · by_cases h : N x
    · rcases hN x h with h1 | h1
      · simp only [if_pos h]; rw [← h1, hx]
      · have := low x u hx; omega
    · simp only [if_neg h]; exact hx
  · by_cases h : N x
    · rcases hN x h with h1 | h1
      · simp only [if_pos h] at hx; exact .inl (h1.trans hx)
      · exact .inr ⟨h, h1⟩
    · simp only [if_neg h] at hx; exact .inl hx

/-- a core's state: its base, who is in its heap, what was learned and is there, its log, its steps -/
structure CSt where
  s : WS
  S : Nat → Prop
  ln : List Nat
  lg : List (List Int × Bool)
  st : Nat
/-- a log, in memory -/
structure LogR (h : Heap) (k : Nat → Option CT) (lg : List (List Int × Bool)) (vs : List Value) : Prop where
  len : vs.length = lg.length * 2
  one : ∀ w ∈ vs, w.oneCell' = true
  at' : ∀ (i : Nat) c g, lg[i]? = some (c, g) → ∃ A d, vs[i * 2]? = some (.slice A c.length d) ∧ vs[i * 2 + 1]? = some (.bool g) ∧ RowAt h A (ints c) ∧ ∀ y, blk A y → k y = some .row
structure CoreB (h : Heap) (cb : Nat) (k : Nat → Option CT) (c : CSt) (bb hb : Nat) (p : BP) (O : Nat → Prop) (n : Nat) (act : Nat → Int) (LA : Option Addr) (lc : Nat) (GA : Option Addr) (gc : Nat) (vs : List Value) : Prop where
  B : ListB h cb [.pointer (some ⟨bb, 0, none⟩), .pointer (some ⟨hb, 0, none⟩), .slice LA c.ln.length lc, .slice GA c.lg.length gc, .int .i64 (c.st : Int)]
  M : BaseM h bb p c.s
  H : HeapOk h hb O c.s.vars n act c.S
  L : SlAt h LA lc (ids c.ln)
  G : SlAt h GA (gc * 2) vs
  R : LogR h k c.lg vs
  kB : ∀ x t, p.c x = some t → k x = some .base
  kH : ∀ x, O x → k x = some .heap
  kC : k cb = some .core
  kL : ∀ x, blk LA x → k x = some .lrn
  kG : ∀ x, blk GA x → k x = some .log
  low : ∀ x t, k x = some t → x < h.size
structure CoreM (h : Heap) (cb : Nat) (k : Nat → Option CT) (c : CSt) : Prop where
  ex : ∃ bb hb p O n act LA lc GA gc vs, CoreB h cb k c bb hb p O n act LA lc GA gc vs
/-- from one time to a later one -/
structure KSt (k k' : Nat → Option CT) (h h' : Heap) : Prop where
  ext : ∀ x t, k x = some t → k' x = some t
  own : ∀ x t, k' x = some t → k x = some t ∨ h.size ≤ x
  fr : Fr (fun x => k x ≠ none) h h'
section
variable {k k' k'' : Nat → Option CT} {h h' h'' : Heap}
theorem KSt.refl : KSt k k h h := ⟨fun _ _ h => h, fun _ _ h => .inl h, Fr.refl _ _⟩
theorem KSt.trans (a : KSt k k' h h') (b : KSt k' k'' h' h'') : KSt k k'' h h'' where
  ext x t hx := b.ext x t (a.ext x t hx)
  own x t hx := (b.own x t hx).elim (a.own x t) fun h => .inr (Nat.le_trans a.fr.size h)
  fr := a.fr.trans' b.fr fun x hx hn => by
    cases hc : k' x with
    | none => exact absurd hc hn
    | some t => exact (a.own x t hc).elim (fun h => by rw [h]; exact fun h => (nomatch h)) fun h => by omega
theorem KSt.fr0 (f : Fr (fun _ => False) h h') : KSt k k h h' := ⟨fun _ _ h => h, fun _ _ h => .inl h, f.mono fun _ _ h => h.elim⟩
theorem KSt.free (a : KSt k k' h h') {x : Nat} (hx : k x = none) (hl : x < h.size) : k' x = none := by
  cases hc : k' x with
  | none => rfl
  | some t => exact (a.own x t hc).elim (fun h => by rw [hx] at h; cases h) fun h => by omega
theorem KSt.row (a : KSt k k' h h') {A : Option Addr} {vs : List Value} (R : RowAt h A vs) (hA : ∀ y, blk A y → k y = none) : RowAt h' A vs := R.fr a.fr fun y hy h => h (hA y hy)
theorem KSt.lb (a : KSt k k' h h') {b : Nat} {vs : List Value} (B : ListB h b vs) (hA : k b = none) : ListB h' b vs := B.fr a.fr fun h => h hA
end

theorem LogR.fr {h : Heap} {k : Nat → Option CT} {lg : List (List Int × Bool)} {vs : List Value} (R : LogR h k lg vs) {S : Nat → Prop} {h' : Heap} (f : Fr S h h') (hs : ∀ x, S x → k x ≠ some .row) {k' : Nat → Option CT} (ext : ∀ x t, k x = some t → k' x = some t) : LogR h' k' lg vs where
  len := R.len
  one := R.one
  at' i c g hi := by
    obtain ⟨A, d, h1, h2, h3, h4⟩ := R.at' i c g hi
    exact ⟨A, d, h1, h2, h3.fr f fun x hx hsx => hs x hsx (h4 x hx), fun y hy => ext y _ (h4 y hy)⟩

section
variable {h : Heap} {cb : Nat} {k : Nat → Option CT} {c : CSt} {bb hb : Nat} {p : BP} {O : Nat → Prop} {n : Nat} {act : Nat → Int} {LA : Option Addr} {lc : Nat} {GA : Option Addr} {gc : Nat} {vs : List Value}
theorem CoreB.fr0 (C : CoreB h cb k c bb hb p O n act LA lc GA gc vs) {h' : Heap} (f : Fr (fun _ => False) h h') : CoreB h' cb k c bb hb p O n act LA lc GA gc vs where
  B := C.B.fr f fun h => h
  M := C.M.fr0 f
  H := C.H.fr f fun _ _ h => h
  L := C.L.fr f fun _ _ h => h
  G := C.G.fr f fun _ _ h => h
  R := C.R.fr f (fun _ h => h.elim) fun _ _ h => h
  kB := C.kB
  kH := C.kH
  kC := C.kC
  kL := C.kL
  kG := C.kG
  low x t hx := Nat.lt_of_lt_of_le (C.low x t hx) f.size
theorem CoreM.fr0 (C : CoreM h cb k c) {h' : Heap} (f : Fr (fun _ => False) h h') : CoreM h' cb k c := by
  obtain ⟨bb, hb, p, O, n, act, LA, lc, GA, gc, vs, C⟩ := C.ex
  exact ⟨bb, hb, p, O, n, act, LA, lc, GA, gc, vs, C.fr0 f⟩
theorem CoreM.low (C : CoreM h cb k c) : ∀ x t, k x = some t → x < h.size := by
  obtain ⟨bb, hb, p, O, n, act, LA, lc, GA, gc, vs, C⟩ := C.ex
  exact C.low
/-- the base comes to be another one -/
theorem CoreB.base (C : CoreB h cb k c bb hb p O n act LA lc GA gc vs) {h' : Heap} {p' : BP} {s' : WS} (M' : BaseM h' bb p' s') (st : Stp p p' h h') (hv : s'.vars = c.s.vars) :
    ∃ k', CoreB h' cb k' { c with s := s' } bb hb p' O n act LA lc GA gc vs ∧ KSt k k' h h' := by
  obtain ⟨k', h1, h2, h3⟩ := recoC (c := k) (sz := h.size) (fun x => p'.c x ≠ none) .base (fun x hx => by
    cases hc : p'.c x with
    | none => exact absurd hc hx
    | some t => exact (st.own x t hc).imp_left fun h => C.kB x t h) C.low
  have ne : ∀ {x : Nat} {t : CT}, k x = some t → t ≠ .base → ¬ p.c x ≠ none := fun {x t} hk ht hp => by
    cases hc : p.c x with
    | none => exact hp hc
    | some u => have := C.kB x u hc; rw [hk] at this; cases this; exact ht rfl
  refine ⟨k', {
    B := C.B.fr st.fr (ne C.kC (fun h => nomatch h))
    M := M'
    H := by
      have := C.H.fr st.fr fun x hx => ne (C.kH x hx) (fun h => nomatch h)
      rw [← hv] at this
      exact this
    L := C.L.fr st.fr fun x hx => ne (C.kL x hx) (fun h => nomatch h)
    G := C.G.fr st.fr fun x hx => ne (C.kG x hx) (fun h => nomatch h)
    R := C.R.fr st.fr (fun x hx hr => ne hr (fun h => nomatch h) hx) h2
    kB := fun x t hx => h1 x (by rw [hx]; exact fun h => nomatch h)
    kH := fun x hx => h2 x _ (C.kH x hx)
    kC := h2 _ _ C.kC
    kL := fun x hx => h2 x _ (C.kL x hx)
    kG := fun x hx => h2 x _ (C.kG x hx)
    low := fun x t hx => by
      rcases h3 x t hx with h | ⟨h, _⟩
      · exact Nat.lt_of_lt_of_le (C.low x t h) st.fr.size
      · cases hc : p'.c x with
        | none => exact absurd hc h
        | some u => exact M'.low x u hc }, h2, fun x t hx => (h3 x t hx).imp_right fun h => h.2, st.fr.mono fun x _ hx => ?_⟩
  cases hc : p.c x with
  | none => exact absurd hc hx
  | some u => rw [C.kB x u hc]; exact fun h => nomatch h
/-- the heap comes to be another one -/
theorem CoreB.heap (C : CoreB h cb k c bb hb p O n act LA lc GA gc vs) {h' : Heap} {O' : Nat → Prop} {n' : Nat} {act' : Nat → Int} {S' : Nat → Prop} (H' : HeapOk h' hb O' c.s.vars n' act' S') (nx : Nx O O' h h') :
    ∃ k', CoreB h' cb k' { c with S := S' } bb hb p O' n' act' LA lc GA gc vs ∧ KSt k k' h h' := by
  obtain ⟨k', h1, h2, h3⟩ := recoC (c := k) (sz := h.size) O' .heap (fun x hx => (nx.own x hx).imp_left (C.kH x)) C.low
  have ne : ∀ {x : Nat} {t : CT}, k x = some t → t ≠ .heap → ¬ O x := fun {x t} hk ht ho => by
    have := C.kH x ho; rw [hk] at this; cases this; exact ht rfl
  refine ⟨k', {
    B := C.B.fr nx.fr (ne C.kC (fun h => nomatch h))
    M := C.M.fr nx.fr fun x hx => by
      cases hc : p.c x with
      | none => rfl
      | some t => exact absurd hx (ne (C.kB x t hc) (fun h => nomatch h))
    H := H'
    L := C.L.fr nx.fr fun x hx => ne (C.kL x hx) (fun h => nomatch h)
    G := C.G.fr nx.fr fun x hx => ne (C.kG x hx) (fun h => nomatch h)
    R := C.R.fr nx.fr (fun x hx hr => ne hr (fun h => nomatch h) hx) h2
    kB := fun x t hx => h2 x _ (C.kB x t hx)
    kH := h1
    kC := h2 _ _ C.kC
    kL := fun x hx => h2 x _ (C.kL x hx)
    kG := fun x hx => h2 x _ (C.kG x hx)
    low := fun x t hx => by
      rcases h3 x t hx with h | ⟨h, _⟩
      · exact Nat.lt_of_lt_of_le (C.low x t h) nx.fr.size
      · exact H'.low x h }, h2, fun x t hx => (h3 x t hx).imp_right fun h => h.2, nx.fr.mono fun x _ hx => by rw [C.kH x hx]; exact fun h => nomatch h⟩
/-- its steps -/
theorem CoreB.steps (C : CoreB h cb k c bb hb p O n act LA lc GA gc vs) (st : Nat) : CoreB (hset h ⟨cb, 4, none⟩ (.int .i64 (st : Int))) cb k { c with st := st } bb hb p O n act LA lc GA gc vs ∧ KSt k k h (hset h ⟨cb, 4, none⟩ (.int .i64 (st : Int))) := by
  have f : Fr (fun x => x = cb) h (hset h ⟨cb, 4, none⟩ (.int .i64 (st : Int))) := (Fr.refl _ _).set rfl
  have ne : ∀ {x : Nat} {t : CT}, k x = some t → t ≠ .core → ¬ x = cb := fun {x t} hk ht e => by
    subst e; have := C.kC; rw [hk] at this; cases this; exact ht rfl
  refine ⟨{
    B := by
      have := C.B.set (i := 4) (.int .i64 (st : Int)) (by simp)
      simpa using this
    M := C.M.fr f fun x hx => by
      cases hc : p.c x with
      | none => rfl
      | some t => exact absurd hx (ne (C.kB x t hc) (fun h => nomatch h))
    H := C.H.fr f fun x hx => ne (C.kH x hx) (fun h => nomatch h)
    L := C.L.fr f fun x hx => ne (C.kL x hx) (fun h => nomatch h)
    G := C.G.fr f fun x hx => ne (C.kG x hx) (fun h => nomatch h)
    R := C.R.fr f (fun x hx hr => ne hr (fun h => nomatch h) hx) fun _ _ h => h
    kB := C.kB
    kH := C.kH
    kC := C.kC
    kL := C.kL
    kG := C.kG
    low := fun x t hx => Nat.lt_of_lt_of_le (C.low x t hx) f.size }, fun _ _ h => h, fun _ _ h => .inl h, f.mono fun x _ hx => by rw [hx, C.kC]; exact fun h => nomatch h⟩
/-- what was learned comes to be another row -/
theorem CoreB.lrn (C : CoreB h cb k c bb hb p O n act LA lc GA gc vs) {h2 : Heap} {LA' : Option Addr} {lc' : Nat} {ln' : List Nat} (f : Fr (blk LA) h h2) (S2 : SlAt h2 LA' lc' (ids ln')) (hA : ∀ y, blk LA' y → blk LA y ∨ h.size ≤ y) :
    ∃ k', CoreB (hset h2 ⟨cb, 2, none⟩ (.slice LA' ln'.length lc')) cb k' { c with ln := ln' } bb hb p O n act LA' lc' GA gc vs ∧ KSt k k' h (hset h2 ⟨cb, 2, none⟩ (.slice LA' ln'.length lc')) := by
  obtain ⟨k', h1, h2', h3⟩ := recoC (c := k) (sz := h.size) (blk LA') .lrn (fun x hx => (hA x hx).imp_left (C.kL x)) C.low
  have g : Fr (fun x => k x = some .lrn ∨ x = cb) h (hset h2 ⟨cb, 2, none⟩ (.slice LA' ln'.length lc')) := (f.mono fun x _ hx => .inl (C.kL x hx)).set (.inr rfl)
  have ne : ∀ {x : Nat} {t : CT}, k x = some t → t ≠ .core → t ≠ .lrn → ¬ (k x = some .lrn ∨ x = cb) := fun {x t} hk h1 h2 e => by
    rcases e with e | e
    · rw [hk] at e; cases e; exact h2 rfl
    · subst e; have := C.kC; rw [hk] at this; cases this; exact h1 rfl
  have ncb : ∀ x, blk LA' x → x ≠ cb := fun x hx e => by
    subst e
    rcases hA _ hx with h | h
    · have := C.kL _ h; rw [C.kC] at this; cases this
    · have := C.low _ _ C.kC; omega
  refine ⟨k', {
    B := by
      have := (C.B.fr f fun h => by have := C.kL _ h; rw [C.kC] at this; cases this).set (i := 2) (.slice LA' ln'.length lc') (by simp)
      simpa using this
    M := C.M.fr g fun x hx => by
      cases hc : p.c x with
      | none => rfl
      | some t => exact absurd hx (ne (C.kB x t hc) (fun h => nomatch h) (fun h => nomatch h))
    H := C.H.fr g fun x hx => ne (C.kH x hx) (fun h => nomatch h) (fun h => nomatch h)
    L := S2.keep (fun y hy => hset_other (ncb y hy)) (by rw [hset_size]; exact Nat.le_refl _)
    G := C.G.fr g fun x hx => ne (C.kG x hx) (fun h => nomatch h) (fun h => nomatch h)
    R := C.R.fr g (fun x hx hr => ne hr (fun h => nomatch h) (fun h => nomatch h) hx) h2'
    kB := fun x t hx => h2' x _ (C.kB x t hx)
    kH := fun x hx => h2' x _ (C.kH x hx)
    kC := h2' _ _ C.kC
    kL := h1
    kG := fun x hx => h2' x _ (C.kG x hx)
    low := fun x t hx => by
      rcases h3 x t hx with h | ⟨h, _⟩
      · exact Nat.lt_of_lt_of_le (C.low x t h) g.size
      · rw [hset_size]; exact S2.blk_lt h }, h2', fun x t hx => (h3 x t hx).imp_right fun h => h.2, g.mono fun x _ hx => ?_⟩
  rcases hx with hx | hx
  · rw [hx]; exact fun h => nomatch h
  · rw [hx, C.kC]; exact fun h => nomatch h
/-- its log grows -/
theorem CoreB.log (C : CoreB h cb k c bb hb p O n act LA lc GA gc vs) {h2 : Heap} {GA' A : Option Addr} {gc' d : Nat} {cl : List Int} {g : Bool} (f : Fr (blk GA) h h2) (S2 : SlAt h2 GA' (gc' * 2) (vs ++ [.slice A cl.length d, .bool g])) (hA : ∀ y, blk GA' y → blk GA y ∨ h.size ≤ y)
    (RA : RowAt h A (ints cl)) (hR : ∀ y, blk A y → k y = none ∧ y < h.size) :
    ∃ k', CoreB (hset h2 ⟨cb, 3, none⟩ (.slice GA' (c.lg.length + 1) gc')) cb k' { c with lg := c.lg ++ [(cl, g)] } bb hb p O n act LA lc GA' gc' (vs ++ [.slice A cl.length d, .bool g]) ∧ (∀ x t, k x = some t → k' x = some t) ∧ (∀ x t, k' x = some t → k x = some t ∨ blk A x ∨ h.size ≤ x) ∧ Fr (fun x => k x ≠ none) h (hset h2 ⟨cb, 3, none⟩ (.slice GA' (c.lg.length + 1) gc')) := by
  obtain ⟨k1, h1, h2', h3⟩ := recoC (c := k) (sz := h.size) (blk GA') .log (fun x hx => (hA x hx).imp_left (C.kG x)) C.low
  classical
  obtain ⟨k', ek⟩ : ∃ k' : Nat → Option CT, k' = fun x => if blk A x then some .row else k1 x := ⟨_, rfl⟩
  have ext : ∀ x t, k x = some t → k' x = some t := fun x t hx => by
    rw [ek]; simp only
    rw [if_neg fun h => by have := (hR x h).1; rw [hx] at this; cases this]
    exact h2' x t hx
  have own : ∀ x t, k' x = some t → k x = some t ∨ blk A x ∨ h.size ≤ x := fun x t hx => by
    rw [ek] at hx; simp only at hx
    split at hx
    · exact .inr (.inl (by assumption))
    · exact (h3 x t hx).imp_right fun h => .inr h.2
  have gf : Fr (fun x => k x = some .log ∨ x = cb) h (hset h2 ⟨cb, 3, none⟩ (.slice GA' (c.lg.length + 1) gc')) := (f.mono fun x _ hx => .inl (C.kG x hx)).set (.inr rfl)
  have ne : ∀ {x : Nat} {t : CT}, k x = some t → t ≠ .core → t ≠ .log → ¬ (k x = some .log ∨ x = cb) := fun {x t} hk h1 h2 e => by
    rcases e with e | e
    · rw [hk] at e; cases e; exact h2 rfl
    · subst e; have := C.kC; rw [hk] at this; cases this; exact h1 rfl
  have ncb : ∀ x, blk GA' x → x ≠ cb := fun x hx e => by
    subst e
    rcases hA _ hx with h | h
    · have := C.kG _ h; rw [C.kC] at this; cases this
    · have := C.low _ _ C.kC; omega
  have R1 := C.R.fr gf (fun x hx hr => ne hr (fun h => nomatch h) (fun h => nomatch h) hx) ext
  refine ⟨k', {
    B := by
      have := (C.B.fr f fun h => by have := C.kG _ h; rw [C.kC] at this; cases this).set (i := 3) (.slice GA' (c.lg.length + 1) gc') (by simp)
      have e : (c.lg ++ [(cl, g)]).length = c.lg.length + 1 := by rw [List.length_append]; rfl
      simp only [e]
      simpa using this
    M := C.M.fr gf fun x hx => by
      cases hc : p.c x with
      | none => rfl
      | some t => exact absurd hx (ne (C.kB x t hc) (fun h => nomatch h) (fun h => nomatch h))
    H := C.H.fr gf fun x hx => ne (C.kH x hx) (fun h => nomatch h) (fun h => nomatch h)
    L := C.L.fr gf fun x hx => ne (C.kL x hx) (fun h => nomatch h) (fun h => nomatch h)
    G := S2.keep (fun y hy => hset_other (ncb y hy)) (by rw [hset_size]; exact Nat.le_refl _)
    R := {
      len := by rw [List.length_append, List.length_append, R1.len]; simp only [List.length_cons, List.length_nil]; omega
      one := fun w hw => by
        rcases List.mem_append.1 hw with hw | hw
        · exact R1.one w hw
        · simp only [List.mem_cons, List.not_mem_nil, or_false] at hw
          rcases hw with rfl | rfl <;> rfl
      at' := fun i c' g' hi => by
        have hlen := R1.len
        by_cases hil : i < c.lg.length
        · rw [List.getElem?_append_left hil] at hi
          obtain ⟨A1, d1, g1, g2, g3, g4⟩ := R1.at' i c' g' hi
          exact ⟨A1, d1, by rw [List.getElem?_append_left (by omega)]; exact g1, by rw [List.getElem?_append_left (by omega)]; exact g2, g3, g4⟩
        · have h9 := (List.getElem?_eq_some_iff.1 hi).1
          rw [List.length_append] at h9
          simp only [List.length_singleton] at h9
          obtain rfl : i = c.lg.length := by omega
          rw [List.getElem?_append_right (Nat.le_refl _), Nat.sub_self] at hi
          simp only [List.getElem?_cons_zero, Option.some.injEq, Prod.mk.injEq] at hi
          obtain ⟨rfl, rfl⟩ := hi
          refine ⟨A, d, by rw [List.getElem?_append_right (by omega), show c.lg.length * 2 - vs.length = 0 by omega]; rfl, by rw [List.getElem?_append_right (by omega), show c.lg.length * 2 + 1 - vs.length = 1 by omega]; rfl, RA.fr gf fun x hx hs => ?_, fun y hy => by rw [ek]; exact if_pos hy⟩
          rcases hs with hs | hs
          · rw [(hR x hx).1] at hs; cases hs
          · have := (hR x hx).1; rw [hs, C.kC] at this; cases this }
    kB := fun x t hx => ext x _ (C.kB x t hx)
    kH := fun x hx => ext x _ (C.kH x hx)
    kC := ext _ _ C.kC
    kL := fun x hx => ext x _ (C.kL x hx)
    kG := fun x hx => by
      rw [ek]; simp only
      rw [if_neg fun h => ?_]
      · exact h1 x hx
      · have h5 := hR x h
        rcases hA x hx with h6 | h6
        · have := C.kG x h6; rw [h5.1] at this; cases this
        · omega
    low := fun x t hx => by
      have hz : h.size ≤ h2.size := f.size
      rw [hset_size]
      rw [ek] at hx; simp only at hx
      split at hx
      · rename_i hb; have := (hR x hb).2; omega
      · rcases h3 x t hx with h | ⟨h, _⟩
        · have := C.low x t h; omega
        · exact S2.blk_lt h }, ext, own, gf.mono fun x _ hx => ?_⟩
  rcases hx with hx | hx
  · rw [hx]; exact fun h => nomatch h
  · rw [hx, C.kC]; exact fun h => nomatch h
end
end Xe
