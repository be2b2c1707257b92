/- The walks through package heap, fifth part: a heap as its users see it. -/
import Derived.Test.YtkghjecglmmloaaHp4
namespace Xe
open Go Hp Go.Proofs
set_option maxRecDepth 16000

/-- a heap as its methods leave it: n are in, namely S; its blocks are O's -/
structure HeapOk (h : Heap) (b : Nat) (O : Nat → Prop) (vars n : Nat) (act : Nat → Int) (S : Nat → Prop) : Prop where
  ex : ∃ kb lb pb kc lc pc A l pl, HeapAt h b kb lb pb vars n kc lc pc A act l pl ∧ Wf vars n l pl ∧ Ord act n l ∧ (∀ v, In n l v ↔ S v) ∧ (O b ∧ O kb ∧ O pb ∧ ∀ x, blk A x → O x)
  acts : Acts vars act
  low : ∀ x, O x → x < h.size

/-- what is written lies in O, or is new -/
structure Nx (O O' : Nat → Prop) (h h' : Heap) : Prop where
  fr : Fr O h h'
  own : ∀ x, O' x → O x ∨ h.size ≤ x

theorem Nx.trans {O O' O'' : Nat → Prop} {a b c : Heap} (h1 : Nx O O' a b) (h2 : Nx O' O'' b c) : Nx O O'' a c where
  fr := h1.fr.trans' h2.fr fun x hx h => (h1.own x h).elim id fun h => by omega
  own x h := (h2.own x h).elim (h1.own x) fun h => .inr (Nat.le_trans h1.fr.size h)

section
variable {h : Heap} {b vars n : Nat} {O : Nat → Prop} {act : Nat → Int} {S : Nat → Prop}

theorem HeapAt.fr {kb lb pb kc lc pc : Nat} {A : Option Addr} {l : Nat → Nat} {pl : Nat → Int} (H : HeapAt h b kb lb pb vars n kc lc pc A act l pl) {h' : Heap} {T : Nat → Prop} (f : Fr T h h')
    (hb : ¬ T b) (hk : ¬ T kb) (hp : ¬ T pb) (hA : ∀ x, blk A x → ¬ T x) : ∃ lb', HeapAt h' b kb lb' pb vars n kc lc pc A act l pl ∧ (blk A lb' ∨ h'.size ≤ lb') := by
  obtain ⟨tb, tk, tp⟩ := H.lts
  have z := f.size
  rcases H.hA0 with ⟨rfl, h0⟩ | rfl
  · refine ⟨h'.size, ?_, .inr (Nat.le_refl _)⟩
    have hn0 := H.hnc
    exact { s0 := by rw [f.cell tb hb]; exact H.s0
            s1 := by rw [f.cell tb hb]; exact H.s1
            s2 := by rw [f.cell tb hb]; exact H.s2
            ck := fun v hv => by rw [f.cell tk hk]; exact H.ck v hv
            cl := fun i hi => by omega
            cp := fun v hv => by rw [f.cell tp hp]; exact H.cp v hv
            lr := fun i hi => by omega
            ll := fun e => (nomatch e)
            fb := fun o => by rw [f.frz tb hb]; exact H.fb o
            fk := fun o => by rw [f.frz tk hk]; exact H.fk o
            fl := fun o => hfrz_ge (Nat.le_refl _)
            fp := fun o => by rw [f.frz tp hp]; exact H.fp o
            bk := H.bk
            bl := by omega
            bp := H.bp
            kl := by omega
            kp := H.kp
            lp := by omega
            hA0 := .inl ⟨rfl, h0⟩
            hnc := H.hnc
            hv := H.hv
            hn := H.hn }
  · have tl := H.ll rfl
    have hl := hA lb ⟨_, rfl, rfl⟩
    refine ⟨lb, ?_, .inl ⟨_, rfl, rfl⟩⟩
    exact { s0 := by rw [f.cell tb hb]; exact H.s0
            s1 := by rw [f.cell tb hb]; exact H.s1
            s2 := by rw [f.cell tb hb]; exact H.s2
            ck := fun v hv => by rw [f.cell tk hk]; exact H.ck v hv
            cl := fun i hi => by rw [f.cell tl hl]; exact H.cl i hi
            cp := fun v hv => by rw [f.cell tp hp]; exact H.cp v hv
            lr := fun i hi => by rw [f.cell tl hl]; exact H.lr i hi
            ll := fun e => by omega
            fb := fun o => by rw [f.frz tb hb]; exact H.fb o
            fk := fun o => by rw [f.frz tk hk]; exact H.fk o
            fl := fun o => by rw [f.frz tl hl]; exact H.fl o
            fp := fun o => by rw [f.frz tp hp]; exact H.fp o
            bk := H.bk
            bl := H.bl
            bp := H.bp
            kl := H.kl
            kp := H.kp
            lp := H.lp
            hA0 := .inr rfl
            hnc := H.hnc
            hv := H.hv
            hn := H.hn }

/-- it stands on while its blocks are left alone -/
theorem HeapOk.fr (H : HeapOk h b O vars n act S) {h' : Heap} {T : Nat → Prop} (f : Fr T h h') (hT : ∀ x, O x → ¬ T x) : HeapOk h' b O vars n act S := by
  obtain ⟨kb, lb, pb, kc, lc, pc, A, l, pl, H1, W, Od, hin, hb, hk, hp, hA⟩ := H.ex
  obtain ⟨lb', H2, _⟩ := H1.fr f (hT _ hb) (hT _ hk) (hT _ hp) (fun x hx => hT _ (hA x hx))
  exact ⟨⟨kb, lb', pb, kc, lc, pc, A, l, pl, H2, W, Od, hin, hb, hk, hp, hA⟩, H.acts, fun x hx => Nat.lt_of_lt_of_le (H.low x hx) f.size⟩

theorem HeapOk.own (H : HeapOk h b O vars n act S) : ∃ kb lb pb kc lc pc A l pl, HeapAt h b kb lb pb vars n kc lc pc A act l pl ∧ Wf vars n l pl ∧ Ord act n l ∧ (∀ v, In n l v ↔ S v) ∧ (O b ∧ O kb ∧ O pb ∧ ∀ x, blk A x → O x) ∧ ∀ x, x < h.size → HB b kb lb pb x → O x := by
  obtain ⟨kb, lb, pb, kc, lc, pc, A, l, pl, H1, W, Od, hin, hb, hk, hp, hA⟩ := H.ex
  obtain ⟨lb', H2, h2⟩ := H1.fr (T := fun _ => False) (Fr.refl _ _) id id id (fun _ _ => id)
  refine ⟨kb, lb', pb, kc, lc, pc, A, l, pl, H2, W, Od, hin, ⟨hb, hk, hp, hA⟩, fun x hx h => ?_⟩
  rcases h with rfl | rfl | rfl | rfl
  · exact hb
  · exact hk
  · exact h2.elim (hA _) (fun h => by omega)
  · exact hp

theorem HeapOk.vars_le (H : HeapOk h b O vars n act S) : vars ≤ 16777216 := by obtain ⟨_, _, _, _, _, _, _, _, _, H1, _⟩ := H.ex; exact H1.hv
theorem HeapOk.n_le (H : HeapOk h b O vars n act S) : n ≤ vars := by obtain ⟨_, _, _, _, _, _, _, _, _, H1, _⟩ := H.ex; exact H1.hn
theorem HeapOk.range (H : HeapOk h b O vars n act S) {v : Nat} (hv : S v) : 1 ≤ v ∧ v ≤ vars := by
  obtain ⟨_, _, _, _, _, _, _, _, _, H1, W, _, hin, _⟩ := H.ex
  obtain ⟨i, hi, rfl⟩ := (hin v).2 hv
  exact ⟨W.low i hi, W.high i hi⟩
theorem HeapOk.cong (H : HeapOk h b O vars n act S) {S' : Nat → Prop} (e : ∀ v, S v ↔ S' v) : HeapOk h b O vars n act S' := by
  obtain ⟨kb, lb, pb, kc, lc, pc, A, l, pl, H1, W, Od, hin, r⟩ := H.ex
  exact ⟨⟨kb, lb, pb, kc, lc, pc, A, l, pl, H1, W, Od, fun v => (hin v).trans (e v), r⟩, H.acts, H.low⟩

theorem len_ok (H : HeapOk h b O vars n act S) : CallsH Try.prog 24 [.pointer (some ⟨b, 0, none⟩)] h fun r h' => r = .int .i64 n ∧ h' = h := by
  obtain ⟨kb, lb, pb, kc, lc, pc, A, l, pl, H1, W, Od, hin, hO⟩ := H.ex
  exact len_h H1

theorem in_ok (H : HeapOk h b O vars n act S) (x : Int) : CallsH Try.prog 27 [.pointer (some ⟨b, 0, none⟩), .int .i64 x] h fun r h' => ∃ u, r = .bool u ∧ (u = true ↔ 0 ≤ x ∧ S x.toNat) ∧ h' = h := by
  obtain ⟨kb, lb, pb, kc, lc, pc, A, l, pl, H1, W, Od, hin, hO⟩ := H.ex
  refine (in_h H1 x).mono ?_
  rintro _ _ ⟨rfl, rfl⟩
  refine ⟨_, rfl, ?_, rfl⟩
  rw [decide_eq_true_eq]
  constructor
  · rintro ⟨h1, h2, h3⟩
    exact ⟨by omega, (hin _).1 ((W.in_iff (by omega) (by omega)).2 h3)⟩
  · rintro ⟨h0, h1⟩
    have := H.range h1
    exact ⟨by omega, by omega, (W.in_iff this.1 this.2).1 ((hin _).2 h1)⟩

theorem activity_ok (H : HeapOk h b O vars n act S) (x : Int) :
   CallsH Try.prog 26 [.pointer (some ⟨b, 0, none⟩), .int .i64 x] h fun r h' => r = .int .i64 (if 1 ≤ x ∧ x ≤ vars then act x.toNat else 0) ∧ h' = h := by
  obtain ⟨kb, lb, pb, kc, lc, pc, A, l, pl, H1, W, Od, hin, hO⟩ := H.ex
  exact activity_h H1 H.acts x

/-- a foremost one -/
def Fst (act : Nat → Int) (S : Nat → Prop) (v : Nat) : Prop := S v ∧ ∀ w, S w → ¬ bef act w v
theorem Fst.uniq {v w : Nat} (h1 : Fst act S v) (h2 : Fst act S w) : v = w := by
  have a := h1.2 w h2.1
  have b := h2.2 v h1.1
  unfold bef at a b; omega

open Classical in
/-- the foremost, by their number -/
noncomputable def front (act : Nat → Int) (S : Nat → Prop) (vars : Nat) : List Nat := (List.range' 1 vars).filter fun v => decide (S v ∧ ∀ w, S w → act w ≤ act v)
theorem mem_front {v : Nat} (hS : ∀ v, S v → 1 ≤ v ∧ v ≤ vars) : v ∈ front act S vars ↔ S v ∧ ∀ w, S w → act w ≤ act v := by
  unfold front
  rw [List.mem_filter, List.mem_range'_1]
  simp only [decide_eq_true_eq]
  constructor
  · exact fun h => h.2
  · exact fun h => ⟨by have := hS v h.1; omega, h⟩
theorem front_nodup : (front act S vars).Nodup := (List.nodup_range' (step := 1)).filter _
theorem front_lt : (front act S vars).Pairwise (· < ·) := (List.pairwise_lt_range' (step := 1)).filter _

theorem front_fst (hS : ∀ v, S v → 1 ≤ v ∧ v ≤ vars) {t : Nat} (ht : t < (front act S vars).length) : Fst act (fun v => S v ∧ v ∉ (front act S vars).take t) (front act S vars)[t] := by
  have hm := (mem_front hS).1 (List.getElem_mem ht)
  refine ⟨⟨hm.1, fun hi => ?_⟩, fun w hw hb => ?_⟩
  · obtain ⟨j, hj, e⟩ := List.mem_take_iff_getElem.1 hi
    have := List.pairwise_iff_getElem.1 (front_lt (act := act) (S := S) (vars := vars)) j t (by omega) ht (by omega)
    omega
  · have h1 := hm.2 w hw.1
    rcases hb with h2 | ⟨h2, h3⟩
    · omega
    · have hwm : w ∈ front act S vars := (mem_front hS).2 ⟨hw.1, fun u hu => by rw [h2]; exact hm.2 u hu⟩
      obtain ⟨j, hj, e⟩ := List.mem_iff_getElem.1 hwm
      have hjt : t ≤ j := by
        rcases Nat.lt_or_ge j t with h | h
        · exact absurd (List.mem_take_iff_getElem.2 ⟨j, by omega, e⟩) hw.2
        · exact h
      rcases Nat.lt_or_eq_of_le hjt with h | h
      · have := List.pairwise_iff_getElem.1 (front_lt (act := act) (S := S) (vars := vars)) t j ht hj h
        omega
      · subst h; omega

theorem tieN_front {kb lb pb kc lc pc : Nat} {A : Option Addr} {l : Nat → Nat} {pl : Nat → Int} (W : Wf vars n l pl) (Od : Ord act n l) (hin : ∀ v, In n l v ↔ S v) : tieN act l n = (front act S vars).length := by
  have hS : ∀ v, S v → 1 ≤ v ∧ v ≤ vars := fun v hv => by
    obtain ⟨i, hi, rfl⟩ := (hin v).2 hv
    exact ⟨W.low i hi, W.high i hi⟩
  have htop : ∀ i, i < n → act (l i) ≤ act (l 0) := fun i hi => by
    have := Od.first i hi
    unfold bef at this; omega
  have key : ∀ v, v ∈ ((List.range n).filter fun i => decide (act (l i) = act (l 0))).map l ↔ v ∈ front act S vars := by
    intro v
    rw [mem_front hS, List.mem_map]
    constructor
    · rintro ⟨i, hi, rfl⟩
      rw [List.mem_filter, List.mem_range, decide_eq_true_eq] at hi
      refine ⟨(hin _).1 ⟨i, hi.1, rfl⟩, fun w hw => ?_⟩
      obtain ⟨j, hj, rfl⟩ := (hin w).2 hw
      rw [hi.2]; exact htop j hj
    · rintro ⟨h1, h2⟩
      obtain ⟨i, hi, rfl⟩ := (hin v).2 h1
      refine ⟨i, ?_, rfl⟩
      rw [List.mem_filter, List.mem_range, decide_eq_true_eq]
      have h3 := h2 (l 0) ((hin _).1 ⟨0, by omega, rfl⟩)
      have h4 := htop i hi
      exact ⟨hi, by omega⟩
  have nd : (((List.range n).filter fun i => decide (act (l i) = act (l 0))).map l).Nodup :=
    nodup_map (List.nodup_range.filter _) fun x hx y hy e => W.inj (List.mem_range.1 (List.mem_filter.1 hx).1) (List.mem_range.1 (List.mem_filter.1 hy).1) e
  have e1 := nodup_le nd (fun x hx => (key x).1 hx)
  have e2 := nodup_le front_nodup (fun x hx => (key x).2 hx)
  rw [List.length_map] at e1 e2
  unfold tieN
  omega

theorem ties_ok (H : HeapOk h b O vars n act S) : CallsH Try.prog 17 [.pointer (some ⟨b, 0, none⟩)] h fun r h' => r = .int .i64 ((front act S vars).length : Nat) ∧ h' = h := by
  obtain ⟨kb, lb, pb, kc, lc, pc, A, l, pl, H1, W, Od, hin, hO⟩ := H.ex
  rw [← tieN_front (kb := 0) (lb := 0) (pb := 0) (kc := 0) (lc := 0) (pc := 0) (A := none) W Od hin]
  exact ties_h H1 W H.acts

theorem take_ok (H : HeapOk h b O vars (n + 1) act S) : CallsH Try.prog 73 [.pointer (some ⟨b, 0, none⟩), .int .i64 0] h fun r h' =>
    ∃ v : Nat, r = .int .i64 v ∧ Fst act S v ∧ HeapOk h' b O vars n act (fun u => S u ∧ u ≠ v) ∧ Fr O h h' := by
  obtain ⟨kb, lb, pb, kc, lc, pc, A, l, pl, H1, W, Od, hin, hO⟩ := H.ex
  refine (take_h H1 W H.acts Od).mono ?_
  rintro _ h' ⟨rfl, l', pl', H', W', O', hin', hfr⟩
  refine ⟨l 0, rfl, ⟨(hin _).1 ⟨0, by omega, rfl⟩, fun w hw => ?_⟩, ⟨⟨kb, lb, pb, kc, lc, pc, A, l', pl', H', W', O', fun v => (hin' v).trans (by rw [hin v]), hO⟩, H.acts, fun x hx => Nat.lt_of_lt_of_le (H.low x hx) hfr.size⟩, hfr.mono fun x _ hx => ?_⟩
  · obtain ⟨j, hj, rfl⟩ := (hin w).2 hw
    exact Od.first j hj
  · rcases hx with rfl | rfl | rfl | rfl
    · exact hO.1
    · exact hO.2.1
    · exact hO.2.2.2 _ ⟨_, H1.hA (by omega), rfl⟩
    · exact hO.2.2.1

theorem put_ok (H : HeapOk h b O vars n act S) (x : Int) : CallsH Try.prog 18 [.pointer (some ⟨b, 0, none⟩), .int .i64 x] h fun r h' =>
    (∃ v : Nat, x = v ∧ r = .bool true ∧ 1 ≤ v ∧ v ≤ vars ∧ ¬ S v ∧ ∃ O', HeapOk h' b O' vars (n + 1) act (fun u => S u ∨ u = v) ∧ Nx O O' h h') ∨
    ((¬ (1 ≤ x ∧ x ≤ vars) ∨ S x.toNat) ∧ r = .bool false ∧ h' = h) := by
  obtain ⟨kb, lb, pb, kc, lc, pc, A, l, pl, H1, W, Od, hin, hO⟩ := H.ex
  refine (put_h H1 W H.acts Od x).mono ?_
  rintro r h' (⟨v, rfl, rfl, h1, h2, h3, lb', lc', A', l', pl', H', W', O', hin', hfr, hA⟩ | ⟨h1, rfl, rfl⟩)
  · refine .inl ⟨v, rfl, rfl, h1, h2, fun hs => h3 ((hin v).2 hs), fun x => (O x ∨ h.size ≤ x) ∧ x < h'.size, ⟨⟨kb, lb', pb, kc, lc', pc, A', l', pl', H', W', O', fun u => (hin' u).trans (by rw [hin u]), ?_⟩, H.acts, fun x hx => hx.2⟩, ⟨hfr.mono fun x _ hx => ?_, fun x hx => hx.1⟩⟩
    · obtain ⟨tb, tk, tp⟩ := H'.lts
      refine ⟨⟨.inl hO.1, tb⟩, ⟨.inl hO.2.1, tk⟩, ⟨.inl hO.2.2.1, tp⟩, fun x hx => ⟨(hA x hx).imp (hO.2.2.2 x) id, H'.sl.blk_lt hx⟩⟩
    · rcases hx with rfl | rfl | hx
      · exact hO.1
      · exact hO.2.2.1
      · exact hO.2.2.2 _ hx
  · exact .inr ⟨h1.imp id (hin _).1, rfl, rfl⟩

theorem bump_ok (H : HeapOk h b O vars n act S) (x y : Int) : CallsH Try.prog 21 [.pointer (some ⟨b, 0, none⟩), .int .i64 x, .int .i64 y] h fun r h' =>
    (∃ v : Nat, x = v ∧ r = .bool true ∧ 1 ≤ v ∧ v ≤ vars ∧ 1 ≤ y ∧ y ≤ 1048576 ∧ HeapOk h' b O vars n (bumped act v y) S ∧ Fr O h h') ∨
    (¬ (1 ≤ x ∧ x ≤ vars ∧ 1 ≤ y ∧ y ≤ 1048576) ∧ r = .bool false ∧ h' = h) := by
  obtain ⟨kb, lb, pb, kc, lc, pc, A, l, pl, H1, W, Od, hin, hO, hB⟩ := H.own
  refine (bump_h H1 W H.acts Od x y).mono ?_
  rintro r h' (⟨v, rfl, rfl, h1, h2, h3, h4, l', pl', H', W', O', A', hin', hfr⟩ | h1)
  · refine .inl ⟨v, rfl, rfl, h1, h2, h3, h4, ⟨⟨kb, lb, pb, kc, lc, pc, A, l', pl', H', W', O', fun u => (hin' u).trans (hin u), hO⟩, A', fun x hx => Nat.lt_of_lt_of_le (H.low x hx) hfr.size⟩, hfr.mono hB⟩
  · exact .inr h1

theorem decay_ok (H : HeapOk h b O vars n act S) : CallsH Try.prog 22 [.pointer (some ⟨b, 0, none⟩)] h fun r h' =>
    r = .tuple #[] ∧ HeapOk h' b O vars n (halved act (vars + 1)) S ∧ Fr O h h' := by
  obtain ⟨kb, lb, pb, kc, lc, pc, A, l, pl, H1, W, Od, hin, hO, hB⟩ := H.own
  refine (decay_h H1 W H.acts).mono ?_
  rintro r h' ⟨rfl, l', pl', H', W', O', hin', hfr⟩
  refine ⟨rfl, ⟨⟨kb, lb, pb, kc, lc, pc, A, l', pl', H', W', O', fun u => (hin' u).trans (hin u), hO⟩, halved_acts H.acts _, fun x hx => Nat.lt_of_lt_of_le (H.low x hx) hfr.size⟩, hfr.mono hB⟩
end
end Xe
