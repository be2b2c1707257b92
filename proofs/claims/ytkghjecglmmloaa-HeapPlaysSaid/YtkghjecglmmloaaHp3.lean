/- The walks through package heap, third part. -/
import Derived.Test.YtkghjecglmmloaaHp2
namespace Xe
open Go Hp Go.Proofs
set_option maxRecDepth 16000
section
variable {h : Heap} {b kb lb pb vars n kc lc pc : Nat} {A : Option Addr} {act : Nat → Int} {l : Nat → Nat} {pl : Nat → Int}

theorem in_h (H : HeapAt h b kb lb pb vars n kc lc pc A act l pl) (x : Int) :
   CallsH Try.prog 27 [.pointer (some ⟨b, 0, none⟩), .int .i64 x] h fun r h' => r = .bool (decide (1 ≤ x ∧ x ≤ vars ∧ 0 ≤ pl x.toNat)) ∧ h' = h := by
  have h2 := H.s2
  refine calls_of 18 [.tmp 4] Go.Proofs.Try.func27 rfl rfl rfl (by kernel_rfl) (Nat.le_of_ble_eq_true rfl) ?_
  simp -implicitDefEqProofs (disch := omega) [go_sem]
  refine useC (there_h H x) ?_
  rintro _ _ ⟨rfl, rfl⟩
  by_cases hv : 1 ≤ x ∧ x ≤ vars
  · obtain ⟨v, rfl⟩ : ∃ v : Nat, x = v := ⟨x.toNat, by omega⟩
    have c := H.cp v (by omega)
    have hv1 : (1 : Int) ≤ (v : Int) := hv.1
    have hv2 : v ≤ vars := by omega
    simp -implicitDefEqProofs (disch := omega) [go_sem, h2, c, hv1, hv2]
  · simp -implicitDefEqProofs (disch := omega) [go_sem, hv]
    omega

theorem activity_h (H : HeapAt h b kb lb pb vars n kc lc pc A act l pl) (hact : Acts vars act) (x : Int) :
   CallsH Try.prog 26 [.pointer (some ⟨b, 0, none⟩), .int .i64 x] h fun r h' => r = .int .i64 (if 1 ≤ x ∧ x ≤ vars then act x.toNat else 0) ∧ h' = h := by
  have h0 := H.s0
  refine calls_of 18 [.tmp 4] Go.Proofs.Try.func26 rfl rfl rfl (by kernel_rfl) (Nat.le_of_ble_eq_true rfl) ?_
  simp -implicitDefEqProofs (disch := omega) [go_sem]
  refine useC (there_h H x) ?_
  rintro _ _ ⟨rfl, rfl⟩
  by_cases hv : 1 ≤ x ∧ x ≤ vars
  · obtain ⟨v, rfl⟩ : ∃ v : Nat, x = v := ⟨x.toNat, by omega⟩
    have c := H.ck v (by omega)
    have hv1 : (1 : Int) ≤ (v : Int) := hv.1
    have hv2 : v ≤ vars := by omega
    have hf := hact v hv2
    simp -implicitDefEqProofs (disch := omega) [go_sem, h0, c, hv1, hv2]
  · simp -implicitDefEqProofs (disch := omega) [go_sem, hv]

theorem half_h (H : HeapAt h b kb lb pb vars n kc lc pc A act l pl) (hact : Acts vars act) {x : Int} (v : Nat) (hx : x = v) (hv : v ≤ vars) :
   CallsH Try.prog 76 [.pointer (some ⟨b, 0, none⟩), .int .i64 x] h fun r h' => r = .int .i64 (act v / 2) ∧ h' = h := by
  have h0 := H.s0
  have c := H.ck v hv
  have hf := hact v hv
  subst hx
  refine calls_of 15 [.tmp 4] Go.Proofs.Try.func76 rfl rfl rfl (by kernel_rfl) (Nat.le_of_ble_eq_true rfl) ?_
  simp -implicitDefEqProofs (disch := omega) [go_sem, h0, c]

/-- how many of the first m are as active as the first -/
def tieN (act : Nat → Int) (l : Nat → Nat) (m : Nat) : Nat := ((List.range m).filter fun i => decide (act (l i) = act (l 0))).length
theorem tieN_succ (act : Nat → Int) (l : Nat → Nat) (m : Nat) : tieN act l (m + 1) = tieN act l m + if act (l m) = act (l 0) then 1 else 0 := by
  unfold tieN
  rw [List.range_succ, List.filter_append, List.length_append]
  by_cases h : act (l m) = act (l 0) <;> simp [h]
theorem tieN_le (act : Nat → Int) (l : Nat → Nat) (m : Nat) : tieN act l m ≤ m := by
  induction m with
  | zero => exact Nat.le_refl _
  | succ m ih => rw [tieN_succ]; split <;> omega

theorem ties_h (H : HeapAt h b kb lb pb vars n kc lc pc A act l pl) (W : Wf vars n l pl) (hact : Acts vars act) :
   CallsH Try.prog 17 [.pointer (some ⟨b, 0, none⟩)] h fun r h' => r = .int .i64 (tieN act l n : Nat) ∧ h' = h := by
  have h0 := H.s0
  have h1 := H.s1
  refine calls_of 41 [.tmp 2] Go.Proofs.Try.func17 rfl rfl rfl (by kernel_rfl) (Nat.le_of_ble_eq_true rfl) ?_
  simp -implicitDefEqProofs (disch := omega) [go_sem, h1]
  refine loopK (fun ρ h' => h' = h ∧ ρ 0 = .pointer (some ⟨b, 0, none⟩) ∧ ρ 9 = .slice A n lc ∧ ρ 10 = .int .i64 n ∧ ∃ i : Nat, ρ 11 = .int .i64 i ∧ i ≤ n ∧ ρ 3 = .int .i64 (tieN act l i)) (fun ρ _ => n - (intOf (ρ 11)).toNat) (by kernel_rfl) ?_ ?_
  · exact ⟨rfl, rfl, rfl, rfl, 0, rfl, by omega, rfl⟩
  · rintro ρ _ ⟨rfl, r0, r9, r10, i, r11, hi, r3⟩
    by_cases hin : i = n
    · subst hin
      simp -implicitDefEqProofs (disch := omega) [go_sem, r0, r9, r10, r11, r3]
    · have hin' : (i : Int) < n := by omega
      have hA := H.hA (by omega)
      subst hA
      have c1 := H.cl i (by omega)
      have c2 := H.cl 0 (by omega)
      have w1 := W.high i (by omega)
      have w2 := W.high 0 (by omega)
      have k1 := H.ck _ w1
      have k2 := H.ck _ w2
      have f1 := hact _ w1
      have f2 := hact _ w2
      have hv := H.hv
      have hn := H.hn
      have ht := tieN_le act l i
      by_cases he : act (l i) = act (l 0)
      · simp -implicitDefEqProofs (disch := omega) [go_sem, r0, r9, r10, r11, r3, hin', c1]
        refine drawK [(0, 0), (1, 0), (2, 0), (3, 1), (4, 0), (5, 0), (6, 1), (7, 0), (8, 0), (9, 0), (10, 0), (11, 1), (12, 0), (13, 0), (14, 0), (15, 1), (16, 0), (17, 1), (18, 0), (19, 1), (20, 0), (21, 0)] mixed (by kernel_rfl) ?_
        simp -implicitDefEqProofs (disch := omega) [go_sem, r0, r9, r10, r11, r3, h0, h1, c1, c2, k1, k2, he]
        exact ⟨⟨i + 1, by omega, by omega, by rw [tieN_succ, if_pos he]; omega⟩, by omega⟩
      · simp -implicitDefEqProofs (disch := omega) [go_sem, r0, r9, r10, r11, r3, hin', c1]
        refine drawK [(0, 0), (1, 0), (2, 0), (3, 1), (4, 0), (5, 0), (6, 1), (7, 0), (8, 0), (9, 0), (10, 0), (11, 1), (12, 0), (13, 0), (14, 0), (15, 1), (16, 0), (17, 1), (18, 0), (19, 1), (20, 0), (21, 0)] mixed (by kernel_rfl) ?_
        simp -implicitDefEqProofs (disch := omega) [go_sem, r0, r9, r10, r11, r3, h0, h1, c1, c2, k1, k2, he]
        exact ⟨⟨i + 1, by omega, by omega, by rw [tieN_succ, if_neg he]; omega⟩, by omega⟩

/-- one fewer -/
theorem HeapAt.less (H : HeapAt h b kb lb pb vars (n + 1) kc lc pc A act l pl) : HeapAt (hset h ⟨b, 1, none⟩ (.slice A n lc)) b kb lb pb vars n kc lc pc A act l pl where
  s0 := by rw [hcell_hset, if_neg (fun e => absurd e.2 (by decide))]; exact H.s0
  s1 := by rw [hcell_hset, if_pos ⟨rfl, rfl⟩, H.s1]; rfl
  s2 := by rw [hcell_hset, if_neg (fun e => absurd e.2 (by decide))]; exact H.s2
  ck v hv := by rw [hcell_hset, if_neg (fun e => H.bk e.1.symm)]; exact H.ck v hv
  cl i hi := by rw [hcell_hset, if_neg (fun e => H.bl e.1.symm)]; exact H.cl i (by omega)
  cp v hv := by rw [hcell_hset, if_neg (fun e => H.bp e.1.symm)]; exact H.cp v hv
  lr i hi := by rw [hcell_hset, if_neg (fun e => H.bl e.1.symm)]; exact H.lr i hi
  fb o := by rw [hfrz_hset]; exact H.fb o
  fk o := by rw [hfrz_hset]; exact H.fk o
  fl o := by rw [hfrz_hset]; exact H.fl o
  fp o := by rw [hfrz_hset]; exact H.fp o
  bk := H.bk
  bl := H.bl
  bp := H.bp
  kl := H.kl
  kp := H.kp
  lp := H.lp
  ll e := by rw [hset_size]; exact H.ll e
  hA0 := H.hA0
  hnc := by have := H.hnc; omega
  hv := H.hv
  hn := by have := H.hn; omega

/-- the blocks of a heap that its methods write -/
def HB (b kb lb pb : Nat) (x : Nat) : Prop := x = b ∨ x = kb ∨ x = lb ∨ x = pb

theorem take_h (H : HeapAt h b kb lb pb vars (n + 1) kc lc pc A act l pl) (W : Wf vars (n + 1) l pl) (hact : Acts vars act) (O : Ord act (n + 1) l) :
   CallsH Try.prog 73 [.pointer (some ⟨b, 0, none⟩), .int .i64 0] h fun r h' => r = .int .i64 (l 0) ∧
     ∃ l' pl', HeapAt h' b kb lb pb vars n kc lc pc A act l' pl' ∧ Wf vars n l' pl' ∧ Ord act n l' ∧ (∀ v, In n l' v ↔ In (n + 1) l v ∧ v ≠ l 0) ∧ Fr (HB b kb lb pb) h h' := by
  have h1 := H.s1
  have hA := H.hA (by omega)
  subst hA
  have c0 := H.cl 0 (by omega)
  have hv := H.hv
  have hn := H.hn
  have hnc := H.hnc
  refine calls_of 49 [.tmp 4] Go.Proofs.Try.func73 rfl rfl rfl (by kernel_rfl) (Nat.le_of_ble_eq_true rfl) ?_
  simp -implicitDefEqProofs (disch := omega) [go_sem]
  refine drawK [(0, 0), (1, 0), (2, 0), (3, 1), (4, 0), (5, 0), (6, 1), (7, 0), (8, 0), (9, 0), (10, 1), (11, 0), (12, 0), (13, 0), (14, 0)] mixed (by kernel_rfl) ?_
  simp -implicitDefEqProofs (disch := omega) [go_sem, h1, c0]
  refine useC (swap_h H W 0 n rfl rfl (by omega) (by omega)) ?_
  rintro _ h2 ⟨rfl, H2, hfr2⟩
  have W2 := W.swap (i := 0) (k := n) (by omega) (by omega)
  have q1 := H2.s1
  have q2 := H2.s2
  have hl0 : l 0 = swapL l 0 n n := by rw [swapL_at, if_pos rfl]
  have hlv := W.high 0 (by omega)
  have hlv' : (l 0 : Int) ≤ vars := by omega
  have p0 := H2.cp (l 0) hlv
  have g1 := H2.fb
  have g2 := H2.fp
  have H3 := (H2.less).setP hlv (-1)
  have W3 := W2.drop
  rw [← hl0] at W3
  have hfr3 : Fr (HB b kb lb pb) h (hset (hset h2 ⟨b, 1, none⟩ (.slice (some ⟨lb, 0, none⟩) n lc)) ⟨pb, l 0, none⟩ (.int .i64 (-1))) :=
    ((hfr2.mono (fun x _ hx => by unfold HB; omega)).set (.inl rfl)).set (.inr (.inr (.inr rfl)))
  have hin3 : ∀ v, In n (swapL l 0 n) v ↔ In (n + 1) l v ∧ v ≠ l 0 := fun v => by
    have e := In.drop W2 v
    rw [← hl0] at e
    have e2 : In (n + 1) (swapL l 0 n) v ↔ In (n + 1) l v := In.swap (by omega) (by omega)
    exact e.trans ⟨fun h => ⟨e2.1 h.1, h.2⟩, fun h => ⟨e2.2 h.1, h.2⟩⟩
  by_cases h0 : 0 < n
  · simp -implicitDefEqProofs (disch := omega) [go_sem]
    refine drawK [(0, 0), (1, 0), (2, 0), (3, 0), (4, 1), (5, 0), (6, 0), (7, 0), (8, 0), (9, 1), (10, 0), (11, 0), (12, 0), (13, 0), (14, 3), (15, 0), (16, 3)] mixed (by kernel_rfl) ?_
    simp -implicitDefEqProofs (disch := omega) [go_sem, q1, q2, p0, g1, g2, H.bp, Ne.symm H.bp, h0]
    refine useC (sink_h H3 W3 hact 0 0 rfl (by omega) h0 O.take) ?_
    rintro _ h4 ⟨rfl, l4, pl4, H4, W4, O4, hin4, hfr4⟩
    simp -implicitDefEqProofs (disch := omega) [go_sem]
    refine useC (rise_h H4 W4 hact 0 rfl h0 (Up.of_ord (OrdFrom.zero.1 O4) 0 h0)) ?_
    rintro _ h5 ⟨rfl, l5, pl5, H5, W5, O5, hin5, hfr5⟩
    simp -implicitDefEqProofs (disch := omega) [go_sem]
    exact ⟨l5, pl5, H5, W5, O5, fun v => (hin5 v).trans ((hin4 v).trans (hin3 v)), (hfr3.trans (hfr4.mono fun x _ hx => by unfold HB; omega)).trans (hfr5.mono fun x _ hx => by unfold HB; omega)⟩
  · have hn0 : n = 0 := by omega
    simp -implicitDefEqProofs (disch := omega) [go_sem]
    refine drawK [(0, 0), (1, 0), (2, 0), (3, 0), (4, 1), (5, 0), (6, 0), (7, 0), (8, 0), (9, 1), (10, 0), (11, 0), (12, 0), (13, 0), (14, 3), (15, 0), (16, 3)] mixed (by kernel_rfl) ?_
    simp -implicitDefEqProofs (disch := omega) [go_sem, q1, q2, p0, g1, g2, H.bp, Ne.symm H.bp, h0]
    exact ⟨_, _, H3, W3, fun j j0 jn => by omega, hin3, hfr3⟩

/-- distinct ones that all lie in a list are no more than it has -/
theorem nodup_le : ∀ {a b : List Nat}, a.Nodup → (∀ x, x ∈ a → x ∈ b) → a.length ≤ b.length
  | [], _, _, _ => Nat.zero_le _
  | y :: a, b, hn, hs => by
    have hy := hs y (List.mem_cons_self ..)
    rw [List.nodup_cons] at hn
    have := nodup_le (a := a) (b := b.erase y) hn.2 (fun x hx => (List.mem_erase_of_ne (fun e => hn.1 (by rw [← e]; exact hx))).2 (hs x (List.mem_cons_of_mem _ hx)))
    rw [List.length_erase_of_mem hy] at this
    have := List.length_pos_of_mem hy
    simp only [List.length_cons]; omega

theorem nodup_map {f : Nat → Nat} : ∀ {a : List Nat}, a.Nodup → (∀ x, x ∈ a → ∀ y, y ∈ a → f x = f y → x = y) → (a.map f).Nodup
  | [], _, _ => List.nodup_nil
  | x :: a, hn, hi => by
    rw [List.nodup_cons] at hn
    rw [List.map_cons, List.nodup_cons]
    refine ⟨fun hm => ?_, nodup_map hn.2 fun y hy z hz => hi y (List.mem_cons_of_mem _ hy) z (List.mem_cons_of_mem _ hz)⟩
    obtain ⟨y, hy, e⟩ := List.mem_map.1 hm
    have := hi y (List.mem_cons_of_mem _ hy) x (List.mem_cons_self ..) e
    exact hn.1 (this ▸ hy)

theorem Wf_le (W : Wf vars n l pl) : n ≤ vars := by
  have := nodup_le (a := (List.range n).map l) (b := List.range' 1 vars) (nodup_map List.nodup_range fun x hx y hy e => W.inj (List.mem_range.1 hx) (List.mem_range.1 hy) e)
    (fun x hx => by
      obtain ⟨i, hi, rfl⟩ := List.mem_map.1 hx
      have h1 := W.low i (List.mem_range.1 hi)
      have h2 := W.high i (List.mem_range.1 hi)
      exact List.mem_range'_1.2 ⟨h1, by omega⟩)
  simpa using this

/-- the list as a row of values -/
def ints (l : Nat → Nat) (n : Nat) : List Value := (List.range n).map fun i => .int .i64 (l i)
theorem ints_len : (ints l n).length = n := by simp [ints]
theorem ints_at {i : Nat} (hi : i < n) : (ints l n)[i]? = some (.int .i64 (l i)) := by simp [ints, hi]
theorem ints_put (v : Nat) : ints l n ++ [.int .i64 (v : Int)] = ints (upd l n v) (n + 1) := by
  unfold ints
  rw [List.range_succ, List.map_append, List.map_singleton, upd_same]
  congr 1
  apply List.map_congr_left
  intro i hi
  rw [upd_other _ _ (by have := List.mem_range.1 hi; omega)]

theorem HeapAt.sl (H : HeapAt h b kb lb pb vars n kc lc pc A act l pl) : SlAt h A lc (ints l n) := by
  refine ⟨by rw [ints_len]; exact H.hnc, ?_⟩
  rcases H.hA0 with h1 | h1
  · exact .inl h1
  · by_cases hl : 0 < lc
    · have h0 := H.lr 0 hl
      obtain ⟨u, hu⟩ := Option.isSome_iff_exists.1 h0
      exact .inr ⟨lb, h1, hcell_lt hu, H.fl, H.lr, fun i v hv => by
        have hi := (List.getElem?_eq_some_iff.1 hv).1
        rw [ints_len] at hi
        rw [ints_at hi] at hv
        cases hv; exact H.cl i hi⟩
    · exact .inr ⟨lb, h1, H.ll h1, H.fl, H.lr, fun i v hv => by
        have hi := (List.getElem?_eq_some_iff.1 hv).1
        rw [ints_len] at hi
        have := H.hnc
        omega⟩

theorem HeapAt.blkA (H : HeapAt h b kb lb pb vars n kc lc pc A act l pl) : ¬ blk A b ∧ ¬ blk A kb ∧ ¬ blk A pb := by
  have h1 := H.bl
  have h2 := H.kl
  have h3 := H.lp
  rcases H.hA0 with ⟨rfl, _⟩ | rfl
  · exact ⟨fun ⟨a, h, _⟩ => (nomatch h), fun ⟨a, h, _⟩ => (nomatch h), fun ⟨a, h, _⟩ => (nomatch h)⟩
  · exact ⟨fun ⟨a, h, e⟩ => by cases h; exact h1 e.symm, fun ⟨a, h, e⟩ => by cases h; exact h2 e.symm, fun ⟨a, h, e⟩ => by cases h; exact h3 e⟩

theorem HeapAt.lts (H : HeapAt h b kb lb pb vars n kc lc pc A act l pl) : b < h.size ∧ kb < h.size ∧ pb < h.size :=
  ⟨hcell_lt H.s0, hcell_lt (H.ck 0 (by omega)), hcell_lt (H.cp 0 (by omega))⟩

/-- one more in the list -/
theorem HeapAt.grow (H : HeapAt h b kb lb pb vars n kc lc pc A act l pl) {h' : Heap} {A' : Option Addr} {lc' v : Nat} (S : SlAt h' A' lc' (ints (upd l n v) (n + 1)))
    (hfr : Fr (blk A) h h') (hA : ∀ x, blk A' x → blk A x ∨ h.size ≤ x) (hn : n + 1 ≤ vars) :
    ∃ lb', HeapAt (hset h' ⟨b, 1, none⟩ (.slice A' (n + 1 : Nat) lc')) b kb lb' pb vars (n + 1) kc lc' pc A' act (upd l n v) pl := by
  obtain ⟨nb, nk, np⟩ := H.blkA
  obtain ⟨tb, tk, tp⟩ := H.lts
  rcases S.at' with ⟨_, h2⟩ | ⟨bk, rfl, h2, h3, h4, h5⟩
  · have := S.len; rw [ints_len] at this; omega
  have hbk := hA bk ⟨_, rfl, rfl⟩
  have eb : b ≠ bk := fun e => by subst e; rcases hbk with h | h; exact nb h; omega
  have ek : kb ≠ bk := fun e => by subst e; rcases hbk with h | h; exact nk h; omega
  have ep : bk ≠ pb := fun e => by subst e; rcases hbk with h | h; exact np h; omega
  refine ⟨bk, ?_⟩
  exact {
    s0 := by rw [hcell_hset, if_neg (fun e => absurd e.2 (by decide)), hfr.cell tb nb]; exact H.s0
    s1 := by rw [hcell_hset, if_pos ⟨rfl, rfl⟩, hfr.cell tb nb, H.s1]; rfl
    s2 := by rw [hcell_hset, if_neg (fun e => absurd e.2 (by decide)), hfr.cell tb nb]; exact H.s2
    ck := fun v hv => by rw [hcell_hset, if_neg (fun e => H.bk e.1.symm), hfr.cell tk nk]; exact H.ck v hv
    cl := fun i hi => by rw [hcell_hset, if_neg (fun e => eb e.1.symm)]; exact h5 i _ (ints_at hi)
    cp := fun v hv => by rw [hcell_hset, if_neg (fun e => H.bp e.1.symm), hfr.cell tp np]; exact H.cp v hv
    lr := fun i hi => by rw [hcell_hset, if_neg (fun e => eb e.1.symm)]; exact h4 i hi
    ll := fun _ => by rw [hset_size]; exact h2
    fb := fun o => by rw [hfrz_hset, hfr.frz tb nb]; exact H.fb o
    fk := fun o => by rw [hfrz_hset, hfr.frz tk nk]; exact H.fk o
    fl := fun o => by rw [hfrz_hset]; exact h3 o
    fp := fun o => by rw [hfrz_hset, hfr.frz tp np]; exact H.fp o
    bk := H.bk
    bl := eb
    bp := H.bp
    kl := ek
    kp := H.kp
    lp := ep
    hA0 := .inr rfl
    hnc := by have := S.len; rwa [ints_len] at this
    hv := H.hv
    hn := hn }

/-- **PUT** -/
theorem put_h (H : HeapAt h b kb lb pb vars n kc lc pc A act l pl) (W : Wf vars n l pl) (hact : Acts vars act) (O : Ord act n l) (x : Int) :
   CallsH Try.prog 18 [.pointer (some ⟨b, 0, none⟩), .int .i64 x] h fun r h' => 
     (∃ v : Nat, x = v ∧ r = .bool true ∧ 1 ≤ v ∧ v ≤ vars ∧ ¬ In n l v ∧ ∃ lb' lc' A' l' pl', HeapAt h' b kb lb' pb vars (n + 1) kc lc' pc A' act l' pl' ∧ Wf vars (n + 1) l' pl' ∧ Ord act (n + 1) l' ∧ (∀ u, In (n + 1) l' u ↔ In n l u ∨ u = v) ∧
        Fr (fun x => x = b ∨ x = pb ∨ blk A x) h h' ∧ (∀ x, blk A' x → blk A x ∨ h.size ≤ x)) ∨
     ((¬ (1 ≤ x ∧ x ≤ vars) ∨ In n l x.toNat) ∧ r = .bool false ∧ h' = h) := by
  have h1 := H.s1
  have hc2 := H.s2
  refine calls_of 50 [.tmp 4] Go.Proofs.Try.func18 rfl rfl rfl (by kernel_rfl) (Nat.le_of_ble_eq_true rfl) ?_
  simp -implicitDefEqProofs (disch := omega) [go_sem]
  refine useC (there_h H x) ?_
  rintro _ h ⟨rfl, rfl⟩
  by_cases hv : 1 ≤ x ∧ x ≤ vars
  · obtain ⟨v, rfl⟩ : ∃ v : Nat, x = v := ⟨x.toNat, by omega⟩
    have c := H.cp v (by omega)
    have hv1 : (1 : Int) ≤ v := by omega
    have hv2 : v ≤ vars := by omega
    by_cases hp : 0 ≤ pl v
    · simp -implicitDefEqProofs (disch := omega) [go_sem, h1, hc2, c, hv1, hv2, hp]
      exact (W.in_iff (by omega) (by omega)).2 hp
    · simp -implicitDefEqProofs (disch := omega) [go_sem, h1, hc2, c, hv1, hv2, hp]
      have hpv : pl v = -1 := by
        rcases W.fore v (by omega) hv2 with h | ⟨i, _, h, _⟩ <;> omega
      have hW := W.put (by omega) hv2 hpv
      have hle := Wf_le hW
      have hHv := H.hv
      obtain ⟨nb, nk, np⟩ := H.blkA
      obtain ⟨tb, tk, tp⟩ := H.lts
      have S0 := H.sl
      have S1 := S0.keep (h' := Array.push _ (.cells #[.int .i64 (v : Int)] 3 (0, 0))) (fun x hx => push_old (S0.blk_lt hx)) (by rw [push_size]; omega)
      refine build1 rfl rfl ?_
      simp -implicitDefEqProofs (disch := omega) [go_sem]
      refine append1 (v := .int .i64 (v : Int)) S1 ints_len.symm (by rw [hcell_push_new]; rfl) rfl (by omega) (by omega) ?_
      intro A' lc' h2 S2 hfr2 hA2
      rw [ints_put] at S2
      have hfr1 := ((Fr.refl (blk A) _).push (X := .cells #[.int .i64 (v : Int)] 3 (0, 0))).trans hfr2
      obtain ⟨lb', H3⟩ := H.grow S2 hfr1 (fun x hx => (hA2 x hx).imp id (fun h => by rw [push_size] at h; omega)) hle
      have H4 := H3.setP hv2 n
      have g1 : ∀ o, hcell h2 ⟨b, o, none⟩ = hcell _ ⟨b, o, none⟩ := fun o => hfr1.cell tb nb
      have g2 : ∀ o, hfrz h2 ⟨b, o, none⟩ = hfrz _ ⟨b, o, none⟩ := fun o => hfr1.frz tb nb
      have g3 : ∀ o, hcell h2 ⟨pb, o, none⟩ = hcell _ ⟨pb, o, none⟩ := fun o => hfr1.cell tp np
      have g4 : ∀ o, hfrz h2 ⟨pb, o, none⟩ = hfrz _ ⟨pb, o, none⟩ := fun o => hfr1.frz tp np
      simp -implicitDefEqProofs (disch := omega) [go_sem, g1, g2, H.fb, h1]
      refine drawK [(0, 0), (1, 0), (2, 0), (3, 1), (4, 0), (5, 0), (6, 0), (7, 0), (8, 1), (9, 0), (10, 0), (11, 0), (12, 3)] mixed (by kernel_rfl) ?_
      simp -implicitDefEqProofs (disch := omega) [go_sem, g1, g2, g3, g4, H.fb, H.fp, h1, hc2, c, H.bp, Ne.symm H.bp]
      refine useC (rise_h H4 hW hact n rfl (by omega) (O.put v)) ?_
      rintro _ h5 ⟨rfl, l5, pl5, H5, W5, O5, hin5, hfr5⟩
      simp -implicitDefEqProofs (disch := omega) [go_sem]
      have hb : ∀ x, x < h.size → (x = lb' ∨ x = pb) → (x = b ∨ x = pb ∨ blk A x) := fun x hx hh => by
        rcases hh with rfl | rfl
        · have hA := H3.hA (by omega)
          rcases hA2 x ⟨_, hA, rfl⟩ with h | h
          · exact .inr (.inr h)
          · rw [push_size] at h; omega
        · exact .inr (.inl rfl)
      refine ⟨v, rfl, by omega, hv2, fun hi => hp ((W.in_iff (by omega) hv2).1 hi), lb', lc', A', l5, pl5, H5, W5, O5, fun u => (hin5 u).trans (In.put u), ?_, fun x hx => (hA2 x hx).imp id (fun h => by rw [push_size] at h; omega)⟩
      exact ((((hfr1.mono (fun x _ hx => .inr (.inr hx))).set (.inl rfl)).set (.inr (.inl rfl))).trans' hfr5 hb)
  · simp -implicitDefEqProofs (disch := omega) [go_sem, hv]
end
end Xe
