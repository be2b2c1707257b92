/- The walks through package heap. -/
import Derived.Test.YtkghjecglmmloaaSl
import Derived.Test.YtkghjecglmmloaaHP
namespace Xe
open Go Hp Go.Proofs

/-- a heap's memory: its struct at block b; its keys, its list, its places -/
structure HeapAt (h : Heap) (b kb lb pb vars n kc lc pc : Nat) (A : Option Addr) (act : Nat → Int) (l : Nat → Nat) (pl : Nat → Int) : Prop where
  s0 : hcell h ⟨b, 0, none⟩ = some (.slice (some ⟨kb, 0, none⟩) (vars + 1) kc)
  s1 : hcell h ⟨b, 1, none⟩ = some (.slice A n lc)
  s2 : hcell h ⟨b, 2, none⟩ = some (.slice (some ⟨pb, 0, none⟩) (vars + 1) pc)
  ck : ∀ v, v ≤ vars → hcell h ⟨kb, v, none⟩ = some (.complex .f64 (Fx.enc (act v)) (Fx.enc (-(v : Int))))
  cl : ∀ i, i < n → hcell h ⟨lb, i, none⟩ = some (.int .i64 (l i))
  cp : ∀ v, v ≤ vars → hcell h ⟨pb, v, none⟩ = some (.int .i64 (pl v))
  fb : ∀ o, hfrz h ⟨b, o, none⟩ = false
  fk : ∀ o, hfrz h ⟨kb, o, none⟩ = false
  fl : ∀ o, hfrz h ⟨lb, o, none⟩ = false
  fp : ∀ o, hfrz h ⟨pb, o, none⟩ = false
  bk : b ≠ kb
  bl : b ≠ lb
  bp : b ≠ pb
  kl : kb ≠ lb
  kp : kb ≠ pb
  lp : lb ≠ pb
  lr : ∀ i, i < lc → (hcell h ⟨lb, i, none⟩).isSome = true
  ll : A = some ⟨lb, 0, none⟩ → lb < h.size
  hA0 : (A = none ∧ lc = 0) ∨ A = some ⟨lb, 0, none⟩
  hnc : n ≤ lc
  hv : vars ≤ 16777216
  hn : n ≤ vars

section
variable {h : Heap} {b kb lb pb vars n kc lc pc : Nat} {A : Option Addr} {act : Nat → Int} {l : Nat → Nat} {pl : Nat → Int}

theorem HeapAt.hA (H : HeapAt h b kb lb pb vars n kc lc pc A act l pl) (hn : 0 < n) : A = some ⟨lb, 0, none⟩ := by
  rcases H.hA0 with ⟨_, h⟩ | h
  · have := H.hnc; omega
  · exact h

theorem HeapAt.setL (H : HeapAt h b kb lb pb vars n kc lc pc A act l pl) {i : Nat} (hi : i < n) (x : Nat) : HeapAt (hset h ⟨lb, i, none⟩ (.int .i64 x)) b kb lb pb vars n kc lc pc A act (upd l i x) pl where
  s0 := by rw [hcell_hset, if_neg (fun e => H.bl e.1)]; exact H.s0
  s1 := by rw [hcell_hset, if_neg (fun e => H.bl e.1)]; exact H.s1
  s2 := by rw [hcell_hset, if_neg (fun e => H.bl e.1)]; exact H.s2
  ck v hv := by rw [hcell_hset, if_neg (fun e => H.kl e.1)]; exact H.ck v hv
  cl j hj := by
    rw [hcell_hset]
    by_cases e : j = i
    · subst e; rw [if_pos ⟨rfl, rfl⟩, H.cl j hj, upd_same]; rfl
    · rw [if_neg (fun h => e h.2), upd_other _ _ e]; exact H.cl j hj
  cp v hv := by rw [hcell_hset, if_neg (fun e => H.lp e.1.symm)]; exact H.cp v hv
  fb o := by rw [hfrz_hset]; exact H.fb o
  fk o := by rw [hfrz_hset]; exact H.fk o
  fl o := by rw [hfrz_hset]; exact H.fl o
  fp o := by rw [hfrz_hset]; exact H.fp o
  bk := H.bk
  bl := H.bl
  bp := H.bp
  kl := H.kl
  kp := H.kp
  lp := H.lp
  ll e := by rw [hset_size]; exact H.ll e
  hA0 := H.hA0
  hnc := H.hnc
  lr j hj := by
    rw [hcell_hset]
    split
    · rename_i e; rw [Option.isSome_map, ← e.2, ← e.1]; exact H.lr j hj
    · exact H.lr j hj
  hv := H.hv
  hn := H.hn

theorem HeapAt.setP (H : HeapAt h b kb lb pb vars n kc lc pc A act l pl) {v : Nat} (hv : v ≤ vars) (x : Int) : HeapAt (hset h ⟨pb, v, none⟩ (.int .i64 x)) b kb lb pb vars n kc lc pc A act l (upd pl v x) where
  s0 := by rw [hcell_hset, if_neg (fun e => H.bp e.1)]; exact H.s0
  s1 := by rw [hcell_hset, if_neg (fun e => H.bp e.1)]; exact H.s1
  s2 := by rw [hcell_hset, if_neg (fun e => H.bp e.1)]; exact H.s2
  ck v hv := by rw [hcell_hset, if_neg (fun e => H.kp e.1)]; exact H.ck v hv
  cl j hj := by rw [hcell_hset, if_neg (fun e => H.lp e.1)]; exact H.cl j hj
  cp j hj := by
    rw [hcell_hset]
    by_cases e : j = v
    · subst e; rw [if_pos ⟨rfl, rfl⟩, H.cp j hj, upd_same]; rfl
    · rw [if_neg (fun h => e h.2), upd_other _ _ e]; exact H.cp j hj
  fb o := by rw [hfrz_hset]; exact H.fb o
  fk o := by rw [hfrz_hset]; exact H.fk o
  fl o := by rw [hfrz_hset]; exact H.fl o
  fp o := by rw [hfrz_hset]; exact H.fp o
  bk := H.bk
  bl := H.bl
  bp := H.bp
  kl := H.kl
  kp := H.kp
  lp := H.lp
  ll e := by rw [hset_size]; exact H.ll e
  hA0 := H.hA0
  hnc := H.hnc
  lr j hj := by
    rw [hcell_hset]
    split
    · rename_i e; rw [Option.isSome_map, ← e.2, ← e.1]; exact H.lr j hj
    · exact H.lr j hj
  hv := H.hv
  hn := H.hn

theorem HeapAt.setK (H : HeapAt h b kb lb pb vars n kc lc pc A act l pl) {v : Nat} (hv : v ≤ vars) (x : Int) :
    HeapAt (hset h ⟨kb, v, none⟩ (.complex .f64 (Fx.enc x) (Fx.enc (-(v : Int))))) b kb lb pb vars n kc lc pc A (upd act v x) l pl where
  s0 := by rw [hcell_hset, if_neg (fun e => H.bk e.1)]; exact H.s0
  s1 := by rw [hcell_hset, if_neg (fun e => H.bk e.1)]; exact H.s1
  s2 := by rw [hcell_hset, if_neg (fun e => H.bk e.1)]; exact H.s2
  ck j hj := by
    rw [hcell_hset]
    by_cases e : j = v
    · subst e; rw [if_pos ⟨rfl, rfl⟩, H.ck j hj, upd_same]; rfl
    · rw [if_neg (fun h => e h.2), upd_other _ _ e]; exact H.ck j hj
  cl j hj := by rw [hcell_hset, if_neg (fun e => H.kl e.1.symm)]; exact H.cl j hj
  cp j hj := by rw [hcell_hset, if_neg (fun e => H.kp e.1.symm)]; exact H.cp j hj
  fb o := by rw [hfrz_hset]; exact H.fb o
  fk o := by rw [hfrz_hset]; exact H.fk o
  fl o := by rw [hfrz_hset]; exact H.fl o
  fp o := by rw [hfrz_hset]; exact H.fp o
  bk := H.bk
  bl := H.bl
  bp := H.bp
  kl := H.kl
  kp := H.kp
  lp := H.lp
  ll e := by rw [hset_size]; exact H.ll e
  hA0 := H.hA0
  hnc := H.hnc
  lr j hj := by
    rw [hcell_hset]
    split
    · rename_i e; rw [Option.isSome_map, ← e.2, ← e.1]; exact H.lr j hj
    · exact H.lr j hj
  hv := H.hv
  hn := H.hn

theorem there_h (H : HeapAt h b kb lb pb vars n kc lc pc A act l pl) (v : Int) :
   CallsH Try.prog 74 [.pointer (some ⟨b, 0, none⟩), .int .i64 v] h fun r h' => r = .bool (decide (1 ≤ v ∧ v ≤ vars)) ∧ h' = h := by
  have h0 := H.s0
  refine calls_of 16 [.tmp 4] Go.Proofs.Try.func74 rfl rfl rfl (by kernel_rfl) (Nat.le_of_ble_eq_true rfl) ?_
  by_cases hv : 1 ≤ v
  · simp -implicitDefEqProofs (disch := omega) [go_sem, h0, hv]
    omega
  · simp -implicitDefEqProofs (disch := omega) [go_sem, hv]

theorem len_h (H : HeapAt h b kb lb pb vars n kc lc pc A act l pl) :
   CallsH Try.prog 24 [.pointer (some ⟨b, 0, none⟩)] h fun r h' => r = .int .i64 n ∧ h' = h := by
  have h1 := H.s1
  refine calls_of 8 [.tmp 2] Go.Proofs.Try.func24 rfl rfl rfl (by kernel_rfl) (Nat.le_of_ble_eq_true rfl) ?_
  simp -implicitDefEqProofs (disch := omega) [go_sem, h1]

/-- v comes ahead of w, as Go reckons it -/
theorem ahead_h (H : HeapAt h b kb lb pb vars n kc lc pc A act l pl) (hact : ∀ v, v ≤ vars → 0 ≤ act v ∧ act v ≤ 1099511627776) {x y : Int} (v w : Nat) (hx : x = v) (hy : y = w) (hv : v ≤ vars) (hw : w ≤ vars) :
   CallsH Try.prog 100 [.pointer (some ⟨b, 0, none⟩), .int .i64 x, .int .i64 y] h fun r h' => r = .bool (decide (bef act v w)) ∧ h' = h := by
  have h0 := H.s0
  have k1 := H.ck v hv
  have k2 := H.ck w hw
  have fv := hact v hv
  have fw := hact w hw
  have hvv := H.hv
  subst hx hy
  refine calls_of 42 [.tmp 6] Go.Proofs.Try.func100 rfl rfl rfl (by kernel_rfl) (Nat.le_of_ble_eq_true rfl) ?_
  simp -implicitDefEqProofs (disch := omega) [go_sem]
  rcases (by omega : act w < act v ∨ (¬ act w < act v ∧ act v = act w) ∨ (¬ act w < act v ∧ ¬ act v = act w)) with h1 | ⟨h1, h2⟩ | ⟨h1, h2⟩
  · refine drawK [(0, 0), (1, 0), (2, 0), (3, 1), (4, 0), (5, 0), (6, 1), (7, 0), (8, 0), (9, 0), (10, 1), (11, 0), (12, 0), (13, 1), (14, 0), (15, 0)] mixed (by kernel_rfl) ?_
    simp -implicitDefEqProofs (disch := omega) [go_sem, h0, k1, k2, h1]
    unfold bef; omega
  · refine drawK [(0, 0), (1, 0), (2, 0), (3, 1), (4, 0), (5, 0), (6, 1), (7, 0), (8, 0), (9, 0), (10, 1), (11, 0), (12, 0), (13, 1), (14, 0), (15, 0)] mixed (by kernel_rfl) ?_
    simp -implicitDefEqProofs (disch := omega) [go_sem, h0, k1, k2, h1, h2]
    unfold bef; omega
  · refine drawK [(0, 0), (1, 0), (2, 0), (3, 1), (4, 0), (5, 0), (6, 1), (7, 0), (8, 0), (9, 0), (10, 1), (11, 0), (12, 0), (13, 1), (14, 0), (15, 0)] mixed (by kernel_rfl) ?_
    simp -implicitDefEqProofs (disch := omega) [go_sem, h0, k1, k2, h1, h2]
    unfold bef; omega

theorem swap_h (H : HeapAt h b kb lb pb vars n kc lc pc A act l pl) (W : Wf vars n l pl) {x y : Int} (i k : Nat) (hx : x = i) (hy : y = k) (hi : i < n) (hk : k < n) :
   CallsH Try.prog 99 [.pointer (some ⟨b, 0, none⟩), .int .i64 x, .int .i64 y] h fun r h' => r = .tuple #[] ∧
     HeapAt h' b kb lb pb vars n kc lc pc A act (swapL l i k) (swapP l pl i k) ∧ Fr (fun x => x = lb ∨ x = pb) h h' := by
  have h1 := H.s1
  have h2 := H.s2
  rw [H.hA (by omega)] at h1
  have hli := W.high i hi
  have hlk := W.high k hk
  have c1 := H.cl i hi
  have c2 := H.cl k hk
  have hlv := H.hn
  have p1 := H.cp _ hli
  have p2 := H.cp _ hlk
  subst hx hy
  refine calls_of 58 [] Go.Proofs.Try.func99 rfl rfl rfl (by kernel_rfl) (Nat.le_of_ble_eq_true rfl) ?_
  simp -implicitDefEqProofs (disch := omega) [go_sem]
  refine drawK [(0, 0), (1, 0), (2, 0), (3, 1), (4, 0), (5, 0), (6, 0), (7, 0), (8, 1), (9, 0), (10, 0), (11, 0), (12, 0), (13, 1), (14, 0), (15, 0), (16, 1), (17, 0), (18, 0), (19, 0), (20, 1), (21, 0), (22, 0), (23, 1), (24, 0), (25, 3), (26, 0), (27, 3)] mixed (by kernel_rfl) ?_
  simp -implicitDefEqProofs (disch := omega) [go_sem, h1, h2, c1, c2, H.fl, H.fp]
  by_cases hik : i = k
  · subst hik
    refine drawK [(0, 0), (1, 0), (2, 0), (3, 1), (4, 0), (5, 0), (6, 0), (7, 1), (8, 0), (9, 0), (10, 1), (11, 0), (12, 0), (13, 0), (14, 1), (15, 0), (16, 0), (17, 0), (18, 1), (19, 0), (20, 0), (21, 1), (22, 0), (23, 0), (24, 0), (25, 3), (26, 0), (27, 3)] mixed (by kernel_rfl) ?_
    simp -implicitDefEqProofs (disch := omega) [go_sem, h1, h2, c1, c2, H.fl, H.fp, H.bl, H.bp, H.lp, Ne.symm H.lp, p1, p2]
    exact ⟨(((H.setL hi _).setL hi _).setP hli _).setP hli _, ((((Fr.refl _ _).set (.inl rfl)).set (.inl rfl)).set (.inr rfl)).set (.inr rfl)⟩
  · have hne : ¬ l i = l k := fun e => hik (W.inj hi hk e)
    refine drawK [(0, 0), (1, 0), (2, 0), (3, 1), (4, 0), (5, 0), (6, 0), (7, 1), (8, 0), (9, 0), (10, 1), (11, 0), (12, 0), (13, 0), (14, 1), (15, 0), (16, 0), (17, 0), (18, 1), (19, 0), (20, 0), (21, 1), (22, 0), (23, 0), (24, 0), (25, 3), (26, 0), (27, 3)] mixed (by kernel_rfl) ?_
    simp -implicitDefEqProofs (disch := omega) [go_sem, h1, h2, c1, c2, H.fl, H.fp, H.bl, H.bp, H.lp, Ne.symm H.lp, p1, p2, hik, Ne.symm hik, hne]
    exact ⟨(((H.setL hi _).setL hk _).setP hlk _).setP hli _, ((((Fr.refl _ _).set (.inl rfl)).set (.inl rfl)).set (.inr rfl)).set (.inr rfl)⟩

/-- activities that floats hold -/
def Acts (vars : Nat) (act : Nat → Int) : Prop := ∀ v, v ≤ vars → 0 ≤ act v ∧ act v ≤ 1099511627776

theorem rise_h (H : HeapAt h b kb lb pb vars n kc lc pc A act l pl) (W : Wf vars n l pl) (hact : Acts vars act) {x : Int} (i : Nat) (hx : x = i) (hi : i < n) (U : Up act n l i) :
   CallsH Try.prog 75 [.pointer (some ⟨b, 0, none⟩), .int .i64 x] h fun r h' => r = .tuple #[] ∧
     ∃ l' pl', HeapAt h' b kb lb pb vars n kc lc pc A act l' pl' ∧ Wf vars n l' pl' ∧ Ord act n l' ∧ (∀ v, In n l' v ↔ In n l v) ∧ Fr (fun x => x = lb ∨ x = pb) h h' := by
  subst hx
  refine calls_of 33 [] Go.Proofs.Try.func75 rfl rfl rfl (by kernel_rfl) (Nat.le_of_ble_eq_true rfl) ?_
  simp -implicitDefEqProofs (disch := omega) [go_sem]
  refine scopeL 0 (fun ρ h' => ρ 0 = .pointer (some ⟨b, 0, none⟩) ∧ ∃ i l' pl', ρ 1 = .int .i64 ((i : Nat) : Int) ∧ i < n ∧ HeapAt h' b kb lb pb vars n kc lc pc A act l' pl' ∧ Wf vars n l' pl' ∧ Up act n l' i ∧ (∀ v, In n l' v ↔ In n l v) ∧
    Fr (fun x => x = lb ∨ x = pb) h h') (fun ρ _ => (intOf (ρ 1)).toNat) (by kernel_rfl) ?_ ?_
  · exact ⟨rfl, i, l, pl, rfl, hi, H, W, U, fun _ => Iff.rfl, Fr.refl _ _⟩
  · rintro ρ h' ⟨r0, i, l', pl', r1, hi, H, W, U, hin, hfr⟩
    have hb1 := H.hv
    have hb2 := H.hn
    have h1 := H.s1
    rw [H.hA (by omega)] at h1
    by_cases hi0 : i = 0
    · subst hi0
      simp -implicitDefEqProofs (disch := omega) [go_sem, r0, r1]
      refine drawK [(0, 0), (1, 0), (2, 0), (3, 0), (4, 0), (5, 0), (6, 0), (7, 1), (8, 0), (9, 0), (10, 1), (11, 0), (12, 0), (13, 0), (14, 1), (15, 0), (16, 0), (17, 1), (18, 3), (19, 0)] mixed (by kernel_rfl) ?_
      simp -implicitDefEqProofs (disch := omega) [go_sem, r0, r1]
      exact ⟨l', pl', H, W, U.done (by omega), hin, hfr⟩
    · obtain ⟨u, hu⟩ : ∃ u, u = (i - 1) / 2 := ⟨_, rfl⟩
      have eu : ((i : Int) - 1) / 2 = (u : Int) := by omega
      have c1 := H.cl i hi
      have c2 := H.cl u (by omega)
      simp -implicitDefEqProofs (disch := omega) [go_sem, r0, r1]
      refine drawK [(0, 0), (1, 0), (2, 0), (3, 0), (4, 0), (5, 0), (6, 0), (7, 1), (8, 0), (9, 0), (10, 1), (11, 0), (12, 0), (13, 0), (14, 1), (15, 0), (16, 0), (17, 1), (18, 3), (19, 0)] mixed (by kernel_rfl) ?_
      simp -implicitDefEqProofs (disch := omega) [go_sem, r0, r1, h1, c1, c2, eu, (by omega : 0 < i)]
      refine useC (ahead_h H hact (l' i) (l' u) rfl rfl (W.high _ hi) (W.high _ (by omega))) ?_
      rintro _ _ ⟨rfl, rfl⟩
      by_cases hbf : bef act (l' i) (l' u)
      · simp -implicitDefEqProofs (disch := omega) [go_sem, r0, r1, hbf, eu]
        refine useC (swap_h H W i u rfl rfl hi (by omega)) ?_
        rintro _ h2 ⟨rfl, H2, hfr2⟩
        simp -implicitDefEqProofs (disch := omega) [go_sem, r0, r1, eu]
        have U2 := U.step (by omega) hi (by rw [← hu]; exact hbf)
        rw [← hu] at U2
        exact ⟨⟨u, rfl, by omega, _, _, H2, W.swap hi (by omega), U2, fun v => (In.swap hi (by omega)).trans (hin v), hfr.trans hfr2⟩, by omega⟩
      · simp -implicitDefEqProofs (disch := omega) [go_sem, r0, r1, hbf, eu]
        exact ⟨l', pl', H, W, U.done (fun _ => by rw [← hu]; exact hbf), hin, hfr⟩
end
end Xe
