/- Package graph: Good; parts. -/
import Derived.Test.YtkghjecglmmloaaG3
namespace Xe
open Go Go.Proofs Gr
set_option maxRecDepth 16000
set_option maxHeartbeats 1000000

/-- an argument: rows of numbers -/
structure ArgsG (h : Heap) (A : Option Addr) (m : Nat) (gs : Nat → List Int) : Prop where
  small : m < 2 ^ 63
  at' : ∀ i, i < m → ∃ bk off B c, A = some ⟨bk, off, none⟩ ∧ hcell h ⟨bk, off + i, none⟩ = some (.slice B (gs i).length c) ∧ RowAt h B (ints (gs i)) ∧ (gs i).length < 2 ^ 63 ∧ (∀ x ∈ gs i, -9223372036854775808 ≤ x ∧ x ≤ 9223372036854775807)
theorem ArgsG.fr {h : Heap} {A : Option Addr} {m : Nat} {gs : Nat → List Int} (R : ArgsG h A m gs) {h' : Heap} (f : Fr (fun _ => False) h h') : ArgsG h' A m gs :=
  ⟨R.small, fun i hi => by
    obtain ⟨bk, off, B, c, h1, h2, h3, h4⟩ := R.at' i hi
    exact ⟨bk, off, B, c, h1, (f.cell (hcell_lt h2) id).trans h2, h3.fr0 f, h4⟩⟩
def gi (l : List Int) (k : Nat) : Int := l.getD k 0
theorem gi_at {l : List Int} {k : Nat} (h : k < l.length) : l[k]? = some (gi l k) := by unfold gi; rw [List.getD_eq_getElem?_getD, List.getElem?_eq_getElem h]; rfl
theorem gi_mem {l : List Int} {k : Nat} (h : k < l.length) : gi l k ∈ l := List.mem_of_getElem? (gi_at h)
def OkG (m : Nat) (l : List Int) (k : Nat) : Prop := 0 ≤ gi l k ∧ gi l k < m ∧ (0 < k → gi l (k - 1) < gi l k)
def GoodG (m : Nat) (gs : Nat → List Int) : Prop := m ≤ 4096 ∧ ∀ i, i < m → ∀ k, k < (gs i).length → OkG m (gs i) k

section
variable {h : Heap} {A : Option Addr} {m c : Nat} {gs : Nat → List Int}
theorem goodG_ok (R : ArgsG h A m gs) : CallsH Try.prog 69 [.slice A m c] h fun r h' => ∃ b, r = .bool b ∧ (b = true ↔ GoodG m gs) ∧ h' = h := by
  have hms := R.small
  refine calls_of 35 [.tmp 2] Go.Proofs.Try.func69 rfl rfl rfl (by kernel_rfl) (Nat.le_of_ble_eq_true rfl) ?_
  by_cases hm : 4096 < m
  · have hm' : (4096 : Int) < m := by omega
    simp -implicitDefEqProofs (disch := omega) [go_sem, hm']
    exact fun h => absurd h.1 (by omega)
  · have hm' : ¬ (4096 : Int) < m := by omega
    simp -implicitDefEqProofs (disch := omega) [go_sem, hm']
    refine loopK (fun ρ h' => ρ 0 = .slice A m c ∧ ρ 11 = .slice A m c ∧ ρ 12 = .int .i64 m ∧ h' = h ∧ ∃ i : Nat, ρ 13 = .int .i64 i ∧ i ≤ m ∧ ∀ j, j < i → ∀ k, k < (gs j).length → OkG m (gs j) k)
      (fun ρ _ => m - (intOf (ρ 13)).toNat) (by kernel_rfl) ?_ ?_
    · exact ⟨rfl, rfl, rfl, rfl, 0, rfl, by omega, fun j hj => by omega⟩
    · rintro ρ h' ⟨r0, r11, r12, rfl, i, r13, hi, hall⟩
      by_cases him : i < m
      · obtain ⟨bk, off, B, d, rfl, e0, RB, hl63, hrg⟩ := R.at' i him
        simp -implicitDefEqProofs (disch := omega) [go_sem, r0, r11, r12, r13, e0]
        have hmu : (intOf (ρ 13)).toNat = i := by rw [r13]; rfl
        refine loopK (fun ρ h1 => ρ 0 = .slice (some ⟨bk, off, none⟩) m c ∧ ρ 11 = .slice (some ⟨bk, off, none⟩) m c ∧ ρ 12 = .int .i64 m ∧ ρ 13 = .int .i64 i ∧ ρ 17 = .slice B (gs i).length d ∧ ρ 18 = .int .i64 (gs i).length ∧ h1 = h' ∧
          ∃ k : Nat, ρ 19 = .int .i64 k ∧ k ≤ (gs i).length ∧ (∃ y : Int, ρ 5 = .int .i64 y ∧ y = if k = 0 then -1 else gi (gs i) (k - 1)) ∧ ∀ j, j < k → OkG m (gs i) j) (fun ρ _ => (gs i).length - (intOf (ρ 19)).toNat) (by kernel_rfl) ?_ ?_
        · exact ⟨r0, r11, r12, r13, rfl, rfl, rfl, 0, rfl, by omega, ⟨-1, rfl, rfl⟩, fun j hj => by omega⟩
        · clear r0 r11 r12 r13
          rintro ρ h1 ⟨r0, r11, r12, r13, r17, r18, rfl, k, r19, hk, ⟨y, r5, hy⟩, hok⟩
          by_cases hkl : k < (gs i).length
          · obtain ⟨rk, ro, rfl, hc⟩ := RB.get (by rw [ints_len]; omega)
            have ck := hc k _ (ints_at (gi_at hkl))
            have hx := hrg _ (gi_mem hkl)
            have hprev : 0 < k → 0 ≤ gi (gs i) (k - 1) := fun h0 => (hok (k - 1) (by omega)).1
            obtain ⟨x, ex⟩ : ∃ x, x = gi (gs i) k := ⟨_, rfl⟩
            rw [← ex] at ck hx
            by_cases h1 : x ≤ y
            · simp -implicitDefEqProofs (disch := omega) [go_sem, r0, r11, r12, r13, r17, r18, r19, r5, ck, h1]
              intro hG
              have hO := hG.2 i him k hkl
              unfold OkG at hO
              rw [← ex] at hO
              by_cases h0 : k = 0
              · rw [if_pos h0] at hy; omega
              · rw [if_neg h0] at hy; have := hO.2.2 (by omega); omega
            · by_cases h2 : (m : Int) ≤ x
              · simp -implicitDefEqProofs (disch := omega) [go_sem, r0, r11, r12, r13, r17, r18, r19, r5, ck, h1, h2]
                intro hG
                have hO := hG.2 i him k hkl
                unfold OkG at hO
                rw [← ex] at hO
                omega
              · simp -implicitDefEqProofs (disch := omega) [go_sem, r0, r11, r12, r13, r17, r18, r19, r5, ck, h1, h2]
                refine ⟨⟨k + 1, by omega, by omega, ?_, fun j hj => ?_⟩, by omega⟩
                · rw [if_neg (by omega), Nat.add_sub_cancel]; exact ex
                · by_cases e : j = k
                  · rw [e]
                    unfold OkG
                    rw [← ex]
                    by_cases h0 : k = 0
                    · rw [if_pos h0] at hy
                      exact ⟨by omega, by omega, fun h => by omega⟩
                    · rw [if_neg h0] at hy
                      have := hprev (by omega)
                      exact ⟨by omega, by omega, fun h => by omega⟩
                  · exact hok j (by omega)
          · simp -implicitDefEqProofs (disch := omega) [go_sem, r0, r11, r12, r13, r17, r18, r19, r5]
            refine ⟨⟨i + 1, by omega, by omega, fun j hj k' hk' => ?_⟩, by omega⟩
            by_cases e : j = i
            · rw [e] at hk' ⊢; exact hok k' (by omega)
            · exact hall j (by omega) k' hk'
      · simp -implicitDefEqProofs (disch := omega) [go_sem, r0, r11, r12, r13]
        exact ⟨by omega, fun j hj => hall j (by omega)⟩

/-- the points that a right graph's rows name -/
def EG (m : Nat) (gs : Nat → List Int) (i : Nat) : List Nat := if i < m then (gs i).map Int.toNat else []
theorem EG_toI (G : GoodG m gs) {i : Nat} (hi : i < m) : toI (EG m gs i) = gs i := by
  unfold EG toI
  rw [if_pos hi, List.map_map]
  refine (List.map_congr_left (g := id) fun x hx => ?_).trans (List.map_id _)
  obtain ⟨k, hk⟩ := List.getElem?_of_mem hx
  have hkl := (List.getElem?_eq_some_iff.1 hk).1
  have := (G.2 i hi k hkl).1
  rw [gi_at hkl] at hk
  cases hk
  exact Int.toNat_of_nonneg this
theorem EG_len {i : Nat} (hi : i < m) : (EG m gs i).length = (gs i).length := by unfold EG; rw [if_pos hi, List.length_map]
theorem EG_gd (G : GoodG m gs) : Gd (EG m gs) m := fun p hp q hq => by
  unfold EG at hq
  rw [if_pos hp] at hq
  obtain ⟨x, hx, rfl⟩ := List.mem_map.1 hq
  obtain ⟨k, hk⟩ := List.getElem?_of_mem hx
  have hkl := (List.getElem?_eq_some_iff.1 hk).1
  have := G.2 p hp k hkl
  rw [gi_at hkl] at hk
  cases hk
  have h1 := this.1
  have h2 := this.2.1
  omega
theorem EG_inc (G : GoodG m gs) (p : Nat) : Inc (EG m gs p) := by
  unfold EG
  by_cases hp : p < m
  · rw [if_pos hp]
    have key : ∀ d k, k + d < (gs p).length → d ≠ 0 → gi (gs p) k < gi (gs p) (k + d) := by
      intro d
      induction d with
      | zero => intro k _ h; exact absurd rfl h
      | succ d ih =>
        intro k hk _
        have h1 := (G.2 p hp (k + (d + 1)) hk).2.2 (by omega)
        rw [show k + (d + 1) - 1 = k + d by omega] at h1
        by_cases e : d = 0
        · subst e; exact h1
        · have := ih k (by omega) e; omega
    unfold Inc
    rw [List.pairwise_map, List.pairwise_iff_getElem]
    intro i j hi hj hij
    have h1 := key (j - i) i (by omega) (by omega)
    rw [show i + (j - i) = j by omega] at h1
    have h0 := (G.2 p hp i hi).1
    have e1 := gi_at hi
    have e2 := gi_at hj
    rw [List.getElem?_eq_getElem hi] at e1
    rw [List.getElem?_eq_getElem hj] at e2
    rw [Option.some.inj e1, Option.some.inj e2]
    omega
  · rw [if_neg hp]; exact .nil
theorem EG_deg (G : GoodG m gs) : ∀ i, i < m → (EG m gs i).length ≤ 4096 := fun i hi => by
  have := Tp.nodup_le (a := EG m gs i) (b := List.range m) (EG_inc G i).nd fun x hx => List.mem_range.2 (EG_gd G i hi x hx)
  rw [List.length_range] at this
  have := G.1
  omega
/-- a right graph, read -/
theorem ArgsG.gr (R : ArgsG h A m gs) (G : GoodG m gs) : GrM h (fun x => x < h.size) A m (EG m gs) where
  at' i hi := by
    obtain ⟨bk, off, B, c, h1, h2, h3, h5, h6⟩ := R.at' i hi
    refine ⟨bk, off, B, c, h1, by rw [EG_len hi]; exact h2, by unfold nts; rw [EG_toI G hi]; exact h3, hcell_lt h2, fun e x hx => ?_⟩
    have hl : 0 < (ints (gs i)).length := by
      rw [ints_len, ← EG_len (m := m) hi]
      exact List.length_pos_iff.2 e
    obtain ⟨rk, ro, rfl, hc⟩ := h3.get hl
    obtain ⟨a, ha, rfl⟩ := hx
    cases ha
    exact hcell_lt (hc 0 _ (List.getElem?_eq_getElem hl))
  lt x hx := hx

/-- the walker, new -/
theorem WM.start {C : Nat → Prop} {n : Nat} {E : Nat → List Nat} {h : Heap} {A : Option Addr} {c wb mb ib : Nat} (M : GrM h C A n E) (hn : n ≤ 4096) (hwm : wb ≠ mb) (hwi : wb ≠ ib) (hmi : mb ≠ ib) (nw : ¬ C wb) (nm : ¬ C mb) (ni : ¬ C ib)
    (B : ListB h wb [.slice A n c, .slice (some ⟨mb, 0, none⟩) n n, .slice none 0 0, .slice (some ⟨ib, 0, none⟩) n n, .slice none 0 0]) (Mm : FnB h mb n (fun _ => .complex .f64 (Fx.enc 0) (Fx.enc 0))) (Ii : FnB h ib n (fun _ => .bool false)) :
    ∃ p, WM h wb p E n ts0 ∧ ∀ x t, p.c x = some t → (C x ∧ t = .arg) ∨ x = wb ∨ x = mb ∨ x = ib := by
  classical
  have cw : (fun x => if C x then some GTag.arg else if x = wb then some .w else if x = mb then some .m else if x = ib then some .i else none) wb = some .w := by simp [nw]
  have cm : (fun x => if C x then some GTag.arg else if x = wb then some .w else if x = mb then some .m else if x = ib then some .i else none) mb = some .m := by simp [nm, hwm.symm]
  have ci : (fun x => if C x then some GTag.arg else if x = wb then some .w else if x = mb then some .m else if x = ib then some .i else none) ib = some .i := by simp [ni, hwi.symm, hmi.symm]
  have ca : ∀ x, (fun x => if C x then some GTag.arg else if x = wb then some .w else if x = mb then some .m else if x = ib then some .i else none) x = some .arg ↔ C x := fun x => by
    by_cases hc : C x
    · simp [hc]
    · simp only [if_neg hc]
      split
      · simp [hc]
      · split
        · simp [hc]
        · split <;> simp [hc]
  have cc : ∀ x t, (fun x => if C x then some GTag.arg else if x = wb then some .w else if x = mb then some .m else if x = ib then some .i else none) x = some t → (C x ∧ t = .arg) ∨ x = wb ∨ x = mb ∨ x = ib := fun x t ht => by
    by_cases hc : C x
    · simp only [if_pos hc] at ht; cases ht; exact .inl ⟨hc, rfl⟩
    · simp only [if_neg hc] at ht
      split at ht
      · rename_i e; exact .inr (.inl e)
      · split at ht
        · rename_i e; exact .inr (.inr (.inl e))
        · split at ht
          · rename_i e; exact .inr (.inr (.inr e))
          · cases ht
  refine ⟨⟨A, c, mb, none, 0, ib, none, 0, [], fun x => if C x then some GTag.arg else if x = wb then some .w else if x = mb then some .m else if x = ib then some .i else none⟩, ?_, cc⟩
  exact {
    low := fun x t hx => by
      rcases cc x t hx with h1 | rfl | rfl | rfl
      · exact M.lt x h1.1
      · exact B.lt
      · exact Mm.lt
      · exact Ii.lt
    B := B, cB := cw, cM := cm, cI := ci
    G := M.ext (fun x k => (ca x).2 k) fun x k => M.lt x ((ca x).1 k)
    M := Mm
    O := SlAt.nil h
    cO := fun x hx => by obtain ⟨a, ha, _⟩ := hx; cases ha
    I := Ii.cong fun i _ => by simp [ts0]
    R := SlAt.nil h
    cR := fun x hx => by obtain ⟨a, ha, _⟩ := hx; cases ha
    V := ⟨rfl, fun i l hl => by simp [ts0] at hl⟩
    sm := ⟨hn, Nat.zero_le _, Nat.zero_le _, fun q => ⟨Nat.zero_le _, Nat.zero_le _⟩⟩ }
theorem get_push_at' {h : Heap} {X : Obj} {b : Nat} (hb : b = h.size) : (h.push X)[b]? = some X := by subst hb; exact push_new
theorem FnB.ofPush {h : Heap} {b m : Nat} {z : Value} {e : TypeId} (hb : h[b]? = some (.cells (zerosOf #[z] m) e)) : FnB h b m (fun _ => z) := by
  have F : FnB ((#[] : Heap).push (.cells (zerosOf #[z] m) e)) (#[] : Heap).size m (fun _ => z) := FnB.zeros
  have hlt : b < h.size := (Array.getElem?_eq_some_iff.1 hb).1
  have e0 : ((#[] : Heap).push (.cells (zerosOf #[z] m) e))[(#[] : Heap).size]? = some (.cells (zerosOf #[z] m) e) := push_new
  refine ⟨fun i hi => ?_, fun o => ?_, hlt⟩
  · have := F.at' i hi
    unfold hcell at this ⊢
    rw [e0] at this
    rw [hb]; exact this
  · have := F.fz o
    unfold hfrz at this ⊢
    rw [e0] at this
    rw [hb]; exact this

def PInv (h : Heap) (A : Option Addr) (c n : Nat) (E : Nat → List Nat) (ρ : Env) (h' : Heap) : Prop := ρ 15 = .slice A n c ∧ ρ 16 = .int .i64 n ∧ ∃ (wb : Nat) (p : GB) (s : TS) (i : Nat), ρ 3 = .pointer (some ⟨wb, 0, none⟩) ∧ ρ 4 = .int .i64 (s.nxt : Nat) ∧ ρ 17 = .int .i64 i ∧ i ≤ n ∧ WM h' wb p E n s ∧ TI E n s ∧ s.st = [] ∧
      (∀ x, x < i → s.num x ≠ 0) ∧ (∀ x t, p.c x = some t → h.size ≤ x ∨ t = .arg) ∧ Fr (fun _ => False) h h'
theorem PInv.init {C : Nat → Prop} {n : Nat} {E : Nat → List Nat} {ρ : Env} {H : Heap} (wb mb ib : Nat) {e1 e2 e3 : TypeId} (M : GrM h C A n E) (hn : n ≤ 4096) (r15 : ρ 15 = .slice A n c) (r16 : ρ 16 = .int .i64 n) (r3 : ρ 3 = .pointer (some ⟨wb, 0, none⟩)) (r4 : ρ 4 = .int .i64 1) (r17 : ρ 17 = .int .i64 0)
    (hw : h.size ≤ wb) (hm : h.size ≤ mb) (hi : h.size ≤ ib) (hwm : wb ≠ mb) (hwi : wb ≠ ib) (hmi : mb ≠ ib) (f : Fr (fun _ => False) h H) (h1 : H[mb]? = some (.cells (zerosOf #[.complex .f64 (Fx.enc 0) (Fx.enc 0)] n) e1)) (h2 : H[ib]? = some (.cells (zerosOf #[.bool false] n) e2))
    (h3 : H[wb]? = some (.cells #[.slice A n c, .slice (some ⟨mb, 0, none⟩) n n, .slice none 0 0, .slice (some ⟨ib, 0, none⟩) n n, .slice none 0 0] e3)) : PInv h A c n E ρ H := by
  have nC : ∀ x, h.size ≤ x → ¬ C x := fun x hx k => by have := M.lt x k; omega
  have B : ListB H wb [.slice A n c, .slice (some ⟨mb, 0, none⟩) n n, .slice none 0 0, .slice (some ⟨ib, 0, none⟩) n n, .slice none 0 0] := by
    refine ⟨fun i v hv => ?_, fun o => ?_, (Array.getElem?_eq_some_iff.1 h3).1⟩
    · unfold hcell; rw [h3]; simpa using hv
    · unfold hfrz; rw [h3]; simp
  obtain ⟨p, W, k⟩ := WM.start (M.fr0 f) hn hwm hwi hmi (nC _ hw) (nC _ hm) (nC _ hi) B (FnB.ofPush h1) (FnB.ofPush h2)
  refine ⟨r15, r16, wb, p, ts0, 0, r3, r4, r17, Nat.zero_le _, W, TI.start, rfl, fun x hx => by omega, fun x t hx => ?_, f⟩
  rcases k x t hx with ⟨_, h⟩ | rfl | rfl | rfl
  · exact .inr h
  · exact .inl hw
  · exact .inl hm
  · exact .inl hi
theorem parts_ok {C : Nat → Prop} {n : Nat} {E : Nat → List Nat} (M : GrM h C A n E) (hn : n ≤ 4096) (hdeg : ∀ i, i < n → (E i).length ≤ 4096) (hG : Gd E n) :
    CallsH Try.prog 94 [.slice A n c] h fun r h' => ∃ R rc vs L, ∃ C1 : Nat → Prop, r = .slice R vs.length rc ∧ SlAt h' R rc vs ∧ RowsN h' C1 vs L ∧ Parts E n L ∧ (∀ x, C1 x → h.size ≤ x ∧ ¬ blk R x) ∧ (∀ x, blk R x → h.size ≤ x) ∧ Fr (fun _ => False) h h' := by
  refine calls_of 37 [.tmp 2] Go.Proofs.Try.func94 rfl rfl rfl (by kernel_rfl) (Nat.le_of_ble_eq_true rfl) ?_
  simp -implicitDefEqProofs (disch := omega) [go_sem]
  refine drawT (.br2 [(0, 0), (1, 0), (2, 0), (4, 0), (5, 0)] 3 (.fin [(6, 3), (7, 0), (8, 3), (9, 0)]) 6 (.fin [(3, 3), (7, 0), (8, 3), (9, 0)])) mixed (by kernel_rfl) ?_
  simp -implicitDefEqProofs (disch := omega) [go_sem]
  refine ⟨?_, ?_⟩
  all_goals
    refine loopK (PInv h A c n E) (fun ρ _ => n - (intOf (ρ 17)).toNat) (by kernel_rfl) ?_ ?_
  case refine_1.refine_1 =>
    refine PInv.init (h.size + 1 + 1) h.size (h.size + 1) (e1 := 100) (e2 := 4) (e3 := 138) M hn ?_ ?_ ?_ ?_ ?_ (by omega) (by omega) (by omega) (by omega) (by omega) (by omega) ((Fr.refl _ _).push.push.push) ?_ ?_ ?_
    · simp -implicitDefEqProofs (disch := first | omega | (simp only [push_size, hset_size]; done) | (simp only [push_size, hset_size]; omega)) [go_sem]
    · simp -implicitDefEqProofs (disch := first | omega | (simp only [push_size, hset_size]; done) | (simp only [push_size, hset_size]; omega)) [go_sem]
    · simp -implicitDefEqProofs (disch := first | omega | (simp only [push_size, hset_size]; done) | (simp only [push_size, hset_size]; omega)) [go_sem]
    · simp -implicitDefEqProofs (disch := first | omega | (simp only [push_size, hset_size]; done) | (simp only [push_size, hset_size]; omega)) [go_sem]
    · simp -implicitDefEqProofs (disch := first | omega | (simp only [push_size, hset_size]; done) | (simp only [push_size, hset_size]; omega)) [go_sem]
    · rw [push_old (by simp only [push_size]; omega), push_old (by simp only [push_size]; omega), push_new]; simp [Value.cells]
    · rw [push_old (by simp only [push_size]; omega), get_push_at' (by simp only [push_size])]; simp [Value.cells]
    · rw [get_push_at' (by simp only [push_size])]; done
  case refine_2.refine_1 =>
    refine PInv.init (h.size + 1 + 1) (h.size + 1) h.size (e1 := 100) (e2 := 4) (e3 := 138) M hn ?_ ?_ ?_ ?_ ?_ (by omega) (by omega) (by omega) (by omega) (by omega) (by omega) ((Fr.refl _ _).push.push.push) ?_ ?_ ?_
    · simp -implicitDefEqProofs (disch := first | omega | (simp only [push_size, hset_size]; done) | (simp only [push_size, hset_size]; omega)) [go_sem]
    · simp -implicitDefEqProofs (disch := first | omega | (simp only [push_size, hset_size]; done) | (simp only [push_size, hset_size]; omega)) [go_sem]
    · simp -implicitDefEqProofs (disch := first | omega | (simp only [push_size, hset_size]; done) | (simp only [push_size, hset_size]; omega)) [go_sem]
    · simp -implicitDefEqProofs (disch := first | omega | (simp only [push_size, hset_size]; done) | (simp only [push_size, hset_size]; omega)) [go_sem]
    · simp -implicitDefEqProofs (disch := first | omega | (simp only [push_size, hset_size]; done) | (simp only [push_size, hset_size]; omega)) [go_sem]
    · rw [push_old (by simp only [push_size]; omega), get_push_at' (by simp only [push_size])]; simp [Value.cells]
    · rw [push_old (by simp only [push_size]; omega), push_old (by simp only [push_size]; omega), push_new]; simp [Value.cells]
    · rw [get_push_at' (by simp only [push_size])]; done
  all_goals
    intro ρ h1 hI
    obtain ⟨r15, r16, wb, p, s, i, r3, r4, r17, hi, W, I, hst, hmet, hc, fr⟩ := hI
    by_cases hin : i < n
    · have s1 := W.B.at' 1 _ rfl
      have cm := W.M.at' i hin
      have hz := I.z i
      by_cases hun : s.num i = 0
      · have hlo := hz hun
        have hun' : (s.num i : Int) = 0 := by omega
        have hlo' : (s.low i : Int) = 0 := by omega
        simp -implicitDefEqProofs (disch := omega) [go_sem, r15, r16, r3, r4, r17, s1, cm, hun', hlo']
        refine useC (walk_m W I hst hin hun hdeg hG) ?_
        rintro _ h2 ⟨p2, s2, rfl, W2, I2, hst2, mo, hq2, g2⟩
        simp -implicitDefEqProofs (disch := omega) [go_sem, PInv, r15, r16, r3, r4, r17]
        refine ⟨⟨p2, s2, rfl, i + 1, by omega, by omega, W2, I2, hst2, fun x hx => ?_, fun x t hx => ?_, ?_⟩, by omega⟩
        · by_cases e : x = i
          · rw [e]; exact hq2
          · exact mo x (hmet x (by omega))
        · rcases g2.own x t hx with k | k
          · exact hc x t k
          · have := fr.size; exact .inl (by omega)
        · exact fr.trans' g2.fr fun x hx k => by
            cases hcx : p.c x with
            | none => exact k.1 hcx
            | some t =>
              rcases hc x t hcx with h1 | h1
              · omega
              · rw [h1] at hcx; exact k.2 hcx
      · have hun' : ¬ (s.num i : Int) = 0 := by omega
        have hnl := W.sm.2.2.2 i
        simp -implicitDefEqProofs (disch := omega) [go_sem, PInv, r15, r16, r3, r4, r17, s1, cm, hun']
        refine ⟨⟨p, s, rfl, i + 1, by omega, by omega, W, I, hst, fun x hx => ?_, hc, fr⟩, by omega⟩
        by_cases e : x = i
        · rw [e]; exact hun
        · exact hmet x (by omega)
    · have e : i = n := by omega
      subst e
      have s4 := W.B.at' 4 _ rfl
      have ho := I.rest hst
      have hP : Parts E i s.grp := {
        g := I.grp
        dis := I.dis
        all := fun q hq => by
          rcases I.met q (hmet q hq) with k | k
          · rw [ho] at k; cases k
          · exact k
        lt := fun q hq => I.lt q (I.cl0 q hq).1 }
      have cV : ∀ x, p.c x = some .row → h.size ≤ x ∧ ¬ blk p.R x := fun x hx => by
        refine ⟨(hc x _ hx).elim id (fun k => by cases k), fun k => ?_⟩
        have := W.cR x k
        rw [hx] at this; cases this
      have cR : ∀ x, blk p.R x → h.size ≤ x := fun x hx => (hc x _ (W.cR x hx)).elim id fun k => by cases k
      simp -implicitDefEqProofs (disch := omega) [go_sem, r15, r16, r3, r4, r17, s4]
      exact ⟨p.R, p.rc, p.vs, ⟨rfl, rfl, rfl⟩, W.R, s.grp, _, W.V, hP, cV, cR, fr⟩
end
end Xe
