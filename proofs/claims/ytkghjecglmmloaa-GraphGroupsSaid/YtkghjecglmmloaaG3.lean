/- Package graph: walk. -/
import Derived.Test.YtkghjecglmmloaaG2
import Derived.Test.YtkghjecglmmloaaT16f
namespace Xe
open Go Go.Proofs Gr
set_option maxRecDepth 16000
set_option maxHeartbeats 1000000

namespace Gr
section
variable {E : Nat → List Nat} {n : Nat} {s : TS}
/-- one edge more of a frame, whose end was met -/
theorem TI.edgeIn (I : TI E n s) {p d q : Nat} {l1 r : List (Nat × Nat)} (e : s.st = l1 ++ (p, d) :: r) (hd : (E p)[d]? = some q) (hq : s.num q ≠ 0 ∧ (q ∈ s.opn → s.low p ≤ s.num q)) :
    TI E n { s with st := l1 ++ (p, d + 1) :: r } := by
  have hd' : d < (E p).length := (List.getElem?_eq_some_iff.1 hd).1
  have hp : (p, d) ∈ s.st := by rw [e]; simp
  have hr : ∀ f, f ∈ l1 ++ (p, d + 1) :: r → f = (p, d + 1) ∨ f ∈ s.st := fun f h => by
    rw [e]
    rcases List.mem_append.1 h with h | h
    · exact .inr (List.mem_append_left _ h)
    · rcases List.mem_cons.1 h with h | h
      · exact .inl h
      · exact .inr (List.mem_append_right _ (List.mem_cons_of_mem _ h))
  have hr' : ∀ f, f ∈ s.st → f = (p, d) ∨ f ∈ l1 ++ (p, d + 1) :: r := fun f h => by
    rw [e] at h
    rcases List.mem_append.1 h with h | h
    · exact .inr (List.mem_append_left _ h)
    · rcases List.mem_cons.1 h with h | h
      · exact .inl h
      · exact .inr (List.mem_append_right _ (List.mem_cons_of_mem _ h))
  have all : ∀ {C : Nat → Prop}, (∀ f ∈ s.st, C f.1) → ∀ f ∈ l1 ++ (p, d + 1) :: r, C f.1 := fun h f hf => by
    rcases hr f hf with rfl | h2
    · exact h (p, d) hp
    · exact h f h2
  have all' : ∀ {C : Nat → Prop}, (∀ f ∈ l1 ++ (p, d + 1) :: r, C f.1) → ∀ f ∈ s.st, C f.1 := fun h f hf => by
    rcases hr' f hf with rfl | h2
    · exact h (p, d + 1) (by simp)
    · exact h f h2
  exact {
    lt := I.lt, z := I.z, nx := I.nx, cnt := I.cnt, inc := I.inc, pos := I.pos, met := I.met, cl0 := I.cl0, clE := I.clE, grp := I.grp, dis := I.dis
    dec := by
      have := I.dec
      have h1 : (s.st.map (·.1)).Pairwise (fun a b => s.num b < s.num a) := List.pairwise_map.2 this
      have h2 : (l1 ++ (p, d + 1) :: r).map (·.1) = s.st.map (·.1) := by rw [e]; simp
      rw [← h2] at h1
      exact List.pairwise_map.1 h1
    sto := fun f hf => by
      rcases hr f hf with rfl | h2
      · exact ⟨(I.sto _ hp).1, hd'⟩
      · exact I.sto f h2
    i1 := all (C := fun v => ∀ u ∈ s.opn, s.num v ≤ s.num u → Rch E v u) I.i1
    l1 := I.l1
    l2 := fun v hv hs => I.l2 v hv (all' (C := fun x => x ≠ v) hs)
    l4 := fun u hu hs => all (C := fun v => s.num v ≤ s.num u → (∀ f' ∈ l1 ++ (p, d + 1) :: r, s.num f'.1 ≤ s.num u → s.num f'.1 ≤ s.num v) → s.low v ≤ s.low u)
      (fun f hf hle hmx => I.l4 u hu (all' (C := fun x => x ≠ u) hs) f hf hle (all' (C := fun x => s.num x ≤ s.num u → s.num x ≤ s.num f.1) hmx))
    l5 := fun f hf w hw => by
      rcases hr f hf with rfl | h2
      · rw [List.take_add_one, hd] at hw
        rcases List.mem_append.1 hw with h3 | h3
        · exact I.l5 _ hp w h3
        · simp at h3; subst h3; exact hq
      · exact I.l5 f h2 w hw
    l5' := fun v hv hs => I.l5' v hv (all' (C := fun x => x ≠ v) hs)
    i6 := fun u hu => by
      obtain ⟨f, hf, hle⟩ := I.i6 u hu
      rcases hr' f hf with rfl | h2
      · exact ⟨(p, d + 1), by simp, hle⟩
      · exact ⟨f, h2, hle⟩ }
theorem TI.opn_lt (I : TI E n s) {q : Nat} (hq : q < n) (h0 : s.num q = 0) : s.opn.length + 1 ≤ n := by
  have := Tp.nodup_le (a := q :: s.opn) (b := List.range n) (List.nodup_cons.2 ⟨fun h => I.pos q h h0, I.nd⟩) fun x hx => by
    rcases List.mem_cons.1 hx with rfl | h
    · exact List.mem_range.2 hq
    · exact List.mem_range.2 (I.lt x (I.pos x h))
  rwa [List.length_cons, List.length_range] at this
theorem TI.opn_le (I : TI E n s) : s.opn.length ≤ n := by
  have := Tp.nodup_le (a := s.opn) (b := List.range n) I.nd fun x hx => List.mem_range.2 (I.lt x (I.pos x hx))
  rwa [List.length_range] at this
theorem TI.grp_lt (I : TI E n s) {q : Nat} (hq : q ∈ s.opn) : s.grp.length + 1 ≤ n := by
  have hh : ∀ l ∈ s.grp, hd l ∈ l := fun l hl => (hd_mem (I.grp l hl)).1
  have := Tp.nodup_le (a := q :: s.grp.map hd) (b := List.range n) (List.nodup_cons.2 ⟨fun h => by
      obtain ⟨l, hl, e⟩ := List.mem_map.1 h
      exact (I.cl0 q ⟨l, hl, e ▸ hh l hl⟩).2 hq, by
      unfold List.Nodup
      rw [List.pairwise_map]
      exact I.dis.imp_of_mem fun {a b} ha hb h e => h (hd a) (hh a ha) (e ▸ hh b hb)⟩) fun x hx => by
    rw [List.mem_range]
    rcases List.mem_cons.1 hx with rfl | h
    · exact I.lt _ (I.pos _ hq)
    · obtain ⟨l, hl, e⟩ := List.mem_map.1 h
      exact I.lt x (I.cl0 x ⟨l, hl, e ▸ hh l hl⟩).1
  rwa [List.length_cons, List.length_map, List.length_range] at this
theorem TI.nxt_le (I : TI E n s) : s.nxt ≤ n + 1 := by have := I.cnt; omega
theorem TI.st_len (I : TI E n s) : s.st.length ≤ n := by
  have := Tp.nodup_le (a := s.st.map (·.1)) (b := List.range n) (by
      unfold List.Nodup
      rw [List.pairwise_map]
      exact I.dec.imp fun h e => by rw [e] at h; omega) fun x hx => by
    obtain ⟨f, hf, rfl⟩ := List.mem_map.1 hx
    exact List.mem_range.2 (I.lt _ (I.pos _ (I.sto f hf).1))
  rwa [List.length_map, List.length_range] at this
end
end Gr

/-- frames, as cells; the last one ahead -/
def frs : List (Nat × Nat) → List Value
  | [] => []
  | f :: r => frs r ++ [.int .i64 (f.1 : Int), .int .i64 (f.2 : Int)]
theorem frs_len : ∀ st : List (Nat × Nat), (frs st).length = st.length * 2
  | [] => rfl
  | f :: r => by rw [frs, List.length_append, frs_len r, List.length_cons]; simp; omega
theorem frs_at0 (f : Nat × Nat) (r : List (Nat × Nat)) : (frs (f :: r))[r.length * 2]? = some (.int .i64 (f.1 : Int)) := by
  rw [frs, List.getElem?_append_right (by rw [frs_len]; omega), frs_len, Nat.sub_self]; rfl
theorem frs_at1 (f : Nat × Nat) (r : List (Nat × Nat)) : (frs (f :: r))[r.length * 2 + 1]? = some (.int .i64 (f.2 : Int)) := by
  rw [frs, List.getElem?_append_right (by rw [frs_len]; omega), frs_len, Nat.add_sub_cancel_left]; rfl
theorem frs_set (p d d' : Nat) (r : List (Nat × Nat)) : (frs ((p, d) :: r)).set (r.length * 2 + 1) (.int .i64 (d' : Int)) = frs ((p, d') :: r) := by
  rw [frs, frs, List.set_append_right _ _ (by rw [frs_len]; omega), frs_len, Nat.add_sub_cancel_left]; rfl
theorem frs_take (f : Nat × Nat) (r : List (Nat × Nat)) : (frs (f :: r)).take (r.length * 2) = frs r := by
  rw [frs, ← frs_len r, List.take_left]
theorem frs_one : ∀ st : List (Nat × Nat), ∀ w ∈ frs st, w.oneCell' = true
  | [], w, h => by cases h
  | f :: r, w, h => by
    rcases List.mem_append.1 h with h | h
    · exact frs_one r w h
    · simp at h; rcases h with rfl | rfl <;> rfl

/-- a slice of one struct of two cells, fresh -/
theorem build2s {e : TypeId} {bt : Nat} {z0 z1 a b : Value} {h : Heap} {k : Value → Heap → Prop} (hk : k (.slice (some ⟨h.size, 0, none⟩) 1 1) (h.push (.cells #[a, b] e))) :
    @buildSliceK (some (e, 2, bt, .agg #[z0, z1])) 1 [(0, .agg #[a, b])] ⟨h⟩ ⟨k⟩ := by
  refine ⟨by omega, #[a, b], ?_, hk⟩
  have hz : (zerosOf (Value.agg #[z0, z1]).cells (1 * 2)).size = 2 := by simp [zerosOf]
  obtain ⟨L, hL⟩ : ∃ L, zerosOf (Value.agg #[z0, z1]).cells (1 * 2) = ⟨L⟩ := ⟨_, rfl⟩
  rw [hL] at hz ⊢
  match L, hz with
  | [p, q], _ => simp [Instr.fill, Value.cells, List.zipIdx]

theorem GStp.own0 {p p' : GB} {h h' h'' : Heap} (a : GStp p p' h h') {S : Nat → Prop} (f : Fr S h' h'') (hS : ∀ x, S x → h.size ≤ x) : GStp p p' h h'' :=
  ⟨a.ext, a.own, a.fr.trans' f fun x hx k => by have := hS x k; omega⟩

/-- the stack's blocks: new, and nobody's -/
structure StkM (h0 h : Heap) (c : Nat → Option GTag) (A : Option Addr) (sc : Nat) (st : List (Nat × Nat)) : Prop where
  S : SlAt h A (sc * 2) (frs st)
  own : ∀ x, blk A x → h0.size ≤ x
  no : ∀ x, blk A x → c x = none
theorem StkM.step {h0 h h' : Heap} {p p' : GB} {A : Option Addr} {sc : Nat} {st : List (Nat × Nat)} (K : StkM h0 h p.c A sc st) (g : GStp p p' h h') : StkM h0 h' p'.c A sc st where
  S := K.S.fr g.fr fun x hx k => k.1 (K.no x hx)
  own := K.own
  no x hx := by
    cases hc : p'.c x with
    | none => rfl
    | some t =>
      rcases g.own x t hc with h | h
      · rw [K.no x hx] at h; cases h
      · have := K.S.blk_lt hx; omega

theorem tm_edgeIn {E : Nat → List Nat} {n : Nat} {s : TS} {p d : Nat} {l1 r : List (Nat × Nat)} (e : s.st = l1 ++ (p, d) :: r) (hd : d < (E p).length) : tm E n { s with st := l1 ++ (p, d + 1) :: r } + 1 = tm E n s := by
  unfold tm
  rw [e]
  simp only [List.map_append, List.map_cons, List.sum_append, List.sum_cons]
  omega
section
variable {h : Heap} {wb n : Nat} {p : GB} {E : Nat → List Nat} {s : TS}
theorem WM.st (M : WM h wb p E n s) (st : List (Nat × Nat)) : WM h wb p E n { s with st := st } := ⟨M.low, M.B, M.cB, M.G, M.M, M.cM, M.O, M.cO, M.I, M.cI, M.R, M.cR, M.V, M.sm⟩
theorem walk_m (M : WM h wb p E n s) (I : TI E n s) (hst : s.st = []) {q : Nat} (hq : q < n) (h0 : s.num q = 0) (hdeg : ∀ i, i < n → (E i).length ≤ 4096) (hG : Gd E n) :
    CallsH Try.prog 113 [.pointer (some ⟨wb, 0, none⟩), .int .i64 q, .int .i64 s.nxt] h fun r h' =>
      ∃ p' s', r = .int .i64 (s'.nxt : Nat) ∧ WM h' wb p' E n s' ∧ TI E n s' ∧ s'.st = [] ∧ (∀ x, s.num x ≠ 0 → s'.num x ≠ 0) ∧ s'.num q ≠ 0 ∧ GStp p p' h h' := by
  have hn := M.sm.1
  refine calls_of 138 [.tmp 6] Go.Proofs.Try.func113 rfl rfl rfl (by kernel_rfl) (Nat.le_of_ble_eq_true rfl) ?_
  simp -implicitDefEqProofs (disch := omega) [go_sem]
  refine scopeMG 0 (fun m ρ h' => ρ 0 = .pointer (some ⟨wb, 0, none⟩) ∧ ∃ p' s' A sc, ρ 2 = .int .i64 (s'.nxt : Nat) ∧ ρ 7 = .slice A s'.st.length sc ∧ WM h' wb p' E n s' ∧ TI E n s' ∧ GStp p p' h h' ∧ StkM h h' p'.c A sc s'.st ∧
    (∀ x, s.num x ≠ 0 → s'.num x ≠ 0) ∧ s'.num q ≠ 0 ∧ tm E n s' = m) rfl rfl (by kernel_rfl) ?_ ?_
  · simp -implicitDefEqProofs (disch := omega) [go_sem]
    refine useC (meet_m M hq (by have := I.nxt_le; omega) (by have := I.opn_lt hq h0; omega)) ?_
    rintro _ h1 ⟨rfl, p1, M1, g1⟩
    simp -implicitDefEqProofs (disch := omega) [go_sem]
    refine build2s ?_
    have hnx := I.nxt_le
    simp -implicitDefEqProofs (disch := omega) [go_sem]
    have est : (s.meet q).st = [(q, 0)] := by show (q, 0) :: s.st = _; rw [hst]
    have f1 : Fr (fun _ => False) h1 (h1.push (.cells #[.int .i64 (q : Int), .int .i64 0] 149)) := (Fr.refl _ _).push
    refine ⟨_, p1, s.meet q, ?_, _, _, ⟨rfl, ?_, rfl⟩, M1.fr0 f1, I.meet hq h0 (.inl hst), g1.trans (GStp.fr0 f1), ⟨?_, ?_, ?_⟩, ?_, ?_, rfl⟩
    · show _ = ((s.nxt + 1 : Nat) : Int); omega
    · rw [est]; rfl
    · rw [est]; exact SlAt.new (vs := [.int .i64 (q : Int), .int .i64 0])
    · rintro x ⟨a, ha, rfl⟩
      cases ha
      exact g1.fr.size
    · rintro x ⟨a, ha, rfl⟩
      cases ha
      show p1.c h1.size = none
      cases hc : p1.c h1.size with
      | none => rfl
      | some t => have := M1.low _ _ hc; omega
    · intro x hx
      by_cases e : x = q
      · exact absurd (e ▸ h0) hx
      · show ¬ upd s.num q s.nxt x = 0
        rw [upd_ne e]; exact hx
    · show ¬ upd s.num q s.nxt q = 0
      rw [upd_same]; have := I.nx q; omega
  · rintro m ρ h1 ⟨r0, p1, s1, A, sc, r2, r7, M1, I1, g1, K1, mo, hmq, hm⟩
    have hstl := I1.st_len
    cases hs : s1.st with
    | nil =>
      rw [hs] at r7
      simp -implicitDefEqProofs (disch := omega) [go_sem, r0, r2, r7]
      exact ⟨p1, s1, rfl, M1, I1, hs, mo, hmq, g1⟩
    | cons f r =>
      obtain ⟨q0, d⟩ := f
      rw [hs] at r7 K1 hstl
      rw [List.length_cons] at hstl
      have hmem : (q0, d) ∈ s1.st := by rw [hs]; exact List.mem_cons_self ..
      have hq0 : q0 < n := I1.lt _ (I1.pos _ (I1.sto _ hmem).1)
      obtain ⟨ab, hA, hab, hfz, hc⟩ := K1.S.base (by rw [frs_len, List.length_cons]; omega)
      subst hA
      have c0 := hc _ _ (frs_at0 (q0, d) r)
      have c1 := hc _ _ (frs_at1 (q0, d) r)
      obtain ⟨gk, off, B, c, hGA, g0, gR, _, _⟩ := M1.G.at' q0 hq0
      have s0 := M1.B.at' 0 _ rfl
      rw [hGA] at s0
      have elen : ((((q0, d) :: r).length : Nat) : Int) - 1 = r.length := by rw [List.length_cons]; omega
      have hdq := hdeg q0 hq0
      have hdd := (I1.sto _ hmem).2
      simp only at hdd
      have hne : ¬ ((((q0, d) :: r).length : Nat) : Int) = 0 := by rw [List.length_cons]; omega
      have eL : ((((q0, d) :: r).length : Nat) : Int) = (r.length : Int) + 1 := by rw [List.length_cons]; omega
      by_cases hlt : d < (E q0).length
      · have hlt' : (d : Int) < (E q0).length := by omega
        simp -implicitDefEqProofs (disch := omega) [go_sem, r0, r2, r7]
        refine drawK [(0, 0), (1, 0), (2, 0), (3, 1), (4, 0), (5, 0), (6, 0), (7, 1), (8, 0), (9, 0), (10, 0), (11, 1), (12, 0), (13, 1), (14, 0), (15, 0)] mixed (by kernel_rfl) ?_
        simp -implicitDefEqProofs (disch := omega) [go_sem, r0, r2, r7, c0, c1, s0, g0, hlt']
        obtain ⟨rk, ro, hB, hcr⟩ := gR.get (by rw [nts_len]; omega)
        subst hB
        obtain ⟨qq, hqq⟩ : ∃ qq, (E q0)[d]? = some qq := ⟨_, List.getElem?_eq_getElem hlt⟩
        have hqE : qq ∈ E q0 := List.mem_of_getElem? hqq
        have hqn : qq < n := hG q0 hq0 qq hqE
        have cd := hcr _ _ (nts_at hqq)
        refine drawK [(0, 0), (1, 0), (2, 0), (3, 1), (4, 0), (5, 0), (6, 0), (7, 1), (8, 0), (9, 1), (10, 0), (11, 0), (12, 0), (13, 1), (14, 0), (15, 1), (16, 0)] mixed (by kernel_rfl) ?_
        have bA : blk (some ⟨ab, 0, none⟩) ab := ⟨_, rfl, rfl⟩
        have nA := K1.no ab bA
        have nWA : ¬ wb = ab := fun e => by rw [← e, M1.cB] at nA; cases nA
        have nMA : ¬ p1.mb = ab := fun e => by rw [← e, M1.cM] at nA; cases nA
        have nIA : ¬ p1.ib = ab := fun e => by rw [← e, M1.cI] at nA; cases nA
        have s11 := M1.B.at' 1 _ rfl
        have s13 := M1.B.at' 3 _ rfl
        have cm := M1.M.at' qq hqn
        have ci := M1.I.at' qq hqn
        have hnl := M1.sm.2.2.2 qq
        have hz := I1.z qq
        obtain ⟨h2, e2⟩ : ∃ h2, h2 = hset h1 ⟨ab, r.length * 2 + 1, none⟩ (.int .i64 ((d : Int) + 1)) := ⟨_, rfl⟩
        have f2 : Fr (fun x => x = ab) h1 h2 := by rw [e2]; exact (Fr.refl _ _).set rfl
        have M2 : WM h2 wb p1 E n s1 := M1.fr f2 fun x e => by rw [e]; exact nA
        have g2 : GStp p p1 h h2 := g1.own0 f2 fun x e => by rw [e]; exact K1.own _ bA
        have ed : ((d + 1 : Nat) : Int) = (d : Int) + 1 := by omega
        have K2 : StkM h h2 p1.c (some ⟨ab, 0, none⟩) sc ((q0, d + 1) :: r) := by
          refine ⟨?_, K1.own, K1.no⟩
          have := K1.S.set (i := r.length * 2 + 1) (by rw [frs_len, List.length_cons]; omega) (.int .i64 ((d : Int) + 1))
          rw [← ed, frs_set] at this
          rw [e2, ← ed]; exact this
        by_cases hun : s1.num qq = 0
        · have hlo := hz hun
          have hun' : (s1.num qq : Int) = 0 := by omega
          have hlo' : (s1.low qq : Int) = 0 := by omega
          simp -implicitDefEqProofs (disch := omega) [go_sem, r0, r2, r7, c0, c1, s0, g0, cd, hfz, nWA, nMA, nIA, s11, cm, hun', hlo']
          rw [← e2]
          refine useC (meet_m M2 hqn (by have := I1.nxt_le; omega) (by have := I1.opn_lt hqn hun; omega)) ?_
          rintro _ h3 ⟨rfl, p3, M3, g3⟩
          have K3 := K2.step g3
          simp -implicitDefEqProofs (disch := omega) [go_sem, r0, r2, r7]
          refine build2s ?_
          have f4 : Fr (fun _ => False) h3 (h3.push (.cells #[.int .i64 (qq : Int), .int .i64 0] 149)) := (Fr.refl _ _).push
          simp -implicitDefEqProofs (disch := omega) [go_sem, r0, r2, r7]
          refine appendN (K3.S.fr f4 fun _ _ k => k) (by rw [frs_len, List.length_cons]) (SlAt.new (vs := [.int .i64 (qq : Int), .int .i64 0]) (e := 149)).row (by simp) (by omega) (by intro w hw; simp at hw; rcases hw with rfl | rfl <;> rfl) (by omega) (by omega) ?_
          intro A' c' h5 S5 f5 own5
          have hnx := I1.nxt_le
          have z4 : (h3.push (.cells #[.int .i64 (qq : Int), .int .i64 0] 149)).size = h3.size + 1 := push_size
          have fin : GStp p p3 h h5 := (((g2.trans g3).trans (GStp.fr0 f4)).own0 f5 fun x k => K3.own x k)
          have z3 := (g2.trans g3).fr.size
          have nq0 : q0 ≠ qq := fun e => (I1.pos _ (I1.sto _ hmem).1) (e ▸ hun)
          have lt0 := I1.nx q0
          have le0 := (I1.l1 q0 (I1.sto _ hmem).1).1
          have I3 := (I1.meet hqn hun (.inr ⟨q0, d, r, hs, hqE⟩)).edgeIn (l1 := [(qq, 0)]) (r := r) (by show (qq, 0) :: s1.st = _; rw [hs]; rfl) hqq ⟨by
            show upd s1.num qq s1.nxt qq ≠ 0
            rw [upd_same]; have := I1.nx qq; omega, fun _ => by
            show upd s1.low qq s1.nxt q0 ≤ upd s1.num qq s1.nxt qq
            rw [upd_same, upd_ne nq0]; omega⟩
          simp -implicitDefEqProofs (disch := omega) [go_sem, r0, r2, r7]
          refine ⟨_, ?_, p3, { s1.meet qq with st := [(qq, 0)] ++ (q0, d + 1) :: r }, ?_, _, _, ⟨rfl, ?_, rfl⟩, (M3.st _).fr ((f4.mono (T := blk (some ⟨ab, 0, none⟩)) fun _ _ k => k.elim).trans f5) (fun x k => K3.no x k), I3, fin, ⟨?_, ?_, ?_⟩, ?_, ?_, rfl⟩
          · have t1 := tm_edgeIn (E := E) (n := n) (s := s1.meet qq) (l1 := [(qq, 0)]) (r := r) (p := q0) (d := d) (by show (qq, 0) :: s1.st = _; rw [hs]; rfl) hlt
            have t2 := tm_meet (E := E) (n := n) (s := s1) (by have := I1.nx qq; omega) hqn hun
            rw [← hm]; exact Nat.lt_trans (Nat.lt_of_succ_le (Nat.le_of_eq t1)) (Nat.lt_of_succ_le (Nat.le_of_eq t2))
          · show _ = ((s1.nxt + 1 : Nat) : Int); omega
          · show r.length + 1 + 1 = _; simp
          · exact S5
          · intro x k
            rcases own5 x k with k | k
            · exact K3.own x k
            · omega
          · intro x k
            rcases own5 x k with k | k
            · exact K3.no x k
            · cases hc : p3.c x with
              | none => rfl
              | some t => have := M3.low _ _ hc; omega
          · intro x hx
            have h9 := mo x hx
            show ¬ upd s1.num qq s1.nxt x = 0
            by_cases e : x = qq
            · rw [e, upd_same]; have := I1.nx qq; omega
            · rw [upd_ne e]; exact h9
          · show ¬ upd s1.num qq s1.nxt q = 0
            by_cases e : q = qq
            · rw [e, upd_same]; have := I1.nx qq; omega
            · rw [upd_ne e]; exact hmq
        · have hun' : ¬ (s1.num qq : Int) = 0 := by omega
          by_cases hop : qq ∈ s1.opn
          · simp -implicitDefEqProofs (disch := omega) [go_sem, r0, r2, r7, c0, c1, s0, g0, cd, hfz, nWA, nMA, nIA, s11, s13, cm, ci, hun', hop]
            rw [← e2]
            refine drawK [(0, 0), (1, 0), (2, 0), (3, 0), (4, 1), (5, 0), (6, 0), (7, 0), (8, 1), (9, 0), (10, 0), (11, 1), (12, 0), (13, 3)] mixed (by kernel_rfl) ?_
            have s21 := M2.B.at' 1 _ rfl
            have cm2 := M2.M.at' qq hqn
            have c20 : hcell h2 ⟨ab, r.length * 2, none⟩ = some (.int .i64 (q0 : Int)) := by
              rw [e2, hcell_hset, if_neg (by omega)]; exact c0
            simp -implicitDefEqProofs (disch := omega) [go_sem, r0, r2, r7, s21, cm2, c20]
            refine useC (lower_m M2 hq0 (v := s1.num qq) hnl.1) ?_
            rintro _ h3 ⟨M3, g3⟩
            have K3 := K2.step g3
            have I3 := (I1.lower ⟨(q0, d), hmem, rfl⟩ hop rfl (Rch.one hqE)).edge (p := q0) (d := d) (r := r) hs hqq ⟨hun, fun _ => by
              show upd s1.low q0 (min (s1.low q0) (s1.num qq)) q0 ≤ s1.num qq
              rw [upd_same]; omega⟩
            have t1 := tm_edge (E := E) (n := n) (s := s1.lower q0 (s1.num qq)) (p := q0) (d := d) (r := r) hs hlt
            simp -implicitDefEqProofs (disch := omega) [go_sem, r0, r2, r7]
            refine ⟨_, ?_, p1, { s1.lower q0 (s1.num qq) with st := (q0, d + 1) :: r }, rfl, _, _, ⟨rfl, ?_, rfl⟩, M3.st _, I3, g2.trans g3, K3, mo, hmq, rfl⟩
            · rw [← hm]; exact Nat.lt_of_succ_le (Nat.le_of_eq t1)
            · show r.length + 1 = _; simp
          · simp -implicitDefEqProofs (disch := omega) [go_sem, r0, r2, r7, c0, c1, s0, g0, cd, hfz, nWA, nMA, nIA, s11, s13, cm, ci, hun', hop]
            rw [← e2]
            refine ⟨_, ?_, p1, { s1 with st := (q0, d + 1) :: r }, rfl, _, _, ⟨rfl, ?_, rfl⟩, M2.st _, I1.edge hs hqq ⟨hun, fun h => absurd h hop⟩, g2, K2, mo, hmq, rfl⟩
            · have := tm_edge (E := E) (n := n) hs hlt
              rw [← hm]; omega
            · show r.length + 1 = _; simp
      · have hlt' : ¬ (d : Int) < (E q0).length := by omega
        simp -implicitDefEqProofs (disch := omega) [go_sem, r0, r2, r7]
        refine drawK [(0, 0), (1, 0), (2, 0), (3, 1), (4, 0), (5, 0), (6, 0), (7, 1), (8, 0), (9, 0), (10, 0), (11, 1), (12, 0), (13, 1), (14, 0), (15, 0)] mixed (by kernel_rfl) ?_
        simp -implicitDefEqProofs (disch := omega) [go_sem, r0, r2, r7, c0, c1, s0, g0, hlt']
        have hqo := (I1.sto _ hmem).1
        obtain ⟨o1, o2, ho⟩ := List.append_of_mem hqo
        have hcov : (E q0).length ≤ d := by omega
        refine useC (close_m M1 hq0 (fun x k => I1.lt x (I1.pos x k)) ho I1.nd (by have := I1.grp_lt hqo; omega)) ?_
        rintro _ h2 (⟨hlow, rfl⟩ | ⟨hlow, g, p3, hgi, hgm, M3, g3⟩)
        · cases r with
          | nil =>
            simp -implicitDefEqProofs (disch := omega) [go_sem, r0, r2, r7]
            refine ⟨_, ?_, p1, { s1 with st := [] }, rfl, _, _, ⟨rfl, rfl, rfl⟩, M1.st _, I1.drop hs hcov hlow (fun f r' e => by cases e), g1, ⟨?_, K1.own, K1.no⟩, mo, hmq, rfl⟩
            · rw [← hm]; exact tm_drop (s := s1) (o := s1.opn) (g := s1.grp) hs
            · have := K1.S.take 0
              exact this
          | cons f' r' =>
            have hf' : f' ∈ s1.st := by rw [hs]; simp
            have hfn : f'.1 < n := I1.lt _ (I1.pos _ (I1.sto _ hf').1)
            have cf := hc (r'.length * 2) _ (by rw [frs, List.getElem?_append_left (by rw [frs_len, List.length_cons]; omega)]; exact frs_at0 f' r')
            have s21 := M1.B.at' 1 _ rfl
            have cm2 := M1.M.at' q0 hq0
            have hnl := M1.sm.2.2.2 q0
            have hcap2 : r'.length + 1 ≤ sc := by have := K1.S.len; rw [frs_len] at this; simp only [List.length_cons] at this; omega
            have eL2 : (((f' :: r').length : Nat) : Int) - 1 = r'.length := by rw [List.length_cons]; omega
            simp -implicitDefEqProofs (disch := omega) [go_sem, r0, r2, r7]
            refine drawK [(0, 0), (1, 0), (2, 0), (3, 0), (4, 0), (5, 0), (6, 1), (7, 0), (8, 0), (9, 0), (10, 1), (11, 0), (12, 0), (13, 1), (14, 0), (15, 3)] mixed (by kernel_rfl) ?_
            simp -implicitDefEqProofs (disch := omega) [go_sem, r0, r2, r7, s21, cm2, cf]
            refine useC (lower_m M1 hfn (v := s1.low q0) hnl.2) ?_
            rintro _ h3 ⟨M3, g3⟩
            have K3 := K1.step g3
            have nfq : q0 ≠ f'.1 := fun e => by
              have h9 := I1.dec
              rw [hs, List.pairwise_cons] at h9
              have h10 := h9.1 f' (List.mem_cons_self ..)
              rw [← e] at h10
              exact Nat.lt_irrefl _ h10
            have lq : (s1.lower f'.1 (s1.low q0)).low q0 = s1.low q0 := upd_ne nfq
            have I3 := (I1.par (p' := f'.1) (d' := f'.2) hs).drop (p := q0) (d := d) (r := f' :: r') hs hcov (by rw [lq]; exact hlow) fun f r'' e => by
              cases e
              rw [lq]
              show upd s1.low f'.1 (min (s1.low f'.1) (s1.low q0)) f'.1 ≤ _
              rw [upd_same]; omega
            simp -implicitDefEqProofs (disch := omega) [go_sem, r0, r2, r7]
            refine ⟨_, ?_, p1, { s1.lower f'.1 (s1.low q0) with st := f' :: r' }, rfl, _, _, ⟨rfl, ?_, rfl⟩, M3.st _, I3, g1.trans g3, ⟨?_, K3.own, K3.no⟩, mo, hmq, rfl⟩
            · rw [← hm]; exact tm_drop (s := s1.lower f'.1 (s1.low q0)) (o := s1.opn) (g := s1.grp) hs
            · show r'.length + 1 = _; simp
            · have := K3.S.take ((f' :: r').length * 2)
              rw [frs_take] at this
              exact this
        · have I3 := I1.close hs hcov hlow ho hgi hgm
          have K3 := K1.step g3
          have S3 := K3.S.take (r.length * 2)
          rw [frs_take] at S3
          cases r with
          | nil =>
            simp -implicitDefEqProofs (disch := omega) [go_sem, r0, r2, r7]
            refine ⟨_, ?_, p3, { s1 with opn := o1, grp := s1.grp ++ [g], st := [] }, rfl, _, _, ⟨rfl, rfl, rfl⟩, M3.st _, I3, g1.trans g3, ⟨S3, K3.own, K3.no⟩, mo, hmq, rfl⟩
            rw [← hm]; exact tm_drop (s := s1) hs
          | cons f' r' =>
            have hf' : f' ∈ s1.st := by rw [hs]; simp
            have hfn : f'.1 < n := I1.lt _ (I1.pos _ (I1.sto _ hf').1)
            have cf' := hc (r'.length * 2) _ (by rw [frs, List.getElem?_append_left (by rw [frs_len, List.length_cons]; omega)]; exact frs_at0 f' r')
            have bA : blk (some ⟨ab, 0, none⟩) ab := ⟨_, rfl, rfl⟩
            have cf := (g3.fr.cell (o := r'.length * 2) hab (fun k => k.1 (K1.no ab bA))).trans cf'
            have s21 := M3.B.at' 1 _ rfl
            have cm2 := M3.M.at' q0 hq0
            have hnl := M3.sm.2.2.2 q0
            have hcap2 : r'.length + 1 ≤ sc := by have := K1.S.len; rw [frs_len] at this; simp only [List.length_cons] at this; omega
            have eL2 : (((f' :: r').length : Nat) : Int) - 1 = r'.length := by rw [List.length_cons]; omega
            simp -implicitDefEqProofs (disch := omega) [go_sem, r0, r2, r7]
            refine drawK [(0, 0), (1, 0), (2, 0), (3, 0), (4, 0), (5, 0), (6, 1), (7, 0), (8, 0), (9, 0), (10, 1), (11, 0), (12, 0), (13, 1), (14, 0), (15, 3)] mixed (by kernel_rfl) ?_
            simp -implicitDefEqProofs (disch := omega) [go_sem, r0, r2, r7, s21, cm2, cf]
            refine useC (lower_m M3 hfn (v := s1.low q0) hnl.2) ?_
            rintro _ h3' ⟨M4, g4⟩
            have es : TS.lower { s1 with opn := o1, grp := s1.grp ++ [g] } f'.1 (s1.low q0) = { s1 with opn := o1, grp := s1.grp ++ [g] } := by
              have e1 : upd s1.low f'.1 (min (s1.low f'.1) (s1.low q0)) = s1.low := by
                funext x
                by_cases e : x = f'.1
                · rw [e, upd_same]; exact I1.par_same hs hlow (List.mem_cons_self ..)
                · rw [upd_ne e]
              show TS.mk s1.num (upd s1.low f'.1 (min (s1.low f'.1) (s1.low q0))) o1 (s1.grp ++ [g]) s1.st s1.nxt = _
              rw [e1]
            rw [es] at M4
            have K4 := K3.step g4
            have S4 := K4.S.take ((f' :: r').length * 2)
            rw [frs_take] at S4
            simp -implicitDefEqProofs (disch := omega) [go_sem, r0, r2, r7]
            refine ⟨_, ?_, p3, { s1 with opn := o1, grp := s1.grp ++ [g], st := f' :: r' }, rfl, _, _, ⟨rfl, ?_, rfl⟩, M4.st _, I3, (g1.trans g3).trans g4, ⟨S4, K4.own, K4.no⟩, mo, hmq, rfl⟩
            · rw [← hm]; exact tm_drop (s := s1) hs
            · show r'.length + 1 = _; simp
end
end Xe
