/- Package graph: the walker's memory; meet, lower. -/
import Derived.Test.YtkghjecglmmloaaGP
import Derived.Test.YtkghjecglmmloaaT17a
import Derived.Test.YtkghjecglmmloaaSOb
namespace Xe
open Go Go.Proofs Gr
set_option maxRecDepth 16000
set_option maxHeartbeats 1000000

/-- numbers as a row of cells -/
def toI (l : List Nat) : List Int := l.map fun (i : Nat) => (i : Int)
def nts (l : List Nat) : List Value := ints (toI l)
theorem toI_len (l : List Nat) : (toI l).length = l.length := List.length_map ..
theorem nts_len (l : List Nat) : (nts l).length = l.length := by unfold nts; rw [ints_len, toI_len]
theorem toI_at {l : List Nat} {i x : Nat} (h : l[i]? = some x) : (toI l)[i]? = some (x : Int) := by simp [toI, h]
theorem nts_at {l : List Nat} {i x : Nat} (h : l[i]? = some x) : (nts l)[i]? = some (.int .i64 (x : Int)) := ints_at (toI_at h)
theorem nts_append (l m : List Nat) : nts (l ++ m) = nts l ++ nts m := by simp [nts, toI, ints]
theorem nts_take (l : List Nat) (n : Nat) : (nts l).take n = nts (l.take n) := by simp [nts, toI, ints, List.map_take]
theorem nts_drop (l : List Nat) (n : Nat) : (nts l).drop n = nts (l.drop n) := by simp [nts, toI, ints, List.map_drop]
theorem nts_one {l : List Nat} : ∀ w ∈ nts l, w.oneCell' = true := ints_one
theorem nts_snoc (l : List Nat) (x : Nat) : nts l ++ [.int .i64 (x : Int)] = nts (l ++ [x]) := by rw [nts_append]; rfl

inductive GTag
  | w | m | o | i | r | row | arg
theorem recoG {α : Type} {c : Nat → Option α} {sz : Nat} (O : Nat → Prop) (t : α) (h1 : ∀ x, O x → c x = some t ∨ sz ≤ x) (hlow : ∀ x u, c x = some u → x < sz) :
    ∃ c' : Nat → Option α, (∀ x, O x → c' x = some t) ∧ (∀ x u, c x = some u → c' x = some u) ∧ ∀ x u, c' x = some u → c x = some u ∨ (O x ∧ sz ≤ x ∧ u = t) := by
  classical
  refine ⟨fun x => if O x then some t else c x, fun x hx => if_pos hx, fun x u hx => ?_, fun x u hx => ?_⟩
  · show (if O x then some t else c x) = some u
    by_cases ho : O x
    · rw [if_pos ho]
      rcases h1 x ho with h | h
      · rw [← h]; exact hx
      · have := hlow x u hx; omega
    · rw [if_neg ho]; exact hx
  · have hx : (if O x then some t else c x) = some u := hx
    by_cases ho : O x
    · rw [if_pos ho] at hx
      rcases h1 x ho with h | h
      · exact .inl (h.trans hx)
      · exact .inr ⟨ho, h, by cases hx; rfl⟩
    · rw [if_neg ho] at hx; exact .inl hx
theorem tag_ne {α : Type} {c : Nat → Option α} {x y : Nat} {a b : α} (hx : c x = some a) (hy : c y = some b) (h : a ≠ b) : x ≠ y := fun e => h (by rw [e, hy] at hx; cases hx; rfl)

/-- a graph, read: its rows stand on blocks of C -/
structure GrM (h : Heap) (C : Nat → Prop) (G : Option Addr) (n : Nat) (E : Nat → List Nat) : Prop where
  at' : ∀ i, i < n → ∃ bk off B c, G = some ⟨bk, off, none⟩ ∧ hcell h ⟨bk, off + i, none⟩ = some (.slice B (E i).length c) ∧ RowAt h B (nts (E i)) ∧ C bk ∧ (E i ≠ [] → ∀ x, blk B x → C x)
  lt : ∀ x, C x → x < h.size
section
variable {h h' : Heap} {C C' : Nat → Prop} {G : Option Addr} {n : Nat} {E : Nat → List Nat}
theorem GrM.fr (M : GrM h C G n E) {S : Nat → Prop} (f : Fr S h h') (hs : ∀ x, S x → ¬ C x) : GrM h' C G n E where
  at' i hi := by
    obtain ⟨bk, off, B, c, h1, h2, h3, h4, h5⟩ := M.at' i hi
    refine ⟨bk, off, B, c, h1, (f.cell (hcell_lt h2) fun k => hs _ k h4).trans h2, ?_, h4, h5⟩
    by_cases e : E i = []
    · rw [e]; exact .nil
    · exact h3.fr f fun x hx k => hs x k (h5 e x hx)
  lt x hx := Nat.lt_of_lt_of_le (M.lt x hx) f.size
theorem GrM.ext (M : GrM h C G n E) (hx : ∀ x, C x → C' x) (hl : ∀ x, C' x → x < h.size) : GrM h C' G n E where
  at' i hi := by
    obtain ⟨bk, off, B, c, h1, h2, h3, h4, h5⟩ := M.at' i hi
    exact ⟨bk, off, B, c, h1, h2, h3, hx _ h4, fun e x k => hx x (h5 e x k)⟩
  lt := hl
theorem GrM.fr0 (M : GrM h C G n E) (f : Fr (fun _ => False) h h') : GrM h' C G n E := M.fr f fun _ k => k.elim
end

/-- where the walker's things lie -/
structure GB where
  G : Option Addr
  gc : Nat
  mb : Nat
  O : Option Addr
  oc : Nat
  ib : Nat
  R : Option Addr
  rc : Nat
  vs : List Value
  c : Nat → Option GTag
/-- a row of rows, each on blocks of C -/
structure RowsN (h : Heap) (C : Nat → Prop) (vs : List Value) (L : List (List Nat)) : Prop where
  len : vs.length = L.length
  at' : ∀ (i : Nat) (l : List Nat), L[i]? = some l → ∃ A c, vs[i]? = some (Value.slice A l.length c) ∧ RowAt h A (nts l) ∧ ∀ x, blk A x → C x
theorem RowsN.fr {h h' : Heap} {C : Nat → Prop} {vs : List Value} {L : List (List Nat)} (R : RowsN h C vs L) {S : Nat → Prop} (f : Fr S h h') (hs : ∀ x, S x → ¬ C x) : RowsN h' C vs L where
  len := R.len
  at' i l hl := by
    obtain ⟨A, c, h1, h2, h3⟩ := R.at' i l hl
    exact ⟨A, c, h1, h2.fr f fun x hx k => hs x k (h3 x hx), h3⟩
theorem RowsN.ext {h : Heap} {C C' : Nat → Prop} {vs : List Value} {L : List (List Nat)} (R : RowsN h C vs L) (hx : ∀ x, C x → C' x) : RowsN h C' vs L where
  len := R.len
  at' i l hl := by
    obtain ⟨A, c, h1, h2, h3⟩ := R.at' i l hl
    exact ⟨A, c, h1, h2, fun x k => hx x (h3 x k)⟩
theorem RowsN.one {h : Heap} {C : Nat → Prop} {vs : List Value} {L : List (List Nat)} (R : RowsN h C vs L) : ∀ w ∈ vs, w.oneCell' = true := fun w hw => by
  obtain ⟨i, hi⟩ := List.getElem?_of_mem hw
  have hlt := (List.getElem?_eq_some_iff.1 hi).1
  rw [R.len] at hlt
  obtain ⟨A, c, h1, _⟩ := R.at' i _ (List.getElem?_eq_getElem hlt)
  rw [h1] at hi; cases hi; rfl
theorem RowsN.snoc {h : Heap} {C : Nat → Prop} {vs : List Value} {L : List (List Nat)} (R : RowsN h C vs L) {A : Option Addr} {l : List Nat} {c : Nat} (h1 : RowAt h A (nts l)) (h2 : ∀ x, blk A x → C x) : RowsN h C (vs ++ [Value.slice A l.length c]) (L ++ [l]) where
  len := by simp [R.len]
  at' i m hm := by
    by_cases hi : i < L.length
    · rw [List.getElem?_append_left hi] at hm
      obtain ⟨B, d, g1, g2, g3⟩ := R.at' i m hm
      exact ⟨B, d, by rw [List.getElem?_append_left (by rw [R.len]; exact hi)]; exact g1, g2, g3⟩
    · rw [List.getElem?_append_right (by omega)] at hm
      have hk : i - L.length = 0 := by
        have := (List.getElem?_eq_some_iff.1 hm).1
        simp at this; omega
      rw [hk] at hm
      simp only [List.getElem?_cons_zero, Option.some.injEq] at hm
      subst hm
      exact ⟨A, c, by rw [List.getElem?_append_right (by rw [R.len]; omega), R.len, hk]; rfl, h1, h2⟩

structure WM (h : Heap) (wb : Nat) (p : GB) (E : Nat → List Nat) (n : Nat) (s : TS) : Prop where
  low : ∀ x t, p.c x = some t → x < h.size
  B : ListB h wb [.slice p.G n p.gc, .slice (some ⟨p.mb, 0, none⟩) n n, .slice p.O s.opn.length p.oc, .slice (some ⟨p.ib, 0, none⟩) n n, .slice p.R p.vs.length p.rc]
  cB : p.c wb = some .w
  G : GrM h (fun x => p.c x = some .arg) p.G n E
  M : FnB h p.mb n (fun q => .complex .f64 (Fx.enc (s.num q : Int)) (Fx.enc (s.low q : Int)))
  cM : p.c p.mb = some .m
  O : SlAt h p.O p.oc (nts s.opn)
  cO : ∀ x, blk p.O x → p.c x = some .o
  I : FnB h p.ib n (fun q => .bool (decide (q ∈ s.opn)))
  cI : p.c p.ib = some .i
  R : SlAt h p.R p.rc p.vs
  cR : ∀ x, blk p.R x → p.c x = some .r
  V : RowsN h (fun x => p.c x = some .row) p.vs s.grp
  sm : n ≤ 4096 ∧ s.opn.length ≤ 4096 ∧ s.grp.length ≤ 4096 ∧ (∀ q, s.num q ≤ 4098 ∧ s.low q ≤ 4098)

/-- what is owned, from one to the next: what was given is left alone -/
structure GStp (p p' : GB) (h h' : Heap) : Prop where
  ext : ∀ x t, p.c x = some t → p'.c x = some t
  own : ∀ x t, p'.c x = some t → p.c x = some t ∨ (h.size ≤ x ∧ t ≠ .arg)
  fr : Fr (fun x => p.c x ≠ none ∧ p.c x ≠ some .arg) h h'
theorem GStp.refl {p : GB} {h : Heap} : GStp p p h h := ⟨fun _ _ h => h, fun _ _ h => .inl h, Fr.refl _ _⟩
theorem GStp.trans {p p' p'' : GB} {h h' h'' : Heap} (a : GStp p p' h h') (b : GStp p' p'' h' h'') : GStp p p'' h h'' where
  ext x t hx := b.ext x t (a.ext x t hx)
  own x t hx := (b.own x t hx).elim (a.own x t) fun h => .inr ⟨Nat.le_trans a.fr.size h.1, h.2⟩
  fr := a.fr.trans' b.fr fun x hx hn => by
    cases hc : p'.c x with
    | none => exact absurd hc hn.1
    | some t =>
      rcases a.own x t hc with h | h
      · rw [h]; refine ⟨fun h => (nomatch h), fun e => ?_⟩; cases e; exact hn.2 hc
      · omega
theorem GStp.fr0 {p : GB} {h h' : Heap} (f : Fr (fun _ => False) h h') : GStp p p h h' := ⟨fun _ _ h => h, fun _ _ h => .inl h, f.mono fun _ _ h => h.elim⟩

section
variable {h h' : Heap} {wb n : Nat} {p : GB} {E : Nat → List Nat} {s : TS}
theorem WM.fr (M : WM h wb p E n s) {S : Nat → Prop} (f : Fr S h h') (hs : ∀ x, S x → p.c x = none) : WM h' wb p E n s where
  low x t hx := Nat.lt_of_lt_of_le (M.low x t hx) f.size
  B := M.B.fr f fun h => by have := hs _ h; rw [M.cB] at this; cases this
  cB := M.cB
  G := M.G.fr f fun x hx hc => by rw [hs x hx] at hc; cases hc
  M := M.M.fr f fun h => by have := hs _ h; rw [M.cM] at this; cases this
  cM := M.cM
  O := M.O.fr f fun x hx h => by have := hs _ h; rw [M.cO x hx] at this; cases this
  cO := M.cO
  I := M.I.fr f fun h => by have := hs _ h; rw [M.cI] at this; cases this
  cI := M.cI
  R := M.R.fr f fun x hx h => by have := hs _ h; rw [M.cR x hx] at this; cases this
  cR := M.cR
  V := M.V.fr f fun x hx hc => by rw [hs x hx] at hc; cases hc
  sm := M.sm
theorem WM.fr0 (M : WM h wb p E n s) (f : Fr (fun _ => False) h h') : WM h' wb p E n s := M.fr f fun _ h => h.elim

theorem meet_m (M : WM h wb p E n s) {q : Nat} (hq : q < n) (hnx : s.nxt ≤ 4098) (hol : s.opn.length + 1 ≤ 4096) :
    CallsH Try.prog 123 [.pointer (some ⟨wb, 0, none⟩), .int .i64 q, .int .i64 s.nxt] h fun r h' => r = .agg #[.int .i64 q, .int .i64 0] ∧ ∃ p', WM h' wb p' E n (s.meet q) ∧ GStp p p' h h' := by
  refine calls_of 36 [.cell 6 149] Go.Proofs.Try.func123 rfl rfl rfl (by kernel_rfl) (Nat.le_of_ble_eq_true rfl) ?_
  obtain ⟨hn, hop, hgr, hnl⟩ := M.sm
  have nMB : p.mb ≠ wb := tag_ne M.cM M.cB (by simp)
  have nIB : p.ib ≠ wb := tag_ne M.cI M.cB (by simp)
  have nMI : p.mb ≠ p.ib := tag_ne M.cM M.cI (by simp)
  obtain ⟨h1, e1⟩ : ∃ h1, h1 = h.push (.cells #[.int .i64 0, .int .i64 0] 149) := ⟨_, rfl⟩
  have f1 : Fr (fun _ => False) h h1 := by rw [e1]; exact (Fr.refl _ _).push
  have z1 : h1.size = h.size + 1 := by rw [e1, push_size]
  have M1 := M.fr0 f1
  have s1 := M1.B.at' 1 _ rfl
  have cq := M1.M.at' q hq
  have fq := M1.M.fz
  have X1 : ListB h1 h.size [.int .i64 0, .int .i64 0] := by rw [e1]; exact ListB.new
  simp -implicitDefEqProofs (disch := omega) [go_sem]
  rw [← e1]
  have s12 := M1.B.at' 2 _ rfl
  simp -implicitDefEqProofs (disch := omega) [go_sem, s1, cq, fq, s12, nMB.symm]
  obtain ⟨v2, ev2⟩ : ∃ v, v = Value.complex .f64 (Fx.enc (s.nxt : Int)) (Fx.enc (s.nxt : Int)) := ⟨_, rfl⟩
  rw [← ev2]
  obtain ⟨h2, e2⟩ : ∃ h2, h2 = hset h1 ⟨p.mb, q, none⟩ v2 := ⟨_, rfl⟩
  rw [← e2]
  have z2 : h2.size = h1.size := by rw [e2, hset_size]
  have f2 : Fr (fun x => x = p.mb) h1 h2 := by rw [e2]; exact (Fr.refl _ _).set rfl
  have B2 := M1.B.fr f2 nMB.symm
  have s2 := B2.at' 2 _ rfl
  have N2 : FnB h2 p.mb n (fun j => if j = q then v2 else .complex .f64 (Fx.enc (s.num j : Int)) (Fx.enc (s.low j : Int))) := by rw [e2]; exact M1.M.set v2 hq
  refine build1 rfl rfl ?_
  obtain ⟨h3, e3⟩ : ∃ h3, h3 = h2.push (.cells #[.int .i64 (q : Int)] 3) := ⟨_, rfl⟩
  rw [← e3]
  have f3 : Fr (fun _ => False) h2 h3 := by rw [e3]; exact (Fr.refl _ _).push
  have z3 : h3.size = h2.size + 1 := by rw [e3, push_size]
  have O3 : SlAt h3 p.O p.oc (nts s.opn) := ((M1.O.fr f2 fun x hx e => tag_ne (M.cO x hx) M.cM (by simp) e).fr f3 fun _ _ k => k)
  simp -implicitDefEqProofs (disch := omega) [go_sem]
  refine append1 (v := .int .i64 (q : Int)) O3 (by rw [nts_len]) (by rw [e3, hcell_push_new]; rfl) rfl (by omega) (by omega) ?_
  intro O' oc' h4 S4 f4 own4
  rw [nts_snoc] at S4
  have nOW : ¬ blk p.O wb := fun k => tag_ne (M.cO wb k) M.cB (by simp) rfl
  have nOM : ¬ blk p.O p.mb := fun k => tag_ne (M.cO _ k) M.cM (by simp) rfl
  have nOI : ¬ blk p.O p.ib := fun k => tag_ne (M.cO _ k) M.cI (by simp) rfl
  have B4 := (B2.fr f3 id).fr f4 nOW
  have t2 := B4.at' 2 _ rfl
  have w4 := B4.fz
  have lI := M.low _ _ M.cI
  have lM := M.low _ _ M.cM
  have lW := M.low _ _ M.cB
  have t3 := B4.at' 3 _ rfl
  have I4 := ((M1.I.fr f2 nMI.symm).fr f3 id).fr f4 nOI
  have i4 := I4.at' q hq
  have v4 := I4.fz
  have X4 := ((X1.fr f2 (by omega)).fr f3 id).fr f4 (fun k => by have := M.O.blk_lt k; omega)
  have y0 := X4.at' 0 _ rfl
  have y1 := X4.at' 1 _ rfl
  have u4 := X4.fz
  have nXW : ¬ h.size = wb := by omega
  have nXI : ¬ h.size = p.ib := by omega
  simp -implicitDefEqProofs (disch := omega) [go_sem, t2, w4, t3, i4, v4, y0, y1, u4, nIB, nXW, nXI]
  obtain ⟨h5, e5⟩ : ∃ h5, h5 = hset h4 ⟨wb, 2, none⟩ (.slice O' (s.opn.length + 1) oc') := ⟨_, rfl⟩
  rw [← e5]
  have B5 := B4.set (i := 2) (.slice O' (s.opn.length + 1) oc') (by simp)
  rw [← e5] at B5
  have f5 : Fr (fun x => x = wb) h4 h5 := by rw [e5]; exact (Fr.refl _ _).set rfl
  have I5 := I4.fr f5 nIB
  obtain ⟨h6, e6⟩ : ∃ h6, h6 = hset h5 ⟨p.ib, q, none⟩ (.bool true) := ⟨_, rfl⟩
  rw [← e6]
  have f6 : Fr (fun x => x = p.ib) h5 h6 := by rw [e6]; exact (Fr.refl _ _).set rfl
  have I6 : FnB h6 p.ib n (fun j => if j = q then .bool true else .bool (decide (j ∈ s.opn))) := by rw [e6]; exact I5.set (.bool true) hq
  have f7 : Fr (fun x => x = h.size) h6 (hset (hset h6 ⟨h.size, 0, none⟩ (.int .i64 (q : Int))) ⟨h.size, 1, none⟩ (.int .i64 0)) := ((Fr.refl (fun x => x = h.size) h6).set (ad := ⟨h.size, 0, none⟩) rfl).set (ad := ⟨h.size, 1, none⟩) rfl
  obtain ⟨h7, e7⟩ : ∃ h7, h7 = hset (hset h6 ⟨h.size, 0, none⟩ (.int .i64 (q : Int))) ⟨h.size, 1, none⟩ (.int .i64 0) := ⟨_, rfl⟩
  rw [← e7] at f7 ⊢
  have z4 := f4.size
  have z5 := f5.size
  have z6 := f6.size
  have z7 := f7.size
  obtain ⟨c', k1, k2, k3⟩ := recoG (c := p.c) (sz := h.size) (blk O') .o (fun x hx => (own4 x hx).elim (fun k => .inl (M.cO x k)) fun k => .inr (by omega)) M.low
  have tot : Fr (fun x => p.c x ≠ none ∧ p.c x ≠ some .arg) h h7 := by
    have g2 := (f1.mono (T := fun x => p.c x ≠ none ∧ p.c x ≠ some .arg) fun _ _ k => k.elim).trans' f2 (fun x _ k => by rw [k, M.cM]; simp)
    have g3 := g2.trans' f3 (fun x _ k => k.elim)
    have g4 := g3.trans' f4 (fun x _ k => by rw [M.cO x k]; simp)
    have g5 := g4.trans' f5 (fun x _ k => by rw [k, M.cB]; simp)
    have g6 := g5.trans' f6 (fun x _ k => by rw [k, M.cI]; simp)
    exact g6.trans' f7 (fun x hx k => by omega)
  refine ⟨{ p with O := O', oc := oc', c := c' }, ?_, ⟨k2, fun x t hx => (k3 x t hx).imp_right fun k => ⟨k.2.1, by rw [k.2.2]; simp⟩, tot⟩⟩
  have argc : ∀ x, p.c x = some .arg ↔ c' x = some .arg := fun x => ⟨k2 x _, fun k => (k3 x _ k).elim id fun k => by cases k.2.2⟩
  have rowc : ∀ x, p.c x = some .row ↔ c' x = some .row := fun x => ⟨k2 x _, fun k => (k3 x _ k).elim id fun k => by cases k.2.2⟩
  have totR : Fr (fun x => p.c x = some .m ∨ p.c x = some .o ∨ p.c x = some .w ∨ p.c x = some .i) h h7 := by
    have g2 := (f1.mono (T := fun x => p.c x = some .m ∨ p.c x = some .o ∨ p.c x = some .w ∨ p.c x = some .i) fun _ _ k => k.elim).trans' f2 (fun x _ k => by rw [k, M.cM]; simp)
    have g3 := g2.trans' f3 (fun x _ k => k.elim)
    have g4 := g3.trans' f4 (fun x _ k => by rw [M.cO x k]; simp)
    have g5 := g4.trans' f5 (fun x _ k => by rw [k, M.cB]; simp)
    have g6 := g5.trans' f6 (fun x _ k => by rw [k, M.cI]; simp)
    exact g6.trans' f7 (fun x hx k => by omega)
  exact {
    low := fun x t hx => (k3 x t hx).elim (fun k => by have := M.low x t k; omega) fun k => by have := S4.blk_lt k.1; omega
    B := by
      have h8 := ((B5.fr f6 nIB.symm).fr f7 (by omega))
      have e8 : (s.meet q).opn.length = s.opn.length + 1 := by simp [TS.meet]
      rw [e8]; exact h8
    cB := k2 _ _ M.cB
    G := (M.G.fr totR fun x hx k => by rw [k] at hx; simp at hx).ext (fun x k => (argc x).1 k) (fun x k => by have := M.G.lt x ((argc x).2 k); omega)
    M := by
      have h8 := (((((N2.fr f3 id).fr f4 nOM).fr f5 nMB).fr f6 nMI).fr f7 (by omega))
      refine h8.cong fun i hi => ?_
      show _ = Value.complex .f64 (Fx.enc (upd s.num q s.nxt i : Int)) (Fx.enc (upd s.low q s.nxt i : Int))
      by_cases e : i = q
      · rw [if_pos e, e, upd_same, upd_same, ev2]
      · rw [if_neg e, upd_ne e, upd_ne e]
    cM := k2 _ _ M.cM
    O := ((S4.fr f5 fun x hx e => by
        rcases own4 x hx with k | k
        · exact nOW (e ▸ k)
        · omega).fr f6 fun x hx e => by
        rcases own4 x hx with k | k
        · exact nOI (e ▸ k)
        · omega).fr f7 fun x hx e => by
        rcases own4 x hx with k | k
        · have := M.O.blk_lt k; omega
        · omega
    cO := k1
    I := by
      refine (I6.fr f7 (by omega)).cong fun i hi => ?_
      show _ = Value.bool (decide (i ∈ s.opn ++ [q]))
      by_cases e : i = q
      · rw [if_pos e, e]; simp
      · rw [if_neg e]; simp [e]
    cI := k2 _ _ M.cI
    R := M.R.fr totR fun x hx k => by rw [M.cR x hx] at k; simp at k
    cR := fun x hx => k2 _ _ (M.cR x hx)
    V := (M.V.fr totR fun x hx k => by rw [k] at hx; simp at hx).ext fun x k => (rowc x).1 k
    sm := by
      refine ⟨hn, by simp [TS.meet]; omega, hgr, fun x => ?_⟩
      show upd s.num q s.nxt x ≤ 4098 ∧ upd s.low q s.nxt x ≤ 4098
      by_cases e : x = q
      · rw [e, upd_same, upd_same]; omega
      · rw [upd_ne e, upd_ne e]; exact hnl x }
theorem lower_m (M : WM h wb p E n s) {q v : Nat} (hq : q < n) (hv : v ≤ 4098) :
    CallsH Try.prog 124 [.pointer (some ⟨wb, 0, none⟩), .int .i64 q, .float .f64 (Fx.enc (v : Int))] h fun r h' => WM h' wb p E n (s.lower q v) ∧ GStp p p h h' := by
  refine calls_of 31 [] Go.Proofs.Try.func124 rfl rfl rfl (by kernel_rfl) (Nat.le_of_ble_eq_true rfl) ?_
  obtain ⟨hn, hop, hgr, hnl⟩ := M.sm
  have hnq := hnl q
  have s1 := M.B.at' 1 _ rfl
  have cq := M.M.at' q hq
  have fq := M.M.fz
  simp -implicitDefEqProofs (disch := omega) [go_sem]
  refine drawK [(0, 0), (1, 0), (2, 0), (3, 1), (4, 0), (5, 0), (6, 0), (7, 0), (8, 1), (9, 0), (10, 0), (11, 1), (12, 0), (13, 0), (14, 0), (15, 0), (16, 1), (17, 0), (18, 0), (19, 1), (20, 0), (21, 0), (22, 0), (23, 0), (24, 0), (25, 3)] mixed (by kernel_rfl) ?_
  simp -implicitDefEqProofs (disch := omega) [go_sem, s1, cq, fq]
  have emin : min (s.low q : Int) (v : Int) = ((min (s.low q) v : Nat) : Int) := by omega
  rw [emin]
  obtain ⟨w, ew⟩ : ∃ w, w = Value.complex .f64 (Fx.enc (s.num q : Int)) (Fx.enc ((min (s.low q) v : Nat) : Int)) := ⟨_, rfl⟩
  rw [← ew]
  have nMB : p.mb ≠ wb := tag_ne M.cM M.cB (by simp)
  have nIB : p.mb ≠ p.ib := tag_ne M.cM M.cI (by simp)
  have f1 : Fr (fun x => x = p.mb) h (hset h ⟨p.mb, q, none⟩ w) := (Fr.refl _ _).set rfl
  have N1 := M.M.set w hq
  obtain ⟨h1, e1⟩ : ∃ h1, h1 = hset h ⟨p.mb, q, none⟩ w := ⟨_, rfl⟩
  rw [← e1] at f1 N1 ⊢
  refine ⟨?_, ⟨fun _ _ k => k, fun _ _ k => .inl k, f1.mono fun x _ k => by rw [k, M.cM]; simp⟩⟩
  exact {
    low := fun x t hx => Nat.lt_of_lt_of_le (M.low x t hx) f1.size
    B := M.B.fr f1 nMB.symm
    cB := M.cB
    G := M.G.fr f1 fun x hx k => by rw [hx, M.cM] at k; simp at k
    M := by
      refine N1.cong fun i hi => ?_
      show _ = Value.complex .f64 (Fx.enc (s.num i : Int)) (Fx.enc (upd s.low q (min (s.low q) v) i : Int))
      by_cases e : i = q
      · rw [if_pos e, e, upd_same, ew]
      · rw [if_neg e, upd_ne e]
    cM := M.cM
    O := M.O.fr f1 fun x hx k => by have := M.cO x hx; rw [k, M.cM] at this; simp at this
    cO := M.cO
    I := M.I.fr f1 nIB.symm
    cI := M.cI
    R := M.R.fr f1 fun x hx k => by have := M.cR x hx; rw [k, M.cM] at this; simp at this
    cR := M.cR
    V := M.V.fr f1 fun x hx k => by rw [hx, M.cM] at k; simp at k
    sm := by
      refine ⟨hn, hop, hgr, fun x => ?_⟩
      show s.num x ≤ 4098 ∧ upd s.low q (min (s.low q) v) x ≤ 4098
      have := hnl x
      by_cases e : x = q
      · rw [e, upd_same]; omega
      · rw [upd_ne e]; exact this }
end
end Xe
