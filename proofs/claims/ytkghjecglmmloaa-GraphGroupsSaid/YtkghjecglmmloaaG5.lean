/- Package graph: the parts, sorted by their first points. -/
import Derived.Test.YtkghjecglmmloaaG4
import Derived.Test.YtkghjecglmmloaaSRb
namespace Xe
open Go Go.Proofs Gr
set_option maxRecDepth 16000
set_option maxHeartbeats 1000000

/-- the numbers that a row's value stands for -/
def rdN (h : Heap) : Value → List Nat
  | .slice (some ⟨b, o, _⟩) len _ => (List.range len).map fun i => (intOf ((hcell h ⟨b, o + i, none⟩).getD (.bool false))).toNat
  | _ => []
theorem rdN_eq {h : Heap} {A : Option Addr} {l : List Nat} {c : Nat} (R : RowAt h A (nts l)) : rdN h (.slice A l.length c) = l := by
  cases hl : l with
  | nil => cases A <;> simp [rdN]
  | cons x t =>
    rw [← hl]
    obtain ⟨bk, off, rfl, hc⟩ := R.get (by rw [nts_len, hl]; simp)
    unfold rdN
    apply List.ext_getElem
    · simp
    · intro i h1 h2
      have := hc i _ (nts_at (List.getElem?_eq_getElem h2))
      simp [this, intOf]
def hdV (h : Heap) : Value → Int
  | .slice (some ⟨b, o, _⟩) _ _ => intOf ((hcell h ⟨b, o, none⟩).getD (.bool false))
  | _ => 0
theorem Gr.Parts.len {E : Nat → List Nat} {n : Nat} {L : List (List Nat)} (P : Parts E n L) : L.length ≤ n := by
  have hh : ∀ l ∈ L, hd l ∈ l := fun l hl => (hd_mem (P.g l hl)).1
  have := Tp.nodup_le (a := L.map hd) (b := List.range n) (by
      unfold List.Nodup
      rw [List.pairwise_map]
      exact P.dis.imp_of_mem fun {a b} ha hb h e => h (hd a) (hh a ha) (e ▸ hh b hb)) fun x hx => by
    obtain ⟨l, hl, rfl⟩ := List.mem_map.1 hx
    exact List.mem_range.2 (P.lt _ ⟨l, hl, hh l hl⟩)
  rwa [List.length_map, List.length_range] at this
theorem Gr.Parts.perm {E : Nat → List Nat} {n : Nat} {L L' : List (List Nat)} (P : Parts E n L) (p : L'.Perm L) : Parts E n L' where
  g l hl := P.g l (p.mem_iff.1 hl)
  dis := (p.pairwise_iff fun {a b} h x hx hy => h x hy hx).2 P.dis
  all x hx := by
    obtain ⟨l, hl, h⟩ := P.all x hx
    exact ⟨l, p.mem_iff.2 hl, h⟩
  lt x hx := by
    obtain ⟨l, hl, h⟩ := hx
    exact P.lt x ⟨l, p.mem_iff.1 hl, h⟩
theorem RowsN.map {h : Heap} {C : Nat → Prop} {vs : List Value} {L : List (List Nat)} (V : RowsN h C vs L) : L = vs.map (rdN h) := by
  apply List.ext_getElem
  · rw [List.length_map]; exact V.len.symm
  · intro i h1 h2
    obtain ⟨A, c, e1, e2, _⟩ := V.at' i _ (List.getElem?_eq_getElem h1)
    have e3 := (List.getElem?_eq_some_iff.1 e1).2
    rw [List.getElem_map, e3, rdN_eq e2]
theorem RowsN.mem {h : Heap} {C : Nat → Prop} {vs : List Value} {L : List (List Nat)} (V : RowsN h C vs L) {v : Value} (hv : v ∈ vs) : ∃ A c, v = .slice A (rdN h v).length c ∧ RowAt h A (nts (rdN h v)) ∧ (∀ x, blk A x → C x) ∧ rdN h v ∈ L := by
  obtain ⟨i, hi⟩ := List.getElem?_of_mem hv
  have hlt := (List.getElem?_eq_some_iff.1 hi).1
  rw [V.len] at hlt
  obtain ⟨A, c, e1, e2, e3⟩ := V.at' i _ (List.getElem?_eq_getElem hlt)
  have ev : v = .slice A (L[i]).length c := Option.some.inj (hi.symm.trans e1)
  have er : rdN h v = L[i] := by rw [ev]; exact rdN_eq e2
  rw [er]
  exact ⟨A, c, ev, e2, e3, List.getElem_mem hlt⟩
/-- rows that are those rows in another order -/
theorem RowsN.perm {h h' : Heap} {C : Nat → Prop} {vs vs' : List Value} {L : List (List Nat)} (V : RowsN h C vs L) (p : vs'.Perm vs) {S : Nat → Prop} (f : Fr S h h') (hs : ∀ x, S x → ¬ C x) : RowsN h' C vs' (vs'.map (rdN h)) where
  len := (List.length_map ..).symm
  at' i l hl := by
    rw [List.getElem?_map, Option.map_eq_some_iff] at hl
    obtain ⟨v, hv, rfl⟩ := hl
    obtain ⟨A, c, e1, e2, e3, _⟩ := V.mem (p.mem_iff.1 (List.mem_of_getElem? hv))
    exact ⟨A, c, by rw [hv]; exact congrArg some e1, e2.fr f fun x hx k => hs x k (e3 x hx), e3⟩

section
variable {h : Heap} {R : Option Addr} {rc n : Nat} {vs : List Value} {L : List (List Nat)} {C1 : Nat → Prop} {E : Nat → List Nat}
/-- what the comparer is given: a row with a first number -/
structure OkH (h : Heap) (R : Option Addr) (x : Value) : Prop where
  ex : ∃ b o len c, ∃ q : Nat, x = .slice (some ⟨b, o, none⟩) len c ∧ 0 < len ∧ hcell h ⟨b, o, none⟩ = some (.int .i64 q) ∧ ¬ blk R b ∧ q < 2 ^ 40
def cfH (h : Heap) (x y : Value) : Int := hdV h x - hdV h y
theorem cfH_ok {ok : Value → Prop} : COk (cfH h) ok where
  asy x y _ _ h := by unfold cfH at *; omega
  tr x y z _ _ _ h1 h2 := by unfold cfH at *; omega
theorem comp_ok {x y : Value} {h' : Heap} (f : Fr (blk R) h h') (hx : OkH h R x) (hy : OkH h R y) : CallsH Try.prog 96 ([x, y] ++ []) h' fun r h'' => r = .int .i64 (cfH h x y) ∧ Fr (fun _ => False) h' h'' := by
  obtain ⟨b, o, len, c, q, rfl, hl, h1, h2, h3⟩ := hx.ex
  obtain ⟨b', o', len', c', q', rfl, hl', h1', h2', h3'⟩ := hy.ex
  have c0 := (f.cell (hcell_lt h1) h2).trans h1
  have c1 := (f.cell (hcell_lt h1') h2').trans h1'
  refine calls_of 12 [.tmp 4] Go.Proofs.Try.func96 rfl rfl rfl (by kernel_rfl) (Nat.le_of_ble_eq_true rfl) ?_
  simp -implicitDefEqProofs (disch := omega) [go_sem]
  refine drawK [(0, 0), (1, 0), (2, 1), (3, 0), (4, 0), (5, 1), (6, 0), (7, 0)] mixed (by kernel_rfl) ?_
  simp -implicitDefEqProofs (disch := omega) [go_sem, c0, c1]
  refine ⟨?_, Fr.refl _ _⟩
  unfold cfH hdV
  simp only [h1, h1', Option.getD_some, intOf_int]
theorem sortP_ok (S : SlAt h R rc vs) (V : RowsN h C1 vs L) (hC : ∀ x, C1 x → ¬ blk R x) (P : Parts E n L) (hn : n ≤ 4096) :
    CallsH Try.prog 95 [.slice R vs.length rc, .func (.func 96) #[] ([] : List Value).toArray] h fun _ h' => ∃ vs' L', SlAt h' R rc vs' ∧ vs'.length = vs.length ∧ RowsN h' C1 vs' L' ∧ Parts E n L' ∧ L'.Pairwise (fun a b => hd a < hd b) ∧ Fr (blk R) h h' := by
  have hlen := P.len
  have hvl := V.len
  have okv : ∀ v ∈ vs, OkH h R v ∧ hdV h v = hd (rdN h v) := fun v hv => by
    obtain ⟨A, c, e1, e2, e3, e4⟩ := V.mem hv
    have hg := P.g _ e4
    have h0 : 0 < (rdN h v).length := List.length_pos_iff.2 fun e => by have := (hd_mem hg).1; rw [e] at this; cases this
    obtain ⟨bk, off, rfl, hc⟩ := e2.get (by rw [nts_len]; exact h0)
    have hd0 : (rdN h v)[0]? = some (hd (rdN h v)) := by
      cases hr : rdN h v with
      | nil => rw [hr] at h0; simp at h0
      | cons a t => rfl
    have c0 := hc 0 _ (nts_at hd0)
    rw [Nat.add_zero] at c0
    have hlt := P.lt _ ⟨_, e4, (hd_mem hg).1⟩
    refine ⟨⟨bk, off, _, c, hd (rdN h v), e1, h0, c0, hC _ (e3 bk ⟨_, rfl, rfl⟩), by omega⟩, ?_⟩
    generalize hd (rdN h v) = q at c0
    generalize (rdN h v).length = m at e1
    subst e1
    show intOf ((hcell h ⟨bk, off, none⟩).getD (.bool false)) = q
    rw [c0]; rfl
  have Cm : Sr.Cmp Try.prog h R 96 [] (cfH h) (OkH h R) := ⟨fun h' f x y hx hy => comp_ok f hx hy, cfH_ok⟩
  have hok : OkR (OkH h R) vs := fun p hp => (okv _ (List.mem_of_getElem? (gv_at hp))).1
  refine (Sr.sort_ok (cs := []) (show vs.length < 2 ^ 40 by omega) Cm S rfl V.one hok).mono ?_
  rintro r h' ⟨vs', D, hS⟩
  have hp := D.R.perm
  have V' := V.perm hp D.f fun x hx k => hC x k hx
  have eL : (vs'.map (rdN h)).Perm L := by rw [V.map]; exact hp.map _
  have P' := P.perm eL
  refine ⟨vs', vs'.map (rdN h), D.S, hp.length_eq, V', P', ?_, D.f⟩
  rw [List.pairwise_iff_getElem]
  intro i j hi hj hij
  rw [List.length_map] at hi hj
  have hS' := hS i j (by omega) hij (by rw [← hp.length_eq]; exact hj)
  have g1 : gv vs' i = vs'[i] := by have := gv_at hi; rw [List.getElem?_eq_getElem hi] at this; exact (Option.some.inj this).symm
  have g2 : gv vs' j = vs'[j] := by have := gv_at hj; rw [List.getElem?_eq_getElem hj] at this; exact (Option.some.inj this).symm
  rw [g1, g2] at hS'
  have k1 := (okv _ (hp.mem_iff.1 (List.getElem_mem hi))).2
  have k2 := (okv _ (hp.mem_iff.1 (List.getElem_mem hj))).2
  unfold Le cfH at hS'
  rw [k1, k2] at hS'
  rw [List.getElem_map, List.getElem_map]
  have hdis := List.pairwise_iff_getElem.1 P'.dis i j (by rw [List.length_map]; exact hi) (by rw [List.length_map]; exact hj) hij
  rw [List.getElem_map, List.getElem_map] at hdis
  have m1 := (hd_mem (P'.g _ (List.mem_map.2 ⟨_, List.getElem_mem hi, rfl⟩))).1
  have m2 := (hd_mem (P'.g _ (List.mem_map.2 ⟨_, List.getElem_mem hj, rfl⟩))).1
  have hne : hd (rdN h vs'[i]) ≠ hd (rdN h vs'[j]) := fun e => hdis _ m1 (e ▸ m2)
  omega
end
end Xe
