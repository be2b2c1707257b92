/- Package watch: what changes its memory, step by step. -/
import Derived.Test.YtkghjecglmmloaaT17d
namespace Xe
open Go Tp Go.Proofs
set_option maxRecDepth 16000

theorem reco {c : Nat → Option Tag} {sz : Nat} (N : Nat → Prop) (t : Tag) (hN : ∀ x, N x → c x = some t ∨ sz ≤ x) (low : ∀ x u, c x = some u → x < sz) :
    ∃ c' : Nat → Option Tag, (∀ x, N x → c' x = some t) ∧ (∀ x u, c x = some u → c' x = some u) ∧ (∀ x u, c' x = some u → c x = some u ∨ (N x ∧ sz ≤ x)) := by
  classical
  refine ⟨fun x => if N x then some t else c x, fun x hx => if_pos hx, fun x u hx => ?_, fun x u hx => ?_⟩
  · by_cases h : N x
    · simp only [if_pos h]
      rcases hN x h with h2 | h2
      · rw [hx] at h2; exact h2.symm
      · have := low x u hx; omega
    · simp only [if_neg h]; exact hx
  · by_cases h : N x
    · simp only [if_pos h] at hx
      rcases hN x h with h2 | h2
      · left; rw [h2]; exact hx
      · exact .inr ⟨h, h2⟩
    · simp only [if_neg h] at hx; exact .inl hx

/-- what is owned, from one to the next -/
structure Stp (p p' : BP) (h h' : Heap) : Prop where
  ext : ∀ x t, p.c x = some t → p'.c x = some t
  own : ∀ x t, p'.c x = some t → p.c x = some t ∨ h.size ≤ x
  fr : Fr (fun x => p.c x ≠ none) h h'
theorem Stp.refl {p : BP} {h : Heap} : Stp p p h h := ⟨fun _ _ h => h, fun _ _ h => .inl h, Fr.refl _ _⟩
theorem Stp.trans {p p' p'' : BP} {h h' h'' : Heap} (a : Stp p p' h h') (b : Stp p' p'' h' h'') : Stp p p'' h h'' where
  ext x t hx := b.ext x t (a.ext x t hx)
  own x t hx := (b.own x t hx).elim (a.own x t) fun h => .inr (Nat.le_trans a.fr.size h)
  fr := a.fr.trans' b.fr fun x hx hn => by
    cases hc : p'.c x with
    | none => exact absurd hc hn
    | some t =>
      rcases a.own x t hc with h | h
      · rw [h]; exact fun h => (nomatch h)
      · omega
theorem Stp.fr0 {p : BP} {h h' : Heap} (f : Fr (fun _ => False) h h') : Stp p p h h' := ⟨fun _ _ h => h, fun _ _ h => .inl h, f.mono fun _ _ h => h.elim⟩

section
variable {h h' : Heap} {bb : Nat} {p : BP} {s : WS}

/-- the trail came to be another -/
theorem BaseM.trail (M : BaseM h bb p s) {O' : Nat → Prop} {l' : List St} {level' : Nat} (T' : TrailOk h' p.tb O' s.vars l' level') (nx : Nx p.OT O' h h') :
    ∃ p', BaseM h' bb p' { s with l := l', level := level' } ∧ Stp p p' h h' ∧ p'.eb = p.eb ∧ p'.f = p.f ∧ p'.mb = p.mb := by
  obtain ⟨c', h1, h2, h3⟩ := reco (c := p.c) (sz := h.size) O' .trail (fun x hx => (nx.own x hx).imp_left (M.cT x)) M.low
  have f : Fr (fun x => p.c x = some .trail) h h' := nx.fr.mono fun x _ hx => M.cT x hx
  refine ⟨{ p with OT := O', c := c' }, ?_, ⟨h2, fun x t hx => (h3 x t hx).imp_right fun h => h.2, f.mono fun x _ hx => by rw [hx]; exact fun h => (nomatch h)⟩, rfl, rfl, rfl⟩
  exact {
    low := fun x t hx => (h3 x t hx).elim (fun h => Nat.lt_of_lt_of_le (M.low x t h) nx.fr.size) fun h => T'.low x h.1
    B := M.B.fr f fun h => by rw [M.cB] at h; cases h
    cB := h2 _ _ M.cB
    T := T'
    cT := h1
    L := M.L.fr f fun x hx h => by rw [M.cL x hx] at h; cases h
    cL := fun x hx => h2 _ _ (M.cL x hx)
    E := fun id e he => ((M.E id e he).fr f (fun x hx => by rw [hx]; exact fun h => (nomatch h)) (fun x hx => by rw [hx]; exact fun h => (nomatch h))).ext h2
    M := M.M.fr f fun h => by rw [M.cM] at h; cases h
    cM := h2 _ _ M.cM
    W := fun x => ((M.W x).fr f fun y hy => by rw [hy]; exact fun h => (nomatch h)).ext h2
    D := M.D.fr f fun x hx h => by rw [M.cD x hx] at h; cases h
    cD := fun x hx => h2 _ _ (M.cD x hx)
    sm := M.sm }

/-- a cell of the base's own -/
theorem BaseM.cell (M : BaseM h bb p s) {i : Nat} {v : Value} {s' : WS} (hB : ([Value.pointer (some ⟨p.tb, 0, none⟩), .slice p.L s.cs.length p.cl, .map (some p.mb), .slice p.TA s.todo.length p.tc, .int .i64 (s.head : Int)].set i v) =
      [.pointer (some ⟨p.tb, 0, none⟩), .slice p.L s'.cs.length p.cl, .map (some p.mb), .slice p.TA s'.todo.length p.tc, .int .i64 (s'.head : Int)]) (hi : i < 5)
    (e1 : s'.vars = s.vars) (e2 : s'.l = s.l) (e3 : s'.level = s.level) (e4 : s'.cs = s.cs) (e5 : s'.W = s.W) (e6 : s'.todo = s.todo) : BaseM (hset h ⟨bb, i, none⟩ v) bb p s' := by
  have f : Fr (fun x => x = bb) h (hset h ⟨bb, i, none⟩ v) := (Fr.refl _ _).set rfl
  have nb : ∀ {x : Nat} {t : Tag}, p.c x = some t → t ≠ .base → x ≠ bb := fun h ht e => by subst e; rw [M.cB] at h; cases h; exact ht rfl
  exact {
    low := fun x t hx => by rw [hset_size]; exact M.low x t hx
    B := by rw [← hB]; exact M.B.set v (by simpa using hi)
    cB := M.cB
    T := by rw [e1, e2, e3]; exact M.T.fr f fun x hx => nb (M.cT x hx) (fun h => (nomatch h))
    cT := M.cT
    L := by rw [e4]; exact M.L.fr f fun x hx => nb (M.cL x hx) (fun h => (nomatch h))
    cL := M.cL
    E := fun id e he => by rw [e4] at he; exact (M.E id e he).fr f (fun x hx => by rw [hx, M.cB]; exact fun h => (nomatch h)) (fun x hx => by rw [hx, M.cB]; exact fun h => (nomatch h))
    M := M.M.fr f (nb M.cM (fun h => (nomatch h)))
    cM := M.cM
    W := fun x => by rw [e5]; exact (M.W x).fr f fun y hy => by rw [hy, M.cB]; exact fun h => (nomatch h)
    D := by rw [e6]; exact M.D.fr f fun x hx => nb (M.cD x hx) (fun h => (nomatch h))
    cD := M.cD
    sm := by rw [e4, e6]; exact M.sm }
theorem BaseM.setHead (M : BaseM h bb p s) (n : Nat) : BaseM (hset h ⟨bb, 4, none⟩ (.int .i64 n)) bb p { s with head := n } := M.cell (by rfl) (by omega) rfl rfl rfl rfl rfl rfl
theorem stp_set (M : BaseM h bb p s) {b o : Nat} {v : Value} {t : Tag} (hc : p.c b = some t) : Stp p p h (hset h ⟨b, o, none⟩ v) :=
  ⟨fun _ _ h => h, fun _ _ h => .inl h, (Fr.refl _ _).set (show p.c b ≠ none by rw [hc]; exact fun h => (nomatch h))⟩

/-- an entry's own cells -/
theorem BaseM.entry (M : BaseM h bb p s) {id i : Nat} {e e' : Ent} {v : Value} (he : s.cs[id]? = some e) (hl : e'.lits = e.lits) (ha : e'.a1 ≤ 16777216 ∧ e'.a2 ≤ 16777216)
    (hv : ∀ A cap, [Value.slice A e.lits.length cap, .complex .f64 (Fx.enc e.a1) (Fx.enc e.a2), .bool e.gone].set i v = [.slice A e.lits.length cap, .complex .f64 (Fx.enc e'.a1) (Fx.enc e'.a2), .bool e'.gone]) (hi : i < 3)
    {s' : WS} (e1 : s'.vars = s.vars) (e2 : s'.l = s.l) (e3 : s'.level = s.level) (e4 : s'.cs = s.cs.set id e') (e5 : s'.W = s.W) (e6 : s'.todo = s.todo) (e7 : s'.head = s.head) : BaseM (hset h ⟨p.eb id, i, none⟩ v) bb p s' := by
  have EM := M.E id e he
  have hid := (List.getElem?_eq_some_iff.1 he).1
  have f : Fr (fun x => x = p.eb id) h (hset h ⟨p.eb id, i, none⟩ v) := (Fr.refl _ _).set rfl
  have nb : ∀ {x : Nat} {t : Tag}, p.c x = some t → t ≠ .ent id → x ≠ p.eb id := fun h ht e => by subst e; rw [EM.cb] at h; cases h; exact ht rfl
  have hlen : s'.cs.length = s.cs.length := by rw [e4, List.length_set]
  exact {
    low := fun x t hx => by rw [hset_size]; exact M.low x t hx
    B := by rw [hlen, e6, e7]; exact M.B.fr f (nb M.cB (fun h => (nomatch h)))
    cB := M.cB
    T := by rw [e1, e2, e3]; exact M.T.fr f fun x hx => nb (M.cT x hx) (fun h => (nomatch h))
    cT := M.cT
    L := by rw [hlen]; exact M.L.fr f fun x hx => nb (M.cL x hx) (fun h => (nomatch h))
    cL := M.cL
    E := fun k e2 he2 => by
      rw [e4, List.getElem?_set] at he2
      by_cases hk : id = k
      · subst hk
        rw [if_pos rfl, if_pos hid] at he2
        cases he2
        obtain ⟨A, cap, EB, R, hc⟩ := EM.ex
        refine ⟨⟨A, cap, ?_, ?_, hc⟩, EM.cb, ha, by rw [hl]; exact EM.len⟩
        · rw [hl, ← hv]; exact EB.set v (by simpa using hi)
        · rw [hl]; exact R.fr f fun x hx => nb (hc x hx) (fun h => (nomatch h))
      · rw [if_neg hk] at he2
        refine (M.E k e2 he2).fr f (fun x hx => ?_) (fun x hx => ?_)
        · rw [hx, EM.cb]; intro h; cases h; exact hk rfl
        · rw [hx, EM.cb]; exact fun h => (nomatch h)
    M := M.M.fr f (nb M.cM (fun h => (nomatch h)))
    cM := M.cM
    W := fun x => by rw [e5]; exact (M.W x).fr f fun y hy => by rw [hy, EM.cb]; exact fun h => (nomatch h)
    D := by rw [e6]; exact M.D.fr f fun x hx => nb (M.cD x hx) (fun h => (nomatch h))
    cD := M.cD
    sm := by rw [hlen, e6]; exact M.sm }
theorem BaseM.setA (M : BaseM h bb p s) {id i j : Nat} {e : Ent} (he : s.cs[id]? = some e) (hi : i ≤ 16777216) (hj : j ≤ 16777216) :
    BaseM (hset h ⟨p.eb id, 1, none⟩ (.complex .f64 (Fx.enc i) (Fx.enc j))) bb p { s with cs := setE s.cs id i j } :=
  M.entry (e' := { e with a1 := i, a2 := j }) he rfl ⟨hi, hj⟩ (fun _ _ => rfl) (by omega) rfl rfl rfl (by simp only [setE, he]) rfl rfl rfl
def setG (cs : List Ent) (id : Nat) : List Ent := match cs[id]? with
  | some e => cs.set id { e with gone := true }
  | none => cs
theorem BaseM.setGone (M : BaseM h bb p s) {id : Nat} {e : Ent} (he : s.cs[id]? = some e) : BaseM (hset h ⟨p.eb id, 2, none⟩ (.bool true)) bb p { s with cs := setG s.cs id } :=
  M.entry (e' := { e with gone := true }) he rfl (M.E id e he).la (fun _ _ => rfl) (by omega) rfl rfl rfl (by simp only [setG, he]) rfl rfl rfl

/-- what is to be looked at came to be another row -/
theorem BaseM.todo (M : BaseM h bb p s) {h2 : Heap} {TA' : Option Addr} {tc' : Nat} {l' : List Nat} (f : Fr (blk p.TA) h h2) (D : SlO h2 TA' tc' (ids l')) (hA : ∀ y, blk TA' y → blk p.TA y ∨ h.size ≤ y) (hl : l'.length < 2 ^ 30) :
    ∃ p', BaseM (hset h2 ⟨bb, 3, none⟩ (.slice TA' l'.length tc')) bb p' { s with todo := l' } ∧ Stp p p' h (hset h2 ⟨bb, 3, none⟩ (.slice TA' l'.length tc')) ∧ p'.eb = p.eb ∧ p'.f = p.f ∧ p'.mb = p.mb := by
  obtain ⟨c', h1, h2', h3⟩ := reco (c := p.c) (sz := h.size) (blk TA') .todo (fun x hx => (hA x hx).imp_left (M.cD x)) M.low
  have g : Fr (fun x => p.c x = some .todo) h h2 := f.mono fun x _ hx => M.cD x hx
  have B2 : ListB h2 bb _ := M.B.fr g fun h => by rw [M.cB] at h; cases h
  have f2 : Fr (fun x => p.c x = some .todo ∨ x = bb) h (hset h2 ⟨bb, 3, none⟩ (.slice TA' l'.length tc')) := (g.mono fun _ _ h => .inl h).set (.inr rfl)
  have nb : ∀ {x : Nat} {t : Tag}, p.c x = some t → t ≠ .todo → t ≠ .base → ¬ (p.c x = some .todo ∨ x = bb) := fun h h1 h2 hn => by
    rcases hn with hn | rfl
    · rw [h] at hn; cases hn; exact h1 rfl
    · rw [M.cB] at h; cases h; exact h2 rfl
  have nb2 : ∀ {x : Nat} {t : Tag}, (p.c x = some .todo ∨ x = bb) → t ≠ .todo → t ≠ .base → p.c x ≠ some t := fun hx h1 h2 h => nb h h1 h2 hx
  refine ⟨{ p with TA := TA', tc := tc', c := c' }, ?_, ⟨h2', fun x t hx => (h3 x t hx).imp_right fun h => h.2, f2.mono fun x _ hx => ?_⟩, rfl, rfl, rfl⟩
  · exact {
      low := fun x t hx => by
        rw [hset_size]
        exact (h3 x t hx).elim (fun h => Nat.lt_of_lt_of_le (M.low x t h) f.size) fun h => D.blk_lt h.1
      B := B2.set (i := 3) (.slice TA' l'.length tc') (by simp)
      cB := h2' _ _ M.cB
      T := M.T.fr f2 fun x hx => nb (M.cT x hx) (fun h => (nomatch h)) (fun h => (nomatch h))
      cT := fun x hx => h2' _ _ (M.cT x hx)
      L := M.L.fr f2 fun x hx => nb (M.cL x hx) (fun h => (nomatch h)) (fun h => (nomatch h))
      cL := fun x hx => h2' _ _ (M.cL x hx)
      E := fun id e he => ((M.E id e he).fr f2 (fun x hx => nb2 hx (fun h => (nomatch h)) (fun h => (nomatch h))) (fun x hx => nb2 hx (fun h => (nomatch h)) (fun h => (nomatch h)))).ext h2'
      M := M.M.fr f2 (nb M.cM (fun h => (nomatch h)) (fun h => (nomatch h)))
      cM := h2' _ _ M.cM
      W := fun x => ((M.W x).fr f2 fun y hy => nb2 hy (fun h => (nomatch h)) (fun h => (nomatch h))).ext h2'
      D := D.keep (fun x hx => hset_other (fun e => by
        have e' : x = bb := e
        rw [e'] at hx
        rcases hA bb hx with h | h
        · have := M.cD bb h; rw [M.cB] at this; cases this
        · have := M.low bb _ M.cB; omega)) (by rw [hset_size]; exact Nat.le_refl _)
      cD := h1
      sm := ⟨M.sm.1, hl⟩ }
  · rcases hx with hx | rfl
    · rw [hx]; exact fun h => (nomatch h)
    · rw [M.cB]; exact fun h => (nomatch h)

/-- who watches one literal came to be another row -/
theorem BaseM.wat (M : BaseM h bb p s) {h2 h3 : Heap} {x : Int} {A' : Option Addr} {cap' : Nat} {w : List Nat} (f : Fr (fun y => p.c y = some (.wat x)) h h2) (D : SlO h2 A' cap' (ids w)) (hA : ∀ y, blk A' y → p.c y = some (.wat x) ∨ h.size ≤ y)
    (MA : MapAt h3 p.mb (fun y => if y = x then some (.slice A' w.length cap') else p.f y)) (f3 : Fr (fun y => y = p.mb) h2 h3) :
    ∃ p', BaseM h3 bb p' { s with W := updW s.W x w } ∧ Stp p p' h h3 ∧ p'.eb = p.eb ∧ p'.f = (fun y => if y = x then some (.slice A' w.length cap') else p.f y) ∧ p'.mb = p.mb := by
  obtain ⟨c', h1, h2', h3'⟩ := reco (c := p.c) (sz := h.size) (blk A') (.wat x) hA M.low
  have f2 : Fr (fun y => p.c y = some (.wat x) ∨ y = p.mb) h h3 := (f.mono fun _ _ h => .inl h).trans (f3.mono fun _ _ h => .inr h)
  have nb : ∀ {y : Nat} {t : Tag}, p.c y = some t → t ≠ .wat x → t ≠ .map → ¬ (p.c y = some (.wat x) ∨ y = p.mb) := fun h h1 h2 hn => by
    rcases hn with hn | rfl
    · rw [h] at hn; cases hn; exact h1 rfl
    · rw [M.cM] at h; cases h; exact h2 rfl
  have nb2 : ∀ {y : Nat} {t : Tag}, (p.c y = some (.wat x) ∨ y = p.mb) → t ≠ .wat x → t ≠ .map → p.c y ≠ some t := fun hx h1 h2 h => nb h h1 h2 hx
  refine ⟨{ p with f := fun y => if y = x then some (.slice A' w.length cap') else p.f y, c := c' }, ?_, ⟨h2', fun x t hx => (h3' x t hx).imp_right fun h => h.2, f2.mono fun y _ hy => ?_⟩, rfl, rfl, rfl⟩
  · exact {
      low := fun y t hy => (h3' y t hy).elim (fun h => Nat.lt_of_lt_of_le (M.low y t h) f2.size) fun h => Nat.lt_of_lt_of_le (D.blk_lt h.1) f3.size
      B := M.B.fr f2 (nb M.cB (fun h => (nomatch h)) (fun h => (nomatch h)))
      cB := h2' _ _ M.cB
      T := M.T.fr f2 fun x hx => nb (M.cT x hx) (fun h => (nomatch h)) (fun h => (nomatch h))
      cT := fun x hx => h2' _ _ (M.cT x hx)
      L := M.L.fr f2 fun x hx => nb (M.cL x hx) (fun h => (nomatch h)) (fun h => (nomatch h))
      cL := fun x hx => h2' _ _ (M.cL x hx)
      E := fun id e he => ((M.E id e he).fr f2 (fun x hx => nb2 hx (fun h => (nomatch h)) (fun h => (nomatch h))) (fun x hx => nb2 hx (fun h => (nomatch h)) (fun h => (nomatch h)))).ext h2'
      M := MA
      cM := h2' _ _ M.cM
      W := fun z => by
        show WatM h3 c' (fun y => if y = x then some (.slice A' w.length cap') else p.f y) (updW s.W x w) z
        by_cases e : z = x
        · subst e
          unfold WatM
          simp only [if_pos]
          rw [updW_same]
          refine ⟨A', cap', rfl, D.fr f3 fun y hy e => ?_, h1⟩
          subst e
          rcases hA _ hy with h | h
          · rw [M.cM] at h; cases h
          · have := M.low _ _ M.cM; omega
        · have := ((M.W z).fr f2 fun y hy => nb2 hy (fun h => by cases h; exact e rfl) (fun h => (nomatch h))).ext h2'
          unfold WatM at this ⊢
          simp only [if_neg e]
          rw [updW_other _ _ e]
          exact this
      D := M.D.fr f2 fun x hx => nb (M.cD x hx) (fun h => (nomatch h)) (fun h => (nomatch h))
      cD := fun x hx => h2' _ _ (M.cD x hx)
      sm := M.sm }
  · rcases hy with hy | rfl
    · rw [hy]; exact fun h => (nomatch h)
    · rw [M.cM]; exact fun h => (nomatch h)

/-- nobody watches a literal any more, or any -/
theorem BaseM.unwat (M : BaseM h bb p s) {h2 : Heap} {f' : Int → Option Value} {W' : Int → List Nat} (MA : MapAt h2 p.mb f') (f3 : Fr (fun y => y = p.mb) h h2) (hf : ∀ x, (f' x = p.f x ∧ W' x = s.W x) ∨ (f' x = none ∧ W' x = [])) :
    BaseM h2 bb { p with f := f' } { s with W := W' } := by
  have nb : ∀ {y : Nat} {t : Tag}, p.c y = some t → t ≠ .map → ¬ y = p.mb := fun h h1 hn => by subst hn; rw [M.cM] at h; cases h; exact h1 rfl
  have nb2 : ∀ {y : Nat} {t : Tag}, y = p.mb → t ≠ .map → p.c y ≠ some t := fun hx h1 h => nb h h1 hx
  exact {
    low := fun y t hy => Nat.lt_of_lt_of_le (M.low y t hy) f3.size
    B := M.B.fr f3 (nb M.cB (fun h => (nomatch h)))
    cB := M.cB
    T := M.T.fr f3 fun x hx => nb (M.cT x hx) (fun h => (nomatch h))
    cT := M.cT
    L := M.L.fr f3 fun x hx => nb (M.cL x hx) (fun h => (nomatch h))
    cL := M.cL
    E := fun id e he => (M.E id e he).fr f3 (fun x hx => nb2 hx (fun h => (nomatch h))) (fun x hx => nb2 hx (fun h => (nomatch h)))
    M := MA
    cM := M.cM
    W := fun z => by
      show WatM h2 p.c f' W' z
      have := (M.W z).fr f3 fun y hy => nb2 hy (fun h => (nomatch h))
      unfold WatM at this ⊢
      rcases hf z with ⟨h1, h2⟩ | ⟨h1, h2⟩
      · rw [h1, h2]; exact this
      · rw [h1]; exact h2
    D := M.D.fr f3 fun x hx => nb (M.cD x hx) (fun h => (nomatch h))
    cD := M.cD
    sm := M.sm }
theorem stp_map (M : BaseM h bb p s) {h2 : Heap} {f' : Int → Option Value} (f3 : Fr (fun y => y = p.mb) h h2) : Stp p { p with f := f' } h h2 :=
  ⟨fun _ _ h => h, fun _ _ h => .inl h, f3.mono fun y _ hy => by rw [hy, M.cM]; exact fun h => (nomatch h)⟩
end
end Xe
