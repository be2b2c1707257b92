/- Maps whose keys are integers, as functions; slices that begin anywhere in their block. -/
import Derived.Test.YtkghjecglmmloaaSl2
namespace Xe
open Go

def lk (m : List (Int × Value)) (x : Int) : Option Value := match m with
  | [] => none
  | (y, v) :: m => if x = y then some v else lk m x
def KeysOk (es : List MapEntry) (m : List (Int × Value)) : Prop := es.map (fun e => (e.key, e.val)) = m.map fun p => ((Value.int .i64 p.1 : Value), p.2)
theorem lk_none {m : List (Int × Value)} {x : Int} : lk m x = none ↔ x ∉ m.map Prod.fst := by
  induction m with
  | nil => simp [lk]
  | cons p m ih =>
    obtain ⟨y, v⟩ := p
    unfold lk
    by_cases e : x = y
    · simp [e]
    · simp [e, ih]
theorem findNow_spec {x : Int} : ∀ {m : List (Int × Value)} {es : List MapEntry} {i : Nat}, KeysOk es m → ∃ o, Instr.findNow (.int .i64) (.int .i64 x) es i = some o ∧
    match o with
    | none => lk m x = none
    | some (j, v) => ∃ t, j = i + t ∧ m[t]? = some (x, v) ∧ lk m x = some v
  | [], es, i, hk => by
    have : es = [] := by
      unfold KeysOk at hk
      simpa using hk
    subst this
    exact ⟨none, rfl, rfl⟩
  | (y, v) :: m, [], i, hk => by unfold KeysOk at hk; simp at hk
  | (y, v) :: m, e :: es, i, hk => by
    unfold KeysOk at hk
    simp only [List.map_cons, List.cons.injEq, Prod.mk.injEq] at hk
    obtain ⟨⟨h1, h2⟩, h3⟩ := hk
    unfold Instr.findNow
    rw [h1]
    by_cases exy : x = y
    · subst exy
      refine ⟨some (i, e.val), by simp [Instr.sameNow], 0, rfl, by rw [h2]; rfl, ?_⟩
      unfold lk; rw [if_pos rfl, h2]
    · obtain ⟨o, ho, hs⟩ := findNow_spec (x := x) (m := m) (es := es) (i := i + 1) h3
      have hb : (x == y) = false := by simpa using exy
      refine ⟨o, by simp [Instr.sameNow, hb, ho], ?_⟩
      cases o with
      | none => simp only at hs ⊢; unfold lk; rw [if_neg exy]; exact hs
      | some p =>
        obtain ⟨j, u⟩ := p
        obtain ⟨t, ht, hm, hl⟩ := hs
        exact ⟨t + 1, by omega, by simpa using hm, by unfold lk; rw [if_neg exy]; exact hl⟩
theorem lk_set {x : Int} {v w : Value} : ∀ {m : List (Int × Value)} {t : Nat}, (m.map Prod.fst).Nodup → m[t]? = some (x, w) → ∀ y, lk (m.set t (x, v)) y = if y = x then some v else lk m y
  | [], t, _, h, _ => by simp at h
  | (z, u) :: m, 0, hn, h, y => by
    simp only [List.getElem?_cons_zero, Option.some.injEq, Prod.mk.injEq] at h
    obtain ⟨rfl, rfl⟩ := h
    rw [List.set_cons_zero]
    unfold lk
    by_cases e : y = z <;> simp [e]
  | (z, u) :: m, t + 1, hn, h, y => by
    rw [List.map_cons, List.nodup_cons] at hn
    rw [List.getElem?_cons_succ] at h
    rw [List.set_cons_succ]
    unfold lk
    rw [lk_set hn.2 h y]
    by_cases e : y = z
    · subst e
      have : y ≠ x := fun e => hn.1 (List.mem_map.2 ⟨_, List.mem_of_getElem? h, e.symm⟩)
      rw [if_pos rfl, if_neg this, if_pos rfl]
    · rw [if_neg e, if_neg e]
theorem lk_push {x : Int} {v : Value} {m : List (Int × Value)} (h : lk m x = none) (y : Int) : lk (m ++ [(x, v)]) y = if y = x then some v else lk m y := by
  induction m with
  | nil => simp [lk]
  | cons p m ih =>
    obtain ⟨z, u⟩ := p
    unfold lk at h
    by_cases e : x = z
    · rw [if_pos e] at h; cases h
    · rw [if_neg e] at h
      rw [List.cons_append]
      unfold lk
      rw [ih h]
      by_cases e2 : y = z
      · subst e2; rw [if_pos rfl, if_neg (Ne.symm e), if_pos rfl]
      · rw [if_neg e2, if_neg e2]
theorem lk_erase {x : Int} {w : Value} : ∀ {m : List (Int × Value)} {t : Nat}, (m.map Prod.fst).Nodup → m[t]? = some (x, w) → ∀ y, lk (m.eraseIdx t) y = if y = x then none else lk m y
  | [], t, _, h, _ => by simp at h
  | (z, u) :: m, 0, hn, h, y => by
    simp only [List.getElem?_cons_zero, Option.some.injEq, Prod.mk.injEq] at h
    obtain ⟨rfl, rfl⟩ := h
    rw [List.map_cons, List.nodup_cons] at hn
    rw [List.eraseIdx_cons_zero]
    by_cases e : y = z
    · subst e; rw [if_pos rfl]; exact lk_none.2 hn.1
    · rw [if_neg e]; unfold lk; rw [if_neg e]; cases m <;> rfl
  | (z, u) :: m, t + 1, hn, h, y => by
    rw [List.map_cons, List.nodup_cons] at hn
    rw [List.getElem?_cons_succ] at h
    rw [List.eraseIdx_cons_succ]
    unfold lk
    rw [lk_erase hn.2 h y]
    by_cases e : y = z
    · subst e
      have : y ≠ x := fun e => hn.1 (List.mem_map.2 ⟨_, List.mem_of_getElem? h, e.symm⟩)
      rw [if_pos rfl, if_neg this, if_pos rfl]
    · rw [if_neg e, if_neg e]

theorem map_erase {α β : Type} (f : α → β) : ∀ (l : List α) (i : Nat), (l.eraseIdx i).map f = (l.map f).eraseIdx i
  | [], _ => rfl
  | _ :: _, 0 => rfl
  | a :: l, i + 1 => by simp [map_erase f l i]

/-- a map -/
structure MapAt (h : Heap) (r : Nat) (f : Int → Option Value) : Prop where
  ex : ∃ es clk m, h[r]? = some (.map es clk) ∧ KeysOk es.toList m ∧ (m.map Prod.fst).Nodup ∧ ∀ x, f x = lk m x

section
variable {h : Heap} {r : Nat} {f : Int → Option Value} {P : Program} {t kt e : TypeId}
theorem MapAt.lt (M : MapAt h r f) : r < h.size := by
  obtain ⟨es, clk, m, h1, _⟩ := M.ex
  exact (Array.getElem?_eq_some_iff.1 h1).1
theorem MapAt.same (M : MapAt h r f) {h' : Heap} (e : h'[r]? = h[r]?) : MapAt h' r f := by
  obtain ⟨es, clk, m, h1, h2⟩ := M.ex
  exact ⟨es, clk, m, by rw [e]; exact h1, h2⟩
theorem MapAt.fr (M : MapAt h r f) {S : Nat → Prop} {h' : Heap} (fr : Fr S h h') (hs : ¬ S r) : MapAt h' r f := M.same (fr.same r M.lt hs)
theorem MapAt.cong (M : MapAt h r f) {g : Int → Option Value} (e : ∀ x, f x = g x) : MapAt h r g := by
  obtain ⟨es, clk, m, h1, h2, h3, h4⟩ := M.ex
  exact ⟨es, clk, m, h1, h2, h3, fun x => by rw [← e x]; exact h4 x⟩
theorem mapOf_at {es : Array MapEntry} {clk : Nat} (h1 : h[r]? = some (.map es clk)) : mapOf h (.map (some r)) = some (r, es, clk) := by unfold mapOf; simp [h1]
theorem MapAt.look (M : MapAt h r f) {z : Value} (ht : mapT P t = some (kt, e)) (hz : zeroOf P e = some z) (x : Int) : lookV P t (.map (some r)) (.int .i64 x) false h = some ((f x).getD z) := by
  obtain ⟨es, clk, m, h1, h2, h3, h4⟩ := M.ex
  obtain ⟨o, ho, hs⟩ := findNow_spec (x := x) (i := 0) h2
  have ho' : findI es x = some o := ho
  unfold lookV
  rw [ht]
  simp only [Option.bind_some, hz, mapOf_at h1, keyI, ho', Option.map_some, Bool.false_eq_true, if_false]
  rw [h4]
  cases o with
  | none => simp only at hs; rw [hs]; rfl
  | some p => obtain ⟨j, v⟩ := p; obtain ⟨_, _, _, hl⟩ := hs; rw [hl]; rfl
theorem set_fr {X : Obj} : Fr (fun y => y = r) h (h.setIfInBounds r X) := ⟨by simp, fun x hx hn => by rw [Array.getElem?_setIfInBounds_ne (Ne.symm hn)]⟩
theorem set_at {X : Obj} (hr : r < h.size) : (h.setIfInBounds r X)[r]? = some X := by simp [hr]
theorem keys_set {es : Array MapEntry} {m : List (Int × Value)} {j t : Nat} {x : Int} {v : Value} (h2 : KeysOk es.toList m) (hj : j = 0 + t) : KeysOk (es.modify j fun e => { e with key := .int .i64 x, val := v }).toList (m.set t (x, v)) := by
  unfold KeysOk at *
  have hl : es.toList.length = m.length := by have := congrArg List.length h2; simpa using this
  apply List.ext_getElem?
  intro k
  have hk := congrArg (·[k]?) h2
  simp only [List.getElem?_map] at hk
  simp only [List.getElem?_map, List.getElem?_set, Array.getElem?_toList] at hk ⊢
  rw [Array.getElem?_modify]
  by_cases e : j = k
  · have e2 : t = k := by omega
    subst e2
    rw [if_pos e, if_pos rfl]
    by_cases hlt : t < m.length
    · have : t < es.size := by have hl2 : es.size = m.length := by simpa using hl
                               omega
      simp [hlt, this]
    · have : ¬ t < es.size := by have hl2 : es.size = m.length := by simpa using hl
                                 omega
      simp [hlt, this]
  · rw [if_neg e, if_neg (by omega)]
    exact hk
theorem MapAt.up (M : MapAt h r f) {x : Int} {v : Value} {j : Heap → Prop} (ht : mapT P t = some (kt, e)) (hk : ∀ h', MapAt h' r (fun y => if y = x then some v else f y) → Fr (fun y => y = r) h h' → j h') :
    @mapUpK P t (.map (some r)) (.int .i64 x) v ⟨h⟩ ⟨j⟩ := by
  obtain ⟨es, clk, m, h1, h2, h3, h4⟩ := M.ex
  obtain ⟨o, ho, hs⟩ := findNow_spec (x := x) (i := 0) h2
  have ho' : findI es x = some o := ho
  refine ⟨kt, e, r, es, clk, x, o, ht, mapOf_at h1, rfl, ho', fun i u hiu => ?_, ?_⟩
  · subst hiu
    obtain ⟨t, ht', hm, _⟩ := hs
    have hk := congrArg (·[i]?) h2
    simp only [List.getElem?_map, Array.getElem?_toList] at hk
    rw [show i = t by omega] at hk ⊢
    rw [hm] at hk
    cases he : es[t]? with
    | none => rw [he] at hk; cases hk
    | some a => rw [he] at hk; simp only [Option.map_some, Option.some.injEq, Prod.mk.injEq] at hk ⊢; exact hk.1
  · refine hk _ ?_ set_fr
    cases o with
    | none =>
      refine ⟨_, _, m ++ [(x, v)], set_at M.lt, ?_, ?_, fun y => ?_⟩
      · unfold KeysOk at *; simp [h2]
      · rw [List.map_append, List.nodup_append]
        refine ⟨h3, by simp, fun a ha b hb => ?_⟩
        simp only [List.map_cons, List.map_nil, List.mem_singleton] at hb
        subst hb
        exact fun e => (lk_none.1 hs) (e ▸ ha)
      · rw [lk_push hs y]; rw [h4]
    | some p =>
      obtain ⟨i, u⟩ := p
      obtain ⟨t, ht', hm, _⟩ := hs
      refine ⟨_, _, m.set t (x, v), set_at M.lt, keys_set h2 ht', ?_, fun y => ?_⟩
      · have : (m.set t (x, v)).map Prod.fst = m.map Prod.fst := by
          apply List.ext_getElem?
          intro k
          simp only [List.getElem?_map, List.getElem?_set]
          by_cases e : t = k
          · subst e; rw [if_pos rfl, if_pos (List.getElem?_eq_some_iff.1 hm).1, hm]; rfl
          · rw [if_neg e]
        rw [this]; exact h3
      · rw [lk_set h3 hm y]; rw [h4]
theorem MapAt.del (M : MapAt h r f) {x : Int} {j : Heap → Prop} (ht : mapT P t = some (kt, e)) (hk : ∀ h', MapAt h' r (fun y => if y = x then none else f y) → Fr (fun y => y = r) h h' → j h') :
    @deleteK P t (.map (some r)) (.int .i64 x) ⟨h⟩ ⟨j⟩ := by
  obtain ⟨es, clk, m, h1, h2, h3, h4⟩ := M.ex
  obtain ⟨o, ho, hs⟩ := findNow_spec (x := x) (i := 0) h2
  have ho' : findI es x = some o := ho
  refine ⟨kt, e, r, es, clk, x, o, ht, mapOf_at h1, rfl, ho', ?_⟩
  refine hk _ ?_ set_fr
  cases o with
  | none =>
    refine ⟨_, _, m, set_at M.lt, h2, h3, fun y => ?_⟩
    rw [h4]
    by_cases e : y = x
    · rw [if_pos e, e]; exact hs.symm
    · rw [if_neg e]
  | some p =>
    obtain ⟨i, u⟩ := p
    obtain ⟨t, ht', hm, _⟩ := hs
    have ei : i = t := by omega
    subst ei
    refine ⟨_, _, m.eraseIdx i, set_at M.lt, ?_, ?_, fun y => ?_⟩
    · unfold KeysOk at *
      have hlt : i < es.size := by
        have hl : es.toList.length = m.length := by have := congrArg List.length h2; simpa using this
        have := (List.getElem?_eq_some_iff.1 hm).1
        simp at hl; omega
      rw [Array.eraseIdxIfInBounds, dif_pos hlt, Array.toList_eraseIdx, map_erase, h2, ← map_erase]
    · exact h3.sublist ((List.eraseIdx_sublist m i).map _)
    · rw [lk_erase h3 hm y]; rw [h4]
theorem MapAt.clear (M : MapAt h r f) {d : TypeDesc} {j : Heap → Prop} (ht : P.underlying t = some d) (hk : ∀ h', MapAt h' r (fun _ => none) → Fr (fun y => y = r) h h' → j h') : @clearK P t (.map (some r)) ⟨h⟩ ⟨j⟩ := by
  obtain ⟨es, clk, m, h1, h2, h3, h4⟩ := M.ex
  exact .inl ⟨d, r, es, clk, ht, mapOf_at h1, hk _ ⟨_, _, [], set_at M.lt, rfl, List.nodup_nil, fun _ => rfl⟩ set_fr⟩
theorem MapAt.new : MapAt (h.push (.map #[] 0)) h.size (fun _ => none) := ⟨_, _, [], push_new, rfl, List.nodup_nil, fun _ => rfl⟩
@[go_sem] theorem makeMap_eq {k : Value → Heap → Prop} : @makeMapK ⟨h⟩ ⟨k⟩ = k (.map (some h.size)) (h.push (.map #[] 0)) := rfl
end

/-- a slice of one cell each, from anywhere in its block on -/
structure SlO (h : Heap) (A : Option Addr) (cap : Nat) (vs : List Value) : Prop where
  len : vs.length ≤ cap
  at' : (A = none ∧ cap = 0) ∨ ∃ bk off, A = some ⟨bk, off, none⟩ ∧ bk < h.size ∧ (∀ i, hfrz h ⟨bk, i, none⟩ = false) ∧ (∀ i, i < cap → (hcell h ⟨bk, off + i, none⟩).isSome = true) ∧ ∀ i v, vs[i]? = some v → hcell h ⟨bk, off + i, none⟩ = some v
section
variable {h : Heap} {A : Option Addr} {cap : Nat} {vs : List Value}
theorem SlAt.slo (S : SlAt h A cap vs) : SlO h A cap vs := by
  refine ⟨S.len, S.at'.imp id ?_⟩
  rintro ⟨bk, h1, h2, h3, h4, h5⟩
  exact ⟨bk, 0, h1, h2, h3, fun i hi => by rw [Nat.zero_add]; exact h4 i hi, fun i v hv => by rw [Nat.zero_add]; exact h5 i v hv⟩
theorem SlO.nil : SlO h none 0 [] := ⟨Nat.le_refl _, .inl ⟨rfl, rfl⟩⟩
theorem SlO.blk_lt (S : SlO h A cap vs) {x : Nat} (hx : blk A x) : x < h.size := by
  obtain ⟨a, rfl, rfl⟩ := hx
  rcases S.at' with ⟨h1, _⟩ | ⟨bk, off, h1, h2, _⟩
  · cases h1
  · cases h1; exact h2
theorem SlO.base (S : SlO h A cap vs) (hv : 0 < cap) : ∃ bk off, A = some ⟨bk, off, none⟩ ∧ bk < h.size ∧ (∀ i, hfrz h ⟨bk, i, none⟩ = false) ∧ ∀ i v, vs[i]? = some v → hcell h ⟨bk, off + i, none⟩ = some v := by
  rcases S.at' with ⟨_, h2⟩ | ⟨bk, off, h1, h2, h3, _, h4⟩
  · omega
  · exact ⟨bk, off, h1, h2, h3, h4⟩
theorem SlO.keep (S : SlO h A cap vs) {h' : Heap} (hk : ∀ x, blk A x → h'[x]? = h[x]?) (hz : h.size ≤ h'.size) : SlO h' A cap vs := by
  refine ⟨S.len, ?_⟩
  rcases S.at' with h1 | ⟨bk, off, h1, h2, h3, h4, h5⟩
  · exact .inl h1
  · have e := hk bk ⟨_, h1, rfl⟩
    refine .inr ⟨bk, off, h1, Nat.lt_of_lt_of_le h2 hz, fun i => ?_, fun i hi => ?_, fun i v hv => ?_⟩
    · rw [← h3 i]; unfold hfrz; rw [e]
    · rw [← h4 i hi]; unfold hcell; rw [e]
    · rw [← h5 i v hv]; unfold hcell; rw [e]
theorem SlO.fr {S : Nat → Prop} {h' : Heap} (L : SlO h A cap vs) (f : Fr S h h') (hn : ∀ x, blk A x → ¬ S x) : SlO h' A cap vs :=
  L.keep (fun x hx => f.same x (L.blk_lt hx) (hn x hx)) f.size
theorem SlO.row (S : SlO h A cap vs) : RowAt h A vs := by
  rcases S.at' with ⟨h1, h2⟩ | ⟨bk, off, h1, _, _, _, h5⟩
  · have := S.len
    exact .inl (List.eq_nil_of_length_eq_zero (by omega))
  · exact .inr ⟨bk, off, h1, h5⟩
theorem SlO.tail {bk off : Nat} {v : Value} (S : SlO h (some ⟨bk, off, none⟩) cap (v :: vs)) : SlO h (some ⟨bk, if cap = 1 then off else off + 1, none⟩) (cap - 1) vs := by
  have hl := S.len
  rw [List.length_cons] at hl
  refine ⟨by omega, .inr ?_⟩
  rcases S.at' with ⟨h1, _⟩ | ⟨bk', off', h1, h2, h3, h4, h5⟩
  · cases h1
  · cases h1
    refine ⟨bk, _, rfl, h2, h3, fun i hi => ?_, fun i u hu => ?_⟩
    · rw [if_neg (by omega), show off + 1 + i = off + (i + 1) by omega]; exact h4 (i + 1) (by omega)
    · have hi := (List.getElem?_eq_some_iff.1 hu).1
      rw [if_neg (by omega), show off + 1 + i = off + (i + 1) by omega]; exact h5 (i + 1) u (by simpa using hu)
theorem slice_tail {m len : Nat} {b o : Nat} {kd : IntKind} (h1 : 1 ≤ len) (h2 : len ≤ cap) : sliceV (some (1, none)) (.slice (some ⟨b, o, none⟩) len cap) (some (.int kd 1)) none = some (.slice (some ⟨b, if cap = 1 then o else o + 1, none⟩) (len - 1) (cap - 1)) := by
  unfold sliceV boundV
  have g : (0 : Int) ≤ 1 ∧ (1 : Int) ≤ len := by omega
  simp only [Option.bind_some, if_pos g, Option.map_some]
  by_cases e : cap = 1
  · simp [e]
  · simp [e, add_n]
/-- append of a row -/
theorem appendQ {e : TypeId} {bt n m xc : Nat} {z : Value} {xb : Option Addr} {ws : List Value} {k : Value → Heap → Prop} (S : SlO h A cap vs) (hn : n = vs.length) (hw : RowAt h xb ws) (hm : m = ws.length) (hone : ∀ w ∈ ws, w.oneCell' = true)
    (hlen : (n + m) * bt ≤ 2 ^ 47) (hlm : n + m < 2 ^ 50)
    (hk : ∀ A' cap' h', SlO h' A' cap' (vs ++ ws) → Fr (blk A) h h' → (∀ x, blk A' x → blk A x ∨ h.size ≤ x) → k (.slice A' (n + m) cap') h') :
    @appendK (some (e, 1, bt, z)) (.slice A n cap) (.slice xb m xc) ⟨h⟩ ⟨k⟩ := by
  subst hn
  change appendX (some (e, 1, bt, z)) (.slice A vs.length cap) (.slice xb m xc) h k
  refine ⟨ws, hw.load (by omega), fun hc => ?_, fun hc => ⟨hlen, by unfold maxLen; omega, vs, S.row.load (by omega), fun c rest hc2 hr => ?_⟩⟩
  · rcases S.at' with ⟨rfl, h2⟩ | ⟨bk, off, rfl, h2, h3, h4, h5⟩
    · have hm0 : m = 0 := by omega
      subst hm0
      have hws : ws = [] := List.eq_nil_of_length_eq_zero (by omega)
      subst hws
      exact hk none cap h (by rw [List.append_nil]; exact S) (Fr.refl _ _) (fun x hx => .inl hx)
    · show storeN h (Addr.add ⟨bk, off, none⟩ (vs.length * 1)) 0 ws _
      rw [add_n, Nat.mul_one]
      refine storeN_some hone (fun j hj => ?_) h3 fun h' g1 g2 g3 g4 => ?_
      · rw [Nat.add_zero, Nat.add_assoc]; exact h4 _ (by omega)
      · rw [Nat.add_zero] at g1 g2
        refine hk _ _ _ ⟨by rw [List.length_append]; omega, .inr ⟨bk, off, rfl, Nat.lt_of_lt_of_le h2 g4.size, g3, fun j hj => ?_, fun j x hx => ?_⟩⟩ (g4.mono fun x _ hx => ⟨_, rfl, hx.symm⟩) (fun x hx => .inl hx)
        · by_cases hin : off + j < off + vs.length ∨ off + vs.length + ws.length ≤ off + j
          · rw [g2 _ hin]; exact h4 j hj
          · have := g1 (j - vs.length) ws[j - vs.length] (List.getElem?_eq_getElem (by omega))
            rw [show off + vs.length + (j - vs.length) = off + j by omega] at this
            rw [this]; rfl
        · by_cases e : j < vs.length
          · rw [List.getElem?_append_left e] at hx
            rw [g2 _ (.inl (by omega))]
            exact h5 j x hx
          · rw [List.getElem?_append_right (by omega)] at hx
            have := g1 _ _ hx
            rwa [show off + vs.length + (j - vs.length) = off + j by omega] at this
  · refine hk _ _ _ ⟨by rw [List.length_append]; omega, .inr ⟨h.size, 0, rfl, by rw [push_size]; omega, fun j => hfrz_push_new, fun j hj => ?_, fun j x hx => ?_⟩⟩ ((Fr.refl _ _).push) (fun x hx => .inr ?_)
    · rw [Nat.zero_add, hcell_push_new]
      simp only [List.getElem?_toArray]
      have hl : (vs ++ ws ++ rest).length = c := by rw [List.length_append, List.length_append, hr]; omega
      rw [List.getElem?_eq_getElem (by omega)]; rfl
    · rw [Nat.zero_add, hcell_push_new]
      simp only [List.getElem?_toArray]
      rw [List.getElem?_append_left (by simpa using (List.getElem?_eq_some_iff.1 hx).1)]
      exact hx
    · obtain ⟨a, ha, hx⟩ := hx
      cases ha; simp at hx; omega
end
end Xe
