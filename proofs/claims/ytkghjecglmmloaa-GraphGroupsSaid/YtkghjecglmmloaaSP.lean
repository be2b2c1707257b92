/- The plain law of sorting in place: a range that is only swapped about. -/
import Derived.Test.YtkghjecglmmloaaSl2
namespace Xe
open Go

def gv (L : List Value) (p : Nat) : Value := L.getD p (.bool false)
theorem gv_at {L : List Value} {p : Nat} (h : p < L.length) : L[p]? = some (gv L p) := by unfold gv; rw [List.getD_eq_getElem?_getD, List.getElem?_eq_getElem h]; rfl
theorem gv_set {L : List Value} {i p : Nat} {v : Value} (hi : i < L.length) : gv (L.set i v) p = if p = i then v else gv L p := by
  unfold gv
  rw [List.getD_eq_getElem?_getD, List.getD_eq_getElem?_getD, List.getElem?_set]
  by_cases e : p = i
  · subst e; rw [if_pos rfl, if_pos hi, if_pos rfl]; rfl
  · rw [if_neg (Ne.symm e), if_neg e]
/-- two are swapped -/
def swp (L : List Value) (i j : Nat) : List Value := (L.set i (gv L j)).set j (gv L i)
theorem swp_len (L : List Value) (i j : Nat) : (swp L i j).length = L.length := by unfold swp; rw [List.length_set, List.length_set]
theorem gv_swp {L : List Value} {i j : Nat} (hi : i < L.length) (hj : j < L.length) (p : Nat) : gv (swp L i j) p = if p = j then gv L i else if p = i then gv L j else gv L p := by
  unfold swp
  rw [gv_set (by rw [List.length_set]; exact hj), gv_set hi]
theorem swp_perm {L : List Value} {i j : Nat} (hi : i < L.length) (hj : j < L.length) : (swp L i j).Perm L := by
  have := @List.set_set_perm _ L i j hi hj
  unfold swp gv
  rw [List.getD_eq_getElem?_getD, List.getD_eq_getElem?_getD, List.getElem?_eq_getElem hi, List.getElem?_eq_getElem hj]
  exact this

/-- of a range, swapped about -/
inductive Rng (a b : Nat) : List Value → List Value → Prop
  | refl (L : List Value) : Rng a b L L
  | swap {L L' : List Value} {i j : Nat} : Rng a b L L' → a ≤ i → i < b → a ≤ j → j < b → b ≤ L'.length → Rng a b L (swp L' i j)
section
variable {a b : Nat} {L L' L'' : List Value}
theorem Rng.len (R : Rng a b L L') : L'.length = L.length := by
  induction R with
  | refl => rfl
  | swap _ _ _ _ _ _ ih => rw [swp_len, ih]
theorem Rng.trans (R : Rng a b L L') (R' : Rng a b L' L'') : Rng a b L L'' := by
  induction R' with
  | refl => exact R
  | swap _ h1 h2 h3 h4 h5 ih => exact .swap ih h1 h2 h3 h4 h5
theorem Rng.mono {a' b' : Nat} (R : Rng a b L L') (ha : a' ≤ a) (hb : b ≤ b') (hl : b' ≤ L.length) : Rng a' b' L L' := by
  induction R with
  | refl => exact .refl _
  | swap R' h1 h2 h3 h4 h5 ih => exact .swap ih (by omega) (by omega) (by omega) (by omega) (by rw [R'.len]; exact hl)
theorem Rng.perm (R : Rng a b L L') : L'.Perm L := by
  induction R with
  | refl => exact .refl _
  | swap _ h1 h2 h3 h4 h5 ih => exact (swp_perm (by omega) (by omega)).trans ih
theorem Rng.out (R : Rng a b L L') {p : Nat} (hp : p < a ∨ b ≤ p) : gv L' p = gv L p := by
  induction R with
  | refl => rfl
  | swap _ h1 h2 h3 h4 h5 ih => rw [gv_swp (by omega) (by omega), if_neg (by omega), if_neg (by omega), ih]
theorem Rng.all (R : Rng a b L L') {P : Value → Prop} (h : ∀ p, a ≤ p → p < b → P (gv L p)) : ∀ p, a ≤ p → p < b → P (gv L' p) := by
  induction R with
  | refl => exact h
  | @swap L' i j _ h1 h2 h3 h4 h5 ih =>
    intro p hp1 hp2
    rw [gv_swp (by omega) (by omega)]
    split
    · exact ih i h1 h2
    · split
      · exact ih j h3 h4
      · exact ih p hp1 hp2
theorem Rng.one {i j : Nat} (h1 : a ≤ i) (h2 : i < b) (h3 : a ≤ j) (h4 : j < b) (h5 : b ≤ L.length) : Rng a b L (swp L i j) := .swap (.refl _) h1 h2 h3 h4 h5
end

/-- a comparer that is right -/
structure COk (cf : Value → Value → Int) (ok : Value → Prop) : Prop where
  asy : ∀ x y, ok x → ok y → cf x y < 0 → 0 ≤ cf y x
  tr : ∀ x y z, ok x → ok y → ok z → 0 ≤ cf y x → 0 ≤ cf z y → 0 ≤ cf z x
def Le (cf : Value → Value → Int) (x y : Value) : Prop := 0 ≤ cf y x
section
variable {cf : Value → Value → Int} {ok : Value → Prop} (C : COk cf ok)
include C
theorem COk.of_lt {x y : Value} (hx : ok x) (hy : ok y) (h : cf x y < 0) : Le cf x y := C.asy x y hx hy h
theorem COk.le_tr {x y z : Value} (hx : ok x) (hy : ok y) (hz : ok z) (h1 : Le cf x y) (h2 : Le cf y z) : Le cf x z := C.tr x y z hx hy hz h1 h2
end
def Srt (cf : Value → Value → Int) (a b : Nat) (L : List Value) : Prop := ∀ p q, a ≤ p → p < q → q < b → Le cf (gv L p) (gv L q)
def OkR (ok : Value → Prop) (L : List Value) : Prop := ∀ p, p < L.length → ok (gv L p)
theorem OkR.rng {ok : Value → Prop} {a b : Nat} {L L' : List Value} (h : OkR ok L) (R : Rng a b L L') (hb : b ≤ L.length) : OkR ok L' := fun p hp => by
  rw [R.len] at hp
  by_cases hpa : a ≤ p ∧ p < b
  · exact R.all (P := ok) (fun q h1 h2 => h q (by omega)) p hpa.1 hpa.2
  · rw [R.out (by omega)]; exact h p hp
end Xe
