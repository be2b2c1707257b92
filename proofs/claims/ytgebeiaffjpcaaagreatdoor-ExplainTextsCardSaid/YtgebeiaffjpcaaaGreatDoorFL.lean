import Derived.Laws.ComplexArith
import Derived.Laws.FloatBits
namespace Fx
open Go Ieee

/-- bits of an integer as a float64 -/
def enc (n : Int) : Nat := FloatKind.f64.nearest n

theorem shl_eq (m k : Nat) : m <<< k = m * 2 ^ k := Nat.shiftLeft_eq m k

/-- a datum stands for the integer n: exact, its place is not above zero -/
def Stands (d : Datum) (n : Int) : Prop :=
  ∃ s m e, d = .number s m (-(e : Nat) : Int) ∧ m = n.natAbs * 2 ^ e ∧ s = decide (n < 0)

theorem cut_exact (way : Toward) (neg : Bool) (c drop : Nat) : way.cut neg (c * 2 ^ drop) drop = c := by
  by_cases hc : c = 0
  · subst hc
    unfold Toward.cut
    simp
    cases way <;> simp
  · have hl : drop ≤ (c * 2 ^ drop).log2 := by
      rw [Nat.le_log2 (Nat.ne_of_gt (Nat.mul_pos (Nat.pos_of_ne_zero hc) (Nat.two_pow_pos _)))]
      exact Nat.le_mul_of_pos_left _ (Nat.pos_of_ne_zero hc)
    have hmin : min drop ((c * 2 ^ drop).log2 + 2) = drop := by omega
    unfold Toward.cut
    simp only [hmin, shl_eq, Nat.one_mul]
    have hp : 0 < 2 ^ drop := Nat.two_pow_pos _
    have h1 : c * 2 ^ drop / 2 ^ drop = c := Nat.mul_div_cancel _ hp
    have h2 : c * 2 ^ drop % 2 ^ drop = 0 := Nat.mul_mod_left _ _
    rw [h1, h2]
    cases way <;> simp <;> omega

theorem log2_mul_pow (c k : Nat) (hc : c ≠ 0) : (c * 2 ^ k).log2 = c.log2 + k := by
  rw [Nat.log2_eq_iff (Nat.ne_of_gt (Nat.mul_pos (Nat.pos_of_ne_zero hc) (Nat.two_pow_pos _)))]
  have h := (Nat.log2_eq_iff hc (k := c.log2)).1 rfl
  refine ⟨?_, ?_⟩
  · rw [Nat.pow_add]; exact Nat.mul_le_mul_right _ h.1
  · have : 2 ^ (c.log2 + k + 1) = 2 ^ (c.log2 + 1) * 2 ^ k := by rw [← Nat.pow_add]; congr 1; omega
    rw [this]; exact Nat.mul_lt_mul_of_pos_right h.2 (Nat.two_pow_pos _)

theorem cut_whole (way : Toward) (neg : Bool) (n : Nat) : way.cut neg n 0 = n := by
  have := cut_exact way neg n 0
  simpa using this

/-- the word of a small integer, however it is scaled -/
def wordOf (neg : Bool) (c : Nat) : Nat :=
  if c = 0 then double.word neg 0 else double.word neg ((c.log2 + 1022) * 2 ^ 52 + c * 2 ^ (52 - c.log2))

theorem log2_le_52 (c : Nat) (h : c < 2 ^ 53) (hc : c ≠ 0) : c.log2 ≤ 52 := by
  have := (Nat.log2_lt hc (k := 53)).2 h
  omega

theorem nearest_small (neg : Bool) (c e : Nat) (hc : c < 2 ^ 53) :
    double.nearest neg (c * 2 ^ e) (-(e : Int)) = wordOf neg c := by
  unfold wordOf Format.nearest
  by_cases h0 : c = 0
  · subst h0; simp
  · have hL := log2_le_52 c hc h0
    have hne : ¬ c * 2 ^ e = 0 := Nat.ne_of_gt (Nat.mul_pos (Nat.pos_of_ne_zero h0) (Nat.two_pow_pos _))
    rw [if_neg hne, if_neg h0]
    simp only [log2_mul_pow c e h0]
    have hfb : (double.fractionBits : Int) = 52 := rfl
    have hlp : double.leastPlace = -1074 := by decide
    have hlast : max (-(e : Int) + ((c.log2 + e : Nat) : Int) - (double.fractionBits : Int)) double.leastPlace = (c.log2 : Int) - 52 := by
      rw [hfb, hlp]; omega
    rw [hlast, hlp]
    have hk : Toward.even.cut neg ((c * 2 ^ e) <<< (-(e : Int) - ((c.log2 : Int) - 52)).toNat) (((c.log2 : Int) - 52) - -(e : Int)).toNat = c * 2 ^ (52 - c.log2) := by
      by_cases hcase : 52 - c.log2 ≤ e
      · have h1 : (-(e : Int) - ((c.log2 : Int) - 52)).toNat = 0 := by omega
        have h2 : (((c.log2 : Int) - 52) - -(e : Int)).toNat = e - (52 - c.log2) := by omega
        rw [h1, h2, shl_eq, Nat.pow_zero, Nat.mul_one]
        have : c * 2 ^ e = (c * 2 ^ (52 - c.log2)) * 2 ^ (e - (52 - c.log2)) := by
          rw [Nat.mul_assoc, ← Nat.pow_add]; congr 2; omega
        rw [this]; exact cut_exact _ _ _ _
      · have h1 : (-(e : Int) - ((c.log2 : Int) - 52)).toNat = (52 - c.log2) - e := by omega
        have h2 : (((c.log2 : Int) - 52) - -(e : Int)).toNat = 0 := by omega
        rw [h1, h2, shl_eq, cut_whole, Nat.mul_assoc, ← Nat.pow_add]; congr 2; omega
    rw [hk]
    have ht : ((c.log2 : Int) - 52 - -1074).toNat = c.log2 + 1022 := by omega
    have hb : double.binade = 2 ^ 52 := rfl
    rw [ht, hb]
    congr 1
    apply Nat.min_eq_left
    have hi : double.infRung = 2047 * 2 ^ 52 := by decide
    rw [hi]
    have h2 := (Nat.log2_eq_iff h0 (k := c.log2)).1 rfl
    have : c * 2 ^ (52 - c.log2) < 2 ^ (c.log2 + 1) * 2 ^ (52 - c.log2) := Nat.mul_lt_mul_of_pos_right h2.2 (Nat.two_pow_pos _)
    rw [← Nat.pow_add, show c.log2 + 1 + (52 - c.log2) = 53 by omega] at this
    omega

theorem read_word (neg : Bool) (c : Nat) (hc : c < 2 ^ 53) :
    double.read (wordOf neg c) = if c = 0 then .number neg 0 (-1074) else .number neg (c * 2 ^ (52 - c.log2)) ((c.log2 : Int) - 52) := by
  unfold wordOf
  have hsw : double.signWeight = 2 ^ 63 := rfl
  have hb : double.binade = 2 ^ 52 := rfl
  have hi : double.infRung = 2047 * 2 ^ 52 := by decide
  have hlp : double.leastPlace = -1074 := by decide
  by_cases h0 : c = 0
  · subst h0
    simp only [if_true]
    cases neg <;> decide +kernel
  · rw [if_neg h0, if_neg h0]
    have hL := log2_le_52 c hc h0
    have h2 := (Nat.log2_eq_iff h0 (k := c.log2)).1 rfl
    have hup : c * 2 ^ (52 - c.log2) < 2 ^ 53 := by
      have : c * 2 ^ (52 - c.log2) < 2 ^ (c.log2 + 1) * 2 ^ (52 - c.log2) := Nat.mul_lt_mul_of_pos_right h2.2 (Nat.two_pow_pos _)
      rwa [← Nat.pow_add, show c.log2 + 1 + (52 - c.log2) = 53 by omega] at this
    have hlo : 2 ^ 52 ≤ c * 2 ^ (52 - c.log2) := by
      have : 2 ^ c.log2 * 2 ^ (52 - c.log2) ≤ c * 2 ^ (52 - c.log2) := Nat.mul_le_mul_right _ h2.1
      rwa [← Nat.pow_add, show c.log2 + (52 - c.log2) = 52 by omega] at this
    generalize c * 2 ^ (52 - c.log2) = M at *
    generalize c.log2 = L at *
    unfold Format.read Format.word
    rw [hsw, hb, hi, hlp]
    have hr : (if neg = true then 2 ^ 63 + ((L + 1022) * 2 ^ 52 + M) else (L + 1022) * 2 ^ 52 + M) % 2 ^ 63 = (L + 1022) * 2 ^ 52 + M := by
      cases neg <;> simp <;> omega
    have hn : ((if neg = true then 2 ^ 63 + ((L + 1022) * 2 ^ 52 + M) else (L + 1022) * 2 ^ 52 + M) / 2 ^ 63 % 2 == 1) = neg := by
      cases neg
      · simp; omega
      · simp; omega
    simp only [hr, hn]
    rw [if_neg (by omega), if_pos (by omega)]
    have hm : ((L + 1022) * 2 ^ 52 + M) % 2 ^ 52 = M - 2 ^ 52 := by omega
    have hd : ((L + 1022) * 2 ^ 52 + M) / 2 ^ 52 = L + 1023 := by omega
    rw [hm, hd]
    have e1 : 2 ^ 52 + (M - 2 ^ 52) = M := by omega
    have e2 : (-1074 : Int) + ((L + 1023 - 1 : Nat) : Int) = (L : Int) - 52 := by omega
    rw [e1, e2]

theorem enc_eq (n : Int) (h : n.natAbs < 2 ^ 53) : enc n = wordOf (decide (n < 0)) n.natAbs := by
  have := nearest_small (decide (n < 0)) n.natAbs 0 h
  simpa [enc, FloatKind.nearest, FloatKind.encode, FloatKind.format, Format.write] using this

theorem stands_word (s : Bool) (n : Int) (h : n.natAbs < 2 ^ 53) (hs : s = decide (n < 0)) : Stands (double.read (wordOf s n.natAbs)) n := by
  rw [read_word _ _ h]
  by_cases h0 : n = 0
  · subst h0
    obtain ⟨e, he⟩ : ∃ e : Nat, e = 1074 := ⟨_, rfl⟩
    refine ⟨s, 0, e, ?_, (Nat.zero_mul _).symm, hs⟩
    rw [he]; rfl
  · have hna : n.natAbs ≠ 0 := by omega
    have hL := log2_le_52 _ h hna
    rw [if_neg hna]
    refine ⟨s, _, 52 - n.natAbs.log2, ?_, rfl, hs⟩
    congr 1; omega

theorem stands_enc (n : Int) (h : n.natAbs < 2 ^ 53) : Stands (double.read (enc n)) n := by
  rw [enc_eq n h]; exact stands_word _ n h rfl

theorem signed_scaled (s : Bool) (n : Int) (e b : Nat) (hs : s = decide (n < 0)) (hb : e ≤ b) :
    signed s (n.natAbs * 2 ^ e) (-(e : Int) - -(b : Int)).toNat = n * 2 ^ b := by
  have h1 : (-(e : Int) - -(b : Int)).toNat = b - e := by omega
  have h2 : (n.natAbs * 2 ^ e) <<< (b - e) = n.natAbs * 2 ^ b := by
    rw [shl_eq, Nat.mul_assoc, ← Nat.pow_add]; congr 2; omega
  unfold signed
  rw [h1, h2, hs]
  by_cases hn : n < 0
  · simp only [hn, decide_true, if_true]
    rw [Int.natCast_mul, Int.ofNat_natAbs_of_nonpos (by omega), Int.neg_mul, Int.neg_neg]
    simp
  · simp only [hn, decide_false]
    rw [if_neg (by simp), Int.natCast_mul, Int.natAbs_of_nonneg (by omega)]
    simp

theorem order_stands {d1 d2 : Datum} {a b : Int} (h1 : Stands d1 a) (h2 : Stands d2 b) : d1.order d2 = some (compare a b) := by
  obtain ⟨s, m, e, rfl, rfl, hs⟩ := h1
  obtain ⟨t, n, f, rfl, rfl, ht⟩ := h2
  unfold Datum.order
  simp only
  have hmin : min (-(e : Int)) (-(f : Int)) = -((max e f : Nat) : Int) := by omega
  rw [hmin, signed_scaled s a e _ hs (by omega), signed_scaled t b f _ ht (by omega)]
  congr 1
  have hp : (0 : Int) < 2 ^ (max e f) := Int.pow_pos (by omega)
  simp only [compare, compareOfLessAndEq]
  have hlt : (a * 2 ^ (max e f) < b * 2 ^ (max e f)) ↔ a < b := ⟨fun h => Int.lt_of_mul_lt_mul_right h (by omega), fun h => Int.mul_lt_mul_of_pos_right h hp⟩
  have heq : (a * 2 ^ (max e f) = b * 2 ^ (max e f)) ↔ a = b := ⟨fun h => Int.eq_of_mul_eq_mul_right (by omega) h, fun h => by rw [h]⟩
  simp only [hlt, heq]

/-- an integer that a float64 holds exactly -/
def Fits (n : Int) : Prop := -9007199254740992 < n ∧ n < 9007199254740992

theorem Fits.abs {n : Int} (h : Fits n) : n.natAbs < 2 ^ 53 := by unfold Fits at h; omega

theorem order_enc {a b : Int} (ha : Fits a) (hb : Fits b) : FloatKind.f64.format.order (enc a) (enc b) = some (compare a b) :=
  order_stands (stands_enc a ha.abs) (stands_enc b hb.abs)

end Fx
