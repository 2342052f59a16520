/- Plain laws of a mean of one number, and of none. -/
import Derived.Test.YtcmngedjnccfaaaMo
namespace Go.Proofs.Ytcmngedjnccfaaa
open Go.RowKit Fl

theorem word_of (x : Nat) (hx : x < 2 * S) : Ieee.double.word (ng x) (x % S) = x := by
  have hS : 0 < S := by rw [S_eq]; omega
  unfold Ieee.Format.word
  rw [sign_eq]
  unfold ng
  rcases Nat.lt_or_ge x S with h | h
  · rw [Nat.div_eq_of_lt h, Nat.mod_eq_of_lt h]; rfl
  · have e : x / S = 1 := Nat.div_eq_of_lt_le (by omega) (by omega)
    have e2 : x % S = x - S := by rw [Nat.mod_eq_sub_mod h, Nat.mod_eq_of_lt (by omega)]
    rw [e, e2]; simp; omega

theorem read_one : Ieee.double.read 4607182418800017408 = .number false 4503599627370496 (((1022 : Nat) : Int) - 1074) := by kernel_rfl
theorem read_nought : Ieee.double.read 0 = .number false 0 (((0 : Nat) : Int) - 1074) := by kernel_rfl

/-- Nought and a number that is not nought: the number. -/
theorem add_nought {x : Nat} (hx : x < 2 * S) (hn : x % S ≤ R) (h0 : 0 < x % S) : floatBits .add .f64 0 x = some x := by
  show Ieee.double.add 0 x = some x
  unfold Ieee.Format.add
  rw [read_nought]
  rcases Nat.lt_or_eq_of_le hn with hlt | he
  · obtain ⟨m, k, e, hv⟩ := read_num hlt
    rw [e]
    simp only [Ieee.Datum.sum, Option.map_some]
    have hV := V_pos h0
    have q1 : (((k : Nat) : Int) - 1074 - min (((0 : Nat) : Int) - 1074) (((k : Nat) : Int) - 1074)).toNat = k := by omega
    have q2 : min (((0 : Nat) : Int) - 1074) (((k : Nat) : Int) - 1074) = -1074 := by omega
    rw [q1, q2]
    have s0 : ∀ z, Ieee.signed false 0 z = 0 := fun z => by simp [Ieee.signed, Nat.shiftLeft_eq]
    rw [s0, Int.zero_add]
    have s1 : Ieee.signed (ng x) m k = if ng x = true then -((V (x % S) : Nat) : Int) else ((V (x % S) : Nat) : Int) := by
      rw [← hv]; unfold Ieee.signed; rw [Nat.shiftLeft_eq]
    rw [s1]
    obtain ⟨r, hr, hnear⟩ := nearest_near (ng x) (V (x % S)) 0 0 (-1074) (by omega)
    have hrr : r = x % S := by
      simp only [Nat.pow_zero, Nat.mul_one] at hnear
      exact hnear.unique (near_self hn) (by decide)
    rw [hrr, word_of x hx] at hr
    cases hg : ng x
    · rw [hg] at hr
      simp only [Bool.false_eq_true, if_false]
      have hne : ¬ ((V (x % S) : Nat) : Int) = 0 := by omega
      rw [if_neg hne, decide_eq_false (by omega), Int.natAbs_natCast]
      exact congrArg some hr
    · rw [hg] at hr
      simp only [if_true]
      have hne : ¬ -((V (x % S) : Nat) : Int) = 0 := by omega
      rw [if_neg hne, decide_eq_true (by omega), Int.natAbs_neg, Int.natAbs_natCast]
      exact congrArg some hr
  · rw [read_inf he]
    simp only [Ieee.Datum.sum, Option.map_some, Ieee.Format.write, infRung_eq]
    rw [← he, word_of x hx]

/-- A number by one: the number. -/
theorem quo_one {x : Nat} (hx : x < 2 * S) (hn : x % S ≤ R) (h0 : 0 < x % S) : floatBits .quo .f64 x 4607182418800017408 = some x := by
  show Ieee.double.div x 4607182418800017408 = some x
  unfold Ieee.Format.div
  rw [read_one]
  rcases Nat.lt_or_eq_of_le hn with hlt | he
  · obtain ⟨m, k, e, hv⟩ := read_num hlt
    rw [e]
    have hV := V_pos h0
    have hm : m ≠ 0 := by rintro rfl; rw [Nat.zero_mul] at hv; omega
    simp only [Ieee.Datum.quotient, if_neg (show ¬ (4503599627370496 : Nat) = 0 by decide), Option.map_some, fraction_eq, Bool.xor_false]
    obtain ⟨r, hr, hnear⟩ := sticky_near (ng x) m 4503599627370496 k 1022 hm (by decide)
    have hone : 4503599627370496 * 2 ^ 1022 = V one := by rw [one_eq, V_bin, B_eq]
    rw [hv, hone, ← V_one] at hnear
    have hrr : r = x % S := hnear.unique (by
      have := (near_self hn).scale (V one) (V_pos (show 0 < one by decide))
      rwa [Nat.one_mul] at this) (V_pos (show 0 < one by decide))
    rw [hrr, word_of x hx] at hr
    exact congrArg some hr
  · rw [read_inf he]
    simp only [Ieee.Datum.quotient, Option.map_some, Ieee.Format.write, infRung_eq, Bool.xor_false]
    rw [← he, word_of x hx]

theorem count_one : floatBits .add .f64 0 4607182418800017408 = some 4607182418800017408 := by kernel_rfl
theorem quo_none : floatBits .quo .f64 0 0 = none := by kernel_rfl
theorem add_zeros : floatBits .add .f64 0 0 = some 0 := by kernel_rfl
theorem add_minus : floatBits .add .f64 0 S = some 0 := by kernel_rfl
theorem quo_zero_one : floatBits .quo .f64 0 4607182418800017408 = some 0 := by kernel_rfl

theorem mean_none {r : Nat} (h : MeanIs [] r) : isNan r = true := by
  obtain ⟨s, n, ⟨rfl, rfl⟩, hr⟩ := h
  exact hr.of_none quo_none

theorem mean_one_nan {x r : Nat} (hx : isNan x = true) (h : MeanIs [x] r) : isNan r = true := by
  obtain ⟨s, n, hs, hr⟩ := h
  have : SumIs [x] [x].length s n = Fold [] 0 0 s n := by unfold SumIs; simp [hx]
  rw [this] at hs
  obtain ⟨rfl, rfl⟩ := hs
  exact hr.of_none quo_none

theorem mean_one_num {x r : Nat} (hn : isNan x = false) (h : MeanIs [x] r) : ∃ s, Res .add 0 x s ∧ Res .quo s 4607182418800017408 r := by
  obtain ⟨s, n, hs, hr⟩ := h
  have : SumIs [x] [x].length s n = Fold [x] 0 0 s n := by unfold SumIs; simp [hn]
  rw [this] at hs
  obtain ⟨s1, n1, h1, h2, rfl, rfl⟩ := hs
  obtain rfl := h2.eq count_one
  exact ⟨s, h1, hr⟩

/-- The mean of a nought is nought. -/
theorem mean_zero {x r : Nat} (hx : x < 2 * S) (h0 : (FloatKind.f64.format.order x 0 == some .eq) = true) (h : MeanIs [x] r) : r = 0 := by
  have hn : isNan x = false := by
    by_cases hc : isNan x = true
    · rw [order_nan (.inl hc)] at h0; cases h0
    · simpa using hc
  rw [eq_key hn nan_zero, key_zero] at h0
  have hk : key x = 0 := of_decide_eq_true h0
  have hz : x % S = 0 := by unfold key at hk; split at hk <;> omega
  obtain ⟨s, h1, h2⟩ := mean_one_num hn h
  have hs : s = 0 := by
    rcases Nat.lt_or_ge x S with hlt | hge
    · obtain rfl : x = 0 := by rw [Nat.mod_eq_of_lt hlt] at hz; exact hz
      exact h1.eq add_zeros
    · have hm : x % S = x - S := by rw [Nat.mod_eq_sub_mod hge, Nat.mod_eq_of_lt (by omega)]
      obtain rfl : x = S := by omega
      exact h1.eq add_minus
  subst hs
  exact h2.eq quo_zero_one

/-- The mean of another word is the word, or both are no numbers. -/
theorem mean_one {x r : Nat} (hx : x < 2 * S) (h0 : (FloatKind.f64.format.order x 0 == some .eq) = false) (h : MeanIs [x] r) : Sm r x := by
  by_cases hn : isNan x = true
  · exact .inr ⟨mean_one_nan hn h, hn⟩
  · have hn' : isNan x = false := by simpa using hn
    rw [eq_key hn' nan_zero, key_zero] at h0
    have hk : ¬ key x = 0 := of_decide_eq_false h0
    have hz : 0 < x % S := by unfold key at hk; split at hk <;> omega
    obtain ⟨s, h1, h2⟩ := mean_one_num hn' h
    obtain rfl := h1.eq (add_nought hx (not_nan.1 hn') hz)
    exact .inl (h2.eq (quo_one hx (not_nan.1 hn') hz))
end Go.Proofs.Ytcmngedjnccfaaa
