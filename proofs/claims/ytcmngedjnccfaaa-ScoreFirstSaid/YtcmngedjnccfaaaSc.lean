/- Plain laws of the numbers' order and kinds. -/
import Derived.Test.YtcmngedjnccfaaaKd
namespace Go.Proofs.Ytcmngedjnccfaaa
open Go.RowKit Fl

theorem fmt_eq : FloatKind.f64.format = Ieee.double := rfl

theorem isNan_eq (x : Nat) : isNan x = decide (R < x % S) := by
  unfold isNan
  rw [fmt_eq]
  by_cases h : R < x % S
  · rw [order_nan_left _ h, decide_eq_true h]; rfl
  · rw [order_num (by omega) (by omega), decide_eq_false h]
    simp

theorem not_nan {x : Nat} : isNan x = false ↔ x % S ≤ R := by rw [isNan_eq]; simp

theorem is_nan {x : Nat} : isNan x = true ↔ R < x % S := by rw [isNan_eq]; simp

theorem order_key {x y : Nat} (hx : isNan x = false) (hy : isNan y = false) : FloatKind.f64.format.order x y = some (compare (key x) (key y)) := by
  rw [fmt_eq]; exact order_num (not_nan.1 hx) (not_nan.1 hy)

theorem order_nan {x y : Nat} (h : isNan x = true ∨ isNan y = true) : FloatKind.f64.format.order x y = none := by
  rw [fmt_eq]
  rcases h with h | h
  · exact order_nan_left _ (is_nan.1 h)
  · exact order_nan_right _ (is_nan.1 h)

theorem lt_key {x y : Nat} (hx : isNan x = false) (hy : isNan y = false) : (FloatKind.f64.format.order x y == some .lt) = decide (key x < key y) := by
  rw [order_key hx hy]
  rcases Int.lt_trichotomy (key x) (key y) with h | h | h
  · rw [Int.compare_eq_lt.2 h]; simp [h]
  · rw [h]; simp
  · rw [Int.compare_eq_gt.2 h]; simp; omega

theorem gt_key {x y : Nat} (hx : isNan x = false) (hy : isNan y = false) : (FloatKind.f64.format.order x y == some .gt) = decide (key y < key x) := by
  rw [order_key hx hy]
  rcases Int.lt_trichotomy (key x) (key y) with h | h | h
  · rw [Int.compare_eq_lt.2 h]; simp; omega
  · rw [h]; simp
  · rw [Int.compare_eq_gt.2 h]; simp [h]

theorem eq_key {x y : Nat} (hx : isNan x = false) (hy : isNan y = false) : (FloatKind.f64.format.order x y == some .eq) = decide (key x = key y) := by
  rw [order_key hx hy]
  rcases Int.lt_trichotomy (key x) (key y) with h | h | h
  · rw [Int.compare_eq_lt.2 h]; simp; omega
  · rw [h]; simp
  · rw [Int.compare_eq_gt.2 h]; simp; omega

theorem key_le (x : Nat) (hx : isNan x = false) : -(R : Int) ≤ key x ∧ key x ≤ R := by
  have := not_nan.1 hx
  unfold key
  split <;> omega

/-- A number's place in the order of all: what is no number lies below. -/
def rank (x : Nat) : Int := if isNan x = true then -((R : Nat) : Int) - 1 else key x

theorem ord_rank (x y : Nat) : ord x y = if rank x < rank y then -1 else if rank y < rank x then 1 else 0 := by
  unfold ord rank
  by_cases hx : isNan x = true <;> by_cases hy : isNan y = true
  · simp [hx, hy]
  · have := key_le y (by simpa using hy)
    simp only [hx, hy, if_true, if_false, Bool.false_eq_true]
    rw [if_pos (by omega)]
  · have := key_le x (by simpa using hx)
    simp only [hx, hy, if_true, if_false, Bool.false_eq_true]
    rw [if_neg (by omega), if_pos (by omega)]
  · have hx' : isNan x = false := by simpa using hx
    have hy' : isNan y = false := by simpa using hy
    rw [lt_key hx' hy', gt_key hx' hy']
    simp only [hx', hy', Bool.false_eq_true, if_false, decide_eq_true_eq]

theorem S_two : S = 2 ^ 63 := rfl

theorem xor_low (x : Nat) (h : x < 2 ^ 63) : x ^^^ 2 ^ 63 = 2 ^ 63 + x := by
  apply Nat.eq_of_testBit_eq
  intro i
  rw [Nat.testBit_xor, Nat.testBit_two_pow]
  rcases Nat.lt_trichotomy i 63 with hi | hi | hi
  · rw [Nat.testBit_two_pow_add_gt hi, decide_eq_false (by omega)]; simp
  · subst hi; rw [Nat.testBit_two_pow_add_eq]; simp
  · rw [Nat.testBit_lt_two_pow (Nat.lt_of_lt_of_le h (Nat.pow_le_pow_right (by omega) (by omega))), Nat.testBit_lt_two_pow (x := 2 ^ 63 + x) (i := i)]
    · simp; omega
    · calc 2 ^ 63 + x < 2 ^ 64 := by omega
        _ ≤ 2 ^ i := Nat.pow_le_pow_right (by omega) (by omega)

theorem neg_bits (x : Nat) (hx : x < 2 * S) : Op.negFloat .f64 x = if x < S then x + S else x - S := by
  have e : Op.negFloat .f64 x = x ^^^ 2 ^ 63 := rfl
  rw [e]
  have hS : S = 2 ^ 63 := rfl
  rw [hS] at hx ⊢
  split
  · rename_i h
    rw [xor_low x h, Nat.add_comm]
  · rename_i h
    obtain ⟨y, rfl⟩ : ∃ y, x = 2 ^ 63 + y := ⟨x - 2 ^ 63, by omega⟩
    rw [← xor_low y (by omega), Nat.xor_assoc, Nat.xor_self, Nat.xor_zero, xor_low y (by omega)]
    omega

theorem key_neg (x : Nat) (hx : x < 2 * S) : key (Op.negFloat .f64 x) = - key x ∧ isNan (Op.negFloat .f64 x) = isNan x := by
  rw [neg_bits x hx, isNan_eq, isNan_eq]
  unfold key ng
  have hS : 0 < S := by rw [S_eq]; omega
  split
  · rename_i h
    have e1 : (x + S) % S = x := by rw [Nat.add_mod_right, Nat.mod_eq_of_lt h]
    have e2 : (x + S) / S = 1 := by rw [Nat.add_div_right _ hS, Nat.div_eq_of_lt h]
    rw [e1, e2, Nat.mod_eq_of_lt h, Nat.div_eq_of_lt h]
    simp
  · rename_i h
    have e1 : x % S = x - S := by rw [Nat.mod_eq_sub_mod (by omega), Nat.mod_eq_of_lt (by omega)]
    have e2 : x / S = 1 := Nat.div_eq_of_lt_le (by omega) (by omega)
    have e3 : (x - S) % S = x - S := Nat.mod_eq_of_lt (by omega)
    have e4 : (x - S) / S = 0 := Nat.div_eq_of_lt (by omega)
    rw [e1, e2, e3, e4]
    simp

theorem key_zero : key 0 = 0 := by unfold key; simp
theorem nan_zero : isNan 0 = false := by rw [isNan_eq]; simp
theorem key_rung {x : Nat} (h : x < S) : key x = x := by unfold key; rw [ng_small h, Nat.mod_eq_of_lt h]; simp
theorem nan_rung {x : Nat} (h : x ≤ R) : isNan x = false := by
  have := R_lt
  rw [isNan_eq, Nat.mod_eq_of_lt (by omega)]; simp [h]
theorem R_num : R = 9218868437227405312 := rfl

theorem infB_neg (x : Nat) (hx : x < 2 * S) (hn : isNan x = false) : infB x (-1) = decide (key x = -(R : Int)) := by
  have hR := R_lt
  obtain ⟨h1, h2⟩ := key_neg x hx
  unfold infB
  rw [if_pos (by decide), gt_key (h2.trans hn) (nan_rung (by rw [R_num]; omega)), key_rung (by rw [S_eq]; omega), h1]
  have := key_le x hn
  rw [R_num] at this ⊢
  rw [decide_eq_decide]
  omega

theorem infB_pos (x : Nat) (hn : isNan x = false) : infB x 1 = decide (key x = (R : Int)) := by
  unfold infB
  rw [if_neg (by decide), gt_key hn (nan_rung (by rw [R_num]; omega)), key_rung (by rw [S_eq]; omega)]
  have := key_le x hn
  rw [R_num] at this ⊢
  rw [decide_eq_decide]
  omega

theorem quo_zero : floatBits .quo .f64 4607182418800017408 0 = some R := by kernel_rfl
theorem quo_minus : floatBits .quo .f64 4607182418800017408 S = some (S + R) := by kernel_rfl

theorem key_up : key (Op.negFloat .f64 9218868437227405312) = -(R : Int) ∧ isNan (Op.negFloat .f64 9218868437227405312) = false := by
  have h := key_neg 9218868437227405312 (by rw [S_eq]; omega)
  rw [key_rung (show 9218868437227405312 < S by rw [S_eq]; omega), nan_rung (show 9218868437227405312 ≤ R by rw [R_num]; omega)] at h
  exact h

/-- The program's tests of a number's kind, and the reference's, tell the same. -/
theorem kind_same (x q : Nat) (hx : x < 2 * S) (hq : Res .quo 4607182418800017408 x q) : kindS x = kindR x q := by
  unfold kindS kindR
  by_cases hn : isNan x = true
  · rw [if_pos hn, if_pos hn]
  · have hn' : isNan x = false := by simpa using hn
    rw [if_neg hn, if_neg hn, infB_neg x hx hn', infB_pos x hn', eq_key hn' nan_zero, lt_key hn' nan_zero, eq_key hn' key_up.2, key_up.1, eq_key hn' (nan_rung (show 9218868437227405312 ≤ R by rw [R_num]; omega)),
      key_rung (show 9218868437227405312 < S by rw [S_eq]; omega), key_zero]
    have hk := key_le x hn'
    simp only [decide_eq_true_eq]
    have hR : 0 < R := by rw [R_num]; omega
    by_cases h1 : key x = -(R : Int)
    · rw [if_pos h1, if_pos h1]
    · rw [if_neg h1, if_neg h1]
      by_cases h2 : key x = (R : Int)
      · rw [if_pos h2, if_neg (by omega), if_neg (by omega), if_pos (by rw [R_num] at h2; omega)]
      · rw [if_neg h2]
        have h2' : ¬ key x = (9218868437227405312 : Nat) := by rw [R_num] at h2; omega
        by_cases h3 : key x = 0
        · rw [if_pos h3, if_neg (show ¬ key x < 0 by omega), if_pos h3]
          have hz : x % S = 0 := by unfold key at h3; split at h3 <;> omega
          have hS := S_eq
          rcases Nat.lt_or_ge x S with hlt | hge
          · obtain rfl : x = 0 := by rw [Nat.mod_eq_of_lt hlt] at hz; exact hz
            have e : q = R := by
              rcases hq with hq | ⟨hq, _⟩
              · rw [quo_zero] at hq; exact (Option.some.inj hq).symm
              · rw [quo_zero] at hq; cases hq
            subst e
            rw [if_neg (show ¬ 9223372036854775808 ≤ 0 by omega), lt_key (nan_rung (Nat.le_refl _)) nan_zero, key_rung R_lt, key_zero, if_neg]
            simp
          · have hm : x % S = x - S := by rw [Nat.mod_eq_sub_mod hge, Nat.mod_eq_of_lt (by omega)]
            obtain rfl : x = S := by omega
            have e : q = S + R := by
              rcases hq with hq | ⟨hq, _⟩
              · rw [quo_minus] at hq; exact (Option.some.inj hq).symm
              · rw [quo_minus] at hq; cases hq
            subst e
            have k1 : isNan (S + R) = false := by rw [isNan_eq, Nat.add_mod_left, Nat.mod_eq_of_lt R_lt]; simp
            have k2 : key (S + R) = -(R : Int) := by
              have e1 : (S + R) % S = R := by rw [Nat.add_mod_left, Nat.mod_eq_of_lt R_lt]
              have e2 : (S + R) / S = 1 := Nat.div_eq_of_lt_le (by omega) (by have := R_lt; omega)
              unfold key ng; rw [e1, e2]; simp
            rw [if_pos (show 9223372036854775808 ≤ S by omega), lt_key k1 nan_zero, k2, key_zero, if_pos]
            simp; omega
        · rw [if_neg h3, if_neg h3]
          rw [if_neg h2']

/-- Words that are the same, or no numbers both. -/
def Sm (x y : Nat) : Prop := x = y ∨ (isNan x = true ∧ isNan y = true)

theorem res_nan_left (op : BinOp) {x : Nat} (y : Nat) (h : isNan x = true) : floatBits op .f64 x y = none := by
  obtain ⟨f, e⟩ := read_nan (is_nan.1 h)
  unfold floatBits
  cases op <;> simp only [fmt_eq, Ieee.Format.add, Ieee.Format.sub, Ieee.Format.mul, Ieee.Format.div, e] <;> simp [Ieee.Datum.sum, Ieee.Datum.product, Ieee.Datum.quotient]
theorem res_nan_right (op : BinOp) (x : Nat) {y : Nat} (h : isNan y = true) : floatBits op .f64 x y = none := by
  obtain ⟨f, e⟩ := read_nan (is_nan.1 h)
  unfold floatBits
  cases op <;> simp only [fmt_eq, Ieee.Format.add, Ieee.Format.sub, Ieee.Format.mul, Ieee.Format.div, e] <;> cases Ieee.double.read x <;> simp [Ieee.Datum.sum, Ieee.Datum.product, Ieee.Datum.quotient, Ieee.Datum.opposite]

theorem Res.of_none {op : BinOp} {x y r : Nat} (h : Res op x y r) (hn : floatBits op .f64 x y = none) : isNan r = true := by
  rcases h with h | ⟨_, h, _⟩
  · rw [hn] at h; cases h
  · exact is_nan.2 h

theorem Res.same {op : BinOp} {x y r x' y' r' : Nat} (h : Res op x y r) (h' : Res op x' y' r') (hx : Sm x x') (hy : Sm y y') : Sm r r' := by
  have both : floatBits op .f64 x y = none → floatBits op .f64 x' y' = none → Sm r r' := fun a b => .inr ⟨h.of_none a, h'.of_none b⟩
  rcases hx with rfl | ⟨hx, hx'⟩
  · rcases hy with rfl | ⟨hy, hy'⟩
    · rcases h with h | ⟨h, h2, h3⟩
      · rcases h' with h' | ⟨h', _⟩
        · left; rw [h] at h'; exact Option.some.inj h'
        · rw [h] at h'; cases h'
      · exact both h (by
          exact h)
    · exact both (res_nan_right _ _ hy) (res_nan_right _ _ hy')
  · exact both (res_nan_left _ _ hx) (res_nan_left _ _ hx')

theorem Res.lt {op : BinOp} {x y r : Nat} (h : Res op x y r) : r < 18446744073709551616 := by
  rcases h with h | ⟨_, _, h⟩
  · have := floatBits_wf h
    simpa [Lit.wf] using this
  · rw [S_eq] at h; omega

theorem Sm.refl (x : Nat) : Sm x x := .inl rfl
end Go.Proofs.Ytcmngedjnccfaaa
