/- Joined texts: Sca. -/
import Ieee.Arith
/- Pruned. -/
namespace Go.Proofs.YtfabgbmbnmbjkaaGreatDoor.Fl
open Ieee
def B : Nat := 2 ^ 52
def R : Nat := 2047 * B
theorem B_eq : B = 4503599627370496 := rfl
def V (r : Nat) : Nat := if r < B then r else (B + r % B) * 2 ^ (r / B - 1)
theorem B_pos : 0 < B := by rw [B_eq]; omega
theorem V_low {r : Nat} (h : r <= 2 * B) : V r = r := by
 unfold V
 have hB := B_pos
 by_cases h1 : r < B
 · rw [if_pos h1]
 · rw [if_neg h1]
   by_cases h2 : r < 2 * B
   · have e1 : r / B = 1 := Nat.div_eq_of_lt_le (by omega) (by omega)
     have e2 : r % B = r - B := by rw [Nat.mod_eq_sub_mod (by omega), Nat.mod_eq_of_lt (by omega)]
     rw [e1, e2]; simp; omega
   · have e : r = 2 * B := by omega
     subst e
     rw [Nat.mul_div_cancel _ hB, Nat.mul_mod_left]
     simp [Nat.mul_comm]
theorem V_at {l c : Nat} (h1 : l = 0 ∨ B <= c) (h2 : c <= 2 * B) : V (l * B + c) = c * 2 ^ l := by
 have hB := B_pos
 rcases h1 with rfl | h1
 · rw [Nat.zero_mul, Nat.zero_add, V_low h2, Nat.pow_zero, Nat.mul_one]
 · unfold V
   rw [if_neg (by have := Nat.le_mul_of_pos_left B (Nat.zero_lt_of_lt (Nat.lt_succ_self l)); omega)]
   by_cases h3 : c = 2 * B
   · subst h3
     have e1 : (l * B + 2 * B) / B = l + 2 := by rw [<- Nat.add_mul, Nat.mul_div_cancel _ hB]
     have e2 : (l * B + 2 * B) % B = 0 := by rw [<- Nat.add_mul, Nat.mul_mod_left]
     rw [e1, e2, show l + 2 - 1 = l + 1 by omega, Nat.pow_succ]
     simp only [Nat.add_zero]
     rw [Nat.mul_comm (2 ^ l) 2, <- Nat.mul_assoc, Nat.mul_comm B 2]
   · have e1 : (l * B + c) / B = l + 1 := by
      rw [show l * B + c = (c - B) + (l + 1) * B by rw [Nat.add_mul]; omega, Nat.add_mul_div_right _ _ hB, Nat.div_eq_of_lt (by omega)]
      omega
     have e2 : (l * B + c) % B = c - B := by
      rw [show l * B + c = (c - B) + (l + 1) * B by rw [Nat.add_mul]; omega, Nat.add_mul_mod_self_right, Nat.mod_eq_of_lt (by omega)]
     rw [e1, e2, show B + (c - B) = c by omega]
     simp
theorem rung_form (r : Nat) : ∃ l c, r = l * B + c ∧ (l = 0 ∨ B <= c) ∧ c < 2 * B := by
 have hB := B_pos
 by_cases h : r < B
 · exact ⟨0, r, by omega, .inl rfl, by omega⟩
 · refine ⟨r / B - 1, B + r % B, ?_, .inr (by omega), by have := Nat.mod_lt r hB; omega⟩
   have h1 : 1 <= r / B := (Nat.le_div_iff_mul_le hB).2 (by omega)
   have h2 := Nat.div_add_mod r B
   obtain ⟨q, hq⟩ : ∃ q, r / B = q + 1 := ⟨r / B - 1, by omega⟩
   rw [hq] at h2 ⊢
   rw [Nat.add_sub_cancel]
   rw [Nat.mul_add, Nat.mul_comm B q] at h2
   omega
theorem V_succ (r : Nat) : V r < V (r + 1) := by
 obtain ⟨l, c, rfl, h1, h2⟩ := rung_form r
 rw [V_at h1 (by omega), Nat.add_assoc, V_at (h1.imp id (by omega)) (by omega)]
 exact Nat.mul_lt_mul_of_pos_right (Nat.lt_succ_self c) (Nat.two_pow_pos l)
theorem V_mono {r s : Nat} (h : r < s) : V r < V s := by
 induction s with
 | zero => omega
 | succ s ih =>
   rcases Nat.lt_succ_iff_lt_or_eq.1 h with h | rfl
   · exact Nat.lt_trans (ih h) (V_succ s)
   · exact V_succ r
theorem V_le {r s : Nat} (h : r <= s) : V r <= V s := by
 rcases Nat.lt_or_eq_of_le h with h | rfl
 · exact Nat.le_of_lt (V_mono h)
 · exact Nat.le_refl _
theorem V_lt_iff {r s : Nat} : V r < V s ↔ r < s := by
 refine ⟨fun h => ?_, V_mono⟩
 rcases Nat.lt_or_ge r s with h' | h'
 · exact h'
 · have := V_le h'; omega
theorem V_zero : V 0 = 0 := V_low (Nat.zero_le _)
def T (r : Nat) : Nat := V r + V (r + 1)
def S : Nat := 2 ^ 63
theorem S_eq : S = 9223372036854775808 := rfl
def ng (x : Nat) : Bool := x / S % 2 == 1
theorem read_eq (x : Nat) : double.read x = if x % S < B then Datum.number (ng x) (x % S) (-1074) else if x % S < R then Datum.number (ng x) (B + x % S % B) (-1074 + ((x % S / B - 1 : Nat) : Int)) else if x % S = R then Datum.infinity (ng x) else Datum.nan (ng x) (x % S - R) := rfl
theorem read_num {x : Nat} (h : x % S < R) : ∃ m k : Nat, double.read x = .number (ng x) m ((k : Int) - 1074) ∧ m * 2 ^ k = V (x % S) := by
 have hB := B_pos
 rw [read_eq]
 by_cases h1 : x % S < B
 · rw [if_pos h1]
   exact ⟨x % S, 0, rfl, by rw [V_low (by omega)]; simp⟩
 · rw [if_neg h1, if_pos h]
   refine ⟨B + x % S % B, x % S / B - 1, ?_, ?_⟩
   · rw [Int.add_comm]; rfl
   · unfold V; rw [if_neg h1]
theorem read_inf {x : Nat} (h : x % S = R) : double.read x = .infinity (ng x) := by
 have hB := B_pos
 rw [read_eq]
 have h1 : ¬ x % S < B := by rw [h]; unfold R; omega
 rw [if_neg h1, if_neg (by omega), if_pos h]
theorem read_nan {x : Nat} (h : R < x % S) : ∃ f, double.read x = .nan (ng x) f := by
 have hB := B_pos
 rw [read_eq]
 have h1 : ¬ x % S < B := by unfold R at h; omega
 rw [if_neg h1, if_neg (by omega), if_neg (by omega)]; exact ⟨_, rfl⟩
def key (x : Nat) : Int := if ng x then -((x % S : Nat) : Int) else ((x % S : Nat) : Int)
theorem compare_scale (a b : Int) (c : Nat) (hc : 0 < c) : compare (a * c) (b * c) = compare a b := by
 have hc' : (0 : Int) < c := by omega
 rcases Int.lt_trichotomy a b with h | h | h
 · have := Int.mul_lt_mul_of_pos_right h hc'
   rw [Int.compare_eq_lt.2 h, Int.compare_eq_lt.2 this]
 · subst h; simp
 · have := Int.mul_lt_mul_of_pos_right h hc'
   rw [Int.compare_eq_gt.2 h, Int.compare_eq_gt.2 this]
theorem signed_scale (s : Bool) (m up k : Nat) : signed s m up * ((2 ^ k : Nat) : Int) = if s then -((m * 2 ^ (up + k) : Nat) : Int) else ((m * 2 ^ (up + k) : Nat) : Int) := by
 unfold signed
 rw [Nat.shiftLeft_eq, Nat.pow_add, <- Nat.mul_assoc]
 cases s <;> simp [Int.neg_mul]
theorem compare_V (s t : Bool) (a b : Nat) : compare (if s then -((V a : Nat) : Int) else (V a : Nat)) (if t then -((V b : Nat) : Int) else (V b : Nat)) = compare (if s then -((a : Nat) : Int) else (a : Nat)) (if t then -((b : Nat) : Int) else (b : Nat)) := by
 have h0 : V 0 = 0 := V_zero
 have h1 := @V_lt_iff a b
 have h2 := @V_lt_iff b a
 have h3 := @V_lt_iff 0 a
 have h4 := @V_lt_iff 0 b
 rw [h0] at h3 h4
 have e : ∀ x y x' y' : Int, (x < y ↔ x' < y') -> (y < x ↔ y' < x') -> compare x y = compare x' y' := by
  intro x y x' y' p q
  rcases Int.lt_trichotomy x' y' with h | h | h
  · rw [Int.compare_eq_lt.2 h, Int.compare_eq_lt.2 (p.2 h)]
  · have : x = y := by omega
    rw [this, h]; simp
  · rw [Int.compare_eq_gt.2 h, Int.compare_eq_gt.2 (q.2 h)]
 cases s <;> cases t <;> refine e _ _ _ _ ?_ ?_ <;> simp only [Bool.false_eq_true, if_true, if_false] <;> omega
theorem order_num {x y : Nat} (hx : x % S <= R) (hy : y % S <= R) : double.order x y = some (compare (key x) (key y)) := by
 unfold Format.order key
 have hRp : 0 < R := by unfold R; have := B_pos; omega
 rcases Nat.lt_or_eq_of_le hx with hx | hx <;> rcases Nat.lt_or_eq_of_le hy with hy | hy
 · obtain ⟨m, k, e1, v1⟩ := read_num hx
   obtain ⟨n, j, e2, v2⟩ := read_num hy
   rw [e1, e2]
   simp only [Datum.order]
   have hmin : ((min ((k : Int) - 1074) ((j : Int) - 1074)) + 1074).toNat = min k j := by omega
   rw [<- compare_scale _ _ (2 ^ (min k j)) (Nat.two_pow_pos _), signed_scale, signed_scale]
   rw [show (((k : Int) - 1074) - min ((k : Int) - 1074) ((j : Int) - 1074)).toNat + min k j = k by omega]
   rw [show (((j : Int) - 1074) - min ((k : Int) - 1074) ((j : Int) - 1074)).toNat + min k j = j by omega]
   rw [v1, v2, compare_V]
 · obtain ⟨m, k, e1, v1⟩ := read_num hx
   rw [e1, read_inf hy]
   simp only [Datum.order, hy]
   cases ng x <;> cases ng y <;> simp <;> first | (symm; rw [Int.compare_eq_lt]; omega) | (symm; rw [Int.compare_eq_gt]; omega)
 · obtain ⟨n, j, e2, v2⟩ := read_num hy
   rw [e2, read_inf hx]
   simp only [Datum.order, hx]
   cases ng x <;> cases ng y <;> simp <;> first | (symm; rw [Int.compare_eq_lt]; omega) | (symm; rw [Int.compare_eq_gt]; omega)
 · rw [read_inf hx, read_inf hy]
   simp only [Datum.order, hx, hy]
   cases ng x <;> cases ng y <;> simp <;> first | rfl | (symm; rw [Int.compare_eq_lt]; omega) | (symm; rw [Int.compare_eq_gt]; omega)
theorem order_nan_left {x : Nat} (y : Nat) (h : R < x % S) : double.order x y = none := by
 obtain ⟨f, e⟩ := read_nan h
 unfold Format.order
 rw [e]; cases double.read y <;> rfl
theorem order_nan_right (x : Nat) {y : Nat} (h : R < y % S) : double.order x y = none := by
 obtain ⟨f, e⟩ := read_nan h
 unfold Format.order
 rw [e]; cases double.read x <;> rfl
end Go.Proofs.YtfabgbmbnmbjkaaGreatDoor.Fl

