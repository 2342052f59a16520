/- Joined texts: Sca. -/
import Ieee.Arith
/- Pruned. -/
namespace Go.Proofs.YtfabgbmbnmbjkaaGreatDoor.Fl
open Ieee
def B : Nat := 2 ^ 52
def R : Nat := 2047 * B
theorem B_eq : B = 4503599627370496 := rfl
def V (r : Nat) : Nat := if r < B then r else (B + r % B) * 2 ^ (r / B - 1)
theorem B_pos : 0 < B := by rw [B_eq]; omega
theorem V_low {r : Nat} (h : r <= 2 * B) : V r = r := by
 unfold V
 have hB := B_pos
 by_cases h1 : r < B
 · rw [if_pos h1]
 · rw [if_neg h1]
   by_cases h2 : r < 2 * B
   · have e1 : r / B = 1 := Nat.div_eq_of_lt_le (by omega) (by omega)
     have e2 : r % B = r - B := by rw [Nat.mod_eq_sub_mod (by omega), Nat.mod_eq_of_lt (by omega)]
     rw [e1, e2]; simp; omega
   · have e : r = 2 * B := by omega
     subst e
     rw [Nat.mul_div_cancel _ hB, Nat.mul_mod_left]
     simp [Nat.mul_comm]
theorem V_at {l c : Nat} (h1 : l = 0 ∨ B <= c) (h2 : c <= 2 * B) : V (l * B + c) = c * 2 ^ l := by
 have hB := B_pos
 rcases h1 with rfl | h1
 · rw [Nat.zero_mul, Nat.zero_add, V_low h2, Nat.pow_zero, Nat.mul_one]
 · unfold V
   rw [if_neg (by have := Nat.le_mul_of_pos_left B (Nat.zero_lt_of_lt (Nat.lt_succ_self l)); omega)]
   by_cases h3 : c = 2 * B
   · subst h3
     have e1 : (l * B + 2 * B) / B = l + 2 := by rw [<- Nat.add_mul, Nat.mul_div_cancel _ hB]
     have e2 : (l * B + 2 * B) % B = 0 := by rw [<- Nat.add_mul, Nat.mul_mod_left]
     rw [e1, e2, show l + 2 - 1 = l + 1 by omega, Nat.pow_succ]
     simp only [Nat.add_zero]
     rw [Nat.mul_comm (2 ^ l) 2, <- Nat.mul_assoc, Nat.mul_comm B 2]
   · have e1 : (l * B + c) / B = l + 1 := by
      rw [show l * B + c = (c - B) + (l + 1) * B by rw [Nat.add_mul]; omega, Nat.add_mul_div_right _ _ hB, Nat.div_eq_of_lt (by omega)]
      omega
     have e2 : (l * B + c) % B = c - B := by
      rw [show l * B + c = (c - B) + (l + 1) * B by rw [Nat.add_mul]; omega, Nat.add_mul_mod_self_right, Nat.mod_eq_of_lt (by omega)]
     rw [e1, e2, show B + (c - B) = c by omega]
     simp
theorem rung_form (r : Nat) : ∃ l c, r = l * B + c ∧ (l = 0 ∨ B <= c) ∧ c < 2 * B := by
 have hB := B_pos
 by_cases h : r < B
 · exact ⟨0, r, by omega, .inl rfl, by omega⟩
 · refine ⟨r / B - 1, B + r % B, ?_, .inr (by omega), by have := Nat.mod_lt r hB; omega⟩
   have h1 : 1 <= r / B := (Nat.le_div_iff_mul_le hB).2 (by omega)
   have h2 := Nat.div_add_mod r B
   obtain ⟨q, hq⟩ : ∃ q, r / B = q + 1 := ⟨r / B - 1, by omega⟩
   rw [hq] at h2 ⊢
   rw [Nat.add_sub_cancel]
   rw [Nat.mul_add, Nat.mul_comm B q] at h2
   omega
theorem V_succ (r : Nat) : V r < V (r + 1) := by
 obtain ⟨l, c, rfl, h1, h2⟩ := rung_form r
 rw [V_at h1 (by omega), Nat.add_assoc, V_at (h1.imp id (by omega)) (by omega)]
 exact Nat.mul_lt_mul_of_pos_right (Nat.lt_succ_self c) (Nat.two_pow_pos l)
theorem V_mono {r s : Nat} (h : r < s) : V r < V s := by
 induction s with
 | zero => omega
 | succ s ih =>
   rcases Nat.lt_succ_iff_lt_or_eq.1 h with h | rfl
   · exact Nat.lt_trans (ih h) (V_succ s)
   · exact V_succ r
theorem V_le {r s : Nat} (h : r <= s) : V r <= V s := by
 rcases Nat.lt_or_eq_of_le h with h | rfl
 · exact Nat.le_of_lt (V_mono h)
 · exact Nat.le_refl _
theorem V_lt_iff {r s : Nat} : V r < V s ↔ r < s := by
 refine ⟨fun h => ?_, V_mono⟩
 rcases Nat.lt_or_ge r s with h' | h'
 · exact h'
 · have := V_le h'; omega
theorem V_zero : V 0 = 0 := V_low (Nat.zero_le _)
def T (r : Nat) : Nat := V r + V (r + 1)
theorem T_mono {r s : Nat} (h : r < s) : T r < T s := by
 have h1 := V_mono h
 have h2 := V_mono (show r + 1 < s + 1 by omega)
 unfold T; omega
theorem T_le {r s : Nat} (h : r <= s) : T r <= T s := by
 rcases Nat.lt_or_eq_of_le h with h | rfl
 · exact Nat.le_of_lt (T_mono h)
 · exact Nat.le_refl _
structure Near (a b r : Nat) : Prop where
  fits : r <= R
  up : r < R -> 2 * a < b * T r ∨ (2 * a = b * T r ∧ r % 2 = 0)
  down : ∀ s, r = s + 1 -> b * T s < 2 * a ∨ (b * T s = 2 * a ∧ r % 2 = 0)
theorem Near.mono {a1 b1 r1 a2 b2 r2 : Nat} (h1 : Near a1 b1 r1) (h2 : Near a2 b2 r2) (hb1 : 0 < b1) (hb2 : 0 < b2) (h : a1 * b2 <= a2 * b1) : r1 <= r2 := by
 rcases Nat.lt_or_ge r2 r1 with hlt | hge
 · exfalso
   obtain ⟨s, hs⟩ : ∃ s, r1 = s + 1 := ⟨r1 - 1, by omega⟩
   have hf := h1.fits
   have hd := h1.down s hs
   have hu := h2.up (by omega)
   have hT : T r2 <= T s := T_le (by omega)
   -- b1 * T s <= 2 a1, 2 a2 <= b2 * T r2
   have k1 : b1 * T s * b2 <= 2 * a1 * b2 := Nat.mul_le_mul_right _ (by rcases hd with hd | ⟨hd, _⟩ <;> omega)
   have k2 : 2 * a2 * b1 <= b2 * T r2 * b1 := Nat.mul_le_mul_right _ (by rcases hu with hu | ⟨hu, _⟩ <;> omega)
   have k3 : b2 * T r2 * b1 <= b1 * T s * b2 := by
    have := Nat.mul_le_mul_left (b1 * b2) hT
    calc b2 * T r2 * b1 = b1 * b2 * T r2 := by rw [Nat.mul_comm b2, Nat.mul_assoc, Nat.mul_comm b2 b1, Nat.mul_comm]
      _ <= b1 * b2 * T s := this
      _ = b1 * T s * b2 := by rw [Nat.mul_assoc, Nat.mul_comm b2, <- Nat.mul_assoc]
   have k4 : 2 * a1 * b2 <= 2 * a2 * b1 := by rw [Nat.mul_assoc, Nat.mul_assoc]; omega
   -- all equal
   have e1 : b1 * T s * b2 = 2 * a1 * b2 := by omega
   have e2 : 2 * a2 * b1 = b2 * T r2 * b1 := by omega
   have e3 : b2 * T r2 * b1 = b1 * T s * b2 := by omega
   have f1 : b1 * T s = 2 * a1 := Nat.eq_of_mul_eq_mul_right hb2 e1
   have f2 : 2 * a2 = b2 * T r2 := Nat.eq_of_mul_eq_mul_right hb1 e2
   have f3 : T r2 = T s := by
    have : b1 * b2 * T r2 = b1 * b2 * T s := by
     calc b1 * b2 * T r2 = b2 * T r2 * b1 := by rw [Nat.mul_comm b2, Nat.mul_assoc (T r2), Nat.mul_comm b2 b1, Nat.mul_comm]
       _ = b1 * T s * b2 := e3
       _ = b1 * b2 * T s := by rw [Nat.mul_assoc, Nat.mul_comm (T s), <- Nat.mul_assoc]
    exact Nat.eq_of_mul_eq_mul_left (Nat.mul_pos hb1 hb2) this
   have f4 : r2 = s := by
    rcases Nat.lt_trichotomy r2 s with q | q | q
    · have := T_mono q; omega
    · exact q
    · have := T_mono q; omega
   rcases hd with hd | ⟨_, hd⟩
   · omega
   · rcases hu with hu | ⟨_, hu⟩ <;> omega
 · exact hge
theorem near_self {r : Nat} (h : r <= R) : Near (V r) 1 r := by
 refine ⟨h, fun _ => .inl ?_, fun s hs => .inl ?_⟩
 · have := V_succ r; unfold T; omega
 · subst hs; have := V_succ s; unfold T; omega
theorem Near.scale {a b r : Nat} (k : Nat) (hk : 0 < k) (h : Near a b r) : Near (a * k) (b * k) r := by
 have e : ∀ t, b * k * t = b * t * k := fun t => by rw [Nat.mul_assoc, Nat.mul_comm k, <- Nat.mul_assoc]
 refine ⟨h.fits, fun hr => ?_, fun s hs => ?_⟩
 · rw [e, <- Nat.mul_assoc]
   rcases h.up hr with h | ⟨h, p⟩
   · exact .inl (Nat.mul_lt_mul_of_pos_right h hk)
   · exact .inr ⟨by rw [h], p⟩
 · rw [e, <- Nat.mul_assoc]
   rcases h.down s hs with h | ⟨h, p⟩
   · exact .inl (Nat.mul_lt_mul_of_pos_right h hk)
   · exact .inr ⟨by rw [h], p⟩
theorem cut_spec (neg : Bool) (n drop : Nat) :
    (2 * n < (2 * Toward.even.cut neg n drop + 1) * 2 ^ drop ∨ (2 * n = (2 * Toward.even.cut neg n drop + 1) * 2 ^ drop ∧ Toward.even.cut neg n drop % 2 = 0)) ∧
    (∀ c, Toward.even.cut neg n drop = c + 1 -> (2 * c + 1) * 2 ^ drop < 2 * n ∨ ((2 * c + 1) * 2 ^ drop = 2 * n ∧ Toward.even.cut neg n drop % 2 = 0)) := by
 by_cases hd : drop <= n.log2 + 2
 · have e : Toward.even.cut neg n drop = n / 2 ^ drop + ((decide (2 ^ drop < 2 * (n % 2 ^ drop))) || (2 ^ drop == 2 * (n % 2 ^ drop) && (n / 2 ^ drop) % 2 == 1)).toNat := by
    unfold Toward.cut
    simp only [Nat.min_eq_left hd, Nat.shiftLeft_eq, Nat.one_mul]
   rw [e]
   have hp : 0 < 2 ^ drop := Nat.two_pow_pos _
   have hdm := Nat.div_add_mod n (2 ^ drop)
   have hm := Nat.mod_lt n hp
   generalize n / 2 ^ drop = q at *
   generalize n % 2 ^ drop = f at *
   generalize 2 ^ drop = g at *
   have hx : ∀ k : Nat, (2 * k + 1) * g = 2 * (g * k) + g := fun k => by rw [Nat.add_mul, Nat.one_mul, Nat.mul_assoc, Nat.mul_comm k g]
   have hy : g * (q + 1) = g * q + g := by rw [Nat.mul_add, Nat.mul_one]
   rcases Nat.lt_trichotomy g (2 * f) with h | h | h
   · have eb : ((decide (g < 2 * f)) || (g == 2 * f && q % 2 == 1)).toNat = 1 := by simp [h]
     rw [eb]
     refine ⟨.inl ?_, fun c hc => .inl ?_⟩
     · rw [hx, hy]; omega
     · obtain rfl : c = q := by omega
       rw [hx]; omega
   · by_cases hq : q % 2 = 1
     · have eb : ((decide (g < 2 * f)) || (g == 2 * f && q % 2 == 1)).toNat = 1 := by simp [h, hq]
       rw [eb]
       refine ⟨.inl ?_, fun c hc => .inr ?_⟩
       · rw [hx, hy]; omega
       · obtain rfl : c = q := by omega
         rw [hx]; omega
     · have eb : ((decide (g < 2 * f)) || (g == 2 * f && q % 2 == 1)).toNat = 0 := by simp [hq]; omega
       rw [eb]
       refine ⟨.inr ?_, fun c hc => .inl ?_⟩
       · simp only [Nat.add_zero, hx]; omega
       · obtain rfl : q = c + 1 := by omega
         rw [hx]; rw [Nat.mul_add, Nat.mul_one] at hdm; omega
   · have eb : ((decide (g < 2 * f)) || (g == 2 * f && q % 2 == 1)).toNat = 0 := by
      have : (g == 2 * f) = false := by simp; omega
      simp [this]; omega
     rw [eb]
     refine ⟨.inl ?_, fun c hc => .inl ?_⟩
     · simp only [Nat.add_zero, hx]; omega
     · obtain rfl : q = c + 1 := by omega
       rw [hx]; rw [Nat.mul_add, Nat.mul_one] at hdm; omega
 · -- everything is dropped
   have hn : n < 2 ^ (n.log2 + 1) := Nat.lt_log2_self
   have h2 : 2 ^ (n.log2 + 2) = 2 * 2 ^ (n.log2 + 1) := by rw [Nat.pow_succ 2 (n.log2 + 1)]; omega
   have hle : 2 ^ (n.log2 + 2) <= 2 ^ drop := Nat.pow_le_pow_right (by omega) (by omega)
   have e : Toward.even.cut neg n drop = 0 := by
    unfold Toward.cut
    simp only [Nat.min_eq_right (show n.log2 + 2 <= drop by omega), Nat.shiftLeft_eq, Nat.one_mul]
    generalize hg : 2 ^ (n.log2 + 2) = g at *
    have e1 : n / g = 0 := Nat.div_eq_of_lt (by omega)
    have e2 : n % g = n := Nat.mod_eq_of_lt (by omega)
    rw [e1, e2]
    have h3 : (g == 2 * n) = false := by simp; omega
    have h4 : decide (g < 2 * n) = false := by simp; omega
    simp [h3, h4]
   rw [e]
   refine ⟨.inl ?_, fun c hc => by omega⟩
   omega
theorem near_of_cut {a b l c : Nat} (hl : l = 0 ∨ B <= c) (hc : c <= 2 * B) (hbig : l = 0 ∨ B * 2 ^ l * b <= a)
    (hup : 2 * a < (2 * c + 1) * 2 ^ l * b ∨ (2 * a = (2 * c + 1) * 2 ^ l * b ∧ c % 2 = 0))
    (hdown : ∀ d, c = d + 1 -> (2 * d + 1) * 2 ^ l * b < 2 * a ∨ ((2 * d + 1) * 2 ^ l * b = 2 * a ∧ c % 2 = 0)) (hb : 0 < b) : Near a b (min (l * B + c) R) := by
 have hBe : B % 2 = 0 := by rw [B_eq]
 have hBp := B_pos
 have hRe : R % 2 = 0 := by unfold R; rw [B_eq]
 have hp : 0 < 2 ^ l := Nat.two_pow_pos _
 have hlB : (l * B + c) % 2 = c % 2 := by
  have : (l * B) % 2 = 0 := by rw [Nat.mul_mod, hBe]; simp
  omega
 -- above
 have upT : ∀ r, r = l * B + c -> (2 * a < b * T r ∨ (2 * a = b * T r ∧ r % 2 = 0)) := by
  intro r hr
  subst hr
  have hV := V_at hl hc
  have hT : (2 * c + 1) * 2 ^ l <= T (l * B + c) := by
   unfold T
   rw [hV]
   by_cases h : c < 2 * B
   · rw [Nat.add_assoc, V_at (hl.imp id (by omega)) (by omega)]
     rw [<- Nat.add_mul]; exact Nat.mul_le_mul_right _ (by omega)
   · have : V (l * B + c) < V (l * B + c + 1) := V_succ _
     have e : c = 2 * B := by omega
     have e2 : l * B + c + 1 = (l + 1) * B + (B + 1) := by rw [Nat.add_mul]; omega
     rw [e2, V_at (.inr (by omega)) (by omega), Nat.pow_succ, <- Nat.mul_assoc, Nat.mul_right_comm, <- Nat.add_mul]
     exact Nat.mul_le_mul_right _ (by omega)
  have k := Nat.mul_le_mul_left b hT
  rw [Nat.mul_comm b ((2 * c + 1) * 2 ^ l)] at k
  rw [hlB]
  rcases hup with h | ⟨h, p⟩
  · exact .inl (by omega)
  · rcases Nat.lt_or_eq_of_le k with k | k
    · exact .inl (by omega)
    · exact .inr ⟨by omega, p⟩
 have downT : ∀ r s, r = l * B + c -> r = s + 1 -> (b * T s < 2 * a ∨ (b * T s = 2 * a ∧ r % 2 = 0)) := by
  intro r s hr hs
  subst hr
  have hV := V_at hl hc
  rw [hlB]
  by_cases hc0 : c = 0
  · subst hc0
    rcases hl with rfl | hl
    · omega
    · omega
  obtain ⟨d, rfl⟩ : ∃ d, c = d + 1 := ⟨c - 1, by omega⟩
  obtain rfl : s = l * B + d := by omega
  by_cases hh : l = 0 ∨ B <= d
  · have hT : T (l * B + d) = (2 * d + 1) * 2 ^ l := by
     unfold T
     rw [Nat.add_assoc, hV, V_at hh (by omega), <- Nat.add_mul]
     congr 1; omega
    rw [hT, Nat.mul_comm b]
    exact hdown d rfl
  · -- the least significand of a binade: the rung below lies in the binade below
    have hl0 : l ≠ 0 := fun e => hh (.inl e)
    have hd : d + 1 = B := by omega
    obtain ⟨m, rfl⟩ : ∃ m, l = m + 1 := ⟨l - 1, by omega⟩
    have e2 : (m + 1) * B + d = m * B + (2 * B - 1) := by rw [Nat.add_mul]; omega
    have hT : T ((m + 1) * B + d) = (4 * B - 1) * 2 ^ m := by
     unfold T
     rw [Nat.add_assoc, hV, e2, V_at (.inr (by omega)) (by omega), Nat.pow_succ, Nat.mul_comm (2 ^ m) 2, <- Nat.mul_assoc, <- Nat.add_mul]
     congr 1; omega
    left
    rw [hT]
    have hbig' := hbig.resolve_left hl0
    rw [Nat.pow_succ, Nat.mul_comm (2 ^ m) 2, <- Nat.mul_assoc, Nat.mul_comm (B * 2 * 2 ^ m)] at hbig'
    have k : b * ((4 * B - 1) * 2 ^ m) < b * (4 * B * 2 ^ m) := Nat.mul_lt_mul_of_pos_left (Nat.mul_lt_mul_of_pos_right (by omega) (Nat.two_pow_pos m)) hb
    have k2 : b * (4 * B * 2 ^ m) = 2 * (b * (B * 2 * 2 ^ m)) := by
     rw [show 4 * B * 2 ^ m = 2 * (B * 2 * 2 ^ m) by rw [<- Nat.mul_assoc, <- Nat.mul_assoc, Nat.mul_comm 2 B, Nat.mul_assoc B 2 2, Nat.mul_comm B (2 * 2)], Nat.mul_left_comm]
    omega
 by_cases hr : l * B + c <= R
 · rw [Nat.min_eq_left hr]
   exact ⟨hr, fun _ => upT _ rfl, fun s hs => downT _ s rfl hs⟩
 · rw [Nat.min_eq_right (by omega)]
   refine ⟨Nat.le_refl _, fun h => absurd h (Nat.lt_irrefl _), fun s hs => .inl ?_⟩
   obtain ⟨t, ht⟩ : ∃ t, l * B + c = t + 1 := ⟨l * B + c - 1, by omega⟩
   have k := downT _ t rfl ht
   have k2 : T s < T t := T_mono (by omega)
   have k3 := Nat.mul_lt_mul_of_pos_left k2 hb
   rcases k with k | ⟨k, _⟩ <;> omega
theorem leastPlace_eq : double.leastPlace = -1074 := rfl
theorem infRung_eq : double.infRung = R := rfl
theorem binade_eq : double.binade = B := rfl
theorem fraction_eq : double.fractionBits = 52 := rfl
def S : Nat := 2 ^ 63
theorem S_eq : S = 9223372036854775808 := rfl
theorem R_lt : R < S := by unfold R; rw [B_eq, S_eq]; omega
theorem nearest_of {neg : Bool} {mag : Nat} {p : Int} {a b : Nat} (hmag : mag ≠ 0) (hb : 0 < b)
    (hcmp : ∀ up drop l : Nat, (drop : Int) - up = l - 1074 - p -> (up = 0 ∨ drop = 0) -> (mag.log2 : Int) - 52 <= drop - up ->
      ∀ M : Nat, (2 * (mag * 2 ^ up) < M * 2 ^ drop -> 2 * a < M * 2 ^ l * b) ∧ (2 * (mag * 2 ^ up) = M * 2 ^ drop -> 2 * a = M * 2 ^ l * b) ∧ (M * 2 ^ drop < 2 * (mag * 2 ^ up) -> M * 2 ^ l * b < 2 * a)) :
    ∃ r, double.nearest neg mag p = double.word neg r ∧ Near a b r := by
 refine ⟨min (((max (p + mag.log2 - 52) (-1074)) + 1074).toNat * B + Toward.even.cut neg (mag <<< (p - max (p + mag.log2 - 52) (-1074)).toNat) ((max (p + mag.log2 - 52) (-1074)) - p).toNat) R, ?_, ?_⟩
 · unfold Format.nearest
   rw [if_neg hmag]
   simp only [leastPlace_eq, infRung_eq, binade_eq, fraction_eq]
   rfl
 · generalize hlast : max (p + (mag.log2 : Int) - 52) (-1074) = last
   have h1 : p + (mag.log2 : Int) - 52 <= last := by omega
   have h2 : -1074 <= last := by omega
   have h3 : last = -1074 ∨ last = p + (mag.log2 : Int) - 52 := by omega
   clear hlast
   obtain ⟨l, hl⟩ : ∃ l : Nat, last + 1074 = l := ⟨(last + 1074).toNat, by omega⟩
   obtain ⟨up, hup⟩ : ∃ up : Nat, (p - last).toNat = up := ⟨_, rfl⟩
   obtain ⟨drop, hdrop⟩ : ∃ drop : Nat, (last - p).toNat = drop := ⟨_, rfl⟩
   rw [hl, hup, hdrop, Int.toNat_natCast, Nat.shiftLeft_eq]
   have hc := hcmp up drop l (by omega) (by omega) (by omega)
   have hlog1 : 2 ^ mag.log2 <= mag := Nat.log2_self_le hmag
   have hlog2 : mag < 2 ^ (mag.log2 + 1) := Nat.lt_log2_self
   have hspec := cut_spec neg (mag * 2 ^ up) drop
   generalize Toward.even.cut neg (mag * 2 ^ up) drop = c at *
   have hpd : 0 < 2 ^ drop := Nat.two_pow_pos _
   have hBp : B = 2 ^ 52 := rfl
   -- the significand's bounds
   have hlt : mag * 2 ^ up < 2 * B * 2 ^ drop := by
    calc mag * 2 ^ up < 2 ^ (mag.log2 + 1) * 2 ^ up := Nat.mul_lt_mul_of_pos_right hlog2 (Nat.two_pow_pos _)
      _ = 2 ^ (mag.log2 + 1 + up) := (Nat.pow_add ..).symm
      _ <= 2 ^ (53 + drop) := Nat.pow_le_pow_right (by omega) (by omega)
      _ = 2 * B * 2 ^ drop := by rw [Nat.pow_add]; rfl
   have hge : l ≠ 0 -> B * 2 ^ drop <= mag * 2 ^ up := by
    intro hl0
    calc B * 2 ^ drop = 2 ^ (52 + drop) := by rw [Nat.pow_add]; rfl
      _ <= 2 ^ (mag.log2 + up) := Nat.pow_le_pow_right (by omega) (by omega)
      _ = 2 ^ mag.log2 * 2 ^ up := Nat.pow_add ..
      _ <= mag * 2 ^ up := Nat.mul_le_mul_right _ hlog1
   have hcle : c <= 2 * B := by
    rcases Nat.lt_or_ge (2 * B) c with hgt | h
    · exfalso
      obtain ⟨d, rfl⟩ : ∃ d, c = d + 1 := ⟨c - 1, by omega⟩
      have hk := hspec.2 d rfl
      have : (4 * B) * 2 ^ drop <= (2 * d + 1) * 2 ^ drop := Nat.mul_le_mul_right _ (by omega)
      have h4 : 4 * B * 2 ^ drop = 2 * (2 * B * 2 ^ drop) := by rw [<- Nat.mul_assoc, <- Nat.mul_assoc]
      rcases hk with hk | ⟨hk, _⟩ <;> omega
    · exact h
   have hcge : l = 0 ∨ B <= c := by
    by_cases hl0 : l = 0
    · exact .inl hl0
    · right
      have hk := hge hl0
      have h5 : 2 * B * 2 ^ drop <= (2 * c + 1) * 2 ^ drop := by
       rw [Nat.mul_assoc]
       rcases hspec.1 with h | ⟨h, _⟩ <;> omega
      have := Nat.le_of_mul_le_mul_right h5 hpd
      omega
   refine near_of_cut hcge hcle ?_ ?_ ?_ hb
   · by_cases hl0 : l = 0
     · exact .inl hl0
     · right
       have hk := hge hl0
       have hM := hc (2 * B)
       have h6 : 2 * B * 2 ^ l * b = 2 * (B * 2 ^ l * b) := by rw [Nat.mul_assoc, Nat.mul_assoc, Nat.mul_assoc]
       rcases Nat.lt_or_eq_of_le (show 2 * B * 2 ^ drop <= 2 * (mag * 2 ^ up) by rw [Nat.mul_assoc]; omega) with h | h
       · have := hM.2.2 h; omega
       · have := hM.2.1 h.symm; omega
   · have hM := hc (2 * c + 1)
     rcases hspec.1 with h | ⟨h, q⟩
     · exact .inl (hM.1 h)
     · exact .inr ⟨hM.2.1 h, q⟩
   · intro d hd
     have hM := hc (2 * d + 1)
     rcases hspec.2 d hd with h | ⟨h, q⟩
     · exact .inl (hM.2.2 h)
     · exact .inr ⟨(hM.2.1 h.symm).symm, q⟩
theorem near_zero (b : Nat) (hb : 0 < b) : Near 0 b 0 :=
 ⟨Nat.zero_le _, fun _ => .inl (by
  have : 0 < T 0 := by unfold T; have := V_succ 0; omega
  simpa using Nat.mul_pos hb this), fun s hs => by omega⟩
theorem nearest_near (neg : Bool) (mag k e : Nat) (p : Int) (hp : p = (k : Int) - 1074 - e) : ∃ r, double.nearest neg mag p = double.word neg r ∧ Near (mag * 2 ^ k) (2 ^ e) r := by
 by_cases hm : mag = 0
 · subst hm
   exact ⟨0, by unfold Format.nearest; rw [if_pos rfl], by rw [Nat.zero_mul]; exact near_zero _ (Nat.two_pow_pos _)⟩
 · refine nearest_of hm (Nat.two_pow_pos _) ?_
   intro up drop l h1 _ _ M
   have hE : k + drop = up + (l + e) := by omega
   have key : 2 * (mag * 2 ^ k) * 2 ^ drop = 2 * (mag * 2 ^ up) * (2 ^ l * 2 ^ e) := by
    rw [<- Nat.pow_add, <- Nat.mul_assoc, <- Nat.mul_assoc, Nat.mul_assoc _ (2 ^ k), Nat.mul_assoc _ (2 ^ up), <- Nat.pow_add, <- Nat.pow_add, hE]
   have key2 : M * 2 ^ l * 2 ^ e * 2 ^ drop = M * 2 ^ drop * (2 ^ l * 2 ^ e) := by
    rw [Nat.mul_right_comm (M * 2 ^ l), Nat.mul_right_comm M, Nat.mul_assoc]
   have hpd : 0 < 2 ^ drop := Nat.two_pow_pos _
   have hpe : 0 < 2 ^ l * 2 ^ e := Nat.mul_pos (Nat.two_pow_pos _) (Nat.two_pow_pos _)
   refine ⟨fun h => ?_, fun h => ?_, fun h => ?_⟩
   · refine Nat.lt_of_mul_lt_mul_right (a := 2 ^ drop) ?_
     rw [key, key2]; exact Nat.mul_lt_mul_of_pos_right h hpe
   · refine Nat.eq_of_mul_eq_mul_right hpd ?_
     rw [key, key2, h]
   · refine Nat.lt_of_mul_lt_mul_right (a := 2 ^ drop) ?_
     rw [key, key2]; exact Nat.mul_lt_mul_of_pos_right h hpe
theorem Near.unscale {a b r k : Nat} (hk : 0 < k) (h : Near (a * k) (b * k) r) : Near a b r := by
 have e : ∀ t, b * k * t = b * t * k := fun t => by rw [Nat.mul_assoc, Nat.mul_comm k, <- Nat.mul_assoc]
 refine ⟨h.fits, fun hr => ?_, fun s hs => ?_⟩
 · have := h.up hr
   rw [e, <- Nat.mul_assoc] at this
   rcases this with h | ⟨h, p⟩
   · exact .inl (Nat.lt_of_mul_lt_mul_right h)
   · exact .inr ⟨Nat.eq_of_mul_eq_mul_right hk h, p⟩
 · have := h.down s hs
   rw [e, <- Nat.mul_assoc] at this
   rcases this with h | ⟨h, p⟩
   · exact .inl (Nat.lt_of_mul_lt_mul_right h)
   · exact .inr ⟨Nat.eq_of_mul_eq_mul_right hk h, p⟩
theorem sticky_near (neg : Bool) (m n i j : Nat) (hm : m ≠ 0) (hn : n ≠ 0) : ∃ r,
    double.nearest neg (2 * ((m <<< (54 + n.log2 - m.log2)) / n) + ((m <<< (54 + n.log2 - m.log2)) % n != 0).toNat) (((i : Int) - 1074) - ((j : Int) - 1074) - (54 + n.log2 - m.log2 : Nat) - 1) = double.word neg r ∧
    Near (m * 2 ^ i * 2 ^ 1074) (n * 2 ^ j) r := by
 generalize hmore : 54 + n.log2 - m.log2 = more
 rw [Nat.shiftLeft_eq]
 have hDge : 2 ^ (54 + n.log2) <= m * 2 ^ more := by
  calc 2 ^ (54 + n.log2) <= 2 ^ (m.log2 + more) := Nat.pow_le_pow_right (by omega) (by omega)
    _ = 2 ^ m.log2 * 2 ^ more := Nat.pow_add ..
    _ <= _ := Nat.mul_le_mul_right _ (Nat.log2_self_le hm)
 have hnlt : n < 2 ^ (n.log2 + 1) := Nat.lt_log2_self
 have hnp : 0 < n := Nat.pos_of_ne_zero hn
 have hQ : 2 ^ 53 <= m * 2 ^ more / n := by
  rw [Nat.le_div_iff_mul_le hnp]
  calc 2 ^ 53 * n <= 2 ^ 53 * 2 ^ (n.log2 + 1) := Nat.mul_le_mul_left _ (Nat.le_of_lt hnlt)
    _ = 2 ^ (54 + n.log2) := by rw [<- Nat.pow_add, show 53 + (n.log2 + 1) = 54 + n.log2 by omega]
    _ <= _ := hDge
 have hdm := Nat.div_add_mod (m * 2 ^ more) n
 have hf := Nat.mod_lt (m * 2 ^ more) hnp
 generalize hDd : m * 2 ^ more = D at *
 generalize D / n = Q at *
 generalize hff : D % n = f at *
 have hst : ((f != 0).toNat = 1 ∧ f ≠ 0) ∨ ((f != 0).toNat = 0 ∧ f = 0) := by
  by_cases h : f = 0
  · right; simp [h]
  · left; simp [h]
 generalize (f != 0).toNat = st at *
 have hmagne : 2 * Q + st ≠ 0 := by
  have : 0 < 2 ^ 53 := Nat.two_pow_pos _
  omega
 have hlog : 54 <= (2 * Q + st).log2 := by
  rw [Nat.le_log2 hmagne]
  have : (2 : Nat) ^ 54 = 2 * 2 ^ 53 := by rw [Nat.pow_succ, Nat.mul_comm]
  omega
 have hb : 0 < n * 2 ^ j * 2 ^ (more + 1) := Nat.mul_pos (Nat.mul_pos hnp (Nat.two_pow_pos _)) (Nat.two_pow_pos _)
 obtain ⟨r, hr, hnear⟩ := nearest_of (neg := neg) (mag := 2 * Q + st) (p := ((i : Int) - 1074) - ((j : Int) - 1074) - (more : Nat) - 1) (a := m * 2 ^ i * 2 ^ 1074 * 2 ^ (more + 1)) (b := n * 2 ^ j * 2 ^ (more + 1)) hmagne hb (by
  intro up drop l h1 h2 h3 M
  have hup : up = 0 := by omega
  subst hup
  obtain ⟨g, rfl⟩ : ∃ g, drop = g + 2 := ⟨drop - 2, by omega⟩
  have hE : i + 1074 + (g + 2) = l + j + (more + 1) := by omega
  rw [Nat.pow_zero, Nat.mul_one]
  have e4 : 2 ^ (g + 2) = 4 * 2 ^ g := by rw [Nat.pow_add]; omega
  -- compare 2 * a with M * 2 ^ l * b: both over a common factor
  have hF : 0 < 2 ^ (l + j + (more + 1)) := Nat.two_pow_pos _
  have kb : M * 2 ^ l * (n * 2 ^ j * 2 ^ (more + 1)) * (4 * 2 ^ g) = (M * 2 ^ g * n) * 4 * 2 ^ (l + j + (more + 1)) := by
   rw [Nat.pow_add 2 (l + j), Nat.pow_add 2 l]
   simp only [Nat.mul_comm, Nat.mul_left_comm, Nat.mul_assoc]
  have ka : 2 * (m * 2 ^ i * 2 ^ 1074 * 2 ^ (more + 1)) * (4 * 2 ^ g) = D * 4 * 2 ^ (l + j + (more + 1)) := by
   rw [<- hE, <- hDd, Nat.pow_add 2 (i + 1074), Nat.pow_add 2 i, e4, Nat.pow_succ 2 more]
   generalize (2 : Nat) ^ 1074 = z
   generalize (2 : Nat) ^ i = y
   generalize (2 : Nat) ^ more = x
   generalize (2 : Nat) ^ g = v
   have : x * 2 = 2 * x := Nat.mul_comm ..
   rw [this]
   simp only [Nat.mul_comm, Nat.mul_left_comm, Nat.mul_assoc]
  have hg4 : 0 < 4 * 2 ^ g := by have := Nat.two_pow_pos g; omega
  have kM : M * (4 * 2 ^ g) = 4 * (M * 2 ^ g) := Nat.mul_left_comm ..
  have hnM : ∀ x y : Nat, n * x + y = D -> y < n -> (2 * Q + st < 2 * (M * 2 ^ g) -> D < M * 2 ^ g * n) ∧ (2 * Q + st = 2 * (M * 2 ^ g) -> D = M * 2 ^ g * n) ∧ (2 * (M * 2 ^ g) < 2 * Q + st -> M * 2 ^ g * n < D) := by
   intro _ _ _ _
   generalize M * 2 ^ g = W
   refine ⟨fun h => ?_, fun h => ?_, fun h => ?_⟩
   · have : Q + 1 <= W := by omega
     have := Nat.mul_le_mul_left n this
     rw [Nat.mul_comm W]; rw [Nat.mul_add, Nat.mul_one] at this; omega
   · obtain rfl : Q = W := by omega
     have : f = 0 := by omega
     rw [Nat.mul_comm Q]; omega
   · rcases Nat.lt_or_ge W Q with hlt | hge
     · have := Nat.mul_le_mul_left n (show W + 1 <= Q from hlt)
       rw [Nat.mul_comm W]; rw [Nat.mul_add, Nat.mul_one] at this; omega
     · obtain rfl : W = Q := by omega
       rw [Nat.mul_comm W]; omega
  have hn3 := hnM Q f (by omega) hf
  rw [e4, kM]
  refine ⟨fun h => ?_, fun h => ?_, fun h => ?_⟩
  · refine Nat.lt_of_mul_lt_mul_right (a := 4 * 2 ^ g) ?_
    rw [ka, kb]
    exact Nat.mul_lt_mul_of_pos_right (Nat.mul_lt_mul_of_pos_right (hn3.1 (by omega)) (by omega)) hF
  · refine Nat.eq_of_mul_eq_mul_right hg4 ?_
    rw [ka, kb, hn3.2.1 (by omega)]
  · refine Nat.lt_of_mul_lt_mul_right (a := 4 * 2 ^ g) ?_
    rw [ka, kb]
    exact Nat.mul_lt_mul_of_pos_right (Nat.mul_lt_mul_of_pos_right (hn3.2.2 (by omega)) (by omega)) hF)
 exact ⟨r, hr, hnear.unscale (Nat.two_pow_pos _)⟩
def ng (x : Nat) : Bool := x / S % 2 == 1
theorem read_eq (x : Nat) : double.read x = if x % S < B then Datum.number (ng x) (x % S) (-1074) else if x % S < R then Datum.number (ng x) (B + x % S % B) (-1074 + ((x % S / B - 1 : Nat) : Int)) else if x % S = R then Datum.infinity (ng x) else Datum.nan (ng x) (x % S - R) := rfl
theorem read_num {x : Nat} (h : x % S < R) : ∃ m k : Nat, double.read x = .number (ng x) m ((k : Int) - 1074) ∧ m * 2 ^ k = V (x % S) := by
 have hB := B_pos
 rw [read_eq]
 by_cases h1 : x % S < B
 · rw [if_pos h1]
   exact ⟨x % S, 0, rfl, by rw [V_low (by omega)]; simp⟩
 · rw [if_neg h1, if_pos h]
   refine ⟨B + x % S % B, x % S / B - 1, ?_, ?_⟩
   · rw [Int.add_comm]; rfl
   · unfold V; rw [if_neg h1]
theorem read_inf {x : Nat} (h : x % S = R) : double.read x = .infinity (ng x) := by
 have hB := B_pos
 rw [read_eq]
 have h1 : ¬ x % S < B := by rw [h]; unfold R; omega
 rw [if_neg h1, if_neg (by omega), if_pos h]
theorem read_nan {x : Nat} (h : R < x % S) : ∃ f, double.read x = .nan (ng x) f := by
 have hB := B_pos
 rw [read_eq]
 have h1 : ¬ x % S < B := by unfold R at h; omega
 rw [if_neg h1, if_neg (by omega), if_neg (by omega)]; exact ⟨_, rfl⟩
def key (x : Nat) : Int := if ng x then -((x % S : Nat) : Int) else ((x % S : Nat) : Int)
theorem compare_scale (a b : Int) (c : Nat) (hc : 0 < c) : compare (a * c) (b * c) = compare a b := by
 have hc' : (0 : Int) < c := by omega
 rcases Int.lt_trichotomy a b with h | h | h
 · have := Int.mul_lt_mul_of_pos_right h hc'
   rw [Int.compare_eq_lt.2 h, Int.compare_eq_lt.2 this]
 · subst h; simp
 · have := Int.mul_lt_mul_of_pos_right h hc'
   rw [Int.compare_eq_gt.2 h, Int.compare_eq_gt.2 this]
theorem signed_scale (s : Bool) (m up k : Nat) : signed s m up * ((2 ^ k : Nat) : Int) = if s then -((m * 2 ^ (up + k) : Nat) : Int) else ((m * 2 ^ (up + k) : Nat) : Int) := by
 unfold signed
 rw [Nat.shiftLeft_eq, Nat.pow_add, <- Nat.mul_assoc]
 cases s <;> simp [Int.neg_mul]
theorem compare_V (s t : Bool) (a b : Nat) : compare (if s then -((V a : Nat) : Int) else (V a : Nat)) (if t then -((V b : Nat) : Int) else (V b : Nat)) = compare (if s then -((a : Nat) : Int) else (a : Nat)) (if t then -((b : Nat) : Int) else (b : Nat)) := by
 have h0 : V 0 = 0 := V_zero
 have h1 := @V_lt_iff a b
 have h2 := @V_lt_iff b a
 have h3 := @V_lt_iff 0 a
 have h4 := @V_lt_iff 0 b
 rw [h0] at h3 h4
 have e : ∀ x y x' y' : Int, (x < y ↔ x' < y') -> (y < x ↔ y' < x') -> compare x y = compare x' y' := by
  intro x y x' y' p q
  rcases Int.lt_trichotomy x' y' with h | h | h
  · rw [Int.compare_eq_lt.2 h, Int.compare_eq_lt.2 (p.2 h)]
  · have : x = y := by omega
    rw [this, h]; simp
  · rw [Int.compare_eq_gt.2 h, Int.compare_eq_gt.2 (q.2 h)]
 cases s <;> cases t <;> refine e _ _ _ _ ?_ ?_ <;> simp only [Bool.false_eq_true, if_true, if_false] <;> omega
theorem order_num {x y : Nat} (hx : x % S <= R) (hy : y % S <= R) : double.order x y = some (compare (key x) (key y)) := by
 unfold Format.order key
 have hRp : 0 < R := by unfold R; have := B_pos; omega
 rcases Nat.lt_or_eq_of_le hx with hx | hx <;> rcases Nat.lt_or_eq_of_le hy with hy | hy
 · obtain ⟨m, k, e1, v1⟩ := read_num hx
   obtain ⟨n, j, e2, v2⟩ := read_num hy
   rw [e1, e2]
   simp only [Datum.order]
   have hmin : ((min ((k : Int) - 1074) ((j : Int) - 1074)) + 1074).toNat = min k j := by omega
   rw [<- compare_scale _ _ (2 ^ (min k j)) (Nat.two_pow_pos _), signed_scale, signed_scale]
   rw [show (((k : Int) - 1074) - min ((k : Int) - 1074) ((j : Int) - 1074)).toNat + min k j = k by omega]
   rw [show (((j : Int) - 1074) - min ((k : Int) - 1074) ((j : Int) - 1074)).toNat + min k j = j by omega]
   rw [v1, v2, compare_V]
 · obtain ⟨m, k, e1, v1⟩ := read_num hx
   rw [e1, read_inf hy]
   simp only [Datum.order, hy]
   cases ng x <;> cases ng y <;> simp <;> first | (symm; rw [Int.compare_eq_lt]; omega) | (symm; rw [Int.compare_eq_gt]; omega)
 · obtain ⟨n, j, e2, v2⟩ := read_num hy
   rw [e2, read_inf hx]
   simp only [Datum.order, hx]
   cases ng x <;> cases ng y <;> simp <;> first | (symm; rw [Int.compare_eq_lt]; omega) | (symm; rw [Int.compare_eq_gt]; omega)
 · rw [read_inf hx, read_inf hy]
   simp only [Datum.order, hx, hy]
   cases ng x <;> cases ng y <;> simp <;> first | rfl | (symm; rw [Int.compare_eq_lt]; omega) | (symm; rw [Int.compare_eq_gt]; omega)
theorem order_nan_left {x : Nat} (y : Nat) (h : R < x % S) : double.order x y = none := by
 obtain ⟨f, e⟩ := read_nan h
 unfold Format.order
 rw [e]; cases double.read y <;> rfl
theorem order_nan_right (x : Nat) {y : Nat} (h : R < y % S) : double.order x y = none := by
 obtain ⟨f, e⟩ := read_nan h
 unfold Format.order
 rw [e]; cases double.read x <;> rfl
theorem ng_small {x : Nat} (h : x < S) : ng x = false := by
 unfold ng
 rw [Nat.div_eq_of_lt h]; rfl
theorem ofNat_near (n : Nat) : ∃ r, double.write (.number false n 0) = r ∧ Near (n * 2 ^ 1074) 1 r := by
 obtain ⟨r, h, hn⟩ := nearest_near false n 1074 0 0 (by omega)
 exact ⟨r, h, hn⟩
theorem mul_near {x y : Nat} (hx : x < R) (hy : y < R) : ∃ r, double.mul x y = some r ∧ Near (V x * V y) (2 ^ 1074) r := by
 have hS := R_lt
 have mx : x % S = x := Nat.mod_eq_of_lt (by omega)
 have my : y % S = y := Nat.mod_eq_of_lt (by omega)
 obtain ⟨m, k, e1, v1⟩ := read_num (x := x) (by omega)
 obtain ⟨n, j, e2, v2⟩ := read_num (x := y) (by omega)
 rw [mx] at v1; rw [my] at v2
 rw [ng_small (by omega)] at e1 e2
 obtain ⟨r, h, hn⟩ := nearest_near false (m * n) (k + j) 1074 (((k : Int) - 1074) + ((j : Int) - 1074)) (by omega)
 refine ⟨r, ?_, ?_⟩
 · unfold Format.mul
   rw [e1, e2]
   simp only [Datum.product, Option.map_some]
   exact congrArg some h
 · have : m * n * 2 ^ (k + j) = V x * V y := by
    rw [<- v1, <- v2, Nat.pow_add]; simp only [Nat.mul_left_comm, Nat.mul_assoc]
   rw [<- this]; exact hn
theorem div_near {x y : Nat} (hx : x < R) (hy : y < R) (h0 : 0 < y) : ∃ r, double.div x y = some r ∧ Near (V x * 2 ^ 1074) (V y) r := by
 have hS := R_lt
 have mx : x % S = x := Nat.mod_eq_of_lt (by omega)
 have my : y % S = y := Nat.mod_eq_of_lt (by omega)
 obtain ⟨m, k, e1, v1⟩ := read_num (x := x) (by omega)
 obtain ⟨n, j, e2, v2⟩ := read_num (x := y) (by omega)
 rw [mx] at v1; rw [my] at v2
 rw [ng_small (by omega)] at e1 e2
 have hVy : 0 < V y := by have := V_mono h0; omega
 have hn0 : n ≠ 0 := by rintro rfl; rw [Nat.zero_mul] at v2; omega
 unfold Format.div
 rw [e1, e2]
 simp only [Datum.quotient, if_neg hn0, Option.map_some, fraction_eq]
 by_cases hm : m = 0
 · subst hm
   refine ⟨0, ?_, ?_⟩
   · simp [Format.write, Format.nearest, Format.word]
   · rw [<- v1]; simp only [Nat.zero_mul]; exact near_zero _ hVy
 · obtain ⟨r, h, hn⟩ := sticky_near false m n k j hm hn0
   refine ⟨r, congrArg some h, ?_⟩
   rw [<- v1, <- v2]; exact hn
theorem add_near {x y : Nat} (hx : x < R) (hy : y < R) : ∃ r, double.add x y = some r ∧ Near (V x + V y) 1 r := by
 have hS := R_lt
 have mx : x % S = x := Nat.mod_eq_of_lt (by omega)
 have my : y % S = y := Nat.mod_eq_of_lt (by omega)
 obtain ⟨m, k, e1, v1⟩ := read_num (x := x) (by omega)
 obtain ⟨n, j, e2, v2⟩ := read_num (x := y) (by omega)
 rw [mx] at v1; rw [my] at v2
 rw [ng_small (by omega)] at e1 e2
 unfold Format.add
 rw [e1, e2]
 simp only [Datum.sum, Option.map_some]
 have q1 : (((k : Int) - 1074) - min ((k : Int) - 1074) ((j : Int) - 1074)).toNat = k - min k j := by omega
 have q2 : (((j : Int) - 1074) - min ((k : Int) - 1074) ((j : Int) - 1074)).toNat = j - min k j := by omega
 rw [q1, q2]
 have s1 : signed false m (k - min k j) + signed false n (j - min k j) = ((m * 2 ^ (k - min k j) + n * 2 ^ (j - min k j) : Nat) : Int) := by
  simp [signed, Nat.shiftLeft_eq]
 rw [s1]
 generalize hW : m * 2 ^ (k - min k j) + n * 2 ^ (j - min k j) = W
 obtain ⟨r, h, hn⟩ := nearest_near false W (min k j) 0 (min ((k : Int) - 1074) ((j : Int) - 1074)) (by omega)
 refine ⟨r, ?_, ?_⟩
 · have : (if ((W : Nat) : Int) = 0 then (false && false) else decide (((W : Nat) : Int) < 0)) = false := by
    split
    · rfl
    · simp
   rw [this, Int.natAbs_natCast]
   exact congrArg some h
 · have : W * 2 ^ min k j = V x + V y := by
    rw [<- hW, Nat.add_mul, Nat.mul_assoc, Nat.mul_assoc, <- Nat.pow_add, <- Nat.pow_add, show k - min k j + min k j = k by omega, show j - min k j + min k j = j by omega, v1, v2]
   rw [<- this]; exact hn
theorem sub_near {x y : Nat} (hx : x < R) (hle : y <= x) : ∃ r, double.sub x y = some r ∧ Near (V x - V y) 1 r := by
 have hS := R_lt
 have mx : x % S = x := Nat.mod_eq_of_lt (by omega)
 have my : y % S = y := Nat.mod_eq_of_lt (by omega)
 obtain ⟨m, k, e1, v1⟩ := read_num (x := x) (by omega)
 obtain ⟨n, j, e2, v2⟩ := read_num (x := y) (by omega)
 rw [mx] at v1; rw [my] at v2
 rw [ng_small (by omega)] at e1 e2
 have hV := V_le hle
 unfold Format.sub
 rw [e1, e2]
 simp only [Datum.opposite, Datum.sum, Option.map_some]
 have q1 : (((k : Int) - 1074) - min ((k : Int) - 1074) ((j : Int) - 1074)).toNat = k - min k j := by omega
 have q2 : (((j : Int) - 1074) - min ((k : Int) - 1074) ((j : Int) - 1074)).toNat = j - min k j := by omega
 rw [q1, q2]
 have p1 : m * 2 ^ (k - min k j) * 2 ^ min k j = V x := by rw [Nat.mul_assoc, <- Nat.pow_add, show k - min k j + min k j = k by omega, v1]
 have p2 : n * 2 ^ (j - min k j) * 2 ^ min k j = V y := by rw [Nat.mul_assoc, <- Nat.pow_add, show j - min k j + min k j = j by omega, v2]
 have hle2 : n * 2 ^ (j - min k j) <= m * 2 ^ (k - min k j) := Nat.le_of_mul_le_mul_right (c := 2 ^ min k j) (by omega) (Nat.two_pow_pos _)
 have s1 : signed false m (k - min k j) + signed (!false) n (j - min k j) = ((m * 2 ^ (k - min k j) - n * 2 ^ (j - min k j) : Nat) : Int) := by
  simp only [signed, Nat.shiftLeft_eq, Bool.not_false, Bool.false_eq_true, if_true, if_false]
  omega
 rw [s1]
 generalize hW : m * 2 ^ (k - min k j) - n * 2 ^ (j - min k j) = W
 obtain ⟨r, h, hn⟩ := nearest_near false W (min k j) 0 (min ((k : Int) - 1074) ((j : Int) - 1074)) (by omega)
 refine ⟨r, ?_, ?_⟩
 · have : (if ((W : Nat) : Int) = 0 then (false && !false) else decide (((W : Nat) : Int) < 0)) = false := by
    split
    · rfl
    · simp
   rw [this, Int.natAbs_natCast]
   exact congrArg some h
 · have : W * 2 ^ min k j = V x - V y := by
    rw [<- hW, Nat.sub_mul, p1, p2]
   rw [<- this]; exact hn
end Go.Proofs.YtfabgbmbnmbjkaaGreatDoor.Fl

