/- Plain laws of a ratio's and a worth's size: parts of a whole lie from 0 to 1; more of it is no less; what is elder, or has less left, is worth no less. -/
import Derived.Test.YtcmngedjnccfaaaKo
namespace Go.Proofs.Ytcmngedjnccfaaa
open Go.RowKit Fl

theorem ofu_near (n : Nat) : Near (n * 2 ^ 1074) 1 (ofu n) := by
  obtain ⟨r, h, hn⟩ := ofNat_near n
  have e : ofu n = r := by
    rw [← h]
    show Ieee.double.write (.number (decide ((n : Int) < 0)) (n : Int).natAbs 0) = _
    rw [decide_eq_false (by omega), Int.natAbs_natCast]
  rw [e]; exact hn

theorem ofu_mono {a b : Nat} (h : a ≤ b) : ofu a ≤ ofu b := (ofu_near a).mono (ofu_near b) (by decide) (by decide) (by rw [Nat.mul_one, Nat.mul_one]; exact Nat.mul_le_mul_right _ h)
theorem ofu_top : ofu ((18446744073709551616 : Nat) : Int) = 4895412794951729152 := by kernel_rfl
theorem ofu_one : ofu ((1 : Nat) : Int) = 4607182418800017408 := by kernel_rfl
theorem ofu_lt {n : Nat} (h : n < 18446744073709551616) : ofu n < R := by
  have := ofu_mono (Nat.le_of_lt h)
  rw [ofu_top] at this
  rw [R_num]; omega
theorem ofu_pos {n : Nat} (h : 0 < n) : 0 < ofu n := by
  have := ofu_mono (show 1 ≤ n from h)
  rw [ofu_one] at this
  omega

/-- The rung of one. -/
def one : Nat := 4607182418800017408
theorem one_lt : one < R := by rw [R_num]; unfold one; omega
theorem B_pow (l n : Nat) (h : n = 52 + l) : B * 2 ^ l = 2 ^ n := by rw [h, Nat.pow_add]; rfl
theorem V_bin (l : Nat) : V (l * B + B) = B * 2 ^ l := V_at (.inr (Nat.le_refl _)) (by omega)
theorem V_bin2 (l : Nat) : V ((l + 1) * B + B) = 2 * V (l * B + B) := by
  rw [V_bin, V_bin, Nat.pow_succ, Nat.mul_comm (2 ^ l) 2, Nat.mul_left_comm]
theorem one_eq : one = 1022 * B + B := rfl
theorem V_one : V one = 2 ^ 1074 := by rw [one_eq, V_bin]; exact B_pow 1022 1074 rfl
/-- The rung of two. -/
def two : Nat := 4611686018427387904
theorem two_lt : two < R := by rw [R_num]; unfold two; omega
theorem two_eq : two = (1022 + 1) * B + B := rfl
theorem V_two : V two = 2 * V one := by rw [one_eq, two_eq]; exact V_bin2 1022
theorem V_pos {x : Nat} (h : 0 < x) : 0 < V x := by have := V_mono h; omega

theorem ratio_near {a b r : Nat} (ha : a < 18446744073709551616) (hb : b < 18446744073709551616) (h0 : 0 < b) (h : RatioIs a b r) : Near (V (ofu a) * V one) (V (ofu b)) r := by
  obtain ⟨r', e, hn⟩ := div_near (ofu_lt ha) (ofu_lt hb) (ofu_pos h0)
  rw [Res.eq h (show floatBits .quo .f64 (ofu a) (ofu b) = some r' from e), V_one]
  exact hn

theorem ratio_mono {a a' b r r' : Nat} (ha : a < 18446744073709551616) (ha' : a' < 18446744073709551616) (hb : b < 18446744073709551616) (h0 : 0 < b) (hle : a ≤ a') (h : RatioIs a b r) (h' : RatioIs a' b r') : r ≤ r' :=
  (ratio_near ha hb h0 h).mono (ratio_near ha' hb h0 h') (V_pos (ofu_pos h0)) (V_pos (ofu_pos h0)) (Nat.mul_le_mul_right _ (Nat.mul_le_mul_right _ (V_le (ofu_mono hle))))

theorem near_one {x : Nat} (h : 0 < x) : Near (V x * V one) (V x) one := by
  have := (near_self (Nat.le_of_lt one_lt)).scale (V x) (V_pos h)
  rw [Nat.one_mul, Nat.mul_comm] at this
  exact this

theorem ratio_one {b r : Nat} (hb : b < 18446744073709551616) (h0 : 0 < b) (h : RatioIs b b r) : r = one :=
  (ratio_near hb hb h0 h).unique (near_one (ofu_pos h0)) (V_pos (ofu_pos h0))

theorem ratio_le {a b r : Nat} (hle : a ≤ b) (hb : b < 18446744073709551616) (h0 : 0 < b) (h : RatioIs a b r) : r ≤ one :=
  (ratio_near (by omega) hb h0 h).mono (near_one (ofu_pos h0)) (V_pos (ofu_pos h0)) (V_pos (ofu_pos h0)) (Nat.mul_le_mul_right _ (Nat.mul_le_mul_right _ (V_le (ofu_mono hle))))

theorem ratio_fits {a b r : Nat} (ha : a < 18446744073709551616) (hb : b < 18446744073709551616) (h0 : 0 < b) (h : RatioIs a b r) : r ≤ R := (ratio_near ha hb h0 h).fits

theorem gain_near {u g : Nat} (hu : u ≤ one) (h : Res .sub 4607182418800017408 u g) : Near (V one - V u) 1 g := by
  obtain ⟨r', e, hn⟩ := sub_near one_lt hu
  rw [h.eq (show floatBits .sub .f64 4607182418800017408 u = some r' from e)]
  exact hn
theorem gain_le {u g : Nat} (hu : u ≤ one) (h : Res .sub 4607182418800017408 u g) : g ≤ one :=
  (gain_near hu h).mono (near_self (Nat.le_of_lt one_lt)) (by decide) (by decide) (by rw [Nat.mul_one, Nat.mul_one]; omega)
theorem gain_anti {u g u' g' : Nat} (hle : u' ≤ u) (hu : u ≤ one) (h : Res .sub 4607182418800017408 u g) (h' : Res .sub 4607182418800017408 u' g') : g ≤ g' :=
  (gain_near hu h).mono (gain_near (by omega) h') (by decide) (by decide) (by rw [Nat.mul_one, Nat.mul_one]; have := V_le hle; omega)

theorem prod_near {g c m : Nat} (hg : g ≤ one) (hc : c < 18446744073709551616) (h : Res .mul g (ofu c) m) : Near (V g * V (ofu c)) (V one) m := by
  obtain ⟨r', e, hn⟩ := mul_near (Nat.lt_of_le_of_lt hg one_lt) (ofu_lt hc)
  rw [h.eq (show floatBits .mul .f64 g (ofu c) = some r' from e), V_one]
  exact hn
theorem prod_lt {g c m : Nat} (hg : g ≤ one) (hc : c < 18446744073709551616) (h : Res .mul g (ofu c) m) : m < R := by
  have h1 := (prod_near hg hc h).mono (near_self (Nat.le_of_lt (ofu_lt hc))) (V_pos (show 0 < one by decide)) (by decide) (by
    rw [Nat.mul_one, Nat.mul_comm]; exact Nat.mul_le_mul_left _ (V_le hg))
  exact Nat.lt_of_le_of_lt h1 (ofu_lt hc)
theorem prod_mono {g c m g' c' m' : Nat} (hle : g ≤ g') (hg : g' ≤ one) (hcc : c ≤ c') (hc : c' < 18446744073709551616) (h : Res .mul g (ofu c) m) (h' : Res .mul g' (ofu c') m') : m ≤ m' :=
  (prod_near (by omega) (by omega) h).mono (prod_near hg hc h') (V_pos (show 0 < one by decide)) (V_pos (show 0 < one by decide))
    (Nat.mul_le_mul_right _ (Nat.mul_le_mul (V_le hle) (V_le (ofu_mono hcc))))

theorem sum_near {u s : Nat} (hu : u ≤ one) (h : Res .add 4607182418800017408 u s) : Near (V one + V u) 1 s := by
  obtain ⟨r', e, hn⟩ := add_near one_lt (Nat.lt_of_le_of_lt hu one_lt)
  rw [h.eq (show floatBits .add .f64 4607182418800017408 u = some r' from e)]
  exact hn
theorem sum_ge {u s : Nat} (hu : u ≤ one) (h : Res .add 4607182418800017408 u s) : one ≤ s :=
  (near_self (Nat.le_of_lt one_lt)).mono (sum_near hu h) (by decide) (by decide) (by rw [Nat.mul_one, Nat.mul_one]; omega)
theorem sum_lt {u s : Nat} (hu : u ≤ one) (h : Res .add 4607182418800017408 u s) : s < R :=
  Nat.lt_of_le_of_lt ((sum_near hu h).mono (near_self (Nat.le_of_lt two_lt)) (by decide) (by decide) (by rw [Nat.mul_one, Nat.mul_one, V_two]; have := V_le hu; omega)) two_lt
theorem sum_mono {u s u' s' : Nat} (hle : u ≤ u') (hu : u' ≤ one) (h : Res .add 4607182418800017408 u s) (h' : Res .add 4607182418800017408 u' s') : s ≤ s' :=
  (sum_near (by omega) h).mono (sum_near hu h') (by decide) (by decide) (by rw [Nat.mul_one, Nat.mul_one]; have := V_le hle; omega)

theorem quot_near {m s r : Nat} (hm : m < R) (hs : s < R) (h0 : one ≤ s) (h : Res .quo m s r) : Near (V m * V one) (V s) r := by
  obtain ⟨r', e, hn⟩ := div_near hm hs (Nat.lt_of_lt_of_le (show 0 < one by decide) h0)
  rw [h.eq (show floatBits .quo .f64 m s = some r' from e), V_one]
  exact hn

/-- A worth of a part is a number, not below 0. -/
theorem worth_fits {a t c r : Nat} (hat : a ≤ t) (ht : t < 18446744073709551616) (h0 : 0 < t) (hc : c < 18446744073709551616) (h : WorthIs a t c r) : r ≤ R := by
  obtain ⟨u, g, m, s, hu, hg, hm, hs, hr⟩ := h
  have u1 := ratio_le hat ht h0 hu
  have g1 := gain_le u1 hg
  exact (quot_near (prod_lt g1 hc hm) (sum_lt u1 hs) (sum_ge u1 hs) hr).fits

/-- What has less left, or is elder, is worth no less. -/
theorem worth_mono {a a' t c c' r r' : Nat} (hle : a' ≤ a) (hat : a ≤ t) (ht : t < 18446744073709551616) (h0 : 0 < t) (hcc : c ≤ c') (hc : c' < 18446744073709551616) (h : WorthIs a t c r) (h' : WorthIs a' t c' r') : r ≤ r' := by
  obtain ⟨u, g, m, s, hu, hg, hm, hs, hr⟩ := h
  obtain ⟨u', g', m', s', hu', hg', hm', hs', hr'⟩ := h'
  have u1 := ratio_le hat ht h0 hu
  have u2 := ratio_mono (by omega) (by omega) ht h0 hle hu' hu
  have g1 := gain_le u1 hg
  have g2 := gain_le (show u' ≤ one by omega) hg'
  have g3 := gain_anti u2 u1 hg hg'
  have m1 := prod_lt g1 (by omega) hm
  have m2 := prod_lt g2 hc hm'
  have m3 := prod_mono g3 g2 hcc hc hm hm'
  have s1 := sum_lt u1 hs
  have s2 := sum_ge u1 hs
  have s3 := sum_lt (show u' ≤ one by omega) hs'
  have s4 := sum_ge (show u' ≤ one by omega) hs'
  have s5 := sum_mono u2 u1 hs' hs
  have hp : 0 < V s := V_pos (Nat.lt_of_lt_of_le (show 0 < one by decide) s2)
  have hp' : 0 < V s' := V_pos (Nat.lt_of_lt_of_le (show 0 < one by decide) s4)
  exact (quot_near m1 s1 s2 hr).mono (quot_near m2 s3 s4 hr') hp hp' (Nat.mul_le_mul (Nat.mul_le_mul_right _ (V_le m3)) (V_le s5))

theorem geq_rung {x y : Nat} (hx : x ≤ R) (h : y ≤ x) : (FloatKind.f64.format.order x y == some .gt || FloatKind.f64.format.order x y == some .eq) = true := by
  have hR := R_lt
  have n1 := nan_rung hx
  have n2 := nan_rung (show y ≤ R by omega)
  rw [gt_key n1 n2, eq_key n1 n2, key_rung (by omega), key_rung (by omega)]
  simp; omega
theorem leq_rung {x y : Nat} (hy : y ≤ R) (h : x ≤ y) : (FloatKind.f64.format.order x y == some .lt || FloatKind.f64.format.order x y == some .eq) = true := by
  have hR := R_lt
  have n1 := nan_rung hy
  have n2 := nan_rung (show x ≤ R by omega)
  rw [lt_key n2 n1, eq_key n2 n1, key_rung (by omega), key_rung (by omega)]
  simp; omega

/-- The whole's worth is nought. -/
theorem worth_whole {t c r : Nat} (ht : t < 18446744073709551616) (h0 : 0 < t) (hc : c < 18446744073709551616) (h : WorthIs t t c r) : r = 0 := by
  obtain ⟨u, g, m, s, hu, hg, hm, hs, hr⟩ := h
  obtain rfl := ratio_one ht h0 hu
  have g1 := gain_near (Nat.le_refl _) hg
  rw [Nat.sub_self] at g1
  obtain rfl := g1.unique (near_zero 1 (by decide)) (by decide)
  have m1 := prod_near (Nat.zero_le _) hc hm
  rw [V_zero, Nat.zero_mul] at m1
  obtain rfl := m1.unique (near_zero _ (V_pos (show 0 < one by decide))) (V_pos (show 0 < one by decide))
  have r1 := quot_near (by rw [R_num]; omega) (sum_lt (Nat.le_refl _) hs) (sum_ge (Nat.le_refl _) hs) hr
  have hp : 0 < V s := V_pos (Nat.lt_of_lt_of_le (show 0 < one by decide) (sum_ge (Nat.le_refl _) hs))
  rw [V_zero, Nat.zero_mul] at r1
  exact r1.unique (near_zero _ hp) hp
end Go.Proofs.Ytcmngedjnccfaaa
