/- The chapter's examples stand: known answers true. -/
import Derived.Test.YtcmngedjnccfaaaKn
namespace Go.Proofs.Ytcmngedjnccfaaa
open Go.RowKit

theorem Res.eq {op : BinOp} {x y r v : Nat} (h : Res op x y r) (e : floatBits op .f64 x y = some v) : r = v := by
  rcases h with h | ⟨h, _⟩
  · rw [e] at h; exact (Option.some.inj h).symm
  · rw [e] at h; cases h

theorem worth_a {r : Nat} (h : WorthIs 0 4 10 r) : r = 4621819117588971520 := by
  obtain ⟨u, g, m, s, hu, hg, hm, hs, hr⟩ := h
  obtain rfl := hu.eq (v := 0) (by kernel_rfl)
  obtain rfl := hg.eq (v := 4607182418800017408) (by kernel_rfl)
  obtain rfl := hm.eq (v := 4621819117588971520) (by kernel_rfl)
  obtain rfl := hs.eq (v := 4607182418800017408) (by kernel_rfl)
  exact hr.eq (by kernel_rfl)
theorem worth_b {r : Nat} (h : WorthIs 4 4 10 r) : r = 0 := by
  obtain ⟨u, g, m, s, hu, hg, hm, hs, hr⟩ := h
  obtain rfl := hu.eq (v := 4607182418800017408) (by kernel_rfl)
  obtain rfl := hg.eq (v := 0) (by kernel_rfl)
  obtain rfl := hm.eq (v := 0) (by kernel_rfl)
  obtain rfl := hs.eq (v := 4611686018427387904) (by kernel_rfl)
  exact hr.eq (by kernel_rfl)
theorem worth_c {r : Nat} (h : WorthIs 1 2 6 r) : r = 4611686018427387904 := by
  obtain ⟨u, g, m, s, hu, hg, hm, hs, hr⟩ := h
  obtain rfl := hu.eq (v := 4602678819172646912) (by kernel_rfl)
  obtain rfl := hg.eq (v := 4602678819172646912) (by kernel_rfl)
  obtain rfl := hm.eq (v := 4613937818241073152) (by kernel_rfl)
  obtain rfl := hs.eq (v := 4609434218613702656) (by kernel_rfl)
  exact hr.eq (by kernel_rfl)
theorem ratio_nan {r : Nat} (h : RatioIs 0 0 r) : isNan r = true := Res.of_none h (by kernel_rfl)
theorem ratio_inf {r : Nat} (h : RatioIs 1 0 r) : r = 9218868437227405312 := Res.eq h (by kernel_rfl)
theorem worth_d {r : Nat} (h : WorthIs 0 0 1 r) : isNan r = true := by
  obtain ⟨u, g, m, s, hu, hg, hm, hs, hr⟩ := h
  have h1 := ratio_nan hu
  have h2 := hg.of_none (res_nan_right _ _ h1)
  have h3 := hm.of_none (res_nan_left _ _ h2)
  exact hr.of_none (res_nan_left _ _ h3)

theorem WorthIs.lt {a b c : Int} {r : Nat} (h : WorthIs a b c r) : r < 18446744073709551616 := by
  obtain ⟨u, g, m, s, hu, hg, hm, hs, hr⟩ := h
  exact hr.lt

theorem kind_nan {x : Nat} (h : isNan x = true) : kindS x = 1 := if_pos h
theorem kind_inf : kindS 9218868437227405312 = 7 := by kernel_rfl

theorem best_a {q : Nat} (h : isNan q = true) : bestV [4607182418800017408, q, 4613937818241073152, 4613937818241073152] = 2 := by
  have o1 : ord q 4607182418800017408 = -1 := by unfold ord; rw [if_pos h, if_neg (by rw [show isNan 4607182418800017408 = false by kernel_rfl]; decide)]
  have o2 : ord 4613937818241073152 4607182418800017408 = 1 := by kernel_rfl
  have o3 : ord 4613937818241073152 4613937818241073152 = 0 := by kernel_rfl
  have p1 : (FloatKind.f64.format.order 4613937818241073152 4607182418800017408 == some .eq) = false := by kernel_rfl
  have p2 : (FloatKind.f64.format.order 4613937818241073152 q == some .eq) = false := by rw [order_nan (.inr h)]; rfl
  have p3 : (FloatKind.f64.format.order 4613937818241073152 4613937818241073152 == some .eq) = true := by kernel_rfl
  unfold bestV
  rw [if_neg (by simp)]
  simp only [List.drop_succ_cons, List.drop_zero, List.getD_cons_zero, most, o1]
  simp [place, p1, p2, p3, o2, o3]

theorem best_b {q : Nat} (h : isNan q = true) : bestV [q] = -1 := by
  have p : (FloatKind.f64.format.order q q == some .eq) = false := by rw [order_nan (.inr h)]; rfl
  unfold bestV
  rw [if_neg (by simp)]
  simp [most, place, p]

/-- The chapter's examples stand; nothing that was there has changed. -/
def Okay (w : World) (e : Ending) (w' : World) : Prop := e = .returned (.bool true) ∧ Below w.heap.size w w'

theorem below_drewN {B : Nat} {a w : World} (h : Below B a w) (n : Nat) : Below B a (w.drewN n) := ⟨h.os, h.tape, h.output, h.size, h.block⟩

theorem best_at (A : Option Addr) (c m : Nat) (l : List Nat) (hm : m = l.length) (hl : l.length ≤ 65536) (w : World) (h : FlAt w A l) :
    Calls Try.prog 21 #[.slice A m c] w fun e w' => e = .returned (.int .i64 (bestV l)) ∧ w = w' := by subst hm; exact best_any A c l w hl h

theorem fl_new4 (w : World) (g a b c d : Nat) (hg : g = w.heap.size) : FlAt (w.alloc (.cells #[.float .f64 a, .float .f64 b, .float .f64 c, .float .f64 d] 22)) (some ⟨g, 0, none⟩) [a, b, c, d] := by
  subst hg
  intro k hk
  refine ⟨_, rfl, by simp, ?_⟩
  have h : k = 0 ∨ k = 1 ∨ k = 2 ∨ k = 3 := by simp at hk; omega
  rcases h with rfl | rfl | rfl | rfl <;> simp [go_sem, Addr.add]

theorem fl_new1 (w : World) (g a : Nat) (hg : g = w.heap.size) : FlAt (w.alloc (.cells #[.float .f64 a] 22)) (some ⟨g, 0, none⟩) [a] := by
  subst hg
  intro k hk
  refine ⟨_, rfl, by simp, ?_⟩
  obtain rfl : k = 0 := by simp at hk; omega
  simp [go_sem, Addr.add]

theorem known_any (w : World) : Calls Try.prog 11 #[] w (Okay w) := by
  go_enter Try.func11, Try.ntmps11
  go_wp2_with (fail)
  refine (ratio_any _ _ _).mono ?_
  rintro e w' ⟨q, n, hq, rfl, rfl⟩
  have Hq := Lib.hid (ratio_nan hq)
  clear hq
  go_wp2_with (fail)
  refine (worth_any _ _ _ _).mono ?_
  rintro e w' ⟨r1, n1, h1, rfl, rfl⟩
  obtain rfl := worth_a h1
  clear h1
  have e1 : (FloatKind.f64.format.order 4621819117588971520 4621819117588971520 == some .eq) = true := by kernel_rfl
  go_wp2_with (fail)
  refine (worth_any _ _ _ _).mono ?_
  rintro e w' ⟨r1, n1, h1, rfl, rfl⟩
  obtain rfl := worth_b h1
  clear h1
  have e2 : (FloatKind.f64.format.order 0 0 == some .eq) = true := by kernel_rfl
  go_wp2_with (fail)
  refine (worth_any _ _ _ _).mono ?_
  rintro e w' ⟨r1, n1, h1, rfl, rfl⟩
  obtain rfl := worth_c h1
  clear h1
  have e3 : (FloatKind.f64.format.order 4611686018427387904 4611686018427387904 == some .eq) = true := by kernel_rfl
  go_wp2_with (fail)
  refine (worth_any _ _ _ _).mono ?_
  rintro e w' ⟨r1, n1, h1, rfl, rfl⟩
  have Hr := Lib.hid (worth_d h1)
  have hlt := h1.lt
  clear h1
  go_wp2_with (fail)
  refine (kind_any _ hlt _).mono ?_
  rintro e w' ⟨rfl, rfl⟩
  have Hk := kind_nan Hr.out
  rw [Hk]
  clear Hk
  clear hlt
  go_wp2_with (fail)
  refine (best_at _ _ 4 [_, _, _, _] rfl (by simp) _ (fl_new4 _ _ _ _ _ _ (by simp))).mono ?_
  rintro e w' ⟨rfl, rfl⟩
  rw [best_a Hq.out]
  go_wp2_with (fail)
  refine (best_at _ _ 1 [_] rfl (by simp) _ (fl_new1 _ _ _ (by simp))).mono ?_
  rintro e w' ⟨rfl, rfl⟩
  rw [best_b Hq.out]
  go_wp2_with (fail)
  refine (ratio_any _ _ _).mono ?_
  rintro e w' ⟨q2, n2, h2, rfl, rfl⟩
  obtain rfl := ratio_inf h2
  clear h2
  go_wp2_with (fail)
  refine (kind_any _ (by decide) _).mono ?_
  rintro e w' ⟨rfl, rfl⟩
  rw [kind_inf]
  go_wp2
  go_ret
  refine ⟨rfl, ?_⟩
  repeat (first | exact Below.refl _ _ | refine below_drewN ?_ _ | refine Below.alloc ?_ (by simp; try omega) _)
end Go.Proofs.Ytcmngedjnccfaaa
