/- ScoreFirst: for every list of at most 500 words and every place: the best is a number, none is above it, none ahead is the same; a word that is no number makes no difference; the chapter's examples stand: the law answers true and changes nothing. No condition. -/
import Derived.Test.YtcmngedjnccfaaaMeans
namespace Go.Proofs.Ytcmngedjnccfaaa
open Go.ChangeShapes Go.WideShapes Go.ChangeAt Go.RowKit Fl
set_option linter.unusedVariables false

theorem getD_insert (l : List Nat) (p q i : Nat) (hp : p ≤ l.length) : (l.take p ++ [q] ++ l.drop p).getD i 0 = if i < p then l.getD i 0 else if i = p then q else l.getD (i - 1) 0 := by
  simp only [List.getD_eq_getElem?_getD]
  congr 1
  rw [List.append_assoc, List.getElem?_append, List.length_take, Nat.min_eq_left hp]
  by_cases h1 : i < p
  · rw [if_pos h1, if_pos h1, List.getElem?_take, if_pos h1]
  · rw [if_neg h1, if_neg h1]
    by_cases h2 : i = p
    · subst h2; simp
    · rw [if_neg h2]
      obtain ⟨j, rfl⟩ : ∃ j, i = p + 1 + j := ⟨i - p - 1, by omega⟩
      rw [show p + 1 + j - p = j + 1 by omega, List.singleton_append, List.getElem?_cons_succ, List.getElem?_drop]
      rw [show p + 1 + j - 1 = p + j by omega]

theorem best_insert (l : List Nat) (p q n : Nat) (hp : p ≤ l.length) (hq : isNan q = true) (h : bestV l = n) : bestV (l.take p ++ [q] ++ l.drop p) = if n < p then (n : Int) else n + 1 := by
  have hb := best_is l
  rw [h] at hb
  rcases hb with ⟨h1, _⟩ | ⟨m, h1, h2, h3, h4, h5⟩
  · omega
  · obtain rfl : n = m := by omega
    refine (best_is _).unique ?_
    have hlen : (l.take p ++ [q] ++ l.drop p).length = l.length + 1 := by simp; omega
    rw [hlen]
    have hg := fun i => getD_insert l p q i hp
    generalize l.take p ++ [q] ++ l.drop p = L at *
    by_cases hnp : n < p
    · rw [if_pos hnp]
      have e : L.getD n 0 = l.getD n 0 := by rw [hg, if_pos hnp]
      refine .inr ⟨n, rfl, by omega, by rw [e]; exact h3, fun i hi hni => ?_, fun i hi hni => ?_⟩
      · rw [e]
        rw [hg] at hni ⊢
        by_cases a : i < p
        · rw [if_pos a] at hni ⊢; exact h4 i (by omega) hni
        · rw [if_neg a] at hni ⊢
          by_cases b : i = p
          · rw [if_pos b, hq] at hni; cases hni
          · rw [if_neg b] at hni ⊢; exact h4 (i - 1) (by omega) hni
      · rw [e]
        rw [hg, if_pos (by omega)] at hni ⊢
        exact h5 i hi hni
    · rw [if_neg hnp]
      have e : L.getD (n + 1) 0 = l.getD n 0 := by rw [hg, if_neg (by omega), if_neg (by omega)]; simp
      refine .inr ⟨n + 1, by omega, by omega, by rw [e]; exact h3, fun i hi hni => ?_, fun i hi hni => ?_⟩
      · rw [e]
        rw [hg] at hni ⊢
        by_cases a : i < p
        · rw [if_pos a] at hni ⊢; exact h4 i (by omega) hni
        · rw [if_neg a] at hni ⊢
          by_cases b : i = p
          · rw [if_pos b, hq] at hni; cases hni
          · rw [if_neg b] at hni ⊢; exact h4 (i - 1) (by omega) hni
      · rw [e]
        rw [hg] at hni ⊢
        by_cases a : i < p
        · rw [if_pos a] at hni ⊢; exact h5 i (by omega) hni
        · rw [if_neg a] at hni ⊢
          by_cases b : i = p
          · rw [if_pos b, hq] at hni; cases hni
          · rw [if_neg b] at hni ⊢; exact h5 (i - 1) (by omega) hni

/-- None is above the best, none ahead is the same. -/
theorem best_facts {l : List Nat} {n : Nat} (h : bestV l = n) : n < l.length ∧ (FloatKind.f64.format.order (l.getD n 0) (l.getD n 0) == some .eq) = true ∧
    (∀ i, i < l.length → (FloatKind.f64.format.order (l.getD i 0) (l.getD n 0) == some .gt) = false) ∧ (∀ i, i < n → (FloatKind.f64.format.order (l.getD i 0) (l.getD n 0) == some .eq) = false) := by
  have hb := best_is l
  rw [h] at hb
  rcases hb with ⟨h1, _⟩ | ⟨m, h1, h2, h3, h4, h5⟩
  · omega
  · obtain rfl : n = m := by omega
    refine ⟨h2, by rw [order_self, h3]; rfl, fun i hi => ?_, fun i hi => ?_⟩
    · by_cases hx : isNan (l.getD i 0) = true
      · rw [order_nan (.inl hx)]; rfl
      · have hx' : isNan (l.getD i 0) = false := by simpa using hx
        rw [gt_key hx' h3]
        have := h4 i hi hx'
        exact decide_eq_false (by omega)
    · by_cases hx : isNan (l.getD i 0) = true
      · rw [order_nan (.inl hx)]; rfl
      · have hx' : isNan (l.getD i 0) = false := by simpa using hx
        rw [eq_key hx' h3]
        have := h5 i hi hx'
        exact decide_eq_false (by omega)

theorem best_neg {l : List Nat} (h : bestV l < 0) : bestV l = -1 ∧ ∀ i, i < l.length → (FloatKind.f64.format.order (l.getD i 0) (l.getD i 0) == some .eq) = false := by
  rcases best_is l with ⟨h1, h2⟩ | ⟨m, h1, _⟩
  · exact ⟨h1, fun i hi => by rw [order_nan (.inl (h2 i hi))]; rfl⟩
  · omega

theorem first_long (w : World) (A : Option Addr) (c n : Nat) (k : Int) (hn : 500 < n) (hm : n ≤ 9223372036854775807) : Calls Try.prog 6 #[.slice A n c, .int .i64 k] w (Okay w) := by
  have hd : decide (500 < (n : Int)) = true := by simp; omega
  go_enter Try.func6, Try.ntmps6
  go_wp2_with (fail)
  refine (known_any _).mono ?_
  rintro e w1 ⟨rfl, hb1⟩
  go_wp2
  go_ret
  exact ⟨rfl, hb1⟩

theorem first_none (w : World) (A : Option Addr) (c : Nat) (l : List Nat) (k : Int) (hl : l.length ≤ 500) (HF : Hid (FlAt w A l)) (hb : bestV l < 0) : Calls Try.prog 6 #[.slice A l.length c, .int .i64 k] w (Okay w) := by
  obtain ⟨h1, h2⟩ := best_neg hb
  have KW := Lib.hid (fun w => known_any w)
  have HB := Lib.hid (fun w h => best_any A c l w (by omega) h)
  rw [h1] at HB
  have H2 := Lib.hid h2
  clear h2 hb h1
  go_enter Try.func6, Try.ntmps6
  go_wp2_with (fail)
  refine (KW.out _).mono ?_
  rintro e w1 ⟨rfl, hb1⟩
  have HF1 := Lib.hid (HF.out.below hb1)
  go_wp2_with (fail)
  refine (HB.out _ HF1.out).mono ?_
  rintro e w' ⟨rfl, rfl⟩
  go_wp2_with (fail)
  go_loopw [6] (fun i wr => ∃ k n : Nat, k ≤ l.length ∧ i = .int .i64 k ∧ wr = w1.drewN n) (fun i _ => l.length - (intOf i).toNat)
  case atStart => exact ⟨0, 0, Nat.zero_le _, rfl, rfl⟩
  case round =>
    obtain ⟨j, n, hj, rfl, rfl⟩ := hrel
    by_cases hlt : j < l.length
    · obtain ⟨ad, rfl, hbk, hc⟩ := HF1.out j hlt
      have he := H2.out j hlt
      generalize l.getD j 0 = y at *
      go_wp2_with (fail)
      go_quiet (fail)
      go_wp2
      go_roundw
      case rel => exact ⟨j + 1, _, by omega, by go_num, rfl⟩
      case measure => simp [intOf]; omega
    · go_wp2_with (fail)
      go_wp2
      go_ret
      exact ⟨rfl, below_drewN hb1 _⟩
set_option maxHeartbeats 1600000 in
theorem first_neg_cap (w : World) (A : Option Addr) (l : List Nat) (k : Int) (hk0 : k < 0) (n : Nat) (hb : bestV l = n) (hl : l.length ≤ 500) (hcap : 0 ≤ 9223372036854775807) (HF : Hid (FlAt w A l)) (hpl : 0 ≤ l.length)
    (HD : Hid (∀ w : World, FlAt w A l → Wd.Reads w w.heap.size 1 A (l.length - 0) (fls (l.drop 0)))) : Calls Try.prog 6 #[.slice A l.length 0, .int .i64 k] w (Okay w) := by
  obtain ⟨i0, hi0, hz0, hz1, hz2⟩ := info_parts float_info
  have KW := Lib.hid (fun w => known_any w)
  obtain ⟨f1, f2, f3, f4⟩ := best_facts hb
  have HB := Lib.hid (fun w h => best_any A 0 l w (by omega) h)
  rw [hb] at HB
  have HI := Lib.hid (fun (q : Nat) (hq : isNan q = true) => best_insert l 0 q n hpl hq hb)
  have H3 := Lib.hid f3
  have H4 := Lib.hid f4
  clear hb f3 f4
  go_enter Try.func6, Try.ntmps6
  go_wp2_with (fail)
  refine (KW.out _).mono ?_
  rintro e w1 ⟨rfl, hb1⟩
  have HF1 := Lib.hid (HF.out.below hb1)
  go_wp2_with (fail)
  refine (HB.out _ HF1.out).mono ?_
  rintro e w' ⟨rfl, rfl⟩
  go_wp2_with (fail)
  go_loopw [7] (fun i wr => ∃ k m : Nat, k ≤ l.length ∧ i = .int .i64 k ∧ wr = w1.drewN m) (fun i _ => l.length - (intOf i).toNat)
  case atStart => exact ⟨0, 0, Nat.zero_le _, rfl, rfl⟩
  case round =>
    obtain ⟨j, m0, hj, rfl, rfl⟩ := hrel
    by_cases hlt : j < l.length
    · obtain ⟨ad, hA, hbk, hc⟩ := HF1.out j hlt
      obtain ⟨ad', hA', _, hc'⟩ := HF1.out n f1
      obtain rfl : ad' = ad := by rw [hA] at hA'; injection hA' with hA'; exact hA'.symm
      subst hA
      have he := H3.out j hlt
      clear hA' hbk
      by_cases hjn : j < n
      · have he2 := H4.out j hjn
        have hjd : decide ((j : Int) < n) = true := by simp; omega
        generalize l.getD j 0 = y at *
        generalize l.getD n 0 = z at *
        go_wp2_with (fail)
        go_quiet (fail)
        go_wp2
        go_roundw
        case rel => exact ⟨j + 1, _, by omega, by go_num, rfl⟩
        case measure => simp [intOf]; omega
      · have hjd : decide ((j : Int) < n) = false := by simp; omega
        generalize l.getD j 0 = y at *
        generalize l.getD n 0 = z at *
        go_wp2_with (fail)
        go_quiet (fail)
        go_wp2
        go_roundw
        case rel => exact ⟨j + 1, _, by omega, by go_num, rfl⟩
        case measure => simp [intOf]; omega
    · clear hj
      have HFd := Lib.hid (fun m => (HF1.out.take_at hpl).drewN m)
      obtain ⟨adn, hAn, _, hcn⟩ := HF1.out n f1
      have HC := Lib.hid hcn
      have HAn := Lib.hid hAn
      clear hAn
      clear hcn
      go_wp2_with
        (first
          | (at_builtin
             refine Wd.wpList_append_any _ rfl (.tmp 77) (.tmp 80) _ rfl w1.heap.size 22 i0 _ 1 8 Try.underlying32 hi0 hz0 hz1 hz2 rfl (by omega) (.slice none 0 0) 0 [] rfl
               ⟨by simp, .inl ⟨rfl, rfl⟩⟩ w1.heap.size A 0 0 (fls (l.take 0)) rfl (HFd.out _) (one_cells _) (by simp only [maxLen]; omega) (by omega) (Nat.le_refl _) ?_
             intro v1 w2 hown1 hg1 hat1
             have hbw1 : Below w1.heap.size w1 w2 := (below_drewN (Below.refl _ _) _).grown hg1 (Nat.le_refl _) (by simp [Value.ownBlock])
             simp only [Nat.zero_add, List.nil_append] at hown1))
      refine (ratio_any _ _ _).mono ?_
      rintro e w' ⟨q, n1, k1, rfl, rfl⟩
      have hq := Lib.hid (ratio_nan k1)
      clear k1
      have hown1d : (w2.drewN n1).ownsRow w1.heap.size 22 1 v1 0 (fls (l.take 0)) := hown1
      go_wp2_with
        (first
          | (at_builtin
             refine Wd.wpList_append_any _ rfl (.tmp 82) (.tmp 84) _ rfl w1.heap.size 22 i0 _ 1 8 Try.underlying32 hi0 hz0 hz1 hz2 rfl (by omega) v1 0 (fls (l.take 0)) rfl
               (hown1d.alloc _) (w2.heap.size + 1) _ 1 1 (fls [q]) rfl (reads_new (w2.drewN n1) q) (one_cells _) (by simp only [maxLen]; omega) (by omega) (by have := hbw1.size; simp; omega) ?_
             intro v2 w3 hown2 hg2 hat2
             have hbw2 : Below w1.heap.size w1 w3 := ((below_drewN hbw1 n1).alloc hbw1.size _).grown hg2 (by have := hbw1.size; simp; omega) (fun g hg => (hown1.lt g hg).1)
             have hbw2' := hbw2.size)
          | (at_builtin
             refine Wd.wpList_append_any _ rfl (.tmp 86) (.tmp 89) _ rfl w1.heap.size 22 i0 _ 1 8 Try.underlying32 hi0 hz0 hz1 hz2 rfl (by omega) v2 (0 + 1) (fls (l.take 0) ++ fls [q]) rfl
               hown2 w1.heap.size _ (l.length - 0) _ (fls (l.drop 0)) rfl ((HD.out _ HF1.out).below hbw2) (one_cells _) (by simp only [maxLen]; omega) (by omega) hbw2.size ?_
             intro v3 w4 hown3 hg3 hat3
             have hbw3 : Below w1.heap.size w1 w4 := hbw2.grown hg3 hbw2.size (fun g hg => (hown2.lt g hg).1)))
      obtain ⟨A3, c3, rfl⟩ := own_form hown3
      have hbw3s := hbw3.size
      have HL : Hid (FlAt w4 A3 (l.take 0 ++ [q] ++ l.drop 0)) := by
        have hr := Wd.Reads.of_own hown3
        refine FlAt.of_reads (B := w4.heap.size) ?_ (Nat.le_refl _)
        have e1 : (l.take 0 ++ [q] ++ l.drop 0).length = 0 + 1 + (l.length - 0) := by simp; omega
        rw [e1]
        simpa [fls] using hr
      have hlen : Hid (0 + 1 + (l.length - 0) = (l.take 0 ++ [q] ++ l.drop 0).length) := by unfold Hid; simp; omega
      have hcn : w4.cell? (adn.add n) = some (.float .f64 (l.getD n 0)) := (hbw3.cell (by have := World.block_lt_of_cell? _ _ HC.out; rw [block_of_add] at this ⊢; exact this)).trans HC.out
      have HM := Lib.hid (HI.out q hq.out)
      clear hown1 hg1 hat1 hown2 hg2 hat2 hown3 hg3 hat3 HD HFd hown1d
      refine (best_at _ _ _ _ hlen.out (by simp; omega) _ HL.out).mono ?_
      rintro e w' ⟨rfl, rfl⟩
      rw [HM.out]
      have hAn := HAn.out
      subst hAn
      generalize l.getD n 0 = z at *
      clear HM HI hlen HL
      by_cases hnp : n < 0
      · exact absurd hnp (Nat.not_lt_zero n)
      · have hnd : decide ((n : Int) < (0 : Nat)) = false := by first | (simp; done) | (simp; omega)
        have hnd2 : decide (((0 : Nat) : Int) ≤ n) = true := by first | (simp; done) | (simp; omega)
        have hee : ((n : Int) + 1 == (n : Int)) = false := by simp; omega
        have hee2 : ((n : Int) + 1 == (n : Int) + 1) = true := by simp
        rw [if_neg hnp]
        go_wp2_with (fail)
        go_quiet (fail)
        go_wp2
        go_ret
        exact ⟨by first | rfl | exact congrArg (fun b => Ending.returned (Value.bool b)) (decide_eq_true (by omega)), hb1.trans ((below_drewN hbw3 _).mono hb1.size)⟩

set_option maxHeartbeats 1600000 in
theorem first_neg (w : World) (A : Option Addr) (c : Nat) (l : List Nat) (k : Int) (hk0 : k < 0) (hlc : l.length ≤ c) (hcp : ¬ c = 0) (n : Nat) (hb : bestV l = n) (hl : l.length ≤ 500) (hcap : c ≤ 9223372036854775807) (HF : Hid (FlAt w A l)) (hpl : 0 ≤ l.length)
    (HD : Hid (∀ w : World, FlAt w A l → Wd.Reads w w.heap.size 1 A (l.length - 0) (fls (l.drop 0)))) : Calls Try.prog 6 #[.slice A l.length c, .int .i64 k] w (Okay w) := by
  obtain ⟨i0, hi0, hz0, hz1, hz2⟩ := info_parts float_info
  have KW := Lib.hid (fun w => known_any w)
  obtain ⟨f1, f2, f3, f4⟩ := best_facts hb
  have HB := Lib.hid (fun w h => best_any A c l w (by omega) h)
  rw [hb] at HB
  have HI := Lib.hid (fun (q : Nat) (hq : isNan q = true) => best_insert l 0 q n hpl hq hb)
  have H3 := Lib.hid f3
  have H4 := Lib.hid f4
  clear hb f3 f4
  go_enter Try.func6, Try.ntmps6
  go_wp2_with (fail)
  refine (KW.out _).mono ?_
  rintro e w1 ⟨rfl, hb1⟩
  have HF1 := Lib.hid (HF.out.below hb1)
  go_wp2_with (fail)
  refine (HB.out _ HF1.out).mono ?_
  rintro e w' ⟨rfl, rfl⟩
  go_wp2_with (fail)
  go_loopw [7] (fun i wr => ∃ k m : Nat, k ≤ l.length ∧ i = .int .i64 k ∧ wr = w1.drewN m) (fun i _ => l.length - (intOf i).toNat)
  case atStart => exact ⟨0, 0, Nat.zero_le _, rfl, rfl⟩
  case round =>
    obtain ⟨j, m0, hj, rfl, rfl⟩ := hrel
    by_cases hlt : j < l.length
    · obtain ⟨ad, hA, hbk, hc⟩ := HF1.out j hlt
      obtain ⟨ad', hA', _, hc'⟩ := HF1.out n f1
      obtain rfl : ad' = ad := by rw [hA] at hA'; injection hA' with hA'; exact hA'.symm
      subst hA
      have he := H3.out j hlt
      clear hA' hbk
      by_cases hjn : j < n
      · have he2 := H4.out j hjn
        have hjd : decide ((j : Int) < n) = true := by simp; omega
        generalize l.getD j 0 = y at *
        generalize l.getD n 0 = z at *
        go_wp2_with (fail)
        go_quiet (fail)
        go_wp2
        go_roundw
        case rel => exact ⟨j + 1, _, by omega, by go_num, rfl⟩
        case measure => simp [intOf]; omega
      · have hjd : decide ((j : Int) < n) = false := by simp; omega
        generalize l.getD j 0 = y at *
        generalize l.getD n 0 = z at *
        go_wp2_with (fail)
        go_quiet (fail)
        go_wp2
        go_roundw
        case rel => exact ⟨j + 1, _, by omega, by go_num, rfl⟩
        case measure => simp [intOf]; omega
    · clear hj
      have HFd := Lib.hid (fun m => (HF1.out.take_at hpl).drewN m)
      obtain ⟨adn, hAn, _, hcn⟩ := HF1.out n f1
      have HC := Lib.hid hcn
      have HAn := Lib.hid hAn
      clear hAn
      clear hcn
      go_wp2_with
        (first
          | (at_builtin
             refine Wd.wpList_append_any _ rfl (.tmp 77) (.tmp 80) _ rfl w1.heap.size 22 i0 _ 1 8 Try.underlying32 hi0 hz0 hz1 hz2 rfl (by omega) (.slice none 0 0) 0 [] rfl
               ⟨by simp, .inl ⟨rfl, rfl⟩⟩ w1.heap.size A 0 c (fls (l.take 0)) rfl (HFd.out _) (one_cells _) (by simp only [maxLen]; omega) (by omega) (Nat.le_refl _) ?_
             intro v1 w2 hown1 hg1 hat1
             have hbw1 : Below w1.heap.size w1 w2 := (below_drewN (Below.refl _ _) _).grown hg1 (Nat.le_refl _) (by simp [Value.ownBlock])
             simp only [Nat.zero_add, List.nil_append] at hown1))
      refine (ratio_any _ _ _).mono ?_
      rintro e w' ⟨q, n1, k1, rfl, rfl⟩
      have hq := Lib.hid (ratio_nan k1)
      clear k1
      have hown1d : (w2.drewN n1).ownsRow w1.heap.size 22 1 v1 0 (fls (l.take 0)) := hown1
      go_wp2_with
        (first
          | (at_builtin
             refine Wd.wpList_append_any _ rfl (.tmp 82) (.tmp 84) _ rfl w1.heap.size 22 i0 _ 1 8 Try.underlying32 hi0 hz0 hz1 hz2 rfl (by omega) v1 0 (fls (l.take 0)) rfl
               (hown1d.alloc _) (w2.heap.size + 1) _ 1 1 (fls [q]) rfl (reads_new (w2.drewN n1) q) (one_cells _) (by simp only [maxLen]; omega) (by omega) (by have := hbw1.size; simp; omega) ?_
             intro v2 w3 hown2 hg2 hat2
             have hbw2 : Below w1.heap.size w1 w3 := ((below_drewN hbw1 n1).alloc hbw1.size _).grown hg2 (by have := hbw1.size; simp; omega) (fun g hg => (hown1.lt g hg).1)
             have hbw2' := hbw2.size)
          | (at_builtin
             refine Wd.wpList_append_any _ rfl (.tmp 86) (.tmp 89) _ rfl w1.heap.size 22 i0 _ 1 8 Try.underlying32 hi0 hz0 hz1 hz2 rfl (by omega) v2 (0 + 1) (fls (l.take 0) ++ fls [q]) rfl
               hown2 w1.heap.size _ (l.length - 0) _ (fls (l.drop 0)) rfl ((HD.out _ HF1.out).below hbw2) (one_cells _) (by simp only [maxLen]; omega) (by omega) hbw2.size ?_
             intro v3 w4 hown3 hg3 hat3
             have hbw3 : Below w1.heap.size w1 w4 := hbw2.grown hg3 hbw2.size (fun g hg => (hown2.lt g hg).1)))
      obtain ⟨A3, c3, rfl⟩ := own_form hown3
      have hbw3s := hbw3.size
      have HL : Hid (FlAt w4 A3 (l.take 0 ++ [q] ++ l.drop 0)) := by
        have hr := Wd.Reads.of_own hown3
        refine FlAt.of_reads (B := w4.heap.size) ?_ (Nat.le_refl _)
        have e1 : (l.take 0 ++ [q] ++ l.drop 0).length = 0 + 1 + (l.length - 0) := by simp; omega
        rw [e1]
        simpa [fls] using hr
      have hlen : Hid (0 + 1 + (l.length - 0) = (l.take 0 ++ [q] ++ l.drop 0).length) := by unfold Hid; simp; omega
      have hcn : w4.cell? (adn.add n) = some (.float .f64 (l.getD n 0)) := (hbw3.cell (by have := World.block_lt_of_cell? _ _ HC.out; rw [block_of_add] at this ⊢; exact this)).trans HC.out
      have HM := Lib.hid (HI.out q hq.out)
      clear hown1 hg1 hat1 hown2 hg2 hat2 hown3 hg3 hat3 HD HFd hown1d
      refine (best_at _ _ _ _ hlen.out (by simp; omega) _ HL.out).mono ?_
      rintro e w' ⟨rfl, rfl⟩
      rw [HM.out]
      have hAn := HAn.out
      subst hAn
      generalize l.getD n 0 = z at *
      clear HM HI hlen HL
      by_cases hnp : n < 0
      · exact absurd hnp (Nat.not_lt_zero n)
      · have hnd : decide ((n : Int) < (0 : Nat)) = false := by first | (simp; done) | (simp; omega)
        have hnd2 : decide (((0 : Nat) : Int) ≤ n) = true := by first | (simp; done) | (simp; omega)
        have hee : ((n : Int) + 1 == (n : Int)) = false := by simp; omega
        have hee2 : ((n : Int) + 1 == (n : Int) + 1) = true := by simp
        rw [if_neg hnp]
        go_wp2_with (fail)
        go_quiet (fail)
        go_wp2
        go_ret
        exact ⟨by first | rfl | exact congrArg (fun b => Ending.returned (Value.bool b)) (decide_eq_true (by omega)), hb1.trans ((below_drewN hbw3 _).mono hb1.size)⟩

set_option maxHeartbeats 1600000 in
theorem first_pos_cap (w : World) (A : Option Addr) (c : Nat) (l : List Nat) (k : Int) (hk : k ≤ 9223372036854775807) (hk0 : 0 ≤ k) (hmod : k % ((l.length : Int) + 1) = c) (n : Nat) (hb : bestV l = n) (hl : l.length ≤ 500) (hcap : c ≤ 9223372036854775807) (HF : Hid (FlAt w A l)) (hpl : c ≤ l.length)
    (HD : Hid (∀ w : World, FlAt w A l → Wd.Reads w w.heap.size 1 A (l.length - c) (fls (l.drop c)))) : Calls Try.prog 6 #[.slice A l.length c, .int .i64 k] w (Okay w) := by
  obtain ⟨i0, hi0, hz0, hz1, hz2⟩ := info_parts float_info
  have KW := Lib.hid (fun w => known_any w)
  obtain ⟨f1, f2, f3, f4⟩ := best_facts hb
  have HB := Lib.hid (fun w h => best_any A c l w (by omega) h)
  rw [hb] at HB
  have HI := Lib.hid (fun (q : Nat) (hq : isNan q = true) => best_insert l c q n hpl hq hb)
  have H3 := Lib.hid f3
  have H4 := Lib.hid f4
  clear hb f3 f4
  go_enter Try.func6, Try.ntmps6
  go_wp2_with (fail)
  refine (KW.out _).mono ?_
  rintro e w1 ⟨rfl, hb1⟩
  have HF1 := Lib.hid (HF.out.below hb1)
  go_wp2_with (fail)
  refine (HB.out _ HF1.out).mono ?_
  rintro e w' ⟨rfl, rfl⟩
  go_wp2_with (fail)
  go_loopw [7] (fun i wr => ∃ k m : Nat, k ≤ l.length ∧ i = .int .i64 k ∧ wr = w1.drewN m) (fun i _ => l.length - (intOf i).toNat)
  case atStart => exact ⟨0, 0, Nat.zero_le _, rfl, rfl⟩
  case round =>
    obtain ⟨j, m0, hj, rfl, rfl⟩ := hrel
    by_cases hlt : j < l.length
    · obtain ⟨ad, hA, hbk, hc⟩ := HF1.out j hlt
      obtain ⟨ad', hA', _, hc'⟩ := HF1.out n f1
      obtain rfl : ad' = ad := by rw [hA] at hA'; injection hA' with hA'; exact hA'.symm
      subst hA
      have he := H3.out j hlt
      clear hA' hbk
      by_cases hjn : j < n
      · have he2 := H4.out j hjn
        have hjd : decide ((j : Int) < n) = true := by simp; omega
        generalize l.getD j 0 = y at *
        generalize l.getD n 0 = z at *
        go_wp2_with (fail)
        go_quiet (fail)
        go_wp2
        go_roundw
        case rel => exact ⟨j + 1, _, by omega, by go_num, rfl⟩
        case measure => simp [intOf]; omega
      · have hjd : decide ((j : Int) < n) = false := by simp; omega
        generalize l.getD j 0 = y at *
        generalize l.getD n 0 = z at *
        go_wp2_with (fail)
        go_quiet (fail)
        go_wp2
        go_roundw
        case rel => exact ⟨j + 1, _, by omega, by go_num, rfl⟩
        case measure => simp [intOf]; omega
    · clear hj
      have HFd := Lib.hid (fun m => (HF1.out.take_at hpl).drewN m)
      obtain ⟨adn, hAn, _, hcn⟩ := HF1.out n f1
      have HC := Lib.hid hcn
      have HAn := Lib.hid hAn
      clear hAn
      clear hcn
      go_wp2_with
        (first
          | (at_builtin
             refine Wd.wpList_append_any _ rfl (.tmp 77) (.tmp 80) _ rfl w1.heap.size 22 i0 _ 1 8 Try.underlying32 hi0 hz0 hz1 hz2 rfl (by omega) (.slice none 0 0) 0 [] rfl
               ⟨by simp, .inl ⟨rfl, rfl⟩⟩ w1.heap.size A c c (fls (l.take c)) rfl (HFd.out _) (one_cells _) (by simp only [maxLen]; omega) (by omega) (Nat.le_refl _) ?_
             intro v1 w2 hown1 hg1 hat1
             have hbw1 : Below w1.heap.size w1 w2 := (below_drewN (Below.refl _ _) _).grown hg1 (Nat.le_refl _) (by simp [Value.ownBlock])
             simp only [Nat.zero_add, List.nil_append] at hown1))
      refine (ratio_any _ _ _).mono ?_
      rintro e w' ⟨q, n1, k1, rfl, rfl⟩
      have hq := Lib.hid (ratio_nan k1)
      clear k1
      have hown1d : (w2.drewN n1).ownsRow w1.heap.size 22 1 v1 c (fls (l.take c)) := hown1
      go_wp2_with
        (first
          | (at_builtin
             refine Wd.wpList_append_any _ rfl (.tmp 82) (.tmp 84) _ rfl w1.heap.size 22 i0 _ 1 8 Try.underlying32 hi0 hz0 hz1 hz2 rfl (by omega) v1 c (fls (l.take c)) rfl
               (hown1d.alloc _) (w2.heap.size + 1) _ 1 1 (fls [q]) rfl (reads_new (w2.drewN n1) q) (one_cells _) (by simp only [maxLen]; omega) (by omega) (by have := hbw1.size; simp; omega) ?_
             intro v2 w3 hown2 hg2 hat2
             have hbw2 : Below w1.heap.size w1 w3 := ((below_drewN hbw1 n1).alloc hbw1.size _).grown hg2 (by have := hbw1.size; simp; omega) (fun g hg => (hown1.lt g hg).1)
             have hbw2' := hbw2.size)
          | (at_builtin
             refine Wd.wpList_append_any _ rfl (.tmp 86) (.tmp 89) _ rfl w1.heap.size 22 i0 _ 1 8 Try.underlying32 hi0 hz0 hz1 hz2 rfl (by omega) v2 (c + 1) (fls (l.take c) ++ fls [q]) rfl
               hown2 w1.heap.size _ (l.length - c) _ (fls (l.drop c)) rfl ((HD.out _ HF1.out).below hbw2) (one_cells _) (by simp only [maxLen]; omega) (by omega) hbw2.size ?_
             intro v3 w4 hown3 hg3 hat3
             have hbw3 : Below w1.heap.size w1 w4 := hbw2.grown hg3 hbw2.size (fun g hg => (hown2.lt g hg).1)))
      obtain ⟨A3, c3, rfl⟩ := own_form hown3
      have hbw3s := hbw3.size
      have HL : Hid (FlAt w4 A3 (l.take c ++ [q] ++ l.drop c)) := by
        have hr := Wd.Reads.of_own hown3
        refine FlAt.of_reads (B := w4.heap.size) ?_ (Nat.le_refl _)
        have e1 : (l.take c ++ [q] ++ l.drop c).length = c + 1 + (l.length - c) := by simp; omega
        rw [e1]
        simpa [fls] using hr
      have hlen : Hid (c + 1 + (l.length - c) = (l.take c ++ [q] ++ l.drop c).length) := by unfold Hid; simp; omega
      have hcn : w4.cell? (adn.add n) = some (.float .f64 (l.getD n 0)) := (hbw3.cell (by have := World.block_lt_of_cell? _ _ HC.out; rw [block_of_add] at this ⊢; exact this)).trans HC.out
      have HM := Lib.hid (HI.out q hq.out)
      clear hown1 hg1 hat1 hown2 hg2 hat2 hown3 hg3 hat3 HD HFd hown1d
      refine (best_at _ _ _ _ hlen.out (by simp; omega) _ HL.out).mono ?_
      rintro e w' ⟨rfl, rfl⟩
      rw [HM.out]
      have hAn := HAn.out
      subst hAn
      generalize l.getD n 0 = z at *
      clear HM HI hlen HL
      by_cases hnp : n < c
      ·
        have hnd : decide ((n : Int) < (c : Nat)) = true := by first | (simp; done) | (simp; omega)
        have hnd2 : decide (((c : Nat) : Int) ≤ n) = false := by first | (simp; done) | (simp; omega)
        have hee : ((n : Int) == (n : Int)) = true := by simp
        rw [if_pos hnp]
        go_wp2_with (fail)
        go_quiet (fail)
        go_wp2
        go_ret
        exact ⟨by first | rfl | exact congrArg (fun b => Ending.returned (Value.bool b)) (decide_eq_true (by omega)), hb1.trans ((below_drewN hbw3 _).mono hb1.size)⟩
      · have hnd : decide ((n : Int) < (c : Nat)) = false := by first | (simp; done) | (simp; omega)
        have hnd2 : decide (((c : Nat) : Int) ≤ n) = true := by first | (simp; done) | (simp; omega)
        have hee : ((n : Int) + 1 == (n : Int)) = false := by simp; omega
        have hee2 : ((n : Int) + 1 == (n : Int) + 1) = true := by simp
        rw [if_neg hnp]
        go_wp2_with (fail)
        go_quiet (fail)
        go_wp2
        go_ret
        exact ⟨by first | rfl | exact congrArg (fun b => Ending.returned (Value.bool b)) (decide_eq_true (by omega)), hb1.trans ((below_drewN hbw3 _).mono hb1.size)⟩

set_option maxHeartbeats 1600000 in
theorem first_pos (w : World) (A : Option Addr) (c p : Nat) (l : List Nat) (k : Int) (hk : k ≤ 9223372036854775807) (hk0 : 0 ≤ k) (hlc : l.length ≤ c) (hcp : ¬ c = p) (hmod : k % ((l.length : Int) + 1) = p) (n : Nat) (hb : bestV l = n) (hl : l.length ≤ 500) (hcap : c ≤ 9223372036854775807) (HF : Hid (FlAt w A l)) (hpl : p ≤ l.length)
    (HD : Hid (∀ w : World, FlAt w A l → Wd.Reads w w.heap.size 1 (A.map (fun x => x.add p)) (l.length - p) (fls (l.drop p)))) : Calls Try.prog 6 #[.slice A l.length c, .int .i64 k] w (Okay w) := by
  obtain ⟨i0, hi0, hz0, hz1, hz2⟩ := info_parts float_info
  have KW := Lib.hid (fun w => known_any w)
  obtain ⟨f1, f2, f3, f4⟩ := best_facts hb
  have HB := Lib.hid (fun w h => best_any A c l w (by omega) h)
  rw [hb] at HB
  have HI := Lib.hid (fun (q : Nat) (hq : isNan q = true) => best_insert l p q n hpl hq hb)
  have H3 := Lib.hid f3
  have H4 := Lib.hid f4
  clear hb f3 f4
  go_enter Try.func6, Try.ntmps6
  go_wp2_with (fail)
  refine (KW.out _).mono ?_
  rintro e w1 ⟨rfl, hb1⟩
  have HF1 := Lib.hid (HF.out.below hb1)
  go_wp2_with (fail)
  refine (HB.out _ HF1.out).mono ?_
  rintro e w' ⟨rfl, rfl⟩
  go_wp2_with (fail)
  go_loopw [7] (fun i wr => ∃ k m : Nat, k ≤ l.length ∧ i = .int .i64 k ∧ wr = w1.drewN m) (fun i _ => l.length - (intOf i).toNat)
  case atStart => exact ⟨0, 0, Nat.zero_le _, rfl, rfl⟩
  case round =>
    obtain ⟨j, m0, hj, rfl, rfl⟩ := hrel
    by_cases hlt : j < l.length
    · obtain ⟨ad, hA, hbk, hc⟩ := HF1.out j hlt
      obtain ⟨ad', hA', _, hc'⟩ := HF1.out n f1
      obtain rfl : ad' = ad := by rw [hA] at hA'; injection hA' with hA'; exact hA'.symm
      subst hA
      have he := H3.out j hlt
      clear hA' hbk
      by_cases hjn : j < n
      · have he2 := H4.out j hjn
        have hjd : decide ((j : Int) < n) = true := by simp; omega
        generalize l.getD j 0 = y at *
        generalize l.getD n 0 = z at *
        go_wp2_with (fail)
        go_quiet (fail)
        go_wp2
        go_roundw
        case rel => exact ⟨j + 1, _, by omega, by go_num, rfl⟩
        case measure => simp [intOf]; omega
      · have hjd : decide ((j : Int) < n) = false := by simp; omega
        generalize l.getD j 0 = y at *
        generalize l.getD n 0 = z at *
        go_wp2_with (fail)
        go_quiet (fail)
        go_wp2
        go_roundw
        case rel => exact ⟨j + 1, _, by omega, by go_num, rfl⟩
        case measure => simp [intOf]; omega
    · clear hj
      have HFd := Lib.hid (fun m => (HF1.out.take_at hpl).drewN m)
      obtain ⟨adn, hAn, _, hcn⟩ := HF1.out n f1
      have HC := Lib.hid hcn
      have HAn := Lib.hid hAn
      clear hAn
      clear hcn
      go_wp2_with
        (first
          | (at_builtin
             refine Wd.wpList_append_any _ rfl (.tmp 77) (.tmp 80) _ rfl w1.heap.size 22 i0 _ 1 8 Try.underlying32 hi0 hz0 hz1 hz2 rfl (by omega) (.slice none 0 0) 0 [] rfl
               ⟨by simp, .inl ⟨rfl, rfl⟩⟩ w1.heap.size A p c (fls (l.take p)) rfl (HFd.out _) (one_cells _) (by simp only [maxLen]; omega) (by omega) (Nat.le_refl _) ?_
             intro v1 w2 hown1 hg1 hat1
             have hbw1 : Below w1.heap.size w1 w2 := (below_drewN (Below.refl _ _) _).grown hg1 (Nat.le_refl _) (by simp [Value.ownBlock])
             simp only [Nat.zero_add, List.nil_append] at hown1))
      refine (ratio_any _ _ _).mono ?_
      rintro e w' ⟨q, n1, k1, rfl, rfl⟩
      have hq := Lib.hid (ratio_nan k1)
      clear k1
      have hown1d : (w2.drewN n1).ownsRow w1.heap.size 22 1 v1 p (fls (l.take p)) := hown1
      go_wp2_with
        (first
          | (at_builtin
             refine Wd.wpList_append_any _ rfl (.tmp 82) (.tmp 84) _ rfl w1.heap.size 22 i0 _ 1 8 Try.underlying32 hi0 hz0 hz1 hz2 rfl (by omega) v1 p (fls (l.take p)) rfl
               (hown1d.alloc _) (w2.heap.size + 1) _ 1 1 (fls [q]) rfl (reads_new (w2.drewN n1) q) (one_cells _) (by simp only [maxLen]; omega) (by omega) (by have := hbw1.size; simp; omega) ?_
             intro v2 w3 hown2 hg2 hat2
             have hbw2 : Below w1.heap.size w1 w3 := ((below_drewN hbw1 n1).alloc hbw1.size _).grown hg2 (by have := hbw1.size; simp; omega) (fun g hg => (hown1.lt g hg).1)
             have hbw2' := hbw2.size)
          | (at_builtin
             refine Wd.wpList_append_any _ rfl (.tmp 86) (.tmp 89) _ rfl w1.heap.size 22 i0 _ 1 8 Try.underlying32 hi0 hz0 hz1 hz2 rfl (by omega) v2 (p + 1) (fls (l.take p) ++ fls [q]) rfl
               hown2 w1.heap.size _ (l.length - p) _ (fls (l.drop p)) rfl ((HD.out _ HF1.out).below hbw2) (one_cells _) (by simp only [maxLen]; omega) (by omega) hbw2.size ?_
             intro v3 w4 hown3 hg3 hat3
             have hbw3 : Below w1.heap.size w1 w4 := hbw2.grown hg3 hbw2.size (fun g hg => (hown2.lt g hg).1)))
      obtain ⟨A3, c3, rfl⟩ := own_form hown3
      have hbw3s := hbw3.size
      have HL : Hid (FlAt w4 A3 (l.take p ++ [q] ++ l.drop p)) := by
        have hr := Wd.Reads.of_own hown3
        refine FlAt.of_reads (B := w4.heap.size) ?_ (Nat.le_refl _)
        have e1 : (l.take p ++ [q] ++ l.drop p).length = p + 1 + (l.length - p) := by simp; omega
        rw [e1]
        simpa [fls] using hr
      have hlen : Hid (p + 1 + (l.length - p) = (l.take p ++ [q] ++ l.drop p).length) := by unfold Hid; simp; omega
      have hcn : w4.cell? (adn.add n) = some (.float .f64 (l.getD n 0)) := (hbw3.cell (by have := World.block_lt_of_cell? _ _ HC.out; rw [block_of_add] at this ⊢; exact this)).trans HC.out
      have HM := Lib.hid (HI.out q hq.out)
      clear hown1 hg1 hat1 hown2 hg2 hat2 hown3 hg3 hat3 HD HFd hown1d
      refine (best_at _ _ _ _ hlen.out (by simp; omega) _ HL.out).mono ?_
      rintro e w' ⟨rfl, rfl⟩
      rw [HM.out]
      have hAn := HAn.out
      subst hAn
      generalize l.getD n 0 = z at *
      clear HM HI hlen HL
      by_cases hnp : n < p
      ·
        have hnd : decide ((n : Int) < (p : Nat)) = true := by first | (simp; done) | (simp; omega)
        have hnd2 : decide (((p : Nat) : Int) ≤ n) = false := by first | (simp; done) | (simp; omega)
        have hee : ((n : Int) == (n : Int)) = true := by simp
        rw [if_pos hnp]
        go_wp2_with (fail)
        go_quiet (fail)
        go_wp2
        go_ret
        exact ⟨by first | rfl | exact congrArg (fun b => Ending.returned (Value.bool b)) (decide_eq_true (by omega)), hb1.trans ((below_drewN hbw3 _).mono hb1.size)⟩
      · have hnd : decide ((n : Int) < (p : Nat)) = false := by first | (simp; done) | (simp; omega)
        have hnd2 : decide (((p : Nat) : Int) ≤ n) = true := by first | (simp; done) | (simp; omega)
        have hee : ((n : Int) + 1 == (n : Int)) = false := by simp; omega
        have hee2 : ((n : Int) + 1 == (n : Int) + 1) = true := by simp
        rw [if_neg hnp]
        go_wp2_with (fail)
        go_quiet (fail)
        go_wp2
        go_ret
        exact ⟨by first | rfl | exact congrArg (fun b => Ending.returned (Value.bool b)) (decide_eq_true (by omega)), hb1.trans ((below_drewN hbw3 _).mono hb1.size)⟩

theorem first_walk (w : World) (A : Option Addr) (c : Nat) (l : List Nat) (k : Int) (hl : l.length ≤ 500) (hlc : l.length ≤ c) (hcap : c ≤ 9223372036854775807) (h : FlAt w A l) (hk : -9223372036854775808 ≤ k ∧ k ≤ 9223372036854775807) :
    Calls Try.prog 6 #[.slice A l.length c, .int .i64 k] w (Okay w) := by
  obtain ⟨p, hp, hpl⟩ : ∃ p : Nat, max k 0 % ((l.length : Int) + 1) = p ∧ p ≤ l.length := by
    have h1 := Int.emod_nonneg (max k 0) (show ((l.length : Int) + 1) ≠ 0 by omega)
    have h2 := Int.emod_lt_of_pos (max k 0) (show 0 < ((l.length : Int) + 1) by omega)
    exact ⟨(max k 0 % ((l.length : Int) + 1)).toNat, by omega, by omega⟩
  have HD : ∀ w : World, FlAt w A l → Wd.Reads w w.heap.size 1 (if c = p then A else A.map (·.add (p * 1))) (l.length - p) (fls (l.drop p)) := fun w h => h.drop hpl hlc
  by_cases hbn : bestV l < 0
  · exact first_none w A c l k hl h hbn
  obtain ⟨n, hb⟩ : ∃ n : Nat, bestV l = n := ⟨(bestV l).toNat, by omega⟩
  by_cases hk0 : k < 0
  · have hp0 : p = 0 := by
      have : max k 0 = 0 := by omega
      rw [this] at hp
      simp at hp
      omega
    subst hp0
    by_cases hcp : c = 0
    · subst hcp
      rw [if_pos rfl] at HD
      exact first_neg_cap w A l k hk0 n hb hl hcap h hpl HD
    · rw [if_neg hcp, show A.map (fun x => x.add (0 * 1)) = A by cases A <;> rfl] at HD
      exact first_neg w A c l k hk0 hlc hcp n hb hl hcap h hpl HD
  · have hmod : k % ((l.length : Int) + 1) = p := by rw [← hp]; congr 1; omega
    by_cases hcp : c = p
    · subst hcp
      rw [if_pos rfl] at HD
      exact first_pos_cap w A c l k hk.2 (by omega) hmod n hb hl hcap h hpl HD
    · rw [if_neg hcp, Nat.mul_one] at HD
      exact first_pos w A c p l k hk.2 (by omega) hlc hcp hmod n hb hl hcap h hpl HD

set_option maxRecDepth 100000 in
theorem scoreFirst_lifted (os : Os) (started : os.Started) (H : Type) (enc : TypeId × Value → H) :
    ReturnsInHanded {} Try.checked os 6 .any (Rows.scoreFirstSpec.pre6 enc Try.prog Try.f6 Rows.scoreFirstRow.domain false) (Rows.scoreFirstSpec.post enc Try.prog Try.f6 false true false false) := by
  refine returnsInHanded_of_change (C := Try.checked) own started (by kernel_rfl) Try.func6
    (ChangeSpec.witness6 (enc := enc) (C := Try.checked) false ⟨#[], #[.slice none 0 0, .int .i64 0], []⟩ 8 (by kernel_rfl) (by kernel_rfl) (by kernel_rfl) (by kernel_rfl)) ?_
  intro W base args ds gs before hval0 hW hcnd _
  have hval : ∀ (j : Nat) t v, Try.f6.params[j]? = some t → args[j]? = some v → Value.okWide Try.prog W .any base t v := hval0
  have hpost : ∀ e W', Okay W e W' → ∃ v, e = .returned v ∧ Rows.scoreFirstSpec.post enc Try.prog Try.f6 false true false false W args v W' := fun e W' h =>
    ⟨_, h.1, law_post laidOut (by kernel_rfl) (by kernel_rfl) Try.underlying4 rfl (fun ds hd => by
      match ds, hd with
      | [_, _], _ => rfl) hW h.2⟩
  obtain ⟨p, q, hA0, hV, rfl, hfz, hnd⟩ := hW
  have hA : DataW.TrodAll enc Try.prog W 0 (fun _ => true) true Try.f6.params.toList args.toList ds p := hA0
  rw [Try.params6] at hA hval
  obtain ⟨v0, vs0, d0, ds0, p0, q0, hargs, rfl, rfl, h0, r0⟩ := trodAll_cons hA
  obtain ⟨v1, vs1, d1, ds1, p1, q1, rfl, rfl, rfl, h1, r1⟩ := trodAll_cons r0
  obtain ⟨rfl, rfl, rfl⟩ := trodAll_nil r1
  obtain rfl : args = #[v0, v1] := by cases args; simp_all
  obtain ⟨a1, rfl, rfl, rfl, w1⟩ := open_int Try.underlying3 (hval 1 3 v1 rfl rfl) h1
  obtain ⟨A, c, l, rfl, hA2, hlen, hlc, hcm, _⟩ := open_floats_cap Try.underlying32 Try.underlying22 (by kernel_rfl) (hval 0 32 v0 rfl rfl) h0
  unfold maxLen at hcm
  by_cases hlong : 500 < l.length
  · exact (first_long W A c _ a1 hlong (by omega)).mono hpost
  · exact (first_walk W A c l a1 (by omega) hlc hcm hA2 (by simpa [Lit.wf, IntKind.min, IntKind.max, IntKind.signed, IntKind.bits] using w1)).mono hpost

theorem scoreFirst_holds : Rows.ScoreFirstSaid :=
  OpenClaim.holds_of_wide 6 Try.f6 rfl rfl rfl rfl rfl rfl rfl ⟨rfl, rfl, rfl, rfl, rfl⟩ rfl rfl rfl rfl rfl (by kernel_rfl) Try.func6 (by kernel_rfl)
    (of_decide_eq_true (by kernel_rfl)) (by unfold Func.isWrapper; first | (rw [if_pos (by decide +kernel)]; kernel_rfl) | (rw [if_neg (by decide +kernel)]; exact ⟨rfl, rfl⟩))
    (fun os started H enc _ => scoreFirst_lifted os started H enc)
#print axioms scoreFirst_holds
end Go.Proofs.Ytcmngedjnccfaaa
