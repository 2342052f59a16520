/- ScoreMeans: for every list of at most 200 words, every place and every word x: a word that is no number makes no difference to the list's mean; the mean of x alone is x (or nought, or no number, as x is); of none it is no number; the chapter's examples stand: the law answers true and changes nothing. No condition. -/
import Derived.Test.YtcmngedjnccfaaaBests
import Derived.Test.YtcmngedjnccfaaaWd
import Derived.Test.YtcmngedjnccfaaaMp
namespace Go.Proofs.Ytcmngedjnccfaaa
open Go.ChangeShapes Go.WideShapes Go.ChangeAt Go.RowKit Fl
set_option linter.unusedVariables false

def fls (l : List Nat) : List Value := l.map (Value.float .f64)

theorem FlAt.reads {w : World} {A : Option Addr} {l : List Nat} (h : FlAt w A l) : Wd.Reads w w.heap.size 1 A l.length (fls l) := by
  refine ⟨by simp [fls], fun hn => ?_⟩
  obtain ⟨ad, rfl, hb, _⟩ := h 0 hn
  refine ⟨ad, rfl, hb, fun j u hu => ?_⟩
  have hj : j < l.length := by
    have := (List.getElem?_eq_some_iff.1 hu).1
    simpa [fls] using this
  obtain ⟨ad', e, _, hc⟩ := h j hj
  injection e with e; subst e
  rw [hc]
  simp only [fls, List.getElem?_map, List.getElem?_eq_getElem hj, Option.map_some, Option.some.injEq] at hu
  rw [← hu]; simp [List.getD_eq_getElem?_getD, hj]

theorem FlAt.of_reads {w : World} {B : Nat} {A : Option Addr} {l : List Nat} (h : Wd.Reads w B 1 A l.length (fls l)) (hB : B ≤ w.heap.size) : FlAt w A l := by
  intro k hk
  obtain ⟨ad, rfl, hb, hc⟩ := h.2 (by omega)
  exact ⟨ad, rfl, by omega, hc k _ (by simp [fls, List.getD_eq_getElem?_getD, hk])⟩

theorem FlAt.take {w : World} {A : Option Addr} {l : List Nat} (h : FlAt w A l) (k : Nat) : FlAt w A (l.take k) := by
  intro j hj
  simp only [List.length_take] at hj
  obtain ⟨ad, e, hb, hc⟩ := h j (by omega)
  exact ⟨ad, e, hb, by rw [hc]; simp [List.getD_eq_getElem?_getD, show j < k by omega]⟩

theorem own_form {w : World} {base : Nat} {e : TypeId} {v : Value} {n : Nat} {xs : List Value} (h : w.ownsRow base e 1 v n xs) : ∃ A c, v = .slice A n c := by
  rcases h.2 with ⟨rfl, rfl⟩ | ⟨g, cap, cur, rfl, _⟩
  · have := h.1
    simp at this
    subst this; exact ⟨none, 0, rfl⟩
  · exact ⟨_, _, rfl⟩

theorem float_info : (Try.prog.info? 22).map (fun i => (i.zero, i.size, i.bytes)) = some (some (.float .f64 0), 1, 8) := by kernel_rfl

theorem means_known (w : World) (A : Option Addr) (c n : Nat) (k : Int) (x : Nat) (hn : 200 < n) (hm : n ≤ 9223372036854775807) : Calls Try.prog 10 #[.slice A n c, .int .i64 k, .float .f64 x] w (Okay w) := by
  have hd : decide (200 < (n : Int)) = true := by simp; omega
  go_enter Try.func10, Try.ntmps10
  go_wp2_with (fail)
  refine (known_any _).mono ?_
  rintro e w1 ⟨rfl, hb1⟩
  go_wp2
  go_ret
  exact ⟨rfl, hb1⟩

theorem one_cells (l : List Nat) : ∀ u ∈ fls l, u.oneCell' = true := by
  intro u hu
  simp only [fls, List.mem_map] at hu
  obtain ⟨a, _, rfl⟩ := hu
  rfl

/-- A new block of one word, as a list. -/
theorem reads_new (w : World) (q : Nat) : Wd.Reads (w.alloc (.cells #[.float .f64 q] 22)) (w.heap.size + 1) 1 (some ⟨w.heap.size, 0, none⟩) 1 (fls [q]) := by
  refine ⟨rfl, fun _ => ⟨_, rfl, by simp, fun j u hu => ?_⟩⟩
  match j, hu with
  | 0, hu =>
    simp [fls] at hu
    subst hu
    simp [go_sem, Addr.add]
  | j + 1, hu => simp [fls] at hu

theorem FlAt.take_at {w : World} {A : Option Addr} {l : List Nat} (h : FlAt w A l) {p : Nat} (hp : p ≤ l.length) : Wd.Reads w w.heap.size 1 A p (fls (l.take p)) := by
  have := (h.take p).reads
  rwa [List.length_take, Nat.min_eq_left hp] at this

theorem FlAt.drop {w : World} {A : Option Addr} {c : Nat} {l : List Nat} (h : FlAt w A l) {p : Nat} (hp : p ≤ l.length) (hc : l.length ≤ c) :
    Wd.Reads w w.heap.size 1 (if c = p then A else A.map (·.add (p * 1))) (l.length - p) (fls (l.drop p)) := by
  have := h.reads.cut hp hc
  simpa [fls, List.map_drop] using this

theorem filter_insert (l : List Nat) (p q : Nat) (hq : isNan q = true) : (l.take p ++ [q] ++ l.drop p).filter (fun x => !isNan x) = l.filter (fun x => !isNan x) := by
  rw [List.filter_append, List.filter_append, List.filter_cons, hq]
  simp only [Bool.not_true, Bool.false_eq_true, if_false, List.filter_nil, List.append_nil]
  rw [← List.filter_append, List.take_append_drop]

theorem FlAt.alloc_drewN {w : World} {A : Option Addr} {l : List Nat} (h : FlAt w A l) (o : Obj) (n : Nat) : FlAt ((w.alloc o).drewN n) A l :=
  (h.below ((Below.refl _ _).alloc (Nat.le_refl _) o)).drewN n

theorem mean_at (A : Option Addr) (c m : Nat) (l : List Nat) (hm : m = l.length) (hl : l.length ≤ 65536) (w : World) (h : FlAt w A l) : Calls Try.prog 23 #[.slice A m c] w (SomeF (MeanIs l) w) := by subst hm; exact mean_any A c l w hl h

theorem open_floats_cap {H : Type} {enc : TypeId × Value → H} {P : Program} {w : World} {base : Nat} {spare : Nat → Bool} {held : Bool} {t e : TypeId} {b0 : Nat} {r : Reach} {v : Value} {d : DataW H} {ps : List MemPlace} (ht : P.underlying t = some (.slice e)) (he : P.underlying e = some (.float .f64)) (hc : P.cellsOf e = 1)
    (hval : Value.okWide P w r b0 t v) (h : DataW.Trod enc P w base spare held t v d ps) : ∃ A c l, v = .slice A (List.length l) c ∧ FlAt w A l ∧ l.length ≤ maxLen ∧ l.length ≤ c ∧ c ≤ maxLen ∧ ∀ x ∈ l, x < 18446744073709551616 := by
  obtain ⟨A, c, l, rfl, h1, h2, h3⟩ := open_floats ht he hc hval h
  refine ⟨A, c, l, rfl, h1, h2, ?_, ?_, h3⟩
  all_goals
    obtain ⟨fuel, hf⟩ := h
    rcases Deep.open_slice1 ht hc hf with ⟨hcs, _⟩ | ⟨a, len', cap', m, n, V, D, Pl, hcs, _, hl, hm, hmm, _, hx⟩
    · simp only [Value.cells, List.cons.injEq, and_true] at hcs
      injection hcs with k1 k2 k3
      subst k3
      omega
    · simp only [Value.cells, List.cons.injEq, and_true] at hcs
      injection hcs with k1 k2 k3
      subst k3
      omega

set_option maxHeartbeats 800000 in
theorem means_neg_cap (w : World) (A : Option Addr) (l : List Nat) (k : Int) (hk0 : k < 0) (x : Nat) (hl : l.length ≤ 200) (hcap : 0 ≤ 9223372036854775807) (HF : Hid (FlAt w A l)) (hx : x < 18446744073709551616) (hpl : 0 ≤ l.length)
    (HD : Hid (∀ w : World, FlAt w A l → Wd.Reads w w.heap.size 1 A (l.length - 0) (fls (l.drop 0)))) : Calls Try.prog 10 #[.slice A l.length 0, .int .i64 k, .float .f64 x] w (Okay w) := by
  obtain ⟨i0, hi0, hz0, hz1, hz2⟩ := info_parts float_info
  have KW := Lib.hid (fun w => known_any w)
  cases hz : (FloatKind.f64.format.order x 0 == some .eq)
  all_goals
    go_enter Try.func10, Try.ntmps10
    go_wp2_with (fail)
    refine (KW.out _).mono ?_
    rintro e w1 ⟨rfl, hb1⟩
    have HF1 := Lib.hid (HF.out.below hb1)
    go_wp2_with (fail)
    refine (ratio_any _ _ _).mono ?_
    rintro e w' ⟨q, n1, k1, rfl, rfl⟩
    have hq := Lib.hid (ratio_nan k1)
    clear k1
    go_wp2_with
      (first
        | (at_builtin
           refine Wd.wpList_append_any _ rfl (.tmp 26) (.tmp 29) _ rfl w1.heap.size 22 i0 _ 1 8 Try.underlying32 hi0 hz0 hz1 hz2 rfl (by omega) (.slice none 0 0) 0 [] rfl
             ⟨by simp, .inl ⟨rfl, rfl⟩⟩ w1.heap.size A 0 0 (fls (l.take 0)) rfl ((HF1.out.take_at hpl).drewN _) (one_cells _) (by simp only [maxLen]; omega) (by omega) (Nat.le_refl _) ?_
           intro v1 w2 hown1 hg1 hat1
           have hbw1 : Below w1.heap.size w1 w2 := (below_drewN (Below.refl _ _) n1).grown hg1 (Nat.le_refl _) (by simp [Value.ownBlock])
           simp only [Nat.zero_add, List.nil_append] at hown1)
        | (at_builtin
           refine Wd.wpList_append_any _ rfl (.tmp 31) (.tmp 33) _ rfl w1.heap.size 22 i0 _ 1 8 Try.underlying32 hi0 hz0 hz1 hz2 rfl (by omega) v1 0 (fls (l.take 0)) rfl
             (hown1.alloc _) (w2.heap.size + 1) _ 1 1 (fls [q]) rfl (reads_new w2 q) (one_cells _) (by simp only [maxLen]; omega) (by omega) (by have := hbw1.size; simp; omega) ?_
           intro v2 w3 hown2 hg2 hat2
           have hbw2 : Below w1.heap.size w1 w3 := (hbw1.alloc hbw1.size _).grown hg2 (by have := hbw1.size; simp; omega) (fun g hg => (hown1.lt g hg).1)
           have hbw2' := hbw2.size)
        | (at_builtin
           refine Wd.wpList_append_any _ rfl (.tmp 35) (.tmp 38) _ rfl w1.heap.size 22 i0 _ 1 8 Try.underlying32 hi0 hz0 hz1 hz2 rfl (by omega) v2 (0 + 1) (fls (l.take 0) ++ fls [q]) rfl
             hown2 w1.heap.size _ (l.length - 0) _ (fls (l.drop 0)) rfl ((HD.out _ HF1.out).below hbw2) (one_cells _) (by simp only [maxLen]; omega) (by omega) hbw2.size ?_
           intro v3 w4 hown3 hg3 hat3
           have hbw3 : Below w1.heap.size w1 w4 := hbw2.grown hg3 hbw2.size (fun g hg => (hown2.lt g hg).1)))
    obtain ⟨A3, c3, rfl⟩ := own_form hown3
    have hbw3s := hbw3.size
    have HL : Hid (FlAt w4 A3 (l.take 0 ++ [q] ++ l.drop 0)) := by
      have hr := Wd.Reads.of_own hown3
      refine FlAt.of_reads (B := w4.heap.size) ?_ (Nat.le_refl _)
      have e1 : (l.take 0 ++ [q] ++ l.drop 0).length = 0 + 1 + (l.length - 0) := by simp; omega
      rw [e1]
      simpa [fls] using hr
    have hlen : Hid (0 + 1 + (l.length - 0) = (l.take 0 ++ [q] ++ l.drop 0).length) := by unfold Hid; simp; omega
    have HF4 := Lib.hid (HF1.out.below hbw3)
    have HE := Lib.hid (filter_insert l 0 q hq.out)
    clear hown1 hg1 hat1 hown2 hg2 hat2 hown3 hg3 hat3 HD
    refine (mean_at _ _ 1 [x] rfl (by simp) _ (fl_new1 _ _ _ rfl)).mono ?_
    rintro e w' ⟨r0, n0, h0, rfl, rfl⟩
    have HR := Lib.hid h0
    have hr0 := h0.lt
    clear h0
    go_wp2_with (fail)
    refine (mean_at _ _ _ _ hlen.out (by simp; omega) _ (HL.out.alloc_drewN _ _)).mono ?_
    rintro e w' ⟨r1, m1, h1, rfl, rfl⟩
    go_wp2_with (fail)
    refine (mean_at _ _ _ l rfl (by omega) _ (HF4.out.alloc_drewN _ _)).mono ?_
    rintro e w' ⟨r2, m2, h2, rfl, rfl⟩
    have HS := Lib.hid (fun w => same_true r1 r2 h1.lt h2.lt (mean_same h1 h2 HE.out) w)
    clear h1 h2
    go_wp2_with (fail)
    refine (HS.out _).mono ?_
    rintro e w' ⟨rfl, n3, rfl⟩
    clear HS
    first
      | (have h0 := (mean_zero (two_S hx) hz HR.out)
         subst h0
         have h00 : (FloatKind.f64.format.order 0 0 == some .eq) = true := by kernel_rfl
         go_wp2_with (fail))
      | (have HS := Lib.hid (fun w => same_true r0 x hr0 hx (mean_one (two_S hx) hz HR.out) w)
         go_wp2_with (fail)
         refine (HS.out _).mono ?_
         rintro e w' ⟨rfl, n4, rfl⟩
         go_wp2_with (fail))
    refine (mean_at _ _ 0 [] rfl (by simp) _ (fun k hk => by simp at hk)).mono ?_
    rintro e w' ⟨r3, m3, h3, rfl, rfl⟩
    have HK := Lib.hid (fun w => kind_any r3 h3.lt w)
    rw [kind_nan (mean_none h3)] at HK
    clear h3
    go_wp2_with (fail)
    refine (HK.out _).mono ?_
    rintro e w' ⟨rfl, rfl⟩
    go_wp2
    go_ret
    exact ⟨rfl, hb1.trans ((below_drewN ((hbw3.alloc hbw3.size _)) _).mono hb1.size)⟩

set_option maxHeartbeats 800000 in
theorem means_neg (w : World) (A : Option Addr) (c : Nat) (l : List Nat) (k : Int) (hk0 : k < 0) (hlc : l.length ≤ c) (hcp : ¬ c = 0) (x : Nat) (hl : l.length ≤ 200) (hcap : c ≤ 9223372036854775807) (HF : Hid (FlAt w A l)) (hx : x < 18446744073709551616) (hpl : 0 ≤ l.length)
    (HD : Hid (∀ w : World, FlAt w A l → Wd.Reads w w.heap.size 1 A (l.length - 0) (fls (l.drop 0)))) : Calls Try.prog 10 #[.slice A l.length c, .int .i64 k, .float .f64 x] w (Okay w) := by
  obtain ⟨i0, hi0, hz0, hz1, hz2⟩ := info_parts float_info
  have KW := Lib.hid (fun w => known_any w)
  cases hz : (FloatKind.f64.format.order x 0 == some .eq)
  all_goals
    go_enter Try.func10, Try.ntmps10
    go_wp2_with (fail)
    refine (KW.out _).mono ?_
    rintro e w1 ⟨rfl, hb1⟩
    have HF1 := Lib.hid (HF.out.below hb1)
    go_wp2_with (fail)
    refine (ratio_any _ _ _).mono ?_
    rintro e w' ⟨q, n1, k1, rfl, rfl⟩
    have hq := Lib.hid (ratio_nan k1)
    clear k1
    go_wp2_with
      (first
        | (at_builtin
           refine Wd.wpList_append_any _ rfl (.tmp 26) (.tmp 29) _ rfl w1.heap.size 22 i0 _ 1 8 Try.underlying32 hi0 hz0 hz1 hz2 rfl (by omega) (.slice none 0 0) 0 [] rfl
             ⟨by simp, .inl ⟨rfl, rfl⟩⟩ w1.heap.size A 0 c (fls (l.take 0)) rfl ((HF1.out.take_at hpl).drewN _) (one_cells _) (by simp only [maxLen]; omega) (by omega) (Nat.le_refl _) ?_
           intro v1 w2 hown1 hg1 hat1
           have hbw1 : Below w1.heap.size w1 w2 := (below_drewN (Below.refl _ _) n1).grown hg1 (Nat.le_refl _) (by simp [Value.ownBlock])
           simp only [Nat.zero_add, List.nil_append] at hown1)
        | (at_builtin
           refine Wd.wpList_append_any _ rfl (.tmp 31) (.tmp 33) _ rfl w1.heap.size 22 i0 _ 1 8 Try.underlying32 hi0 hz0 hz1 hz2 rfl (by omega) v1 0 (fls (l.take 0)) rfl
             (hown1.alloc _) (w2.heap.size + 1) _ 1 1 (fls [q]) rfl (reads_new w2 q) (one_cells _) (by simp only [maxLen]; omega) (by omega) (by have := hbw1.size; simp; omega) ?_
           intro v2 w3 hown2 hg2 hat2
           have hbw2 : Below w1.heap.size w1 w3 := (hbw1.alloc hbw1.size _).grown hg2 (by have := hbw1.size; simp; omega) (fun g hg => (hown1.lt g hg).1)
           have hbw2' := hbw2.size)
        | (at_builtin
           refine Wd.wpList_append_any _ rfl (.tmp 35) (.tmp 38) _ rfl w1.heap.size 22 i0 _ 1 8 Try.underlying32 hi0 hz0 hz1 hz2 rfl (by omega) v2 (0 + 1) (fls (l.take 0) ++ fls [q]) rfl
             hown2 w1.heap.size _ (l.length - 0) _ (fls (l.drop 0)) rfl ((HD.out _ HF1.out).below hbw2) (one_cells _) (by simp only [maxLen]; omega) (by omega) hbw2.size ?_
           intro v3 w4 hown3 hg3 hat3
           have hbw3 : Below w1.heap.size w1 w4 := hbw2.grown hg3 hbw2.size (fun g hg => (hown2.lt g hg).1)))
    obtain ⟨A3, c3, rfl⟩ := own_form hown3
    have hbw3s := hbw3.size
    have HL : Hid (FlAt w4 A3 (l.take 0 ++ [q] ++ l.drop 0)) := by
      have hr := Wd.Reads.of_own hown3
      refine FlAt.of_reads (B := w4.heap.size) ?_ (Nat.le_refl _)
      have e1 : (l.take 0 ++ [q] ++ l.drop 0).length = 0 + 1 + (l.length - 0) := by simp; omega
      rw [e1]
      simpa [fls] using hr
    have hlen : Hid (0 + 1 + (l.length - 0) = (l.take 0 ++ [q] ++ l.drop 0).length) := by unfold Hid; simp; omega
    have HF4 := Lib.hid (HF1.out.below hbw3)
    have HE := Lib.hid (filter_insert l 0 q hq.out)
    clear hown1 hg1 hat1 hown2 hg2 hat2 hown3 hg3 hat3 HD
    refine (mean_at _ _ 1 [x] rfl (by simp) _ (fl_new1 _ _ _ rfl)).mono ?_
    rintro e w' ⟨r0, n0, h0, rfl, rfl⟩
    have HR := Lib.hid h0
    have hr0 := h0.lt
    clear h0
    go_wp2_with (fail)
    refine (mean_at _ _ _ _ hlen.out (by simp; omega) _ (HL.out.alloc_drewN _ _)).mono ?_
    rintro e w' ⟨r1, m1, h1, rfl, rfl⟩
    go_wp2_with (fail)
    refine (mean_at _ _ _ l rfl (by omega) _ (HF4.out.alloc_drewN _ _)).mono ?_
    rintro e w' ⟨r2, m2, h2, rfl, rfl⟩
    have HS := Lib.hid (fun w => same_true r1 r2 h1.lt h2.lt (mean_same h1 h2 HE.out) w)
    clear h1 h2
    go_wp2_with (fail)
    refine (HS.out _).mono ?_
    rintro e w' ⟨rfl, n3, rfl⟩
    clear HS
    first
      | (have h0 := (mean_zero (two_S hx) hz HR.out)
         subst h0
         have h00 : (FloatKind.f64.format.order 0 0 == some .eq) = true := by kernel_rfl
         go_wp2_with (fail))
      | (have HS := Lib.hid (fun w => same_true r0 x hr0 hx (mean_one (two_S hx) hz HR.out) w)
         go_wp2_with (fail)
         refine (HS.out _).mono ?_
         rintro e w' ⟨rfl, n4, rfl⟩
         go_wp2_with (fail))
    refine (mean_at _ _ 0 [] rfl (by simp) _ (fun k hk => by simp at hk)).mono ?_
    rintro e w' ⟨r3, m3, h3, rfl, rfl⟩
    have HK := Lib.hid (fun w => kind_any r3 h3.lt w)
    rw [kind_nan (mean_none h3)] at HK
    clear h3
    go_wp2_with (fail)
    refine (HK.out _).mono ?_
    rintro e w' ⟨rfl, rfl⟩
    go_wp2
    go_ret
    exact ⟨rfl, hb1.trans ((below_drewN ((hbw3.alloc hbw3.size _)) _).mono hb1.size)⟩

set_option maxHeartbeats 800000 in
theorem means_pos_cap (w : World) (A : Option Addr) (c : Nat) (l : List Nat) (k : Int) (hk : k ≤ 9223372036854775807) (hk0 : 0 ≤ k) (hmod : k % ((l.length : Int) + 1) = c) (x : Nat) (hl : l.length ≤ 200) (hcap : c ≤ 9223372036854775807) (HF : Hid (FlAt w A l)) (hx : x < 18446744073709551616) (hpl : c ≤ l.length)
    (HD : Hid (∀ w : World, FlAt w A l → Wd.Reads w w.heap.size 1 A (l.length - c) (fls (l.drop c)))) : Calls Try.prog 10 #[.slice A l.length c, .int .i64 k, .float .f64 x] w (Okay w) := by
  obtain ⟨i0, hi0, hz0, hz1, hz2⟩ := info_parts float_info
  have KW := Lib.hid (fun w => known_any w)
  cases hz : (FloatKind.f64.format.order x 0 == some .eq)
  all_goals
    go_enter Try.func10, Try.ntmps10
    go_wp2_with (fail)
    refine (KW.out _).mono ?_
    rintro e w1 ⟨rfl, hb1⟩
    have HF1 := Lib.hid (HF.out.below hb1)
    go_wp2_with (fail)
    refine (ratio_any _ _ _).mono ?_
    rintro e w' ⟨q, n1, k1, rfl, rfl⟩
    have hq := Lib.hid (ratio_nan k1)
    clear k1
    go_wp2_with
      (first
        | (at_builtin
           refine Wd.wpList_append_any _ rfl (.tmp 26) (.tmp 29) _ rfl w1.heap.size 22 i0 _ 1 8 Try.underlying32 hi0 hz0 hz1 hz2 rfl (by omega) (.slice none 0 0) 0 [] rfl
             ⟨by simp, .inl ⟨rfl, rfl⟩⟩ w1.heap.size A c c (fls (l.take c)) rfl ((HF1.out.take_at hpl).drewN _) (one_cells _) (by simp only [maxLen]; omega) (by omega) (Nat.le_refl _) ?_
           intro v1 w2 hown1 hg1 hat1
           have hbw1 : Below w1.heap.size w1 w2 := (below_drewN (Below.refl _ _) n1).grown hg1 (Nat.le_refl _) (by simp [Value.ownBlock])
           simp only [Nat.zero_add, List.nil_append] at hown1)
        | (at_builtin
           refine Wd.wpList_append_any _ rfl (.tmp 31) (.tmp 33) _ rfl w1.heap.size 22 i0 _ 1 8 Try.underlying32 hi0 hz0 hz1 hz2 rfl (by omega) v1 c (fls (l.take c)) rfl
             (hown1.alloc _) (w2.heap.size + 1) _ 1 1 (fls [q]) rfl (reads_new w2 q) (one_cells _) (by simp only [maxLen]; omega) (by omega) (by have := hbw1.size; simp; omega) ?_
           intro v2 w3 hown2 hg2 hat2
           have hbw2 : Below w1.heap.size w1 w3 := (hbw1.alloc hbw1.size _).grown hg2 (by have := hbw1.size; simp; omega) (fun g hg => (hown1.lt g hg).1)
           have hbw2' := hbw2.size)
        | (at_builtin
           refine Wd.wpList_append_any _ rfl (.tmp 35) (.tmp 38) _ rfl w1.heap.size 22 i0 _ 1 8 Try.underlying32 hi0 hz0 hz1 hz2 rfl (by omega) v2 (c + 1) (fls (l.take c) ++ fls [q]) rfl
             hown2 w1.heap.size _ (l.length - c) _ (fls (l.drop c)) rfl ((HD.out _ HF1.out).below hbw2) (one_cells _) (by simp only [maxLen]; omega) (by omega) hbw2.size ?_
           intro v3 w4 hown3 hg3 hat3
           have hbw3 : Below w1.heap.size w1 w4 := hbw2.grown hg3 hbw2.size (fun g hg => (hown2.lt g hg).1)))
    obtain ⟨A3, c3, rfl⟩ := own_form hown3
    have hbw3s := hbw3.size
    have HL : Hid (FlAt w4 A3 (l.take c ++ [q] ++ l.drop c)) := by
      have hr := Wd.Reads.of_own hown3
      refine FlAt.of_reads (B := w4.heap.size) ?_ (Nat.le_refl _)
      have e1 : (l.take c ++ [q] ++ l.drop c).length = c + 1 + (l.length - c) := by simp; omega
      rw [e1]
      simpa [fls] using hr
    have hlen : Hid (c + 1 + (l.length - c) = (l.take c ++ [q] ++ l.drop c).length) := by unfold Hid; simp; omega
    have HF4 := Lib.hid (HF1.out.below hbw3)
    have HE := Lib.hid (filter_insert l c q hq.out)
    clear hown1 hg1 hat1 hown2 hg2 hat2 hown3 hg3 hat3 HD
    refine (mean_at _ _ 1 [x] rfl (by simp) _ (fl_new1 _ _ _ rfl)).mono ?_
    rintro e w' ⟨r0, n0, h0, rfl, rfl⟩
    have HR := Lib.hid h0
    have hr0 := h0.lt
    clear h0
    go_wp2_with (fail)
    refine (mean_at _ _ _ _ hlen.out (by simp; omega) _ (HL.out.alloc_drewN _ _)).mono ?_
    rintro e w' ⟨r1, m1, h1, rfl, rfl⟩
    go_wp2_with (fail)
    refine (mean_at _ _ _ l rfl (by omega) _ (HF4.out.alloc_drewN _ _)).mono ?_
    rintro e w' ⟨r2, m2, h2, rfl, rfl⟩
    have HS := Lib.hid (fun w => same_true r1 r2 h1.lt h2.lt (mean_same h1 h2 HE.out) w)
    clear h1 h2
    go_wp2_with (fail)
    refine (HS.out _).mono ?_
    rintro e w' ⟨rfl, n3, rfl⟩
    clear HS
    first
      | (have h0 := (mean_zero (two_S hx) hz HR.out)
         subst h0
         have h00 : (FloatKind.f64.format.order 0 0 == some .eq) = true := by kernel_rfl
         go_wp2_with (fail))
      | (have HS := Lib.hid (fun w => same_true r0 x hr0 hx (mean_one (two_S hx) hz HR.out) w)
         go_wp2_with (fail)
         refine (HS.out _).mono ?_
         rintro e w' ⟨rfl, n4, rfl⟩
         go_wp2_with (fail))
    refine (mean_at _ _ 0 [] rfl (by simp) _ (fun k hk => by simp at hk)).mono ?_
    rintro e w' ⟨r3, m3, h3, rfl, rfl⟩
    have HK := Lib.hid (fun w => kind_any r3 h3.lt w)
    rw [kind_nan (mean_none h3)] at HK
    clear h3
    go_wp2_with (fail)
    refine (HK.out _).mono ?_
    rintro e w' ⟨rfl, rfl⟩
    go_wp2
    go_ret
    exact ⟨rfl, hb1.trans ((below_drewN ((hbw3.alloc hbw3.size _)) _).mono hb1.size)⟩

set_option maxHeartbeats 800000 in
theorem means_pos (w : World) (A : Option Addr) (c p : Nat) (l : List Nat) (k : Int) (hk : k ≤ 9223372036854775807) (hk0 : 0 ≤ k) (hlc : l.length ≤ c) (hcp : ¬ c = p) (hmod : k % ((l.length : Int) + 1) = p) (x : Nat) (hl : l.length ≤ 200) (hcap : c ≤ 9223372036854775807) (HF : Hid (FlAt w A l)) (hx : x < 18446744073709551616) (hpl : p ≤ l.length)
    (HD : Hid (∀ w : World, FlAt w A l → Wd.Reads w w.heap.size 1 (A.map (fun x => x.add p)) (l.length - p) (fls (l.drop p)))) : Calls Try.prog 10 #[.slice A l.length c, .int .i64 k, .float .f64 x] w (Okay w) := by
  obtain ⟨i0, hi0, hz0, hz1, hz2⟩ := info_parts float_info
  have KW := Lib.hid (fun w => known_any w)
  cases hz : (FloatKind.f64.format.order x 0 == some .eq)
  all_goals
    go_enter Try.func10, Try.ntmps10
    go_wp2_with (fail)
    refine (KW.out _).mono ?_
    rintro e w1 ⟨rfl, hb1⟩
    have HF1 := Lib.hid (HF.out.below hb1)
    go_wp2_with (fail)
    refine (ratio_any _ _ _).mono ?_
    rintro e w' ⟨q, n1, k1, rfl, rfl⟩
    have hq := Lib.hid (ratio_nan k1)
    clear k1
    go_wp2_with
      (first
        | (at_builtin
           refine Wd.wpList_append_any _ rfl (.tmp 26) (.tmp 29) _ rfl w1.heap.size 22 i0 _ 1 8 Try.underlying32 hi0 hz0 hz1 hz2 rfl (by omega) (.slice none 0 0) 0 [] rfl
             ⟨by simp, .inl ⟨rfl, rfl⟩⟩ w1.heap.size A p c (fls (l.take p)) rfl ((HF1.out.take_at hpl).drewN _) (one_cells _) (by simp only [maxLen]; omega) (by omega) (Nat.le_refl _) ?_
           intro v1 w2 hown1 hg1 hat1
           have hbw1 : Below w1.heap.size w1 w2 := (below_drewN (Below.refl _ _) n1).grown hg1 (Nat.le_refl _) (by simp [Value.ownBlock])
           simp only [Nat.zero_add, List.nil_append] at hown1)
        | (at_builtin
           refine Wd.wpList_append_any _ rfl (.tmp 31) (.tmp 33) _ rfl w1.heap.size 22 i0 _ 1 8 Try.underlying32 hi0 hz0 hz1 hz2 rfl (by omega) v1 p (fls (l.take p)) rfl
             (hown1.alloc _) (w2.heap.size + 1) _ 1 1 (fls [q]) rfl (reads_new w2 q) (one_cells _) (by simp only [maxLen]; omega) (by omega) (by have := hbw1.size; simp; omega) ?_
           intro v2 w3 hown2 hg2 hat2
           have hbw2 : Below w1.heap.size w1 w3 := (hbw1.alloc hbw1.size _).grown hg2 (by have := hbw1.size; simp; omega) (fun g hg => (hown1.lt g hg).1)
           have hbw2' := hbw2.size)
        | (at_builtin
           refine Wd.wpList_append_any _ rfl (.tmp 35) (.tmp 38) _ rfl w1.heap.size 22 i0 _ 1 8 Try.underlying32 hi0 hz0 hz1 hz2 rfl (by omega) v2 (p + 1) (fls (l.take p) ++ fls [q]) rfl
             hown2 w1.heap.size _ (l.length - p) _ (fls (l.drop p)) rfl ((HD.out _ HF1.out).below hbw2) (one_cells _) (by simp only [maxLen]; omega) (by omega) hbw2.size ?_
           intro v3 w4 hown3 hg3 hat3
           have hbw3 : Below w1.heap.size w1 w4 := hbw2.grown hg3 hbw2.size (fun g hg => (hown2.lt g hg).1)))
    obtain ⟨A3, c3, rfl⟩ := own_form hown3
    have hbw3s := hbw3.size
    have HL : Hid (FlAt w4 A3 (l.take p ++ [q] ++ l.drop p)) := by
      have hr := Wd.Reads.of_own hown3
      refine FlAt.of_reads (B := w4.heap.size) ?_ (Nat.le_refl _)
      have e1 : (l.take p ++ [q] ++ l.drop p).length = p + 1 + (l.length - p) := by simp; omega
      rw [e1]
      simpa [fls] using hr
    have hlen : Hid (p + 1 + (l.length - p) = (l.take p ++ [q] ++ l.drop p).length) := by unfold Hid; simp; omega
    have HF4 := Lib.hid (HF1.out.below hbw3)
    have HE := Lib.hid (filter_insert l p q hq.out)
    clear hown1 hg1 hat1 hown2 hg2 hat2 hown3 hg3 hat3 HD
    refine (mean_at _ _ 1 [x] rfl (by simp) _ (fl_new1 _ _ _ rfl)).mono ?_
    rintro e w' ⟨r0, n0, h0, rfl, rfl⟩
    have HR := Lib.hid h0
    have hr0 := h0.lt
    clear h0
    go_wp2_with (fail)
    refine (mean_at _ _ _ _ hlen.out (by simp; omega) _ (HL.out.alloc_drewN _ _)).mono ?_
    rintro e w' ⟨r1, m1, h1, rfl, rfl⟩
    go_wp2_with (fail)
    refine (mean_at _ _ _ l rfl (by omega) _ (HF4.out.alloc_drewN _ _)).mono ?_
    rintro e w' ⟨r2, m2, h2, rfl, rfl⟩
    have HS := Lib.hid (fun w => same_true r1 r2 h1.lt h2.lt (mean_same h1 h2 HE.out) w)
    clear h1 h2
    go_wp2_with (fail)
    refine (HS.out _).mono ?_
    rintro e w' ⟨rfl, n3, rfl⟩
    clear HS
    first
      | (have h0 := (mean_zero (two_S hx) hz HR.out)
         subst h0
         have h00 : (FloatKind.f64.format.order 0 0 == some .eq) = true := by kernel_rfl
         go_wp2_with (fail))
      | (have HS := Lib.hid (fun w => same_true r0 x hr0 hx (mean_one (two_S hx) hz HR.out) w)
         go_wp2_with (fail)
         refine (HS.out _).mono ?_
         rintro e w' ⟨rfl, n4, rfl⟩
         go_wp2_with (fail))
    refine (mean_at _ _ 0 [] rfl (by simp) _ (fun k hk => by simp at hk)).mono ?_
    rintro e w' ⟨r3, m3, h3, rfl, rfl⟩
    have HK := Lib.hid (fun w => kind_any r3 h3.lt w)
    rw [kind_nan (mean_none h3)] at HK
    clear h3
    go_wp2_with (fail)
    refine (HK.out _).mono ?_
    rintro e w' ⟨rfl, rfl⟩
    go_wp2
    go_ret
    exact ⟨rfl, hb1.trans ((below_drewN ((hbw3.alloc hbw3.size _)) _).mono hb1.size)⟩

theorem means_walk (w : World) (A : Option Addr) (c : Nat) (l : List Nat) (k : Int) (x : Nat) (hl : l.length ≤ 200) (hlc : l.length ≤ c) (hcap : c ≤ 9223372036854775807) (h : FlAt w A l) (hx : x < 18446744073709551616) (hk : -9223372036854775808 ≤ k ∧ k ≤ 9223372036854775807) :
    Calls Try.prog 10 #[.slice A l.length c, .int .i64 k, .float .f64 x] w (Okay w) := by
  obtain ⟨p, hp, hpl⟩ : ∃ p : Nat, max k 0 % ((l.length : Int) + 1) = p ∧ p ≤ l.length := by
    have h1 := Int.emod_nonneg (max k 0) (show ((l.length : Int) + 1) ≠ 0 by omega)
    have h2 := Int.emod_lt_of_pos (max k 0) (show 0 < ((l.length : Int) + 1) by omega)
    exact ⟨(max k 0 % ((l.length : Int) + 1)).toNat, by omega, by omega⟩
  have HD : ∀ w : World, FlAt w A l → Wd.Reads w w.heap.size 1 (if c = p then A else A.map (·.add (p * 1))) (l.length - p) (fls (l.drop p)) := fun w h => h.drop hpl hlc
  by_cases hk0 : k < 0
  · have hp0 : p = 0 := by
      have : max k 0 = 0 := by omega
      rw [this] at hp
      simp at hp
      omega
    subst hp0
    by_cases hcp : c = 0
    · subst hcp
      rw [if_pos rfl] at HD
      exact means_neg_cap w A l k hk0 x hl hcap h hx hpl HD
    · rw [if_neg hcp, show A.map (fun x => x.add (0 * 1)) = A by cases A <;> rfl] at HD
      exact means_neg w A c l k hk0 hlc hcp x hl hcap h hx hpl HD
  · have hmod : k % ((l.length : Int) + 1) = p := by rw [← hp]; congr 1; omega
    by_cases hcp : c = p
    · subst hcp
      rw [if_pos rfl] at HD
      exact means_pos_cap w A c l k hk.2 (by omega) hmod x hl hcap h hx hpl HD
    · rw [if_neg hcp, Nat.mul_one] at HD
      exact means_pos w A c p l k hk.2 (by omega) hlc hcp hmod x hl hcap h hx hpl HD

set_option maxRecDepth 100000 in
theorem scoreMeans_lifted (os : Os) (started : os.Started) (H : Type) (enc : TypeId × Value → H) :
    ReturnsInHanded {} Try.checked os 10 .any (Rows.scoreMeansSpec.pre6 enc Try.prog Try.f10 Rows.scoreMeansRow.domain false) (Rows.scoreMeansSpec.post enc Try.prog Try.f10 false true false false) := by
  refine returnsInHanded_of_change (C := Try.checked) own started (by kernel_rfl) Try.func10
    (ChangeSpec.witness6 (enc := enc) (C := Try.checked) false ⟨#[], #[.slice none 0 0, .int .i64 0, .float .f64 0], []⟩ 8 (by kernel_rfl) (by kernel_rfl) (by kernel_rfl) (by kernel_rfl)) ?_
  intro W base args ds gs before hval0 hW hcnd _
  have hval : ∀ (j : Nat) t v, Try.f10.params[j]? = some t → args[j]? = some v → Value.okWide Try.prog W .any base t v := hval0
  have hpost : ∀ e W', Okay W e W' → ∃ v, e = .returned v ∧ Rows.scoreMeansSpec.post enc Try.prog Try.f10 false true false false W args v W' := fun e W' h =>
    ⟨_, h.1, law_post laidOut (by kernel_rfl) (by kernel_rfl) Try.underlying4 rfl (fun ds hd => by
      match ds, hd with
      | [_, _, _], _ => rfl) hW h.2⟩
  obtain ⟨p, q, hA0, hV, rfl, hfz, hnd⟩ := hW
  have hA : DataW.TrodAll enc Try.prog W 0 (fun _ => true) true Try.f10.params.toList args.toList ds p := hA0
  rw [Try.params10] at hA hval
  obtain ⟨v0, vs0, d0, ds0, p0, q0, hargs, rfl, rfl, h0, r0⟩ := trodAll_cons hA
  obtain ⟨v1, vs1, d1, ds1, p1, q1, rfl, rfl, rfl, h1, r1⟩ := trodAll_cons r0
  obtain ⟨v2, vs2, d2, ds2, p2, q2, rfl, rfl, rfl, h2, r2⟩ := trodAll_cons r1
  obtain ⟨rfl, rfl, rfl⟩ := trodAll_nil r2
  obtain rfl : args = #[v0, v1, v2] := by cases args; simp_all
  obtain ⟨a1, rfl, rfl, rfl, w1⟩ := open_int Try.underlying3 (hval 1 3 v1 rfl rfl) h1
  obtain ⟨a2, rfl, rfl, rfl, w2⟩ := open_float Try.underlying22 (hval 2 22 v2 rfl rfl) h2
  obtain ⟨A, c, l, rfl, hA2, hlen, hlc, hcm, _⟩ := open_floats_cap Try.underlying32 Try.underlying22 (by kernel_rfl) (hval 0 32 v0 rfl rfl) h0
  unfold maxLen at hcm
  by_cases hlong : 200 < l.length
  · exact (means_known W A c _ a1 a2 hlong (by omega)).mono hpost
  · exact (means_walk W A c l a1 a2 (by omega) hlc hcm hA2 (by simpa [Lit.wf] using w2) (by simpa [Lit.wf, IntKind.min, IntKind.max, IntKind.signed, IntKind.bits] using w1)).mono hpost

theorem scoreMeans_holds : Rows.ScoreMeansSaid :=
  OpenClaim.holds_of_wide 10 Try.f10 rfl rfl rfl rfl rfl rfl rfl ⟨rfl, rfl, rfl, rfl, rfl⟩ rfl rfl rfl rfl rfl (by kernel_rfl) Try.func10 (by kernel_rfl)
    (of_decide_eq_true (by kernel_rfl)) (by unfold Func.isWrapper; first | (rw [if_pos (by decide +kernel)]; kernel_rfl) | (rw [if_neg (by decide +kernel)]; exact ⟨rfl, rfl⟩))
    (fun os started H enc _ => scoreMeans_lifted os started H enc)
#print axioms scoreMeans_holds
end Go.Proofs.Ytcmngedjnccfaaa
