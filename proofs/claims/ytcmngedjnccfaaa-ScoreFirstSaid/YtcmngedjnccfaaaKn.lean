/- Contracts of Mean, of the statements' helpers, and that the chapter's examples stand. -/
import Derived.Test.YtcmngedjnccfaaaSc
namespace Go.Proofs.Ytcmngedjnccfaaa
open Go.RowKit

/-- This value comes back; nothing but draws happens. -/
def Gives (v : Value) (w : World) (e : Ending) (w' : World) : Prop := e = .returned v ∧ ∃ n, w' = w.drewN n

theorem two_S {x : Nat} (h : x < 18446744073709551616) : x < 2 * Fl.S := by rw [Fl.S_eq]; omega

theorem refkind_S (x : Nat) (hx : x < 18446744073709551616) (w : World) : Calls Try.prog 13 #[.float .f64 x] w (Gives (.int .u8 (kindS x)) w) :=
  (refkind_any x w).mono fun e w' ⟨q, n, hq, he, hw⟩ => ⟨by rw [he, kind_same x q (two_S hx) hq], n, hw⟩

theorem order_self (x : Nat) : (FloatKind.f64.format.order x x == some .eq) = !isNan x := by
  unfold isNan; cases h : (FloatKind.f64.format.order x x == some .eq) <;> simp_all [bne]

theorem same_true (a b : Nat) (ha : a < 18446744073709551616) (hb : b < 18446744073709551616) (h : Sm a b) (w : World) : Calls Try.prog 16 #[.float .f64 a, .float .f64 b] w (Gives (.bool true) w) := by
  by_cases hn : isNan a = true
  · have hnb : isNan b = true := by
      rcases h with rfl | h
      · exact hn
      · exact h.2
    have h1 : (FloatKind.f64.format.order a b == some .eq) = false := by rw [order_nan (.inl hn)]; rfl
    have h2 : (FloatKind.f64.format.order a a != some .eq) = true := hn
    have h3 : (FloatKind.f64.format.order b b != some .eq) = true := hnb
    clear h hn hnb
    go_enter Try.func16, Try.ntmps16
    go_wp2
    go_ret
    exact ⟨rfl, 0, rfl⟩
  · have hab : a = b := by
      rcases h with rfl | h
      · rfl
      · exact absurd h.1 hn
    subst hab
    have h1 : (FloatKind.f64.format.order a a == some .eq) = true := by rw [order_self]; simpa using hn
    clear h hn
    have hk := Lib.hid (refkind_S a ha)
    go_enter Try.func16, Try.ntmps16
    go_wp2_with (go_at_call 13; refine (hk.out _).mono ?_; rintro e w' ⟨rfl, n, rfl⟩)
    go_ret
    exact ⟨rfl, _, rfl⟩

/-- Numbers are added up one by one, and counted. -/
def Fold : List Nat → Nat → Nat → Nat → Nat → Prop
  | [], s0, n0, s, n => s = s0 ∧ n = n0
  | x :: l, s0, n0, s, n => ∃ s1 n1, Res .add s0 x s1 ∧ Res .add n0 4607182418800017408 n1 ∧ Fold l s1 n1 s n

theorem fold_snoc (l : List Nat) (x s0 n0 s1 n1 s n : Nat) (h : Fold l s0 n0 s1 n1) (hs : Res .add s1 x s) (hn : Res .add n1 4607182418800017408 n) : Fold (l ++ [x]) s0 n0 s n := by
  induction l generalizing s0 n0 with
  | nil => obtain ⟨rfl, rfl⟩ := h; exact ⟨s, n, hs, hn, rfl, rfl⟩
  | cons y l ih =>
    obtain ⟨a, b, ha, hb, h⟩ := h
    exact ⟨a, b, ha, hb, ih _ _ h⟩

theorem fold_same (l : List Nat) (s0 n0 s n s0' n0' s' n' : Nat) (h : Fold l s0 n0 s n) (h' : Fold l s0' n0' s' n') (hs : Sm s0 s0') (hn : Sm n0 n0') : Sm s s' ∧ Sm n n' := by
  induction l generalizing s0 n0 s0' n0' with
  | nil => obtain ⟨rfl, rfl⟩ := h; obtain ⟨rfl, rfl⟩ := h'; exact ⟨hs, hn⟩
  | cons y l ih =>
    obtain ⟨a, b, ha, hb, h⟩ := h
    obtain ⟨a', b', ha', hb', h'⟩ := h'
    exact ih _ _ _ _ h h' (ha.same ha' hs (.refl _)) (hb.same hb' hn (.refl _))

/-- The sum and the count of a list's front. -/
def SumIs (l : List Nat) (k s n : Nat) : Prop := Fold ((l.take k).filter (fun x => !isNan x)) 0 0 s n
def MeanIs (l : List Nat) (r : Nat) : Prop := ∃ s n, SumIs l l.length s n ∧ Res .quo s n r

theorem take_snoc (l : List Nat) (k : Nat) (h : k < l.length) : l.take (k + 1) = l.take k ++ [l.getD k 0] := by
  rw [List.take_succ_eq_append_getElem h]; simp [List.getD_eq_getElem?_getD, h]

theorem sum_zero (l : List Nat) : SumIs l 0 0 0 := ⟨rfl, rfl⟩
theorem sum_nan {l : List Nat} {k s n : Nat} (h : SumIs l k s n) (hk : k < l.length) (hn : isNan (l.getD k 0) = true) : SumIs l (k + 1) s n := by
  unfold SumIs at *
  rw [take_snoc l k hk, List.filter_append]; simp only [List.filter_cons, hn, Bool.not_true, Bool.false_eq_true, if_false, List.filter_nil, List.append_nil]
  exact h
theorem sum_num {l : List Nat} {k s n s' n' : Nat} (h : SumIs l k s n) (hk : k < l.length) (hn : isNan (l.getD k 0) = false) (hs : Res .add s (l.getD k 0) s') (hn' : Res .add n 4607182418800017408 n') : SumIs l (k + 1) s' n' := by
  unfold SumIs at *
  rw [take_snoc l k hk, List.filter_append]; simp only [List.filter_cons, hn, Bool.not_false, if_true, List.filter_nil]
  exact fold_snoc _ _ _ _ _ _ _ _ h hs hn'

theorem mean_same {l l' : List Nat} {r r' : Nat} (h : MeanIs l r) (h' : MeanIs l' r') (e : l.filter (fun x => !isNan x) = l'.filter (fun x => !isNan x)) : Sm r r' := by
  obtain ⟨s, n, hs, hr⟩ := h
  obtain ⟨s', n', hs', hr'⟩ := h'
  unfold SumIs at hs hs'
  rw [List.take_length] at hs hs'
  rw [← e] at hs'
  obtain ⟨a, b⟩ := fold_same _ _ _ _ _ _ _ _ _ hs hs' (.refl _) (.refl _)
  exact hr.same hr' a b

theorem MeanIs.lt {l : List Nat} {r : Nat} (h : MeanIs l r) : r < 18446744073709551616 := by
  obtain ⟨s, n, _, hr⟩ := h
  exact hr.lt

attribute [local go_sem] run_fadd run_fquo

theorem mean_any (A : Option Addr) (c : Nat) (l : List Nat) (w : World) (hl : l.length ≤ 65536) (h : FlAt w A l) :
    Calls Try.prog 23 #[.slice A l.length c] w (SomeF (MeanIs l) w) := by
  go_enter Try.func23, Try.ntmps23
  go_wp2
  go_loopw [3, 4, 9] (fun s q i wr => ∃ k n x y : Nat, k ≤ l.length ∧ i = .int .i64 k ∧ s = .float .f64 x ∧ q = .float .f64 y ∧ SumIs l k x y ∧ wr = w.drewN n) (fun _ _ i _ => l.length - (intOf i).toNat)
  case atStart => exact ⟨0, 0, 0, 0, Nat.zero_le _, rfl, rfl, rfl, sum_zero l, rfl⟩
  case round =>
    obtain ⟨k, n, x, y, hk, rfl, rfl, rfl, hsum, rfl⟩ := hrel
    by_cases hlt : k < l.length
    · obtain ⟨ad, rfl, hb, hc⟩ := h k hlt
      have HN := Lib.hid (fun hn => sum_nan hsum hlt hn)
      have HS := Lib.hid (fun s' n' hn hs hn' => sum_num (s' := s') (n' := n') hsum hlt hn hs hn')
      clear h hsum
      generalize l.getD k 0 = z at *
      by_cases hz : isNan z = true
      · go_wp2_with (go_at_call 25; refine (isnan_any _ _).mono ?_; rintro e w' ⟨rfl, rfl⟩)
        go_roundw
        case rel => exact ⟨k + 1, n, x, y, by omega, by go_num, rfl, rfl, HN.out hz, rfl⟩
        case measure => simp [intOf]; omega
      · have hz' : isNan z = false := by simpa using hz
        clear hz
        go_wp2_with (go_at_call 25; refine (isnan_any _ _).mono ?_; rintro e w' ⟨rfl, rfl⟩)
        go_roundw
        case rel => exact ⟨k + 1, _, _, _, by omega, by go_num, rfl, rfl, HS.out _ _ hz' (fval_res _ _ _ _) (fval_res _ _ _ _), rfl⟩
        case measure => simp [intOf]; omega
    · have hkl : k = l.length := by omega
      have HK := Lib.hid hkl
      have HS := Lib.hid hsum
      clear h hsum hkl
      go_wp2
      go_ret
      exact ⟨_, _, ⟨_, _, HK.out ▸ HS.out, fval_res _ _ _ _⟩, rfl, rfl⟩

theorem refmean_any (A : Option Addr) (c : Nat) (l : List Nat) (w : World) (hl : l.length ≤ 65536) (h : FlAt w A l) :
    Calls Try.prog 24 #[.slice A l.length c] w (SomeF (MeanIs l) w) := by
  go_enter Try.func24, Try.ntmps24
  go_wp2
  go_loopw [3, 4, 5] (fun s q i wr => ∃ k n x y : Nat, k ≤ l.length ∧ i = .int .i64 k ∧ s = .float .f64 x ∧ q = .float .f64 y ∧ SumIs l k x y ∧ wr = w.drewN n) (fun _ _ i _ => l.length - (intOf i).toNat)
  case atStart => exact ⟨0, 0, 0, 0, Nat.zero_le _, rfl, rfl, rfl, sum_zero l, rfl⟩
  case round =>
    obtain ⟨k, n, x, y, hk, rfl, rfl, rfl, hsum, rfl⟩ := hrel
    by_cases hlt : k < l.length
    · obtain ⟨ad, rfl, hb, hc⟩ := h k hlt
      have HN := Lib.hid (fun hn => sum_nan hsum hlt hn)
      have HS := Lib.hid (fun s' n' hn hs hn' => sum_num (s' := s') (n' := n') hsum hlt hn hs hn')
      clear h hsum
      generalize l.getD k 0 = z at *
      by_cases hz : isNan z = true
      · go_wp2_with (go_at_call 29; refine (none_any _ _).mono ?_; rintro e w' ⟨rfl, rfl⟩)
        go_roundw
        case rel => exact ⟨k + 1, n, x, y, by omega, by go_num, rfl, rfl, HN.out hz, rfl⟩
        case measure => simp [intOf]; omega
      · have hz' : isNan z = false := by simpa using hz
        clear hz
        go_wp2_with (go_at_call 29; refine (none_any _ _).mono ?_; rintro e w' ⟨rfl, rfl⟩)
        go_roundw
        case rel => exact ⟨k + 1, _, _, _, by omega, by go_num, rfl, rfl, HS.out _ _ hz' (fval_res _ _ _ _) (fval_res _ _ _ _), rfl⟩
        case measure => simp [intOf]; omega
    · have hkl : k = l.length := by omega
      have HK := Lib.hid hkl
      have HS := Lib.hid hsum
      clear h hsum hkl
      go_wp2
      go_ret
      exact ⟨_, _, ⟨_, _, HK.out ▸ HS.out, fval_res _ _ _ _⟩, rfl, rfl⟩
end Go.Proofs.Ytcmngedjnccfaaa
