/- Contracts of the functions of package score and of its reference. -/
import Derived.Test.YtcmngedjnccfaaaChecked
import Derived.Test.YtcmngedjnccfaaaFl
import Derived.Tactics
import Derived.Tactics2
import Derived.WalkKit
import Derived.WalkLawsBesides
import Derived.BigQuiet
import Derived.Deep.QuietTactic
import Derived.Lib.Hide
import Derived.Deep.AppendLies
namespace Go.Proofs.Ytcmngedjnccfaaa
open Go.RowKit

theorem block_of_add (a : Addr) (n : Nat) : (a.add n).block = a.block := by unfold Addr.add; split <;> rfl
theorem add_of_add (a : Addr) (i j : Nat) : (a.add i).add j = a.add (i + j) := by
  unfold Addr.add
  by_cases hi : i = 0 <;> by_cases hj : j = 0 <;> simp [hi, hj, Nat.add_assoc]

/-- The slice (its address, its length) holds these words. -/
def FlAt (w : World) (A : Option Addr) (l : List Nat) : Prop := ∀ k, k < l.length → ∃ ad, A = some ad ∧ ad.block < w.heap.size ∧ w.cell? (ad.add k) = some (.float .f64 (l.getD k 0))

/-- Is the word no number, as '!=' with itself tells it. -/
def isNan (x : Nat) : Bool := FloatKind.f64.format.order x x != some .eq

/-- How words stand to each other, all of them. -/
def ord (x y : Nat) : Int := if isNan x = true then (if isNan y = true then 0 else -1) else if isNan y = true then 1 else if (FloatKind.f64.format.order x y == some .lt) = true then -1 else if (FloatKind.f64.format.order x y == some .gt) = true then 1 else 0

theorem none_any (x : Nat) (w : World) : Calls Try.prog 29 #[.float .f64 x] w fun e w' => e = .returned (.bool (isNan x)) ∧ w = w' := by
  go_enter Try.func29, Try.ntmps29
  go_wp2
  go_ret
  exact ⟨rfl, rfl⟩

theorem isnan_any (x : Nat) (w : World) : Calls Try.prog 25 #[.float .f64 x] w fun e w' => e = .returned (.bool (isNan x)) ∧ w = w' := by
  go_enter Try.func25, Try.ntmps25
  go_wp2
  go_ret
  exact ⟨rfl, rfl⟩

theorem cmpnan_any (x : Nat) (w : World) : Calls Try.prog 35 #[.float .f64 x] w fun e w' => e = .returned (.bool (isNan x)) ∧ w = w' := by
  go_enter Try.func35, Try.ntmps35
  go_wp2
  go_ret
  exact ⟨rfl, rfl⟩

theorem ret_int {k : IntKind} {a b : Int} (h : a = b) : Ending.returned (.int k a) = .returned (.int k b) := by rw [h]

theorem reforder_any (x y : Nat) (w : World) : Calls Try.prog 15 #[.float .f64 x, .float .f64 y] w fun e w' => e = .returned (.int .i64 (ord x y)) ∧ w = w' := by
  go_enter Try.func15, Try.ntmps15
  go_wp2_with (go_at_call 29; refine (none_any _ _).mono ?_; rintro e w' ⟨rfl, rfl⟩)
  all_goals (go_ret; refine ⟨ret_int ?_, rfl⟩; simp [ord, *])

theorem compare_any (x y : Nat) (w : World) : Calls Try.prog 30 #[.float .f64 x, .float .f64 y] w fun e w' => e = .returned (.int .i64 (ord x y)) ∧ w = w' := by
  go_enter Try.func30, Try.ntmps30
  go_wp2_with (go_at_call 35; refine (cmpnan_any _ _).mono ?_; rintro e w' ⟨rfl, rfl⟩)
  all_goals (go_ret; refine ⟨ret_int ?_, rfl⟩; simp [ord, *])

theorem order_any (x y : Nat) (w : World) : Calls Try.prog 14 #[.float .f64 x, .float .f64 y] w fun e w' => e = .returned (.int .i64 (ord x y)) ∧ w = w' := by
  go_enter Try.func14, Try.ntmps14
  go_wp2_with (go_at_call 30; refine (compare_any _ _ _).mono ?_; rintro e w' ⟨rfl, rfl⟩)
  go_ret
  exact ⟨rfl, rfl⟩

/-- The first place at which a word stands that is the same; -1: there is none. -/
def place (x : Nat) : List Nat → Int → Int
  | [], _ => -1
  | y :: l, i => if (FloatKind.f64.format.order x y == some .eq) = true then i else place x l (i + 1)

theorem place_at (x : Nat) (l : List Nat) (k : Nat) (h : k < l.length) (i : Int) : place x (l.drop k) i = if (FloatKind.f64.format.order x (l.getD k 0) == some .eq) = true then i else place x (l.drop (k + 1)) (i + 1) := by
  rw [List.drop_eq_getElem_cons h, place]
  simp [List.getD_eq_getElem?_getD, h]

/-- The greatest word of a list, and of one ahead. -/
def most : List Nat → Nat → Nat
  | [], m => m
  | x :: l, m => most l (if 0 < ord x m then x else m)

theorem most_at (l : List Nat) (k m : Nat) (h : k < l.length) : most (l.drop k) m = most (l.drop (k + 1)) (if 0 < ord (l.getD k 0) m then l.getD k 0 else m) := by
  rw [List.drop_eq_getElem_cons h, most]
  simp [List.getD_eq_getElem?_getD, h]

theorem index_any (A : Option Addr) (c : Nat) (l : List Nat) (x : Nat) (w : World) (hl : l.length ≤ 65536) (h : FlAt w A l) :
    Calls Try.prog 31 #[.slice A l.length c, .float .f64 x] w fun e w' => e = .returned (.int .i64 (place x l 0)) ∧ w = w' := by
  go_enter Try.func31, Try.ntmps31
  go_wp2
  go_loop [8] (fun i => ∃ k : Nat, k ≤ l.length ∧ i = .int .i64 k ∧ place x (l.drop k) k = place x l 0) (fun i => l.length - (intOf i).toNat)
  case atStart => exact ⟨0, Nat.zero_le _, rfl, rfl⟩
  case round =>
    obtain ⟨k, hk, rfl, hp⟩ := hrel
    have HP := Lib.hid hp
    clear hp
    by_cases hlt : k < l.length
    · obtain ⟨ad, rfl, hb, hc⟩ := h k hlt
      have HQ := Lib.hid (place_at x l k hlt k)
      generalize l.getD k 0 = y at *
      clear h
      go_wp2
      · go_ret
        refine ⟨ret_int ?_, rfl⟩
        rw [← HP.out, HQ.out, if_pos (by assumption)]
      · go_round
        case rel => exact ⟨k + 1, by omega, by go_num, by rw [← HP.out, HQ.out, if_neg (by simp_all)]; simp⟩
        case measure => simp [intOf]; omega
    · go_wp2
      go_ret
      refine ⟨ret_int ?_, rfl⟩
      rw [← HP.out, List.drop_eq_nil_of_le (by omega)]; rfl

theorem maxfunc_any (A : Option Addr) (c : Nat) (l : List Nat) (w : World) (h0 : 0 < l.length) (hl : l.length ≤ 65536) (h : FlAt w A l) :
    Calls Try.prog 32 #[.slice A l.length c, .func (.func 14) #[] #[]] w fun e w' => e = .returned (.float .f64 (most (l.drop 1) (l.getD 0 0))) ∧ w = w' := by
  obtain ⟨ad, rfl, hb, hc⟩ := h 0 h0
  have hc : w.cell? ad = some (.float .f64 (l.getD 0 0)) := by simpa [Addr.add] using hc
  generalize l.getD 0 0 = m0 at *
  obtain ⟨M, hM⟩ : ∃ M, most (l.drop 1) m0 = M := ⟨_, rfl⟩
  have HM := Lib.hid hM
  rw [hM]
  clear hM
  go_enter Try.func32, Try.ntmps32
  go_wp2
  go_loop [5, 6] (fun m i => ∃ (k : Nat) (x : Nat), 1 ≤ k ∧ k ≤ l.length ∧ i = .int .i64 k ∧ m = .float .f64 x ∧ most (l.drop k) x = M) (fun _ i => l.length - (intOf i).toNat)
  case atStart => exact ⟨1, m0, Nat.le_refl _, h0, rfl, rfl, HM.out⟩
  case round =>
    obtain ⟨k, x, hk0, hk, rfl, rfl, hp⟩ := hrel
    have HP := Lib.hid hp
    clear hp hc
    by_cases hlt : k < l.length
    · obtain ⟨ad', e, hb', hc⟩ := h k hlt
      obtain rfl : ad = ad' := by injection e
      have HQ := Lib.hid (most_at l k x hlt)
      generalize l.getD k 0 = y at *
      clear h e
      go_wp2_with (go_at_call 14; refine (order_any _ _ _).mono ?_; rintro e w' ⟨rfl, rfl⟩)
      · go_round
        case rel => exact ⟨k + 1, y, by omega, by omega, by go_num, rfl, by rw [← HP.out, HQ.out, if_pos (by assumption)]⟩
        case measure => simp [intOf]; omega
      · go_round
        case rel => exact ⟨k + 1, x, by omega, by omega, by go_num, rfl, by rw [← HP.out, HQ.out, if_neg (by omega)]⟩
        case measure => simp [intOf]; omega
    · clear h
      go_wp2
      go_ret
      refine ⟨?_, rfl⟩
      rw [← HP.out, List.drop_eq_nil_of_le (show l.length ≤ k by omega)]; rfl

/-- What Best answers. -/
def bestV (l : List Nat) : Int := if l = [] then -1 else place (most (l.drop 1) (l.getD 0 0)) l 0

theorem best_any (A : Option Addr) (c : Nat) (l : List Nat) (w : World) (hl : l.length ≤ 65536) (h : FlAt w A l) :
    Calls Try.prog 21 #[.slice A l.length c] w fun e w' => e = .returned (.int .i64 (bestV l)) ∧ w = w' := by
  by_cases h0 : l = []
  · subst h0
    go_enter Try.func21, Try.ntmps21
    go_wp2
    go_ret
    exact ⟨rfl, rfl⟩
  · have hp : 0 < l.length := List.length_pos_iff.2 h0
    have hz : ((l.length : Int) == 0) = false := by simp; omega
    have HV := Lib.hid (show bestV l = place (most (l.drop 1) (l.getD 0 0)) l 0 by unfold bestV; rw [if_neg h0])
    have HM := maxfunc_any A c l w hp hl h
    have HI := index_any A c l (most (l.drop 1) (l.getD 0 0)) w hl h
    have HM := Lib.hid HM
    have HI := Lib.hid HI
    clear h h0
    generalize most (l.drop 1) (l.getD 0 0) = m at *
    go_enter Try.func21, Try.ntmps21
    go_wp2_with (first | (go_at_call 32; refine (HM.out).mono ?_; rintro e w' ⟨rfl, rfl⟩) | (go_at_call 31; refine (HI.out).mono ?_; rintro e w' ⟨rfl, rfl⟩))
    go_ret
    exact ⟨ret_int HV.out.symm, rfl⟩

/-- The reference's best of a list's front. -/
def rbest (l : List Nat) : Nat → Int
  | 0 => -1
  | k + 1 => if isNan (l.getD k 0) = true then rbest l k else if rbest l k < 0 then k else if (FloatKind.f64.format.order (l.getD k 0) (l.getD (rbest l k).toNat 0) == some .gt) = true then k else rbest l k

theorem rbest_lt (l : List Nat) (k : Nat) : -1 ≤ rbest l k ∧ rbest l k < k := by
  induction k with
  | zero => simp [rbest]
  | succ k ih => unfold rbest; split <;> (try split) <;> (try split) <;> omega

theorem refbest_any (A : Option Addr) (c : Nat) (l : List Nat) (w : World) (hl : l.length ≤ 65536) (h : FlAt w A l) :
    Calls Try.prog 22 #[.slice A l.length c] w fun e w' => e = .returned (.int .i64 (rbest l l.length)) ∧ ∃ n, w' = w.drewN n := by
  go_enter Try.func22, Try.ntmps22
  go_wp2
  go_loopw [3, 4] (fun b i wr => ∃ k n : Nat, k ≤ l.length ∧ i = .int .i64 k ∧ b = .int .i64 (rbest l k) ∧ wr = w.drewN n) (fun _ i _ => l.length - (intOf i).toNat)
  case atStart => exact ⟨0, 0, Nat.zero_le _, rfl, rfl, rfl⟩
  case round =>
    obtain ⟨k, n, hk, rfl, rfl, rfl⟩ := hrel
    by_cases hlt : k < l.length
    · obtain ⟨ad, rfl, hb, hc⟩ := h k hlt
      have HR : Hid (rbest l (k + 1) = if isNan (l.getD k 0) = true then rbest l k else if rbest l k < 0 then k else if (FloatKind.f64.format.order (l.getD k 0) (l.getD (rbest l k).toNat 0) == some .gt) = true then k else rbest l k) := rfl
      have hbd := rbest_lt l k
      have h2 : 0 ≤ rbest l k → w.cell? (ad.add (rbest l k).toNat) = some (.float .f64 (l.getD (rbest l k).toNat 0)) := by
        intro hge
        obtain ⟨ad', e, _, hc'⟩ := h (rbest l k).toNat (by omega)
        injection e with e; subst e; exact hc'
      have H2 := Lib.hid h2
      clear h2 h
      generalize l.getD k 0 = y at *
      generalize rbest l k = b at *
      by_cases hn : isNan y = true
      · have HB : Hid (rbest l (k + 1) = b) := by rw [Hid, HR.out, if_pos hn]
        go_wp2_with (go_at_call 29; refine (none_any _ _).mono ?_; rintro e w' ⟨rfl, rfl⟩)
        go_roundw
        case rel => exact ⟨k + 1, n, by omega, by go_num, by rw [HB.out], rfl⟩
        case measure => simp [intOf]; omega
      · have hn' : isNan y = false := by simpa using hn
        by_cases hbn : b < 0
        · have HB : Hid (rbest l (k + 1) = k) := by rw [Hid, HR.out, if_neg hn, if_pos hbn]
          clear hn
          go_wp2_with (go_at_call 29; refine (none_any _ _).mono ?_; rintro e w' ⟨rfl, rfl⟩)
          go_quiet (fail)
          go_wp2
          go_roundw
          case rel => exact ⟨k + 1, _, by omega, by go_num, by rw [HB.out], rfl⟩
          case measure => simp [intOf]; omega
        · have h2 := H2.out (by omega)
          have HB : Hid (rbest l (k + 1) = if (FloatKind.f64.format.order y (l.getD b.toNat 0) == some .gt) = true then (k : Int) else b) := by rw [Hid, HR.out, if_neg hn, if_neg hbn]
          clear HR
          generalize l.getD b.toNat 0 = z at *
          have hb0 : 0 ≤ b := by omega
          have hb1 : b < l.length := by omega
          have hdec : decide (b < 0) = false := by simpa using hb0
          clear hn
          go_wp2_with (go_at_call 29; refine (none_any _ _).mono ?_; rintro e w' ⟨rfl, rfl⟩)
          go_quiet (fail)
          go_wp2
          · go_roundw
            case rel => exact ⟨k + 1, _, by omega, by go_num, by rw [HB.out, if_pos (by assumption)], rfl⟩
            case measure => simp [intOf]; omega
          · go_roundw
            case rel => exact ⟨k + 1, _, by omega, by go_num, by rw [HB.out, if_neg (by simp_all)], rfl⟩
            case measure => simp [intOf]; omega
    · clear h
      have hkl : k = l.length := by omega
      have HK := Lib.hid hkl
      clear hkl
      go_wp2
      go_ret
      exact ⟨ret_int (by rw [HK.out]), _, rfl⟩

/-- What an operation on words gives: the valid one's word; else some word that is no number. -/
def fval (op : BinOp) (x y : Nat) (w : World) : Nat := match floatBits op .f64 x y with
  | some r => r
  | none => (Question.nanBits .f64 x y).cut (w.tape w.drawn (.nanBits .f64 x y))
def fdr (op : BinOp) (x y : Nat) : Nat := match floatBits op .f64 x y with
  | some _ => 0
  | none => 1

theorem run_float (P : Program) (t : TypeId) (op : BinOp) (hop : op = .add ∨ op = .sub ∨ op = .mul ∨ op = .quo) (x y : Nat) (w : World) :
    (binOp op t (.float .f64 x) (.float .f64 y)).run P w = .ok (.float .f64 (fval op x y w)) (w.drewN (fdr op x y)) := by
  rcases hop with rfl | rfl | rfl | rfl
  all_goals
    cases h : floatBits _ .f64 x y with
    | some r => rw [run_float_arith (P := P) w _ t .f64 x y r h]; simp [fval, fdr, h]; rfl
    | none =>
      have h' := h
      unfold floatBits at h'
      simp only at h'
      simp [binOp, Op.floatArith, h', fval, fdr, h, choose, Sem.run, Question.forced]
      rfl
theorem run_fadd (P : Program) (t : TypeId) (x y : Nat) (w : World) : (binOp .add t (.float .f64 x) (.float .f64 y)).run P w = .ok (.float .f64 (fval .add x y w)) (w.drewN (fdr .add x y)) := run_float P t .add (by simp) x y w
theorem run_fsub (P : Program) (t : TypeId) (x y : Nat) (w : World) : (binOp .sub t (.float .f64 x) (.float .f64 y)).run P w = .ok (.float .f64 (fval .sub x y w)) (w.drewN (fdr .sub x y)) := run_float P t .sub (by simp) x y w
theorem run_fmul (P : Program) (t : TypeId) (x y : Nat) (w : World) : (binOp .mul t (.float .f64 x) (.float .f64 y)).run P w = .ok (.float .f64 (fval .mul x y w)) (w.drewN (fdr .mul x y)) := run_float P t .mul (by simp) x y w
theorem run_fquo (P : Program) (t : TypeId) (x y : Nat) (w : World) : (binOp .quo t (.float .f64 x) (.float .f64 y)).run P w = .ok (.float .f64 (fval .quo x y w)) (w.drewN (fdr .quo x y)) := run_float P t .quo (by simp) x y w

/-- r is what the operation may give. -/
def Res (op : BinOp) (x y r : Nat) : Prop := floatBits op .f64 x y = some r ∨ (floatBits op .f64 x y = none ∧ Fl.R < r % Fl.S ∧ r < 2 * Fl.S)

theorem fval_res (op : BinOp) (x y : Nat) (w : World) : Res op x y (fval op x y w) := by
  unfold fval Res
  cases h : floatBits op .f64 x y with
  | some r => exact .inl rfl
  | none =>
    right
    refine ⟨rfl, ?_⟩
    simp only [Question.cut, Fl.R, Fl.B_eq, Fl.S_eq]
    generalize w.tape w.drawn _ = t
    have h2 : (t / 2) % (2 ^ 52 - 1) < 2 ^ 52 - 1 := Nat.mod_lt _ (by decide)
    generalize (t / 2) % (2 ^ 52 - 1) = c at *
    rcases Nat.mod_two_eq_zero_or_one t with ht | ht <;> rw [ht] <;> omega

def ofu (n : Int) : Nat := floatOfInt .f64 n

/-- A float comes back, that is so; nothing but draws happens. -/
def SomeF (p : Nat → Prop) (w : World) (e : Ending) (w' : World) : Prop := ∃ r n, p r ∧ e = .returned (.float .f64 r) ∧ w' = w.drewN n

def RatioIs (a b : Int) (r : Nat) : Prop := Res .quo (ofu a) (ofu b) r
def WorthIs (a b c : Int) (r : Nat) : Prop := ∃ u g m s, RatioIs a b u ∧ Res .sub 4607182418800017408 u g ∧ Res .mul g (ofu c) m ∧ Res .add 4607182418800017408 u s ∧ Res .quo m s r

attribute [local go_sem] run_fadd run_fsub run_fmul run_fquo

theorem ratio_any (a b : Int) (w : World) : Calls Try.prog 17 #[.int .u64 a, .int .u64 b] w (SomeF (RatioIs a b) w) := by
  go_enter Try.func17, Try.ntmps17
  go_wp2
  go_ret
  exact ⟨_, _, fval_res _ _ _ _, rfl, rfl⟩

theorem refratio_any (a b : Int) (w : World) : Calls Try.prog 18 #[.int .u64 a, .int .u64 b] w (SomeF (RatioIs a b) w) := by
  go_enter Try.func18, Try.ntmps18
  go_wp2
  go_ret
  exact ⟨_, _, fval_res _ _ _ _, rfl, rfl⟩

theorem worth_any (a b c : Int) (w : World) : Calls Try.prog 19 #[.int .u64 a, .int .u64 b, .int .u64 c] w (SomeF (WorthIs a b c) w) := by
  go_enter Try.func19, Try.ntmps19
  go_wp2_with (go_at_call 17; refine (ratio_any _ _ _).mono ?_; rintro e w' ⟨u, n, hu, rfl, rfl⟩)
  go_ret
  exact ⟨_, _, ⟨u, _, _, _, hu, fval_res _ _ _ _, fval_res _ _ _ _, fval_res _ _ _ _, fval_res _ _ _ _⟩, rfl, rfl⟩

theorem refworth_any (a b c : Int) (w : World) : Calls Try.prog 20 #[.int .u64 a, .int .u64 b, .int .u64 c] w (SomeF (WorthIs a b c) w) := by
  go_enter Try.func20, Try.ntmps20
  go_wp2_with (go_at_call 18; refine (refratio_any _ _ _).mono ?_; rintro e w' ⟨u, n, hu, rfl, rfl⟩)
  go_ret
  exact ⟨_, _, ⟨u, _, _, _, hu, fval_res _ _ _ _, fval_res _ _ _ _, fval_res _ _ _ _, fval_res _ _ _ _⟩, rfl, rfl⟩
end Go.Proofs.Ytcmngedjnccfaaa
