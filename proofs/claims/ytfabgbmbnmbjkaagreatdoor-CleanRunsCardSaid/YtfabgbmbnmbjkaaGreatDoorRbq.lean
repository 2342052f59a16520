/- Joined texts: Scb Scc. -/
import Derived.Test.YtfabgbmbnmbjkaaGreatDoorChecked
import Derived.Test.YtfabgbmbnmbjkaaGreatDoorRbp
import Derived.Tactics
import Derived.Tactics2
import Derived.WalkKit
import Derived.WalkLawsBesides
import Derived.BigQuiet
import Derived.Deep.QuietTactic
import Derived.Lib.Hide
import Derived.Deep.AppendLies
/- Pruned. -/
namespace Go.Proofs.YtfabgbmbnmbjkaaGreatDoor.Sco
open Go.RowKit
theorem block_of_add (a : Addr) (n : Nat) : (a.add n).block = a.block := by unfold Addr.add; split <;> rfl
theorem add_of_add (a : Addr) (i j : Nat) : (a.add i).add j = a.add (i + j) := by
 unfold Addr.add
 by_cases hi : i = 0 <;> by_cases hj : j = 0 <;> simp [hi, hj, Nat.add_assoc]
def FlAt (w : World) (A : Option Addr) (l : List Nat) : Prop := ∀ k, k < l.length -> ∃ ad, A = some ad ∧ ad.block < w.heap.size ∧ w.cell? (ad.add k) = some (.float .f64 (l.getD k 0))
def isNan (x : Nat) : Bool := FloatKind.f64.format.order x x != some .eq
def ord (x y : Nat) : Int := if isNan x = true then (if isNan y = true then 0 else -1) else if isNan y = true then 1 else if (FloatKind.f64.format.order x y == some .lt) = true then -1 else if (FloatKind.f64.format.order x y == some .gt) = true then 1 else 0
theorem none_any (x : Nat) (w : World) : Calls Tryz.prog 126 #[.float .f64 x] w fun e w' => e = .returned (.bool (isNan x)) ∧ w = w' := by
 go_enter Tryz.func126, Tryz.ntmps126
 go_wp2
 go_ret
 exact ⟨rfl, rfl⟩
theorem cmpnan_any (x : Nat) (w : World) : Calls Tryz.prog 203 #[.float .f64 x] w fun e w' => e = .returned (.bool (isNan x)) ∧ w = w' := by
 go_enter Tryz.func203, Tryz.ntmps203
 go_wp2
 go_ret
 exact ⟨rfl, rfl⟩
theorem ret_int {k : IntKind} {a b : Int} (h : a = b) : Ending.returned (.int k a) = .returned (.int k b) := by rw [h]
theorem compare_any (x y : Nat) (w : World) : Calls Tryz.prog 163 #[.float .f64 x, .float .f64 y] w fun e w' => e = .returned (.int .i64 (ord x y)) ∧ w = w' := by
 go_enter Tryz.func163, Tryz.ntmps163
 go_wp2_with (go_at_call 203; refine (cmpnan_any _ _).mono ?_; rintro e w' ⟨rfl, rfl⟩)
 all_goals (go_ret; refine ⟨ret_int ?_, rfl⟩; simp [ord, *])
theorem order_any (x y : Nat) (w : World) : Calls Tryz.prog 121 #[.float .f64 x, .float .f64 y] w fun e w' => e = .returned (.int .i64 (ord x y)) ∧ w = w' := by
 go_enter Tryz.func121, Tryz.ntmps121
 go_wp2_with (go_at_call 163; refine (compare_any _ _ _).mono ?_; rintro e w' ⟨rfl, rfl⟩)
 go_ret
 exact ⟨rfl, rfl⟩
def place (x : Nat) : List Nat -> Int -> Int
  | [], _ => -1
  | y :: l, i => if (FloatKind.f64.format.order x y == some .eq) = true then i else place x l (i + 1)
theorem place_at (x : Nat) (l : List Nat) (k : Nat) (h : k < l.length) (i : Int) : place x (l.drop k) i = if (FloatKind.f64.format.order x (l.getD k 0) == some .eq) = true then i else place x (l.drop (k + 1)) (i + 1) := by
 rw [List.drop_eq_getElem_cons h, place]
 simp [List.getD_eq_getElem?_getD, h]
def most : List Nat -> Nat -> Nat
  | [], m => m
  | x :: l, m => most l (if 0 < ord x m then x else m)
theorem most_at (l : List Nat) (k m : Nat) (h : k < l.length) : most (l.drop k) m = most (l.drop (k + 1)) (if 0 < ord (l.getD k 0) m then l.getD k 0 else m) := by
 rw [List.drop_eq_getElem_cons h, most]
 simp [List.getD_eq_getElem?_getD, h]
theorem index_any (A : Option Addr) (c : Nat) (l : List Nat) (x : Nat) (w : World) (hl : l.length <= 65536) (h : FlAt w A l) :
    Calls Tryz.prog 119 #[.slice A l.length c, .float .f64 x] w fun e w' => e = .returned (.int .i64 (place x l 0)) ∧ w = w' := by
 go_enter Tryz.func119, Tryz.ntmps119
 go_wp2
 go_loop [8] (fun i => ∃ k : Nat, k <= l.length ∧ i = .int .i64 k ∧ place x (l.drop k) k = place x l 0) (fun i => l.length - (intOf i).toNat)
 case atStart => exact ⟨0, Nat.zero_le _, rfl, rfl⟩
 case round =>
  obtain ⟨k, hk, rfl, hp⟩ := hrel
  have HP := Lib.hid hp
  clear hp
  by_cases hlt : k < l.length
  · obtain ⟨ad, rfl, hb, hc⟩ := h k hlt
    have HQ := Lib.hid (place_at x l k hlt k)
    generalize l.getD k 0 = y at *
    clear h
    go_wp2
    · go_ret
      refine ⟨ret_int ?_, rfl⟩
      rw [<- HP.out, HQ.out, if_pos (by assumption)]
    · go_round
      case rel => exact ⟨k + 1, by omega, by go_num, by rw [<- HP.out, HQ.out, if_neg (by simp_all)]; simp⟩
      case measure => simp [intOf]; omega
  · go_wp2
    go_ret
    refine ⟨ret_int ?_, rfl⟩
    rw [<- HP.out, List.drop_eq_nil_of_le (by omega)]; rfl
theorem maxfunc_any (A : Option Addr) (c : Nat) (l : List Nat) (w : World) (h0 : 0 < l.length) (hl : l.length <= 65536) (h : FlAt w A l) :
    Calls Tryz.prog 120 #[.slice A l.length c, .func (.func 121) #[] #[]] w fun e w' => e = .returned (.float .f64 (most (l.drop 1) (l.getD 0 0))) ∧ w = w' := by
 obtain ⟨ad, rfl, hb, hc⟩ := h 0 h0
 have hc : w.cell? ad = some (.float .f64 (l.getD 0 0)) := by simpa [Addr.add] using hc
 generalize l.getD 0 0 = m0 at *
 obtain ⟨M, hM⟩ : ∃ M, most (l.drop 1) m0 = M := ⟨_, rfl⟩
 have HM := Lib.hid hM
 rw [hM]
 clear hM
 go_enter Tryz.func120, Tryz.ntmps120
 go_wp2
 go_loop [5, 6] (fun m i => ∃ (k : Nat) (x : Nat), 1 <= k ∧ k <= l.length ∧ i = .int .i64 k ∧ m = .float .f64 x ∧ most (l.drop k) x = M) (fun _ i => l.length - (intOf i).toNat)
 case atStart => exact ⟨1, m0, Nat.le_refl _, h0, rfl, rfl, HM.out⟩
 case round =>
  obtain ⟨k, x, hk0, hk, rfl, rfl, hp⟩ := hrel
  have HP := Lib.hid hp
  clear hp hc
  by_cases hlt : k < l.length
  · obtain ⟨ad', e, hb', hc⟩ := h k hlt
    obtain rfl : ad = ad' := by injection e
    have HQ := Lib.hid (most_at l k x hlt)
    generalize l.getD k 0 = y at *
    clear h e
    go_wp2_with (go_at_call 121; refine (order_any _ _ _).mono ?_; rintro e w' ⟨rfl, rfl⟩)
    · go_round
      case rel => exact ⟨k + 1, y, by omega, by omega, by go_num, rfl, by rw [<- HP.out, HQ.out, if_pos (by assumption)]⟩
      case measure => simp [intOf]; omega
    · go_round
      case rel => exact ⟨k + 1, x, by omega, by omega, by go_num, rfl, by rw [<- HP.out, HQ.out, if_neg (by omega)]⟩
      case measure => simp [intOf]; omega
  · clear h
    go_wp2
    go_ret
    refine ⟨?_, rfl⟩
    rw [<- HP.out, List.drop_eq_nil_of_le (show l.length <= k by omega)]; rfl
def bestV (l : List Nat) : Int := if l = [] then -1 else place (most (l.drop 1) (l.getD 0 0)) l 0
theorem best_any (A : Option Addr) (c : Nat) (l : List Nat) (w : World) (hl : l.length <= 65536) (h : FlAt w A l) :
    Calls Tryz.prog 60 #[.slice A l.length c] w fun e w' => e = .returned (.int .i64 (bestV l)) ∧ w = w' := by
 by_cases h0 : l = []
 · subst h0
   go_enter Tryz.func60, Tryz.ntmps60
   go_wp2
   go_ret
   exact ⟨rfl, rfl⟩
 · have hp : 0 < l.length := List.length_pos_iff.2 h0
   have hz : ((l.length : Int) == 0) = false := by simp; omega
   have HV := Lib.hid (show bestV l = place (most (l.drop 1) (l.getD 0 0)) l 0 by unfold bestV; rw [if_neg h0])
   have HM := maxfunc_any A c l w hp hl h
   have HI := index_any A c l (most (l.drop 1) (l.getD 0 0)) w hl h
   have HM := Lib.hid HM
   have HI := Lib.hid HI
   clear h h0
   generalize most (l.drop 1) (l.getD 0 0) = m at *
   go_enter Tryz.func60, Tryz.ntmps60
   go_wp2_with (first | (go_at_call 120; refine (HM.out).mono ?_; rintro e w' ⟨rfl, rfl⟩) | (go_at_call 119; refine (HI.out).mono ?_; rintro e w' ⟨rfl, rfl⟩))
   go_ret
   exact ⟨ret_int HV.out.symm, rfl⟩
def rbest (l : List Nat) : Nat -> Int
  | 0 => -1
  | k + 1 => if isNan (l.getD k 0) = true then rbest l k else if rbest l k < 0 then k else if (FloatKind.f64.format.order (l.getD k 0) (l.getD (rbest l k).toNat 0) == some .gt) = true then k else rbest l k
theorem rbest_lt (l : List Nat) (k : Nat) : -1 <= rbest l k ∧ rbest l k < k := by
 induction k with
 | zero => simp [rbest]
 | succ k ih => unfold rbest; split <;> (try split) <;> (try split) <;> omega
theorem refbest_any (A : Option Addr) (c : Nat) (l : List Nat) (w : World) (hl : l.length <= 65536) (h : FlAt w A l) :
    Calls Tryz.prog 70 #[.slice A l.length c] w fun e w' => e = .returned (.int .i64 (rbest l l.length)) ∧ ∃ n, w' = w.drewN n := by
 go_enter Tryz.func70, Tryz.ntmps70
 go_wp2
 go_loopw [3, 4] (fun b i wr => ∃ k n : Nat, k <= l.length ∧ i = .int .i64 k ∧ b = .int .i64 (rbest l k) ∧ wr = w.drewN n) (fun _ i _ => l.length - (intOf i).toNat)
 case atStart => exact ⟨0, 0, Nat.zero_le _, rfl, rfl, rfl⟩
 case round =>
  obtain ⟨k, n, hk, rfl, rfl, rfl⟩ := hrel
  by_cases hlt : k < l.length
  · obtain ⟨ad, rfl, hb, hc⟩ := h k hlt
    have HR : Hid (rbest l (k + 1) = if isNan (l.getD k 0) = true then rbest l k else if rbest l k < 0 then k else if (FloatKind.f64.format.order (l.getD k 0) (l.getD (rbest l k).toNat 0) == some .gt) = true then k else rbest l k) := rfl
    have hbd := rbest_lt l k
    have h2 : 0 <= rbest l k -> w.cell? (ad.add (rbest l k).toNat) = some (.float .f64 (l.getD (rbest l k).toNat 0)) := by
     intro hge
     obtain ⟨ad', e, _, hc'⟩ := h (rbest l k).toNat (by omega)
     injection e with e; subst e; exact hc'
    have H2 := Lib.hid h2
    clear h2 h
    generalize l.getD k 0 = y at *
    generalize rbest l k = b at *
    by_cases hn : isNan y = true
    · have HB : Hid (rbest l (k + 1) = b) := by rw [Hid, HR.out, if_pos hn]
      go_wp2_with (go_at_call 126; refine (none_any _ _).mono ?_; rintro e w' ⟨rfl, rfl⟩)
      go_roundw
      case rel => exact ⟨k + 1, n, by omega, by go_num, by rw [HB.out], rfl⟩
      case measure => simp [intOf]; omega
    · have hn' : isNan y = false := by simpa using hn
      by_cases hbn : b < 0
      · have HB : Hid (rbest l (k + 1) = k) := by rw [Hid, HR.out, if_neg hn, if_pos hbn]
        clear hn
        go_wp2_with (go_at_call 126; refine (none_any _ _).mono ?_; rintro e w' ⟨rfl, rfl⟩)
        go_quiet (fail)
        go_wp2
        go_roundw
        case rel => exact ⟨k + 1, _, by omega, by go_num, by rw [HB.out], rfl⟩
        case measure => simp [intOf]; omega
      · have h2 := H2.out (by omega)
        have HB : Hid (rbest l (k + 1) = if (FloatKind.f64.format.order y (l.getD b.toNat 0) == some .gt) = true then (k : Int) else b) := by rw [Hid, HR.out, if_neg hn, if_neg hbn]
        clear HR
        generalize l.getD b.toNat 0 = z at *
        have hb0 : 0 <= b := by omega
        have hb1 : b < l.length := by omega
        have hdec : decide (b < 0) = false := by simpa using hb0
        clear hn
        go_wp2_with (go_at_call 126; refine (none_any _ _).mono ?_; rintro e w' ⟨rfl, rfl⟩)
        go_quiet (fail)
        go_wp2
        · go_roundw
          case rel => exact ⟨k + 1, _, by omega, by go_num, by rw [HB.out, if_pos (by assumption)], rfl⟩
          case measure => simp [intOf]; omega
        · go_roundw
          case rel => exact ⟨k + 1, _, by omega, by go_num, by rw [HB.out, if_neg (by simp_all)], rfl⟩
          case measure => simp [intOf]; omega
  · clear h
    have hkl : k = l.length := by omega
    have HK := Lib.hid hkl
    clear hkl
    go_wp2
    go_ret
    exact ⟨ret_int (by rw [HK.out]), _, rfl⟩
def fval (op : BinOp) (x y : Nat) (w : World) : Nat := match floatBits op .f64 x y with
 | some r => r
 | none => (Question.nanBits .f64 x y).cut (w.tape w.drawn (.nanBits .f64 x y))
def fdr (op : BinOp) (x y : Nat) : Nat := match floatBits op .f64 x y with
 | some _ => 0
 | none => 1
theorem run_float (P : Program) (t : TypeId) (op : BinOp) (hop : op = .add ∨ op = .sub ∨ op = .mul ∨ op = .quo) (x y : Nat) (w : World) :
    (binOp op t (.float .f64 x) (.float .f64 y)).run P w = .ok (.float .f64 (fval op x y w)) (w.drewN (fdr op x y)) := by
 rcases hop with rfl | rfl | rfl | rfl
 all_goals
  cases h : floatBits _ .f64 x y with
  | some r => rw [run_float_arith (P := P) w _ t .f64 x y r h]; simp [fval, fdr, h]; rfl
  | none =>
    have h' := h
    unfold floatBits at h'
    simp only at h'
    simp [binOp, Op.floatArith, h', fval, fdr, h, choose, Sem.run, Question.forced]
    rfl
theorem run_fadd (P : Program) (t : TypeId) (x y : Nat) (w : World) : (binOp .add t (.float .f64 x) (.float .f64 y)).run P w = .ok (.float .f64 (fval .add x y w)) (w.drewN (fdr .add x y)) := run_float P t .add (by simp) x y w
theorem run_fsub (P : Program) (t : TypeId) (x y : Nat) (w : World) : (binOp .sub t (.float .f64 x) (.float .f64 y)).run P w = .ok (.float .f64 (fval .sub x y w)) (w.drewN (fdr .sub x y)) := run_float P t .sub (by simp) x y w
theorem run_fmul (P : Program) (t : TypeId) (x y : Nat) (w : World) : (binOp .mul t (.float .f64 x) (.float .f64 y)).run P w = .ok (.float .f64 (fval .mul x y w)) (w.drewN (fdr .mul x y)) := run_float P t .mul (by simp) x y w
theorem run_fquo (P : Program) (t : TypeId) (x y : Nat) (w : World) : (binOp .quo t (.float .f64 x) (.float .f64 y)).run P w = .ok (.float .f64 (fval .quo x y w)) (w.drewN (fdr .quo x y)) := run_float P t .quo (by simp) x y w
def Res (op : BinOp) (x y r : Nat) : Prop := floatBits op .f64 x y = some r ∨ (floatBits op .f64 x y = none ∧ Fl.R < r % Fl.S ∧ r < 2 * Fl.S)
theorem fval_res (op : BinOp) (x y : Nat) (w : World) : Res op x y (fval op x y w) := by
 unfold fval Res
 cases h : floatBits op .f64 x y with
 | some r => exact .inl rfl
 | none =>
   right
   refine ⟨rfl, ?_⟩
   simp only [Question.cut, Fl.R, Fl.B_eq, Fl.S_eq]
   generalize w.tape w.drawn _ = t
   have h2 : (t / 2) % (2 ^ 52 - 1) < 2 ^ 52 - 1 := Nat.mod_lt _ (by decide)
   generalize (t / 2) % (2 ^ 52 - 1) = c at *
   rcases Nat.mod_two_eq_zero_or_one t with ht | ht <;> rw [ht] <;> omega
def ofu (n : Int) : Nat := floatOfInt .f64 n
def SomeF (p : Nat -> Prop) (w : World) (e : Ending) (w' : World) : Prop := ∃ r n, p r ∧ e = .returned (.float .f64 r) ∧ w' = w.drewN n
def RatioIs (a b : Int) (r : Nat) : Prop := Res .quo (ofu a) (ofu b) r
def WorthIs (a b c : Int) (r : Nat) : Prop := ∃ u g m s, RatioIs a b u ∧ Res .sub 4607182418800017408 u g ∧ Res .mul g (ofu c) m ∧ Res .add 4607182418800017408 u s ∧ Res .quo m s r
attribute [local go_sem] run_fadd run_fsub run_fmul run_fquo
theorem ratio_any (a b : Int) (w : World) : Calls Tryz.prog 117 #[.int .u64 a, .int .u64 b] w (SomeF (RatioIs a b) w) := by
 go_enter Tryz.func117, Tryz.ntmps117
 go_wp2
 go_ret
 exact ⟨_, _, fval_res _ _ _ _, rfl, rfl⟩
theorem refratio_any (a b : Int) (w : World) : Calls Tryz.prog 125 #[.int .u64 a, .int .u64 b] w (SomeF (RatioIs a b) w) := by
 go_enter Tryz.func125, Tryz.ntmps125
 go_wp2
 go_ret
 exact ⟨_, _, fval_res _ _ _ _, rfl, rfl⟩
theorem worth_any (a b c : Int) (w : World) : Calls Tryz.prog 118 #[.int .u64 a, .int .u64 b, .int .u64 c] w (SomeF (WorthIs a b c) w) := by
 go_enter Tryz.func118, Tryz.ntmps118
 go_wp2_with (go_at_call 117; refine (ratio_any _ _ _).mono ?_; rintro e w' ⟨u, n, hu, rfl, rfl⟩)
 go_ret
 exact ⟨_, _, ⟨u, _, _, _, hu, fval_res _ _ _ _, fval_res _ _ _ _, fval_res _ _ _ _, fval_res _ _ _ _⟩, rfl, rfl⟩
theorem refworth_any (a b c : Int) (w : World) : Calls Tryz.prog 68 #[.int .u64 a, .int .u64 b, .int .u64 c] w (SomeF (WorthIs a b c) w) := by
 go_enter Tryz.func68, Tryz.ntmps68
 go_wp2_with (go_at_call 125; refine (refratio_any _ _ _).mono ?_; rintro e w' ⟨u, n, hu, rfl, rfl⟩)
 go_ret
 exact ⟨_, _, ⟨u, _, _, _, hu, fval_res _ _ _ _, fval_res _ _ _ _, fval_res _ _ _ _, fval_res _ _ _ _⟩, rfl, rfl⟩
end Go.Proofs.YtfabgbmbnmbjkaaGreatDoor.Sco

/- Pruned. -/
namespace Go.Proofs.YtfabgbmbnmbjkaaGreatDoor.Sco
open Go.RowKit Fl
theorem fmt_eq : FloatKind.f64.format = Ieee.double := rfl
theorem isNan_eq (x : Nat) : isNan x = decide (R < x % S) := by
 unfold isNan
 rw [fmt_eq]
 by_cases h : R < x % S
 · rw [order_nan_left _ h, decide_eq_true h]; rfl
 · rw [order_num (by omega) (by omega), decide_eq_false h]
   simp
theorem not_nan {x : Nat} : isNan x = false ↔ x % S <= R := by rw [isNan_eq]; simp
theorem is_nan {x : Nat} : isNan x = true ↔ R < x % S := by rw [isNan_eq]; simp
theorem order_key {x y : Nat} (hx : isNan x = false) (hy : isNan y = false) : FloatKind.f64.format.order x y = some (compare (key x) (key y)) := by
 rw [fmt_eq]; exact order_num (not_nan.1 hx) (not_nan.1 hy)
theorem order_nan {x y : Nat} (h : isNan x = true ∨ isNan y = true) : FloatKind.f64.format.order x y = none := by
 rw [fmt_eq]
 rcases h with h | h
 · exact order_nan_left _ (is_nan.1 h)
 · exact order_nan_right _ (is_nan.1 h)
theorem lt_key {x y : Nat} (hx : isNan x = false) (hy : isNan y = false) : (FloatKind.f64.format.order x y == some .lt) = decide (key x < key y) := by
 rw [order_key hx hy]
 rcases Int.lt_trichotomy (key x) (key y) with h | h | h
 · rw [Int.compare_eq_lt.2 h]; simp [h]
 · rw [h]; simp
 · rw [Int.compare_eq_gt.2 h]; simp; omega
theorem gt_key {x y : Nat} (hx : isNan x = false) (hy : isNan y = false) : (FloatKind.f64.format.order x y == some .gt) = decide (key y < key x) := by
 rw [order_key hx hy]
 rcases Int.lt_trichotomy (key x) (key y) with h | h | h
 · rw [Int.compare_eq_lt.2 h]; simp; omega
 · rw [h]; simp
 · rw [Int.compare_eq_gt.2 h]; simp [h]
theorem eq_key {x y : Nat} (hx : isNan x = false) (hy : isNan y = false) : (FloatKind.f64.format.order x y == some .eq) = decide (key x = key y) := by
 rw [order_key hx hy]
 rcases Int.lt_trichotomy (key x) (key y) with h | h | h
 · rw [Int.compare_eq_lt.2 h]; simp; omega
 · rw [h]; simp
 · rw [Int.compare_eq_gt.2 h]; simp; omega
theorem key_le (x : Nat) (hx : isNan x = false) : -(R : Int) <= key x ∧ key x <= R := by
 have := not_nan.1 hx
 unfold key
 split <;> omega
def rank (x : Nat) : Int := if isNan x = true then -((R : Nat) : Int) - 1 else key x
theorem ord_rank (x y : Nat) : ord x y = if rank x < rank y then -1 else if rank y < rank x then 1 else 0 := by
 unfold ord rank
 by_cases hx : isNan x = true <;> by_cases hy : isNan y = true
 · simp [hx, hy]
 · have := key_le y (by simpa using hy)
   simp only [hx, hy, if_true, if_false, Bool.false_eq_true]
   rw [if_pos (by omega)]
 · have := key_le x (by simpa using hx)
   simp only [hx, hy, if_true, if_false, Bool.false_eq_true]
   rw [if_neg (by omega), if_pos (by omega)]
 · have hx' : isNan x = false := by simpa using hx
   have hy' : isNan y = false := by simpa using hy
   rw [lt_key hx' hy', gt_key hx' hy']
   simp only [hx', hy', Bool.false_eq_true, if_false, decide_eq_true_eq]
def Sm (x y : Nat) : Prop := x = y ∨ (isNan x = true ∧ isNan y = true)
theorem res_nan_left (op : BinOp) {x : Nat} (y : Nat) (h : isNan x = true) : floatBits op .f64 x y = none := by
 obtain ⟨f, e⟩ := read_nan (is_nan.1 h)
 unfold floatBits
 cases op <;> simp only [fmt_eq, Ieee.Format.add, Ieee.Format.sub, Ieee.Format.mul, Ieee.Format.div, e] <;> simp [Ieee.Datum.sum, Ieee.Datum.product, Ieee.Datum.quotient]
theorem res_nan_right (op : BinOp) (x : Nat) {y : Nat} (h : isNan y = true) : floatBits op .f64 x y = none := by
 obtain ⟨f, e⟩ := read_nan (is_nan.1 h)
 unfold floatBits
 cases op <;> simp only [fmt_eq, Ieee.Format.add, Ieee.Format.sub, Ieee.Format.mul, Ieee.Format.div, e] <;> cases Ieee.double.read x <;> simp [Ieee.Datum.sum, Ieee.Datum.product, Ieee.Datum.quotient, Ieee.Datum.opposite]
theorem Res.of_none {op : BinOp} {x y r : Nat} (h : Res op x y r) (hn : floatBits op .f64 x y = none) : isNan r = true := by
 rcases h with h | ⟨_, h, _⟩
 · rw [hn] at h; cases h
 · exact is_nan.2 h
theorem Res.same {op : BinOp} {x y r x' y' r' : Nat} (h : Res op x y r) (h' : Res op x' y' r') (hx : Sm x x') (hy : Sm y y') : Sm r r' := by
 have both : floatBits op .f64 x y = none -> floatBits op .f64 x' y' = none -> Sm r r' := fun a b => .inr ⟨h.of_none a, h'.of_none b⟩
 rcases hx with rfl | ⟨hx, hx'⟩
 · rcases hy with rfl | ⟨hy, hy'⟩
   · rcases h with h | ⟨h, h2, h3⟩
     · rcases h' with h' | ⟨h', _⟩
       · left; rw [h] at h'; exact Option.some.inj h'
       · rw [h] at h'; cases h'
     · exact both h (by
        exact h)
   · exact both (res_nan_right _ _ hy) (res_nan_right _ _ hy')
 · exact both (res_nan_left _ _ hx) (res_nan_left _ _ hx')
theorem Res.lt {op : BinOp} {x y r : Nat} (h : Res op x y r) : r < 18446744073709551616 := by
 rcases h with h | ⟨_, _, h⟩
 · have := floatBits_wf h
   simpa [Lit.wf] using this
 · rw [S_eq] at h; omega
theorem Sm.refl (x : Nat) : Sm x x := .inl rfl
theorem ratio_nan {r : Nat} (h : RatioIs 0 0 r) : isNan r = true := Res.of_none h (by kernel_rfl)
theorem WorthIs.same {a b c : Int} {r r' : Nat} (h : WorthIs a b c r) (h' : WorthIs a b c r') : Sm r r' := by
 obtain ⟨u, g, m, s, hu, hg, hm, hs, hr⟩ := h
 obtain ⟨u', g', m', s', hu', hg', hm', hs', hr'⟩ := h'
 have k1 := Res.same hu hu' (.refl _) (.refl _)
 have k2 := hg.same hg' (.refl _) k1
 have k3 := hm.same hm' k2 (.refl _)
 have k4 := hs.same hs' (.refl _) k1
 exact hr.same hr' k3 k4
def IsBest (l : List Nat) (k : Nat) (n : Int) : Prop :=
 (n = -1 ∧ ∀ i, i < k -> isNan (l.getD i 0) = true) ∨
 (∃ m : Nat, n = m ∧ m < k ∧ isNan (l.getD m 0) = false ∧ (∀ i, i < k -> isNan (l.getD i 0) = false -> key (l.getD i 0) <= key (l.getD m 0)) ∧ (∀ i, i < m -> isNan (l.getD i 0) = false -> key (l.getD i 0) < key (l.getD m 0)))
theorem IsBest.unique {l : List Nat} {k : Nat} {n n' : Int} (h : IsBest l k n) (h' : IsBest l k n') : n = n' := by
 rcases h with ⟨rfl, h⟩ | ⟨m, rfl, hm, hn, hle, hlt⟩ <;> rcases h' with ⟨rfl, h'⟩ | ⟨m', rfl, hm', hn', hle', hlt'⟩
 · rfl
 · rw [h m' hm'] at hn'; cases hn'
 · rw [h' m hm] at hn; cases hn
 · rcases Nat.lt_trichotomy m m' with hc | hc | hc
   · have := hlt' m hc hn; have := hle m' hm' hn'; omega
   · rw [hc]
   · have := hlt m' hc hn'; have := hle' m hm hn; omega
theorem rbest_is (l : List Nat) (k : Nat) : IsBest l k (rbest l k) := by
 induction k with
 | zero => exact .inl ⟨rfl, fun i hi => by omega⟩
 | succ k ih =>
   unfold rbest
   by_cases hn : isNan (l.getD k 0) = true
   · rw [if_pos hn]
     rcases ih with ⟨h1, h2⟩ | ⟨m, h1, h2, h3, h4, h5⟩
     · refine .inl ⟨h1, fun i hi => ?_⟩
       rcases Nat.lt_succ_iff_lt_or_eq.1 hi with hi | rfl
       · exact h2 i hi
       · exact hn
     · refine .inr ⟨m, h1, by omega, h3, fun i hi hni => ?_, h5⟩
       rcases Nat.lt_succ_iff_lt_or_eq.1 hi with hi | rfl
       · exact h4 i hi hni
       · rw [hn] at hni; cases hni
   · have hn' : isNan (l.getD k 0) = false := by simpa using hn
     rw [if_neg hn]
     rcases ih with ⟨h1, h2⟩ | ⟨m, h1, h2, h3, h4, h5⟩
     · rw [if_pos (by omega)]
       refine .inr ⟨k, rfl, by omega, hn', fun i hi hni => ?_, fun i hi hni => ?_⟩
       · rcases Nat.lt_succ_iff_lt_or_eq.1 hi with hi | rfl
         · rw [h2 i hi] at hni; cases hni
         · exact Int.le_refl _
       · rw [h2 i hi] at hni; cases hni
     · rw [if_neg (by omega), h1, Int.toNat_natCast, gt_key hn' h3]
       by_cases hgt : key (l.getD m 0) < key (l.getD k 0)
       · rw [if_pos (by simpa using hgt)]
         refine .inr ⟨k, rfl, by omega, hn', fun i hi hni => ?_, fun i hi hni => ?_⟩
         · rcases Nat.lt_succ_iff_lt_or_eq.1 hi with hi | rfl
           · have := h4 i hi hni; omega
           · exact Int.le_refl _
         · have := h4 i hi hni; omega
       · rw [if_neg (by simpa using hgt)]
         refine .inr ⟨m, rfl, by omega, h3, fun i hi hni => ?_, h5⟩
         rcases Nat.lt_succ_iff_lt_or_eq.1 hi with hi | rfl
         · exact h4 i hi hni
         · omega
theorem place_spec (x : Nat) (l : List Nat) (i : Int) :
    (place x l i = -1 ∧ ∀ j, j < l.length -> (FloatKind.f64.format.order x (l.getD j 0) == some .eq) = false) ∨
    (∃ j : Nat, place x l i = i + j ∧ j < l.length ∧ (FloatKind.f64.format.order x (l.getD j 0) == some .eq) = true ∧ ∀ j', j' < j -> (FloatKind.f64.format.order x (l.getD j' 0) == some .eq) = false) := by
 induction l generalizing i with
 | nil => exact .inl ⟨rfl, fun j hj => by simp at hj⟩
 | cons y l ih =>
   unfold place
   by_cases h : (FloatKind.f64.format.order x y == some .eq) = true
   · rw [if_pos h]
     exact .inr ⟨0, by simp, by simp, by simpa using h, fun j' hj' => by omega⟩
   · have h' : (FloatKind.f64.format.order x y == some .eq) = false := by simpa using h
     rw [if_neg h]
     rcases ih (i + 1) with ⟨h1, h2⟩ | ⟨j, h1, h2, h3, h4⟩
     · refine .inl ⟨h1, fun j hj => ?_⟩
       match j, hj with
       | 0, _ => simpa using h'
       | j + 1, hj => simpa using h2 j (by simpa using hj)
     · refine .inr ⟨j + 1, by rw [h1]; simp; omega, by simpa using h2, by simpa using h3, fun j' hj' => ?_⟩
       match j', hj' with
       | 0, _ => simpa using h'
       | j' + 1, hj' => simpa using h4 j' (by omega)
theorem most_spec (l : List Nat) (m : Nat) : (most l m = m ∨ most l m ∈ l) ∧ rank m <= rank (most l m) ∧ ∀ x ∈ l, rank x <= rank (most l m) := by
 induction l generalizing m with
 | nil => exact ⟨.inl rfl, Int.le_refl _, fun x hx => by cases hx⟩
 | cons y l ih =>
   unfold most
   have hr := ord_rank y m
   by_cases h : 0 < ord y m
   · rw [if_pos h]
     obtain ⟨h1, h2, h3⟩ := ih y
     have : rank m < rank y := by
      rw [hr] at h
      split at h
      · omega
      · split at h <;> omega
     refine ⟨.inr ?_, by omega, fun x hx => ?_⟩
     · rcases h1 with h1 | h1
       · rw [h1]; exact List.mem_cons_self
       · exact List.mem_cons_of_mem _ h1
     · rcases List.mem_cons.1 hx with rfl | hx
       · exact h2
       · exact h3 x hx
   · rw [if_neg h]
     obtain ⟨h1, h2, h3⟩ := ih m
     have : rank y <= rank m := by
      rw [hr] at h
      split at h
      · omega
      · split at h <;> omega
     refine ⟨?_, h2, fun x hx => ?_⟩
     · rcases h1 with h1 | h1
       · exact .inl h1
       · exact .inr (List.mem_cons_of_mem _ h1)
     · rcases List.mem_cons.1 hx with rfl | hx
       · omega
       · exact h3 x hx
theorem best_is (l : List Nat) : IsBest l l.length (bestV l) := by
 unfold bestV
 cases l with
 | nil => exact .inl ⟨rfl, fun i hi => by simp at hi⟩
 | cons a l =>
   rw [if_neg (by simp)]
   simp only [List.drop_succ_cons, List.drop_zero, List.getD_cons_zero]
   obtain ⟨h1, h2, h3⟩ := most_spec l a
   generalize most l a = m at *
   have hmem : m ∈ a :: l := by
    rcases h1 with h1 | h1
    · rw [h1]; exact List.mem_cons_self
    · exact List.mem_cons_of_mem _ h1
   have hall : ∀ x ∈ a :: l, rank x <= rank m := fun x hx => by
    rcases List.mem_cons.1 hx with rfl | hx
    · exact h2
    · exact h3 x hx
   generalize hL : a :: l = L at *
   clear h1 h2 h3 hL
   have hget : ∀ i, i < L.length -> L.getD i 0 ∈ L := fun i hi => by
    simp [List.getD_eq_getElem?_getD, hi]
   by_cases hn : isNan m = true
   · have hnone : ∀ i, i < L.length -> isNan (L.getD i 0) = true := fun i hi => by
      have := hall _ (hget i hi)
      by_cases hx : isNan (L.getD i 0) = true
      · exact hx
      · have hk := key_le _ (show isNan (L.getD i 0) = false by simpa using hx)
        unfold rank at this
        rw [if_neg hx, if_pos hn] at this
        omega
     rcases place_spec m L 0 with ⟨h1, _⟩ | ⟨j, h1, h2, h3, h4⟩
     · exact .inl ⟨h1, hnone⟩
     · rw [order_nan (.inl hn)] at h3; cases h3
   · have hn' : isNan m = false := by simpa using hn
     have hle : ∀ i, i < L.length -> isNan (L.getD i 0) = false -> key (L.getD i 0) <= key m := fun i hi hni => by
      have := hall _ (hget i hi)
      unfold rank at this
      rw [if_neg (by rw [hni]; decide), if_neg hn] at this
      exact this
     have heq : ∀ j, (FloatKind.f64.format.order m (L.getD j 0) == some .eq) = true -> isNan (L.getD j 0) = false ∧ key (L.getD j 0) = key m := fun j hj => by
      by_cases hx : isNan (L.getD j 0) = true
      · rw [order_nan (.inr hx)] at hj; cases hj
      · have hx' : isNan (L.getD j 0) = false := by simpa using hx
        rw [eq_key hn' hx'] at hj
        exact ⟨hx', (of_decide_eq_true hj).symm⟩
     rcases place_spec m L 0 with ⟨h1, h2⟩ | ⟨j, h1, h2, h3, h4⟩
     · exfalso
       obtain ⟨i, hi, he⟩ := List.getElem_of_mem hmem
       have := h2 i hi
       have e : L.getD i 0 = m := by simp [List.getD_eq_getElem?_getD, hi, he]
       rw [e, eq_key hn' hn'] at this
       simp at this
     · obtain ⟨k1, k2⟩ := heq j h3
       refine .inr ⟨j, by rw [h1]; simp, h2, k1, fun i hi hni => by rw [k2]; exact hle i hi hni, fun i hi hni => ?_⟩
       have := h4 i hi
       rw [eq_key hn' hni] at this
       have h5 := hle i (by omega) hni
       rw [k2]
       have h6 : ¬ key m = key (L.getD i 0) := by simpa using this
       omega
end Go.Proofs.YtfabgbmbnmbjkaaGreatDoor.Sco

