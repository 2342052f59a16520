/- SegDoes: a Seg and its reference, step by step. -/
import Derived.Test.YtgninjlgeibgpaaTu
set_option linter.unusedVariables false
namespace Go.Proofs.Ytgninjlgeibgpaa
open Go.RowKit

/-- A Seg and its reference, made behind W. -/
structure SD (W w : World) (g b g' b' cap : Nat) (ex : List Value) (l l' : List Int) (z zb bl rs : Int) : Prop where
  ok : SegOk w g b l rs
  rf : RefIs w g' b' cap ex l' z zb bl rs
  bw : Below W.heap.size W w
  n1 : W.heap.size ≤ g
  n2 : W.heap.size ≤ b
  n3 : W.heap.size ≤ b'
  d1 : g ≠ b'
  d2 : b ≠ b'
  d3 : g ≠ g'
  d4 : b ≠ g'
  len : l'.length ≤ 65535

def stepB (l : List Int) (x a : Int) : Bool := decide (stateAt l x = a)
def stepL (l : List Int) (x a c : Int) : List Int := if stateAt l x = a then turnL l x c else l
def takeB (l : List Int) : Bool := decide (placeI 1 l 0 ≠ -1)
def takeZ (l : List Int) : Int := if placeI 1 l 0 = -1 then 0 else placeI 1 l 0
def takeL (l : List Int) : List Int := if placeI 1 l 0 = -1 then l else turnL l (placeI 1 l 0) 2
theorem stepL_length (l : List Int) (x a c : Int) : (stepL l x a c).length = l.length := by unfold stepL; split <;> simp [turnL]
theorem takeL_length (l : List Int) : (takeL l).length = l.length := by unfold takeL; split <;> simp [turnL]

section
variable {W w w' : World} {g b g' b' cap : Nat} {ex : List Value} {l l' : List Int} {z zb bl rs : Int}
theorem SD.below (h : SD W w g b g' b' cap ex l l' z zb bl rs) (k : Below w.heap.size w w') : SD W w' g b g' b' cap ex l l' z zb bl rs :=
  ⟨⟨h.ok.1.below k, h.ok.2⟩, h.rf.below k, h.bw.trans (k.mono h.bw.size), h.n1, h.n2, h.n3, h.d1, h.d2, h.d3, h.d4, h.len⟩
theorem SD.drewN (h : SD W w g b g' b' cap ex l l' z zb bl rs) (n : Nat) : SD W (w.drewN n) g b g' b' cap ex l l' z zb bl rs :=
  ⟨⟨h.ok.1.drewN n, h.ok.2⟩, h.rf.drewN n, below_drewN h.bw n, h.n1, h.n2, h.n3, h.d1, h.d2, h.d3, h.d4, h.len⟩
/-- The Seg takes a step. -/
theorem SD.seg {m : List Int} (h : SD W w g b g' b' cap ex l l' z zb bl rs) (k : Kp (fun x => x = g ∨ x = b) w w') (hs : SegOk w' g b m rs) : SD W w' g b g' b' cap ex m l' z zb bl rs :=
  ⟨hs, h.rf.kp k (by have := h.d3; have := h.d4; omega) (by have := h.d1; have := h.d2; omega), kp_below h.bw k h.n1 h.n2, h.n1, h.n2, h.n3, h.d1, h.d2, h.d3, h.d4, h.len⟩
/-- The reference takes a step. -/
theorem SD.ref {m : List Int} (h : SD W w g b g' b' cap ex l l' z zb bl rs) (k : Kp (fun x => x = b') w w') (hm : m.length = l'.length) (hs : RefIs w' g' b' cap ex m z zb bl rs) : SD W w' g b g' b' cap ex l m z zb bl rs :=
  ⟨⟨h.ok.1.kp k h.d1 h.d2, h.ok.2⟩, hs, Kp.below h.bw k h.bw.size (fun x hx => by have := h.n3; omega), h.n1, h.n2, h.n3, h.d1, h.d2, h.d3, h.d4, by rw [hm]; exact h.len⟩

theorem sd_turns {e : Ending} {x a c : Int} (h : SD W w g b g' b' cap ex l l' z zb bl rs) (k : TurnsOk g b l rs x a c w e w') : e = .returned (.bool (stepB l x a)) ∧ SD W w' g b g' b' cap ex (stepL l x a c) l' z zb bl rs := by
  obtain ⟨h1, h2, h3⟩ := k
  unfold stepB stepL
  by_cases hs : stateAt l x = a
  · rw [if_pos hs, decide_eq_true hs]
    exact ⟨(h1 hs).1, h.seg h3 (h1 hs).2⟩
  · rw [if_neg hs, decide_eq_false hs]
    exact ⟨(h2 hs).1, h.seg h3 (h2 hs).2⟩
theorem sd_rturns {e : Ending} {x a c : Int} (h : SD W w g b g' b' cap ex l l' z zb bl rs) (k : RTurns g' b' cap ex l' z zb bl rs x a c w e w') : e = .returned (.bool (stepB l' x a)) ∧ SD W w' g b g' b' cap ex l (stepL l' x a c) z zb bl rs := by
  obtain ⟨h1, h2, h3⟩ := k
  unfold stepB stepL
  by_cases hs : stateAt l' x = a
  · rw [if_pos hs, decide_eq_true hs]
    exact ⟨(h1 hs).1, h.ref h3 (by simp [turnL]) (h1 hs).2⟩
  · rw [if_neg hs, decide_eq_false hs]
    exact ⟨(h2 hs).1, h.ref h3 rfl (h2 hs).2⟩

theorem sd_fill (h : SD W w g b g' b' cap ex l l' z zb bl rs) (x : Int) : Calls Try.prog 12 #[.pointer (some ⟨g, 0, none⟩), .int .i64 x] w fun e w' => e = .returned (.bool (stepB l x 2)) ∧ SD W w' g b g' b' cap ex (stepL l x 2 3) l' z zb bl rs :=
  (fill_any g b l rs x w h.ok).mono fun _ _ k => sd_turns h k
theorem sd_clear (h : SD W w g b g' b' cap ex l l' z zb bl rs) (x : Int) : Calls Try.prog 14 #[.pointer (some ⟨g, 0, none⟩), .int .i64 x] w fun e w' => e = .returned (.bool (stepB l x 3)) ∧ SD W w' g b g' b' cap ex (stepL l x 3 1) l' z zb bl rs :=
  (clear_any g b l rs x w h.ok).mono fun _ _ k => sd_turns h k
theorem sd_found (h : SD W w g b g' b' cap ex l l' z zb bl rs) (x : Int) : Calls Try.prog 16 #[.pointer (some ⟨g, 0, none⟩), .int .i64 x] w fun e w' => e = .returned (.bool (stepB l x 1)) ∧ SD W w' g b g' b' cap ex (stepL l x 1 3) l' z zb bl rs :=
  (found_any g b l rs x w h.ok).mono fun _ _ k => sd_turns h k
theorem sd_rfill (h : SD W w g b g' b' cap ex l l' z zb bl rs) (x : Int) : Calls Try.prog 13 #[.pointer (some ⟨g', 0, none⟩), .int .i64 x] w fun e w' => e = .returned (.bool (stepB l' x 2)) ∧ SD W w' g b g' b' cap ex l (stepL l' x 2 3) z zb bl rs :=
  (reffill_any g' b' cap ex l' z zb bl rs x w h.rf).mono fun _ _ k => sd_rturns h k
theorem sd_rclear (h : SD W w g b g' b' cap ex l l' z zb bl rs) (x : Int) : Calls Try.prog 15 #[.pointer (some ⟨g', 0, none⟩), .int .i64 x] w fun e w' => e = .returned (.bool (stepB l' x 3)) ∧ SD W w' g b g' b' cap ex l (stepL l' x 3 1) z zb bl rs :=
  (refclear_any g' b' cap ex l' z zb bl rs x w h.rf).mono fun _ _ k => sd_rturns h k
theorem sd_rfound (h : SD W w g b g' b' cap ex l l' z zb bl rs) (x : Int) : Calls Try.prog 17 #[.pointer (some ⟨g', 0, none⟩), .int .i64 x] w fun e w' => e = .returned (.bool (stepB l' x 1)) ∧ SD W w' g b g' b' cap ex l (stepL l' x 1 3) z zb bl rs :=
  (reffound_any g' b' cap ex l' z zb bl rs x w h.rf).mono fun _ _ k => sd_rturns h k
theorem sd_take (h : SD W w g b g' b' cap ex l l' z zb bl rs) : Calls Try.prog 10 #[.pointer (some ⟨g, 0, none⟩)] w fun e w' => e = .returned (.tuple #[.int .i64 (takeZ l), .bool (takeB l)]) ∧ SD W w' g b g' b' cap ex (takeL l) l' z zb bl rs :=
  (take_any g b l rs w h.ok).mono fun _ _ ⟨h1, h2, h3⟩ => by
    unfold takeZ takeB takeL
    by_cases hs : placeI 1 l 0 = -1
    · rw [if_pos hs, if_pos hs, decide_eq_false (fun hn => hn hs)]
      exact ⟨(h2 hs).1, h.seg h3 (h2 hs).2⟩
    · rw [if_neg hs, if_neg hs, decide_eq_true hs]
      exact ⟨(h1 hs).1, h.seg h3 (h1 hs).2⟩
theorem sd_rtake (h : SD W w g b g' b' cap ex l l' z zb bl rs) : Calls Try.prog 11 #[.pointer (some ⟨g', 0, none⟩)] w fun e w' => e = .returned (.tuple #[.int .i64 (takeZ l'), .bool (takeB l')]) ∧ SD W w' g b g' b' cap ex l (takeL l') z zb bl rs :=
  (reftake_any g' b' cap ex l' z zb bl rs w h.rf h.len).mono fun _ _ ⟨h1, h2, h3⟩ => by
    unfold takeZ takeB takeL
    by_cases hs : placeI 1 l' 0 = -1
    · rw [if_pos hs, if_pos hs, decide_eq_false (fun hn => hn hs)]
      exact ⟨(h2 hs).1, h.ref h3 rfl (h2 hs).2⟩
    · rw [if_neg hs, if_neg hs, decide_eq_true hs]
      exact ⟨(h1 hs).1, h.ref h3 (by simp [turnL]) (h1 hs).2⟩
theorem sd_state (h : SD W w g b g' b' cap ex l l' z zb bl rs) (x : Int) : Calls Try.prog 18 #[.pointer (some ⟨g, 0, none⟩), .int .i64 x] w fun e w' => e = .returned (.int .u8 (stateAt l x)) ∧ w = w' :=
  state_any g b l rs _ x w h.ok.1
theorem sd_rstate (h : SD W w g b g' b' cap ex l l' z zb bl rs) (x : Int) : Calls Try.prog 19 #[.pointer (some ⟨g', 0, none⟩), .int .i64 x] w fun e w' => e = .returned (.int .u8 (stateAt l' x)) ∧ w = w' :=
  refstate_any g' b' cap ex l' z zb bl rs x w h.rf
theorem sd_low (h : SD W w g b g' b' cap ex l l' z zb bl rs) : Calls Try.prog 20 #[.pointer (some ⟨g, 0, none⟩)] w fun e w' => e = .returned (.bool (decide (frees l ≤ rs))) ∧ SD W w' g b g' b' cap ex l l' z zb bl rs :=
  (low_any g b l rs w h.ok).mono fun _ _ ⟨h1, n, h2⟩ => ⟨h1, by rw [h2]; exact h.drewN n⟩
theorem sd_rlow (h : SD W w g b g' b' cap ex l l' z zb bl rs) : Calls Try.prog 21 #[.pointer (some ⟨g', 0, none⟩)] w fun e w' => e = .returned (.bool (decide (frees l' ≤ rs))) ∧ SD W w' g b g' b' cap ex l l' z zb bl rs :=
  (reflow_any g' b' cap ex l' z zb bl rs w h.len h.rf).mono fun _ _ ⟨h1, h2⟩ => ⟨h1, h.below h2⟩
theorem sd_list (h : SD W w g b g' b' cap ex l l' z zb bl rs) (s : Int) : Calls Try.prog 23 #[.pointer (some ⟨g, 0, none⟩), .int .u8 s] w fun e w' => ∃ A c, e = .returned (.slice A (listTo l s l.length).length c) ∧ SD W w' g b g' b' cap ex l l' z zb bl rs ∧ Hid (Reads w' w'.heap.size 1 A (listTo l s l.length).length (nums .i64 (listTo l s l.length))) ∧ Hid (Below w.heap.size w w') :=
  (list_any g b l rs _ s w h.ok.2 h.ok.1).mono fun _ _ ⟨A, c, h1, h2, h3, h4⟩ => ⟨A, c, h1, h.below h3, h2, h3⟩
theorem sd_rlist (h : SD W w g b g' b' cap ex l l' z zb bl rs) (s : Int) : Calls Try.prog 24 #[.pointer (some ⟨g', 0, none⟩), .int .u8 s] w fun e w' => ∃ A c, e = .returned (.slice A (listTo l' s l'.length).length c) ∧ SD W w' g b g' b' cap ex l l' z zb bl rs ∧ Hid (Reads w' w'.heap.size 1 A (listTo l' s l'.length).length (nums .i64 (listTo l' s l'.length))) ∧ Hid (Below w.heap.size w w') :=
  (reflist_any g' b' cap ex l' z zb bl rs s w h.len h.rf).mono fun _ _ ⟨A, c, h1, h2, h3, h4⟩ => ⟨A, c, h1, h.below h3, h2, h3⟩
end

/-- The reference is made behind the Seg. -/
theorem sd_new {W w : World} {g b : Nat} {z zb bl rs : Int} (h : St W w g b (newL z) rs) (hr : rightB z zb bl rs = true) : Calls Try.prog 9 #[.agg #[.int .i64 z, .int .i64 zb, .int .i64 bl, .int .i64 rs]] w fun e w' => ∃ g' b' cap ex, e = .returned (.pointer (some ⟨g', 0, none⟩)) ∧ SD W w' g b g' b' cap ex (newL z) (newL z) z zb bl rs := by
  have h0 := right_z hr
  refine (refnew_any z zb bl rs w (by omega)).mono ?_
  rintro e w' ⟨h1, _, h3⟩
  obtain ⟨g', b', cap, ex, he, hg, hb, hs⟩ := h1 hr
  have hk := h.below h3
  have e1 := h.ok.1.top.lt
  have e2 := h.ok.1.row.lt
  have e3 := h.bl.size
  exact ⟨g', b', cap, ex, he, hk.ok, hs, hk.bl, hk.g, hk.b, by omega, by omega, by omega, by omega, by omega, by rw [newL_length z (by omega)]; omega⟩
theorem sd_new_no {W w : World} {z zb bl rs : Int} (hz : -9223372036854775808 ≤ z ∧ z ≤ 9223372036854775807) (hW : Below W.heap.size W w) (hr : rightB z zb bl rs = false) : Calls Try.prog 9 #[.agg #[.int .i64 z, .int .i64 zb, .int .i64 bl, .int .i64 rs]] w fun e w' => e = .returned (.pointer none) ∧ Below W.heap.size W w' :=
  (refnew_any z zb bl rs w hz).mono fun _ _ ⟨_, h2, h3⟩ => ⟨h2 hr, hW.trans (h3.mono hW.size)⟩
end Go.Proofs.Ytgninjlgeibgpaa
