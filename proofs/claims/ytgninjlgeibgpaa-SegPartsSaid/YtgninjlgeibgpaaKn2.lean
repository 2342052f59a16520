/- The laws of Seg: a Seg made behind a world, step by step. -/
import Derived.Test.YtgninjlgeibgpaaKn
namespace Go.Proofs.Ytgninjlgeibgpaa
open Go.RowKit

/-- A Seg that was made behind W; nothing that was in W has changed. -/
structure St (W w : World) (g b : Nat) (l : List Int) (r : Int) : Prop where
  ok : SegOk w g b l r
  bl : Below W.heap.size W w
  g : W.heap.size ≤ g
  b : W.heap.size ≤ b

theorem St.drewN {W w : World} {g b : Nat} {l : List Int} {r : Int} (h : St W w g b l r) (n : Nat) : St W (w.drewN n) g b l r := ⟨⟨h.ok.1.drewN n, h.ok.2⟩, below_drewN h.bl n, h.g, h.b⟩
theorem St.below {W w w' : World} {g b : Nat} {l : List Int} {r : Int} (h : St W w g b l r) (k : Below w.heap.size w w') : St W w' g b l r := ⟨⟨h.ok.1.below k, h.ok.2⟩, h.bl.trans (k.mono h.bl.size), h.g, h.b⟩

section
variable {W w : World} {g b : Nat} {l : List Int} {r : Int}

theorem fill_yes (h : St W w g b l r) {z : Int} (hs : stateAt l z = 2) : Calls Try.prog 12 #[.pointer (some ⟨g, 0, none⟩), .int .i64 z] w fun e w' => e = .returned (.bool true) ∧ St W w' g b (turnL l z 3) r :=
  (fill_any g b l r z w h.ok).mono fun _ _ ⟨h1, _, h3⟩ => ⟨(h1 hs).1, (h1 hs).2, kp_below h.bl h3 h.g h.b, h.g, h.b⟩
theorem fill_no (h : St W w g b l r) {z : Int} (hs : stateAt l z ≠ 2) : Calls Try.prog 12 #[.pointer (some ⟨g, 0, none⟩), .int .i64 z] w fun e w' => e = .returned (.bool false) ∧ St W w' g b l r :=
  (fill_any g b l r z w h.ok).mono fun _ _ ⟨_, h2, h3⟩ => ⟨(h2 hs).1, (h2 hs).2, kp_below h.bl h3 h.g h.b, h.g, h.b⟩

theorem clear_yes (h : St W w g b l r) {z : Int} (hs : stateAt l z = 3) : Calls Try.prog 14 #[.pointer (some ⟨g, 0, none⟩), .int .i64 z] w fun e w' => e = .returned (.bool true) ∧ St W w' g b (turnL l z 1) r :=
  (clear_any g b l r z w h.ok).mono fun _ _ ⟨h1, _, h3⟩ => ⟨(h1 hs).1, (h1 hs).2, kp_below h.bl h3 h.g h.b, h.g, h.b⟩
theorem clear_no (h : St W w g b l r) {z : Int} (hs : stateAt l z ≠ 3) : Calls Try.prog 14 #[.pointer (some ⟨g, 0, none⟩), .int .i64 z] w fun e w' => e = .returned (.bool false) ∧ St W w' g b l r :=
  (clear_any g b l r z w h.ok).mono fun _ _ ⟨_, h2, h3⟩ => ⟨(h2 hs).1, (h2 hs).2, kp_below h.bl h3 h.g h.b, h.g, h.b⟩

theorem found_yes (h : St W w g b l r) {z : Int} (hs : stateAt l z = 1) : Calls Try.prog 16 #[.pointer (some ⟨g, 0, none⟩), .int .i64 z] w fun e w' => e = .returned (.bool true) ∧ St W w' g b (turnL l z 3) r :=
  (found_any g b l r z w h.ok).mono fun _ _ ⟨h1, _, h3⟩ => ⟨(h1 hs).1, (h1 hs).2, kp_below h.bl h3 h.g h.b, h.g, h.b⟩
theorem found_no (h : St W w g b l r) {z : Int} (hs : stateAt l z ≠ 1) : Calls Try.prog 16 #[.pointer (some ⟨g, 0, none⟩), .int .i64 z] w fun e w' => e = .returned (.bool false) ∧ St W w' g b l r :=
  (found_any g b l r z w h.ok).mono fun _ _ ⟨_, h2, h3⟩ => ⟨(h2 hs).1, (h2 hs).2, kp_below h.bl h3 h.g h.b, h.g, h.b⟩

theorem take_yes (h : St W w g b l r) {k : Nat} (hs : placeI 1 l 0 = k) : Calls Try.prog 10 #[.pointer (some ⟨g, 0, none⟩)] w fun e w' => e = .returned (.tuple #[.int .i64 k, .bool true]) ∧ St W w' g b (turnL l k 2) r :=
  (take_any g b l r w h.ok).mono fun _ _ ⟨h1, _, h3⟩ => by
    rw [hs] at h1
    exact ⟨(h1 (by omega)).1, (h1 (by omega)).2, kp_below h.bl h3 h.g h.b, h.g, h.b⟩
theorem take_no (h : St W w g b l r) (hs : placeI 1 l 0 = -1) : Calls Try.prog 10 #[.pointer (some ⟨g, 0, none⟩)] w fun e w' => e = .returned (.tuple #[.int .i64 0, .bool false]) ∧ St W w' g b l r :=
  (take_any g b l r w h.ok).mono fun _ _ ⟨_, h2, h3⟩ => ⟨(h2 hs).1, (h2 hs).2, kp_below h.bl h3 h.g h.b, h.g, h.b⟩
theorem state_is (h : St W w g b l r) {z s : Int} (hs : stateAt l z = s) : Calls Try.prog 18 #[.pointer (some ⟨g, 0, none⟩), .int .i64 z] w fun e w' => e = .returned (.int .u8 s) ∧ w = w' :=
  (state_any g b l r _ z w h.ok.1).mono fun _ _ ⟨h1, h2⟩ => ⟨by rw [h1, hs], h2⟩
theorem low_is (h : St W w g b l r) {t : Bool} (ht : decide (frees l ≤ r) = t) : Calls Try.prog 20 #[.pointer (some ⟨g, 0, none⟩)] w fun e w' => e = .returned (.bool t) ∧ St W w' g b l r :=
  (low_any g b l r w h.ok).mono fun _ _ ⟨h1, n, h2⟩ => ⟨by rw [h1, ht], by rw [h2]; exact h.drewN n⟩
theorem list_is (h : St W w g b l r) {s : Int} {xs : List Int} (hx : listTo l s l.length = xs) : Calls Try.prog 23 #[.pointer (some ⟨g, 0, none⟩), .int .u8 s] w fun e w' => ∃ A c, e = .returned (.slice A xs.length c) ∧ St W w' g b l r ∧ Hid (Reads w' w'.heap.size 1 A xs.length (nums .i64 xs) ∧ Below w.heap.size w w' ∧ ∀ ad, A = some ad → w.heap.size ≤ ad.block) :=
  (list_any g b l r _ s w h.ok.2 h.ok.1).mono fun _ _ ⟨A, c, h1, h2, h3, h4⟩ => by
    rw [hx] at h1 h2
    exact ⟨A, c, h1, h.below h3, h2, h3, h4⟩
end

/-- A new one. -/
theorem new_yes {W w : World} {z zb bl rs : Int} (hW : Below W.heap.size W w) (hr : rightB z zb bl rs = true) : Calls Try.prog 8 #[.agg #[.int .i64 z, .int .i64 zb, .int .i64 bl, .int .i64 rs]] w fun e w' => ∃ g b, e = .returned (.pointer (some ⟨g, 0, none⟩)) ∧ St W w' g b (newL z) rs := by
  have h0 := of_decide_eq_true hr
  refine (new_any z zb bl rs w (by omega) (by omega)).mono ?_
  rintro e w' ⟨h1, _, h3⟩
  obtain ⟨g, b, he, hg, hb, hs⟩ := h1 hr
  have := hW.size
  exact ⟨g, b, he, news_ok hs (right_z hr).1, hW.trans (h3.mono hW.size), by omega, by omega⟩
theorem new_no {W w : World} {z zb bl rs : Int} (hz : -9223372036854775808 ≤ z ∧ z ≤ 9223372036854775807) (hb : -9223372036854775808 ≤ bl ∧ bl ≤ 9223372036854775807) (hW : Below W.heap.size W w) (hr : rightB z zb bl rs = false) : Calls Try.prog 8 #[.agg #[.int .i64 z, .int .i64 zb, .int .i64 bl, .int .i64 rs]] w fun e w' => e = .returned (.pointer none) ∧ Below W.heap.size W w' :=
  (new_any z zb bl rs w hz hb).mono fun _ _ ⟨_, h2, h3⟩ => ⟨h2 hr, hW.trans (h3.mono hW.size)⟩

theorem known_is {W w : World} (hW : Below W.heap.size W w) : Calls Try.prog 7 #[] w fun e w' => e = .returned (.bool true) ∧ Below W.heap.size W w' :=
  (known_any w).mono fun _ _ ⟨h1, h2⟩ => ⟨h1, hW.trans (h2.mono hW.size)⟩
end Go.Proofs.Ytgninjlgeibgpaa
