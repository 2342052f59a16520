/- SegParts: the plain law. -/
import Derived.Test.YtgninjlgeibgpaaTk
import Derived.Test.YtgninjlgeibgpaaDo
set_option linter.unusedVariables false
namespace Go.Proofs.Ytgninjlgeibgpaa
open Go.RowKit

/-- Each zone has one of four states; checkpoints' zones are kept. -/
def Good (l : List Int) (n : Nat) : Prop := Kept l n ∧ cnt 1 l + cnt 2 l + cnt 3 l + cnt 4 l = n
theorem cnt_newL (n : Nat) (h : 6 ≤ n) : cnt 1 (newL n) + cnt 2 (newL n) + cnt 3 (newL n) + cnt 4 (newL n) = n := by
  unfold cnt newL
  simp only [List.countP_append, List.countP_replicate]
  simp
  omega
theorem newL_good (n : Nat) (h : 6 ≤ n) : Good (newL n) n := ⟨newL_kept n h, cnt_newL n h⟩
theorem Good.turn {l : List Int} {n : Nat} (h : Good l n) (hn : 6 ≤ n) {x a c : Int} (hs : stateAt l x = a) (ha : 1 ≤ a ∧ a ≤ 3) (hc : 1 ≤ c ∧ c ≤ 3) : Good (turnL l x c) n := by
  obtain ⟨k, rfl, h2, hk, hg⟩ := h.1.state hn hs (by omega) (by omega)
  have hlt : k < l.length := by rw [h.1.1]; exact hk
  refine ⟨h.1.turn h2 hk c, ?_⟩
  have h1 := h.2
  have e1 := cnt_turn l k a c 1 hlt hg
  have e2 := cnt_turn l k a c 2 hlt hg
  have e3 := cnt_turn l k a c 3 hlt hg
  have e4 := cnt_turn l k a c 4 hlt hg
  have ha' : a = 1 ∨ a = 2 ∨ a = 3 := by omega
  have hc' : c = 1 ∨ c = 2 ∨ c = 3 := by omega
  rcases ha' with rfl | rfl | rfl <;> rcases hc' with rfl | rfl | rfl <;> simp at e1 e2 e3 e4 <;> omega
theorem Good.step {l : List Int} {n : Nat} (h : Good l n) (hn : 6 ≤ n) (x : Int) {a c : Int} (ha : 1 ≤ a ∧ a ≤ 3) (hc : 1 ≤ c ∧ c ≤ 3) : Good (stepL l x a c) n := by
  unfold stepL
  split
  · rename_i hs
    exact h.turn hn hs ha hc
  · exact h
theorem Good.low {l : List Int} {n : Nat} (h : Good l n) (hn : 6 ≤ n) : stateAt l 0 = 4 ∧ stateAt l 1 = 4 := by
  have hl := h.1.1
  have e0 := stateAt_nat l 0 (by omega)
  have e1 := stateAt_nat l 1 (by omega)
  exact ⟨e0.trans h.1.2.1, e1.trans h.1.2.2⟩

theorem listTo_none {l : List Int} {s : Int} {k : Nat} (h : ∀ j, j < k → l.getD j 0 ≠ s) : listTo l s k = [] := by
  induction k with
  | zero => rfl
  | succ k ih =>
    rw [listTo_succ, if_neg (h k (by omega))]
    exact ih fun j hj => h j (by omega)
theorem listTo_head {l : List Int} {s : Int} {p : Nat} (hp : l.getD p 0 = s) (hb : ∀ j, j < p → l.getD j 0 ≠ s) (k : Nat) (hk : p < k) : ∃ r, listTo l s k = (p : Int) :: r := by
  induction k with
  | zero => omega
  | succ k ih =>
    rw [listTo_succ]
    rcases Nat.lt_or_ge p k with h | h
    · obtain ⟨r, hr⟩ := ih h
      rw [hr]
      split
      · exact ⟨r ++ [(k : Int)], rfl⟩
      · exact ⟨r, rfl⟩
    · have : p = k := by omega
      subst this
      rw [if_pos hp, listTo_none hb]
      exact ⟨[], rfl⟩

/-- What a call of Take finds. -/
theorem good_take {l : List Int} {n : Nat} (h : Good l n) (hn : 6 ≤ n) : (placeI 1 l 0 = -1 ∧ listTo l 1 l.length = []) ∨ (∃ (p : Nat) (r : List Int), placeI 1 l 0 = p ∧ listTo l 1 l.length = (p : Int) :: r ∧ Good (turnL l p 2) n ∧ stateAt (turnL l p 2) p = 2) := by
  rcases placeI_spec 1 l 0 with ⟨h1, hno⟩ | ⟨p, hp, hpl, hpa, hpb⟩
  · exact .inl ⟨h1, listTo_none hno⟩
  · obtain ⟨r, hr⟩ := listTo_head hpa hpb l.length hpl
    refine .inr ⟨p, r, by rw [hp]; simp, hr, ?_, stateAt_set l p 2 hpl⟩
    exact h.turn hn (x := p) (a := 1) ((stateAt_nat l p hpl).trans hpa) (by decide) (by decide)

def sumTo (l : List Int) : Nat → Nat
  | 0 => 0
  | k + 1 => sumTo l k + cnt ((k : Int) + 1) l
theorem sumTo_succ (l : List Int) (k : Nat) : sumTo l (k + 1) = sumTo l k + cnt ((k : Int) + 1) l := rfl
theorem cnt_le (s : Int) (l : List Int) : cnt s l ≤ l.length := List.countP_le_length
theorem sumTo_le (l : List Int) (k : Nat) : sumTo l k ≤ k * l.length := by
  induction k with
  | zero => simp [sumTo]
  | succ k ih =>
    have := cnt_le ((k : Int) + 1) l
    rw [sumTo_succ, Nat.succ_mul]
    omega
theorem Good.sum {l : List Int} {n : Nat} (h : Good l n) : sumTo l 4 = n := by
  have := h.2
  simp only [sumTo]
  simp
  omega

section
variable {W w : World} {g b : Nat} {l : List Int} {r : Int}
theorem state_st (h : St W w g b l r) {z s : Int} (hs : stateAt l z = s) : Calls Try.prog 18 #[.pointer (some ⟨g, 0, none⟩), .int .i64 z] w fun e w' => e = .returned (.int .u8 s) ∧ St W w' g b l r :=
  (state_any g b l r _ z w h.ok.1).mono fun _ _ ⟨h1, h2⟩ => ⟨by rw [h1, hs], by rw [← h2]; exact h⟩
theorem list_len (h : St W w g b l r) {s : Int} {m : Nat} (hx : cnt s l = m) : Calls Try.prog 23 #[.pointer (some ⟨g, 0, none⟩), .int .u8 s] w fun e w' => ∃ A c, e = .returned (.slice A m c) ∧ St W w' g b l r :=
  (list_any g b l r _ s w h.ok.2 h.ok.1).mono fun _ _ ⟨A, c, h1, h2, h3, h4⟩ => by
    rw [listTo_cnt, hx] at h1
    exact ⟨A, c, h1, h.below h3⟩
theorem take_kp (h : St W w g b l r) {k : Nat} (hs : placeI 1 l 0 = k) : Calls Try.prog 10 #[.pointer (some ⟨g, 0, none⟩)] w fun e w' => e = .returned (.tuple #[.int .i64 k, .bool true]) ∧ St W w' g b (turnL l k 2) r ∧ Hid (Kp (fun x => x = g ∨ x = b) w w') :=
  (take_any g b l r w h.ok).mono fun _ _ ⟨h1, _, h3⟩ => by
    rw [hs] at h1
    exact ⟨(h1 (by omega)).1, ⟨(h1 (by omega)).2, kp_below h.bl h3 h.g h.b, h.g, h.b⟩, h3⟩
theorem turns_st (h : St W w g b l r) {x a c : Int} {e : Ending} {w' : World} (k : TurnsOk g b l r x a c w e w') : e = .returned (.bool (stepB l x a)) ∧ St W w' g b (stepL l x a c) r := by
  obtain ⟨h1, h2, h3⟩ := k
  unfold stepB stepL
  by_cases hs : stateAt l x = a
  · rw [if_pos hs, decide_eq_true hs]
    exact ⟨(h1 hs).1, (h1 hs).2, kp_below h.bl h3 h.g h.b, h.g, h.b⟩
  · rw [if_neg hs, decide_eq_false hs]
    exact ⟨(h2 hs).1, (h2 hs).2, kp_below h.bl h3 h.g h.b, h.g, h.b⟩
theorem fill_st (h : St W w g b l r) (x : Int) : Calls Try.prog 12 #[.pointer (some ⟨g, 0, none⟩), .int .i64 x] w fun e w' => e = .returned (.bool (stepB l x 2)) ∧ St W w' g b (stepL l x 2 3) r := (fill_any g b l r x w h.ok).mono fun _ _ k => turns_st h k
theorem clear_st (h : St W w g b l r) (x : Int) : Calls Try.prog 14 #[.pointer (some ⟨g, 0, none⟩), .int .i64 x] w fun e w' => e = .returned (.bool (stepB l x 3)) ∧ St W w' g b (stepL l x 3 1) r := (clear_any g b l r x w h.ok).mono fun _ _ k => turns_st h k
theorem found_st (h : St W w g b l r) (x : Int) : Calls Try.prog 16 #[.pointer (some ⟨g, 0, none⟩), .int .i64 x] w fun e w' => e = .returned (.bool (stepB l x 1)) ∧ St W w' g b (stepL l x 1 3) r := (found_any g b l r x w h.ok).mono fun _ _ k => turns_st h k
end
end Go.Proofs.Ytgninjlgeibgpaa
