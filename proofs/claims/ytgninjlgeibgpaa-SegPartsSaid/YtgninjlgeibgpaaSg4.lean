/- Contracts of package seg: the first free one is taken; lists; too few. -/
import Derived.Test.YtgninjlgeibgpaaSg3
namespace Go.Proofs.Ytgninjlgeibgpaa
open Go.RowKit

/-- The first place of x in a list, from i on; -1: there is none. -/
def placeI (x : Int) : List Int → Int → Int
  | [], _ => -1
  | y :: l, i => if y = x then i else placeI x l (i + 1)
theorem placeI_at (x : Int) (l : List Int) (k : Nat) (h : k < l.length) (i : Int) : placeI x (l.drop k) i = if l.getD k 0 = x then i else placeI x (l.drop (k + 1)) (i + 1) := by
  rw [List.drop_eq_getElem_cons h, placeI]
  simp [List.getD_eq_getElem?_getD, h]
theorem placeI_spec (x : Int) (l : List Int) (i : Int) :
    (placeI x l i = -1 ∧ ∀ j, j < l.length → l.getD j 0 ≠ x) ∨ (∃ j : Nat, placeI x l i = i + j ∧ j < l.length ∧ l.getD j 0 = x ∧ ∀ j', j' < j → l.getD j' 0 ≠ x) := by
  induction l generalizing i with
  | nil => exact .inl ⟨rfl, fun j hj => by simp at hj⟩
  | cons y l ih =>
    unfold placeI
    by_cases h : y = x
    · rw [if_pos h]
      exact .inr ⟨0, by simp, by simp, by simpa using h, fun j' hj' => by omega⟩
    · rw [if_neg h]
      rcases ih (i + 1) with ⟨h1, h2⟩ | ⟨j, h1, h2, h3, h4⟩
      · refine .inl ⟨h1, fun j hj => ?_⟩
        match j, hj with
        | 0, _ => simpa using h
        | j + 1, hj => simpa using h2 j (by simpa using hj)
      · refine .inr ⟨j + 1, by rw [h1]; simp; omega, by simpa using h2, by simpa using h3, fun j' hj' => ?_⟩
        match j', hj' with
        | 0, _ => simpa using h
        | j' + 1, hj' => simpa using h4 j' (by omega)

theorem index_any (b : Nat) (l : List Int) (x : Int) (w : World) (hl : l.length ≤ 65536) (h : Blk w b 5 (nums .u8 l).toArray) :
    Calls Try.prog 28 #[.slice (some ⟨b, 0, none⟩) l.length l.length, .int .u8 x] w fun e w' => e = .returned (.int .i64 (placeI x l 0)) ∧ w = w' := by
  have hget : ∀ k, k < l.length → w.cell? ⟨b, k, none⟩ = some (.int .u8 (l.getD k 0)) := fun k hk => by rw [h.cell k, List.getElem?_toArray, nums_get .u8 l k hk]
  have HG := Lib.hid hget
  clear hget h
  go_enter Try.func28, Try.ntmps28
  go_wp2
  go_loop [8] (fun i => ∃ k : Nat, k ≤ l.length ∧ i = .int .i64 k ∧ placeI x (l.drop k) k = placeI x l 0) (fun i => l.length - (intOf i).toNat)
  case atStart => exact ⟨0, Nat.zero_le _, rfl, rfl⟩
  case round =>
    obtain ⟨k, hk, rfl, hp⟩ := hrel
    have HP := Lib.hid hp
    clear hp
    by_cases hlt : k < l.length
    · have hc := HG.out k hlt
      have HQ := Lib.hid (placeI_at x l k hlt k)
      generalize l.getD k 0 = y at *
      by_cases hxy : x = y
      · have he : (x == y) = true := by simpa using hxy
        have HX := Lib.hid hxy
        clear hxy
        go_wp2
        go_ret
        refine ⟨ret_int ?_, rfl⟩
        rw [← HP.out, HQ.out, if_pos HX.out.symm]
      · have he : (x == y) = false := by simpa using hxy
        have HX := Lib.hid hxy
        clear hxy
        go_wp2
        go_round
        case rel => exact ⟨k + 1, by omega, by go_num, by rw [← HP.out, HQ.out, if_neg (fun e => HX.out e.symm)]; simp⟩
        case measure => simp [intOf]; omega
    · go_wp2
      go_ret
      refine ⟨ret_int ?_, rfl⟩
      rw [← HP.out, List.drop_eq_nil_of_le (by omega)]; rfl

/-- How many are free. -/
def frees (l : List Int) : Int := (l.countP (· == 1) : Nat)
theorem frees_le (l : List Int) : 0 ≤ frees l ∧ frees l ≤ l.length := by
  unfold frees; have := List.countP_le_length (p := (· == (1 : Int))) (l := l); omega
theorem frees_pos {l : List Int} {z : Int} (h : stateAt l z = 1) : 1 ≤ frees l := by
  unfold stateAt at h
  split at h
  · rename_i hz
    have hm : l.getD z.toNat 0 ∈ l := by
      have : z.toNat < l.length := by omega
      simp [List.getD_eq_getElem?_getD, this]
    have : 0 < l.countP (· == 1) := List.countP_pos_iff.2 ⟨_, hm, by simpa using h⟩
    unfold frees; omega
  · omega

theorem countP_set (l : List Int) (k : Nat) (x : Int) (h : k < l.length) : (l.set k x).countP (· == 1) + (if l.getD k 0 = 1 then 1 else 0) = l.countP (· == 1) + (if x = 1 then 1 else 0) := by
  induction l generalizing k with
  | nil => simp at h
  | cons y l ih =>
    match k, h with
    | 0, _ =>
      simp only [List.set_cons_zero, List.countP_cons, List.getD_cons_zero, beq_iff_eq]
      omega
    | k + 1, h =>
      have := ih k (by simpa using h)
      simp only [List.set_cons_succ, List.countP_cons, List.getD_cons_succ, beq_iff_eq]
      omega

/-- The counter stays how many are free. -/
theorem turn_frees {l : List Int} {z a c : Int} (h : stateAt l z = a) (ha : a ≠ 0) : turnF (frees l) a c = frees (turnL l z c) := by
  unfold stateAt at h
  split at h
  · rename_i hz
    have := countP_set l z.toNat c (by omega)
    unfold turnF frees turnL
    rw [h] at this
    split <;> split <;> simp_all <;> omega
  · omega

/-- A Seg whose counter is how many are free. -/
def SegOk (w : World) (g b : Nat) (l : List Int) (r : Int) : Prop := SegIs w g b l r (frees l) ∧ l.length ≤ 65535

def TurnsOk (g b : Nat) (l : List Int) (r z a c : Int) (w : World) (e : Ending) (w' : World) : Prop :=
  (stateAt l z = a → e = .returned (.bool true) ∧ SegOk w' g b (turnL l z c) r) ∧ (stateAt l z ≠ a → e = .returned (.bool false) ∧ SegOk w' g b l r) ∧ Kp (fun x => x = g ∨ x = b) w w'

theorem turn_ok (g b : Nat) (l : List Int) (r z a c : Int) (w : World) (h : SegOk w g b l r) (ha : a ≠ 0) :
    Calls Try.prog 29 #[.pointer (some ⟨g, 0, none⟩), .int .i64 z, .int .u8 a, .int .u8 c] w (TurnsOk g b l r z a c w) := by
  have hb := frees_le l
  have hlen := h.2
  refine (turn_any g b l r (frees l) z a c w h.1 (fun hs => ⟨fun h1 => by subst h1; exact frees_pos hs, hb.1, by omega⟩) ha).mono ?_
  rintro e w' ⟨h1, h2, h3⟩
  refine ⟨fun hs => ⟨(h1 hs).1, ?_, by simpa [turnL] using hlen⟩, fun hs => ⟨(h2 hs).1, (h2 hs).2, hlen⟩, h3⟩
  rw [← turn_frees hs ha]
  exact (h1 hs).2
end Go.Proofs.Ytgninjlgeibgpaa
