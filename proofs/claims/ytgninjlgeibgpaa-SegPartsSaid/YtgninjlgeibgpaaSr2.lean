/- Contracts of the reference's Seg: filled, cleared, found; taken; lists; too few. -/
import Derived.Test.YtgninjlgeibgpaaSr
namespace Go.Proofs.Ytgninjlgeibgpaa
open Go.RowKit

theorem reffill_any (g b cap : Nat) (ex : List Value) (l : List Int) (z zb bl rs x : Int) (w : World) (h : RefIs w g b cap ex l z zb bl rs) :
    Calls Try.prog 13 #[.pointer (some ⟨g, 0, none⟩), .int .i64 x] w (RTurns g b cap ex l z zb bl rs x 2 3 w) := by
  have H := Lib.hid (refturn_any g b cap ex l z zb bl rs x 2 3 w h (by decide))
  clear h
  go_enter Try.func13, Try.ntmps13
  go_wp2_with (fail)
  refine H.out.mono ?_
  rintro e w' ⟨h1, h2, h3⟩
  by_cases hs : stateAt l x = 2
  · obtain ⟨rfl, h4⟩ := h1 hs
    clear h1 h2
    have HS := Lib.hid hs
    clear hs
    go_wp2
    go_ret
    exact ⟨fun _ => ⟨rfl, h4⟩, fun hn => absurd HS.out hn, h3⟩
  · obtain ⟨rfl, h4⟩ := h2 hs
    clear h1 h2
    have HS := Lib.hid hs
    clear hs
    go_wp2
    go_ret
    exact ⟨fun hn => absurd hn HS.out, fun _ => ⟨rfl, h4⟩, h3⟩

theorem refclear_any (g b cap : Nat) (ex : List Value) (l : List Int) (z zb bl rs x : Int) (w : World) (h : RefIs w g b cap ex l z zb bl rs) :
    Calls Try.prog 15 #[.pointer (some ⟨g, 0, none⟩), .int .i64 x] w (RTurns g b cap ex l z zb bl rs x 3 1 w) := by
  have H := Lib.hid (refturn_any g b cap ex l z zb bl rs x 3 1 w h (by decide))
  clear h
  go_enter Try.func15, Try.ntmps15
  go_wp2_with (fail)
  refine H.out.mono ?_
  rintro e w' ⟨h1, h2, h3⟩
  by_cases hs : stateAt l x = 3
  · obtain ⟨rfl, h4⟩ := h1 hs
    clear h1 h2
    have HS := Lib.hid hs
    clear hs
    go_wp2
    go_ret
    exact ⟨fun _ => ⟨rfl, h4⟩, fun hn => absurd HS.out hn, h3⟩
  · obtain ⟨rfl, h4⟩ := h2 hs
    clear h1 h2
    have HS := Lib.hid hs
    clear hs
    go_wp2
    go_ret
    exact ⟨fun hn => absurd hn HS.out, fun _ => ⟨rfl, h4⟩, h3⟩

theorem reffound_any (g b cap : Nat) (ex : List Value) (l : List Int) (z zb bl rs x : Int) (w : World) (h : RefIs w g b cap ex l z zb bl rs) :
    Calls Try.prog 17 #[.pointer (some ⟨g, 0, none⟩), .int .i64 x] w (RTurns g b cap ex l z zb bl rs x 1 3 w) := by
  have H := Lib.hid (refturn_any g b cap ex l z zb bl rs x 1 3 w h (by decide))
  clear h
  go_enter Try.func17, Try.ntmps17
  go_wp2_with (fail)
  refine H.out.mono ?_
  rintro e w' ⟨h1, h2, h3⟩
  by_cases hs : stateAt l x = 1
  · obtain ⟨rfl, h4⟩ := h1 hs
    clear h1 h2
    have HS := Lib.hid hs
    clear hs
    go_wp2
    go_ret
    exact ⟨fun _ => ⟨rfl, h4⟩, fun hn => absurd HS.out hn, h3⟩
  · obtain ⟨rfl, h4⟩ := h2 hs
    clear h1 h2
    have HS := Lib.hid hs
    clear hs
    go_wp2
    go_ret
    exact ⟨fun hn => absurd hn HS.out, fun _ => ⟨rfl, h4⟩, h3⟩

theorem placeI_here (x : Int) (l : List Int) (k : Nat) (hk : k < l.length) (h : l.getD k 0 = x) (hn : ∀ j, j < k → l.getD j 0 ≠ x) : placeI x l 0 = k := by
  rcases placeI_spec x l 0 with ⟨_, h2⟩ | ⟨j, h1, h2, h3, h4⟩
  · exact absurd h (h2 k hk)
  · rcases Nat.lt_trichotomy j k with hj | hj | hj
    · exact absurd h3 (hn j hj)
    · rw [h1, hj]; simp
    · exact absurd h (h4 k hj)
theorem placeI_none (x : Int) (l : List Int) (hn : ∀ j, j < l.length → l.getD j 0 ≠ x) : placeI x l 0 = -1 := by
  rcases placeI_spec x l 0 with ⟨h1, _⟩ | ⟨j, _, h2, h3, _⟩
  · exact h1
  · exact absurd h3 (hn j h2)

def RTakes (g b cap : Nat) (ex : List Value) (l : List Int) (z zb bl rs : Int) (w : World) (e : Ending) (w' : World) : Prop :=
  (placeI 1 l 0 ≠ -1 → e = .returned (.tuple #[.int .i64 (placeI 1 l 0), .bool true]) ∧ RefIs w' g b cap ex (turnL l (placeI 1 l 0) 2) z zb bl rs) ∧ (placeI 1 l 0 = -1 → e = .returned (.tuple #[.int .i64 0, .bool false]) ∧ RefIs w' g b cap ex l z zb bl rs) ∧ Kp (fun x => x = b) w w'

theorem reftake_any (g b cap : Nat) (ex : List Value) (l : List Int) (z zb bl rs : Int) (w : World) (h : RefIs w g b cap ex l z zb bl rs) (hl : l.length ≤ 65535) :
    Calls Try.prog 11 #[.pointer (some ⟨g, 0, none⟩)] w (RTakes g b cap ex l z zb bl rs w) := by
  have h0 := h.c4
  have HH := Lib.hid h
  clear h
  go_enter Try.func11, Try.ntmps11
  go_wp2
  go_loop [4] (fun i => ∃ k : Nat, k ≤ l.length ∧ i = .int .i64 k ∧ Hid (∀ j, j < k → l.getD j 0 ≠ 1)) (fun i => l.length - (intOf i).toNat)
  case atStart => exact ⟨0, Nat.zero_le _, rfl, fun j hj => absurd hj (Nat.not_lt_zero j)⟩
  case round =>
    obtain ⟨k, hk, rfl, hn⟩ := hrel
    by_cases hlt : k < l.length
    · have hc := HH.out.at_ hlt
      have hf := HH.out.fzb k
      have HS : Hid (∀ c, RefIs (w.setCell ⟨b, k, none⟩ (.int .u8 c)) g b cap ex (turnL l k c) z zb bl rs) := fun c => HH.out.set_ hlt c
      have HY : Hid (l.getD k 0 = l.getD k 0) := rfl
      obtain ⟨y, hy⟩ : ∃ y, l.getD k 0 = y := ⟨_, rfl⟩
      rw [hy] at hc
      by_cases hx : y = 1
      · subst hx
        have HP := Lib.hid (placeI_here 1 l k hlt hy hn.out)
        clear hy
        go_wp2
        go_ret2
        rw [RTakes, HP.out]
        exact ⟨fun _ => ⟨rfl, HS.out 2⟩, fun he => absurd he (by omega), (Kp.refl (fun k => k = b) w).setCell (p := ⟨b, k, none⟩) (.inl rfl) _⟩
      · have he : (y == 1) = false := by simpa using hx
        have HN : Hid (∀ j, j < k + 1 → l.getD j 0 ≠ 1) := fun j hj => by
          rcases Nat.lt_or_eq_of_le (Nat.le_of_lt_succ hj) with h | h
          · exact hn.out j h
          · rw [h, hy]; exact hx
        clear hy hx
        go_wp2
        go_round
        case rel => exact ⟨k + 1, by omega, by go_num, HN⟩
        case measure => simp [intOf]; omega
    · have hkk : k = l.length := by omega
      subst hkk
      have HP := Lib.hid (placeI_none 1 l hn.out)
      go_wp2
      go_ret2
      rw [RTakes, HP.out]
      exact ⟨fun he => absurd rfl he, fun _ => ⟨rfl, HH.out⟩, Kp.refl (fun k => k = b) w⟩

theorem reflist_any (g b cap : Nat) (ex : List Value) (l : List Int) (z zb bl rs s : Int) (w : World) (hl : l.length ≤ 65535) (h : RefIs w g b cap ex l z zb bl rs) :
    Calls Try.prog 24 #[.pointer (some ⟨g, 0, none⟩), .int .u8 s] w (Lists (listTo l s l.length) w) := by
  obtain ⟨i0, hi0, hz0, hz1, hz2⟩ := info_parts int_info
  have HG : Hid (∀ k, k < l.length → w.cell? ⟨b, k, none⟩ = some (.int .u8 (l.getD k 0))) := fun k hk => h.at_ hk
  have HC := Lib.hid h.c4
  have hlt := h.row.lt
  have hltg := h.top.lt
  have HLE := Lib.hid (listTo_le l s)
  clear h
  go_enter Try.func24, Try.ntmps24
  go_wp2
  go_loopw [5, 6] (fun v i wr => ∃ (k : Nat) (v' : Value), k ≤ l.length ∧ i = .int .i64 k ∧ v = v' ∧ wr.ownsRow w.heap.size 3 1 v' (listTo l s k).length (nums .i64 (listTo l s k)) ∧ Below w.heap.size w wr) (fun _ i _ => l.length - (intOf i).toNat)
  case atStart => exact ⟨0, _, Nat.zero_le _, rfl, rfl, World.ownsRow_nil _ _ _ _, Below.refl _ _⟩
  case round =>
    obtain ⟨k, v, hk, rfl, hvv, hown, hbl⟩ := hrel
    subst hvv
    have h0 := (hbl.cell (p := ⟨g, 4, none⟩) hltg).trans HC.out
    by_cases hlt2 : k < l.length
    · have hc := (hbl.cell (p := ⟨b, k, none⟩) hlt).trans (HG.out k hlt2)
      have hle := HLE.out k
      have HS : Hid (listTo l s (k + 1) = if l.getD k 0 = s then listTo l s k ++ [(k : Int)] else listTo l s k) := rfl
      generalize l.getD k 0 = y at *
      obtain ⟨xs, hxs⟩ : ∃ xs, listTo l s k = xs := ⟨_, rfl⟩
      rw [hxs] at hown hle
      have HXS := Lib.hid hxs
      clear hxs
      have hsz := hbl.size
      by_cases hy : y = s
      · have he : (y == s) = true := by simpa using hy
        have HY := Lib.hid hy
        clear hy
        go_wp2_with
          (first
            | (at_builtin
               refine wpList_append_any _ rfl (.tmp 25) (.tmp 27) _ rfl w.heap.size 3 i0 _ 1 8 Try.underlying37 hi0 hz0 hz1 hz2 rfl (by omega) u5 xs.length (nums .i64 xs) rfl
                 (hown.alloc _) (wr.heap.size + 1) _ 1 1 (nums .i64 [(k : Int)]) rfl (reads_int wr k) (nums_one _ _) (by simp only [maxLen]; omega) (by omega) (by simp; omega) ?_
               intro v2 w3 hown2 hg2 hat2))
        have hb3 : Below w.heap.size w w3 := (hbl.alloc hsz _).grown hg2 (by simp; omega) (fun g hg => (hown.lt g hg).1)
        go_roundw
        case rel =>
          refine ⟨k + 1, _, by omega, by go_num, rfl, ?_, hb3⟩
          rw [HS.out, if_pos HY.out, HXS.out]
          simpa [nums] using hown2
        case measure => simp [intOf]; omega
      · have he : (y == s) = false := by simpa using hy
        have HY := Lib.hid hy
        clear hy
        go_wp2
        go_roundw
        case rel =>
          refine ⟨k + 1, _, by omega, by go_num, rfl, ?_, hbl⟩
          rw [HS.out, if_neg HY.out, HXS.out]
          exact hown
        case measure => simp [intOf]; omega
    · have hkk : k = l.length := by omega
      subst hkk
      obtain ⟨A, c, rfl⟩ := own_form hown
      go_wp2
      go_ret
      exact ⟨A, c, rfl, Reads.of_own hown, hbl, fun ad e => by subst e; exact (hown.lt _ rfl).1⟩
end Go.Proofs.Ytgninjlgeibgpaa
