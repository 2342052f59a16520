/- Contracts of package seg: taking, filling, clearing, finding; lists; too few. -/
import Derived.Test.YtgninjlgeibgpaaSg4
namespace Go.Proofs.Ytgninjlgeibgpaa
open Go.RowKit

theorem fill_any (g b : Nat) (l : List Int) (r z : Int) (w : World) (h : SegOk w g b l r) :
    Calls Try.prog 12 #[.pointer (some ⟨g, 0, none⟩), .int .i64 z] w (TurnsOk g b l r z 2 3 w) := by
  have H := Lib.hid (turn_ok g b l r z 2 3 w h (by decide))
  clear h
  go_enter Try.func12, Try.ntmps12
  go_wp2_with (fail)
  refine H.out.mono ?_
  rintro e w' ⟨h1, h2, h3⟩
  by_cases hs : stateAt l z = 2
  · obtain ⟨rfl, h4⟩ := h1 hs
    clear h1 h2
    have HS := Lib.hid hs
    clear hs
    go_wp2
    go_ret
    exact ⟨fun _ => ⟨rfl, h4⟩, fun hn => absurd HS.out hn, h3⟩
  · obtain ⟨rfl, h4⟩ := h2 hs
    clear h1 h2
    have HS := Lib.hid hs
    clear hs
    go_wp2
    go_ret
    exact ⟨fun hn => absurd hn HS.out, fun _ => ⟨rfl, h4⟩, h3⟩

theorem clear_any (g b : Nat) (l : List Int) (r z : Int) (w : World) (h : SegOk w g b l r) :
    Calls Try.prog 14 #[.pointer (some ⟨g, 0, none⟩), .int .i64 z] w (TurnsOk g b l r z 3 1 w) := by
  have H := Lib.hid (turn_ok g b l r z 3 1 w h (by decide))
  clear h
  go_enter Try.func14, Try.ntmps14
  go_wp2_with (fail)
  refine H.out.mono ?_
  rintro e w' ⟨h1, h2, h3⟩
  by_cases hs : stateAt l z = 3
  · obtain ⟨rfl, h4⟩ := h1 hs
    clear h1 h2
    have HS := Lib.hid hs
    clear hs
    go_wp2
    go_ret
    exact ⟨fun _ => ⟨rfl, h4⟩, fun hn => absurd HS.out hn, h3⟩
  · obtain ⟨rfl, h4⟩ := h2 hs
    clear h1 h2
    have HS := Lib.hid hs
    clear hs
    go_wp2
    go_ret
    exact ⟨fun hn => absurd hn HS.out, fun _ => ⟨rfl, h4⟩, h3⟩

theorem found_any (g b : Nat) (l : List Int) (r z : Int) (w : World) (h : SegOk w g b l r) :
    Calls Try.prog 16 #[.pointer (some ⟨g, 0, none⟩), .int .i64 z] w (TurnsOk g b l r z 1 3 w) := by
  have H := Lib.hid (turn_ok g b l r z 1 3 w h (by decide))
  clear h
  go_enter Try.func16, Try.ntmps16
  go_wp2_with (fail)
  refine H.out.mono ?_
  rintro e w' ⟨h1, h2, h3⟩
  by_cases hs : stateAt l z = 1
  · obtain ⟨rfl, h4⟩ := h1 hs
    clear h1 h2
    have HS := Lib.hid hs
    clear hs
    go_wp2
    go_ret
    exact ⟨fun _ => ⟨rfl, h4⟩, fun hn => absurd HS.out hn, h3⟩
  · obtain ⟨rfl, h4⟩ := h2 hs
    clear h1 h2
    have HS := Lib.hid hs
    clear hs
    go_wp2
    go_ret
    exact ⟨fun hn => absurd hn HS.out, fun _ => ⟨rfl, h4⟩, h3⟩

/-- The first free one is opened; else nothing has changed. -/
def Takes (g b : Nat) (l : List Int) (r : Int) (w : World) (e : Ending) (w' : World) : Prop :=
  (placeI 1 l 0 ≠ -1 → e = .returned (.tuple #[.int .i64 (placeI 1 l 0), .bool true]) ∧ SegOk w' g b (turnL l (placeI 1 l 0) 2) r) ∧ (placeI 1 l 0 = -1 → e = .returned (.tuple #[.int .i64 0, .bool false]) ∧ SegOk w' g b l r) ∧ Kp (fun x => x = g ∨ x = b) w w'

theorem placeI_state {l : List Int} (h : placeI 1 l 0 ≠ -1) : stateAt l (placeI 1 l 0) = 1 := by
  rcases placeI_spec 1 l 0 with ⟨h1, _⟩ | ⟨j, h1, h2, h3, _⟩
  · exact absurd h1 h
  · unfold stateAt
    rw [h1, if_pos (by omega)]
    simpa using h3

theorem take_any (g b : Nat) (l : List Int) (r : Int) (w : World) (h : SegOk w g b l r) :
    Calls Try.prog 10 #[.pointer (some ⟨g, 0, none⟩)] w (Takes g b l r w) := by
  have h0 := h.1.c0
  have HI := Lib.hid (index_any b l 1 w (by have := h.2; omega) h.1.row)
  have HT := Lib.hid (turn_ok g b l r (placeI 1 l 0) 1 2 w h (by decide))
  by_cases hp : placeI 1 l 0 = -1
  · have hst : stateAt l (placeI 1 l 0) ≠ 1 := by rw [hp]; unfold stateAt; rw [if_neg (by omega)]; decide
    have HP := Lib.hid hp
    have HST := Lib.hid hst
    clear h hp hst
    go_enter Try.func10, Try.ntmps10
    go_wp2_with (fail)
    refine HI.out.mono ?_
    rintro e w' ⟨rfl, rfl⟩
    go_wp2_with (fail)
    refine HT.out.mono ?_
    rintro e w' ⟨h1, h2, h3⟩
    obtain ⟨rfl, h4⟩ := h2 HST.out
    clear h1 h2
    go_wp2
    go_ret2
    exact ⟨fun hn => absurd HP.out hn, fun _ => ⟨rfl, h4⟩, h3⟩
  · have hst := placeI_state hp
    have HP := Lib.hid hp
    have HST := Lib.hid hst
    clear h hp hst
    obtain ⟨k, hk⟩ : ∃ k, placeI 1 l 0 = k := ⟨_, rfl⟩
    rw [hk] at HI HT HST
    have HK := Lib.hid hk
    clear hk
    go_enter Try.func10, Try.ntmps10
    go_wp2_with (fail)
    refine HI.out.mono ?_
    rintro e w' ⟨rfl, rfl⟩
    go_wp2_with (fail)
    refine HT.out.mono ?_
    rintro e w' ⟨h1, h2, h3⟩
    obtain ⟨rfl, h4⟩ := h1 HST.out
    clear h1 h2
    go_wp2
    go_ret2
    exact ⟨fun _ => ⟨by rw [HK.out]; rfl, by rw [HK.out]; exact h4⟩, fun hn => absurd hn HP.out, h3⟩

theorem low_any (g b : Nat) (l : List Int) (r : Int) (w : World) (h : SegOk w g b l r) :
    Calls Try.prog 20 #[.pointer (some ⟨g, 0, none⟩)] w (Gives (.bool (decide (frees l ≤ r))) w) := by
  have h1 := h.1.c1
  have h2 := h.1.c2
  clear h
  generalize frees l = f at *
  go_enter Try.func20, Try.ntmps20
  go_wp2
  go_quiet (fail)
  go_wp2
  go_ret
  exact ⟨rfl, _, rfl⟩

/-- The places of a state, in a list's front. -/
def listTo (l : List Int) (s : Int) : Nat → List Int
  | 0 => []
  | k + 1 => if l.getD k 0 = s then listTo l s k ++ [(k : Int)] else listTo l s k
theorem listTo_le (l : List Int) (s : Int) (k : Nat) : (listTo l s k).length ≤ k := by
  induction k with
  | zero => simp [listTo]
  | succ k ih =>
    unfold listTo
    split
    · simp; omega
    · omega

/-- A list of numbers comes back, in new memory. -/
def Lists (xs : List Int) (w : World) (e : Ending) (w' : World) : Prop := ∃ A c, e = .returned (.slice A xs.length c) ∧ Reads w' w'.heap.size 1 A xs.length (nums .i64 xs) ∧ Below w.heap.size w w' ∧ ∀ ad, A = some ad → w.heap.size ≤ ad.block

theorem int_info : (Try.prog.info? 3).map (fun i => (i.zero, i.size, i.bytes)) = some (some (.int .i64 0), 1, 8) := by kernel_rfl

/-- A new block of one number, as a list. -/
theorem reads_int (w : World) (x : Int) : Reads (w.alloc (.cells #[.int .i64 x] 3)) (w.heap.size + 1) 1 (some ⟨w.heap.size, 0, none⟩) 1 (nums .i64 [x]) := by
  refine ⟨rfl, fun _ => ⟨_, rfl, Nat.lt_succ_self _, fun j u hu => ?_⟩⟩
  match j, hu with
  | 0, hu =>
    simp [nums] at hu
    subst hu
    simp [go_sem, Addr.add]
  | j + 1, hu => simp [nums] at hu

theorem list_any (g b : Nat) (l : List Int) (r f s : Int) (w : World) (hl : l.length ≤ 65535) (h : SegIs w g b l r f) :
    Calls Try.prog 23 #[.pointer (some ⟨g, 0, none⟩), .int .u8 s] w (Lists (listTo l s l.length) w) := by
  obtain ⟨i0, hi0, hz0, hz1, hz2⟩ := info_parts int_info
  have h0 := h.c0
  have HG : Hid (∀ k, k < l.length → w.cell? ⟨b, k, none⟩ = some (.int .u8 (l.getD k 0))) := fun k hk => h.at_ hk
  have hlt := h.row.lt
  have HLE := Lib.hid (listTo_le l s)
  clear h
  go_enter Try.func23, Try.ntmps23
  go_wp2
  go_loopw [5, 13] (fun v i wr => ∃ (k : Nat) (v' : Value), k ≤ l.length ∧ i = .int .i64 k ∧ v = v' ∧ wr.ownsRow w.heap.size 3 1 v' (listTo l s k).length (nums .i64 (listTo l s k)) ∧ Below w.heap.size w wr) (fun _ i _ => l.length - (intOf i).toNat)
  case atStart => exact ⟨0, _, Nat.zero_le _, rfl, rfl, World.ownsRow_nil _ _ _ _, Below.refl _ _⟩
  case round =>
    obtain ⟨k, v, hk, rfl, hvv, hown, hbl⟩ := hrel
    subst hvv
    by_cases hlt2 : k < l.length
    · have hc := (hbl.cell (p := ⟨b, k, none⟩) hlt).trans (HG.out k hlt2)
      have hle := HLE.out k
      have HS : Hid (listTo l s (k + 1) = if l.getD k 0 = s then listTo l s k ++ [(k : Int)] else listTo l s k) := rfl
      generalize l.getD k 0 = y at *
      have HL : Hid (Hid (listTo l s (k + 1) = listTo l s (k + 1))) := rfl
      obtain ⟨xs, hxs⟩ : ∃ xs, listTo l s k = xs := ⟨_, rfl⟩
      rw [hxs] at hown hle
      have HXS := Lib.hid hxs
      clear hxs HL
      have hsz := hbl.size
      by_cases hy : y = s
      · have he : (y == s) = true := by simpa using hy
        have HY := Lib.hid hy
        clear hy
        go_wp2_with
          (first
            | (at_builtin
               refine wpList_append_any _ rfl (.tmp 21) (.tmp 23) _ rfl w.heap.size 3 i0 _ 1 8 Try.underlying37 hi0 hz0 hz1 hz2 rfl (by omega) u5 xs.length (nums .i64 xs) rfl
                 (hown.alloc _) (wr.heap.size + 1) _ 1 1 (nums .i64 [(k : Int)]) rfl (reads_int wr k) (nums_one _ _) (by simp only [maxLen]; omega) (by omega) (by simp; omega) ?_
               intro v2 w3 hown2 hg2 hat2))
        have hb3 : Below w.heap.size w w3 := (hbl.alloc hsz _).grown hg2 (by simp; omega) (fun g hg => (hown.lt g hg).1)
        go_roundw
        case rel =>
          refine ⟨k + 1, _, by omega, by go_num, rfl, ?_, hb3⟩
          rw [HS.out, if_pos HY.out, HXS.out]
          simpa [nums] using hown2
        case measure => simp [intOf]; omega
      · have he : (y == s) = false := by simpa using hy
        have HY := Lib.hid hy
        clear hy
        go_wp2
        go_roundw
        case rel =>
          refine ⟨k + 1, _, by omega, by go_num, rfl, ?_, hbl⟩
          rw [HS.out, if_neg HY.out, HXS.out]
          exact hown
        case measure => simp [intOf]; omega
    · have hkk : k = l.length := by omega
      subst hkk
      obtain ⟨A, c, rfl⟩ := own_form hown
      go_wp2
      go_ret
      exact ⟨A, c, rfl, Reads.of_own hown, hbl, fun ad e => by subst e; exact (hown.lt _ rfl).1⟩
end Go.Proofs.Ytgninjlgeibgpaa
