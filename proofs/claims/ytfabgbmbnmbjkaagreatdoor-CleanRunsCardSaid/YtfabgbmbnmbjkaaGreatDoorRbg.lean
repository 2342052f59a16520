/- Joined texts: Sr Sr2 Sr3 Sr4. -/
import Derived.Test.YtfabgbmbnmbjkaaGreatDoorRat
import Derived.Deep.LoopGhost
/- Pruned. -/
namespace Go.Proofs.YtfabgbmbnmbjkaaGreatDoor
open Go.RowKit
set_option maxRecDepth 20000
structure RefIs (w : World) (g b cap : Nat) (ex : List Value) (l : List Int) (z zb bl rs : Int) : Prop where
  top : Blk w g 182 #[.int .i64 z, .int .i64 zb, .int .i64 bl, .int .i64 rs, .slice (some ⟨b, 0, none⟩) l.length cap]
  row : Blk w b 5 (nums .u8 l ++ ex).toArray
section
variable {w w' : World} {g b cap : Nat} {ex : List Value} {l : List Int} {z zb bl rs : Int}
theorem RefIs.ne_ (h : RefIs w g b cap ex l z zb bl rs) : g ≠ b := h.top.ne_ h.row (by decide)
theorem RefIs.c3 (h : RefIs w g b cap ex l z zb bl rs) : w.cell? ⟨g, 3, none⟩ = some (.int .i64 rs) := h.top.cell 3
theorem RefIs.c4 (h : RefIs w g b cap ex l z zb bl rs) : w.cell? ⟨g, 4, none⟩ = some (.slice (some ⟨b, 0, none⟩) l.length cap) := h.top.cell 4
theorem RefIs.fzb (h : RefIs w g b cap ex l z zb bl rs) (i : Nat) : w.frozen? ⟨b, i, none⟩ = false := h.row.frozen i
theorem RefIs.at_ (h : RefIs w g b cap ex l z zb bl rs) {k : Nat} (hk : k < l.length) : w.cell? ⟨b, k, none⟩ = some (.int .u8 (l.getD k 0)) := by
 rw [h.row.cell k, List.getElem?_toArray, List.getElem?_append_left (by rw [nums_length]; exact hk), nums_get .u8 l k hk]
theorem RefIs.kp {S : Nat -> Prop} (h : RefIs w g b cap ex l z zb bl rs) (k : Kp S w w') (hg : ¬ S g) (hb : ¬ S b) : RefIs w' g b cap ex l z zb bl rs := ⟨k.blk h.top hg, k.blk h.row hb⟩
theorem RefIs.drewN (h : RefIs w g b cap ex l z zb bl rs) (n : Nat) : RefIs (w.drewN n) g b cap ex l z zb bl rs := ⟨h.top, h.row⟩
theorem RefIs.alloc (h : RefIs w g b cap ex l z zb bl rs) (o : Obj) : RefIs (w.alloc o) g b cap ex l z zb bl rs := ⟨h.top.alloc o, h.row.alloc o⟩
theorem RefIs.below (h : RefIs w g b cap ex l z zb bl rs) (k : Below w.heap.size w w') : RefIs w' g b cap ex l z zb bl rs := ⟨h.top.below k h.top.lt, h.row.below k h.row.lt⟩
theorem RefIs.set_ (h : RefIs w g b cap ex l z zb bl rs) {k : Nat} (hk : k < l.length) (x : Int) : RefIs (w.setCell ⟨b, k, none⟩ (.int .u8 x)) g b cap ex (l.set k x) z zb bl rs := ⟨by
    have := h.top.far (p := ⟨b, k, none⟩) h.ne_ (.int .u8 x)
    simpa using this, by
    have := h.row.set_ k (.int .u8 x)
    rw [show (nums .u8 l ++ ex).toArray.setIfInBounds k (.int .u8 x) = (nums .u8 (l.set k x) ++ ex).toArray by
     simp only [List.setIfInBounds_toArray]
     rw [List.set_append_left _ _ (by rw [nums_length]; exact hk)]
     simp [nums, List.map_set]] at this
    exact this⟩
end
theorem refstate_any (g b cap : Nat) (ex : List Value) (l : List Int) (z zb bl rs x : Int) (w : World) (h : RefIs w g b cap ex l z zb bl rs) :
    Calls Tryz.prog 102 #[.pointer (some ⟨g, 0, none⟩), .int .i64 x] w fun e w' => e = .returned (.int .u8 (stateAt l x)) ∧ w = w' := by
 have h0 := h.c4
 by_cases hz : 0 <= x ∧ x < l.length
 · obtain ⟨k, rfl⟩ := Int.eq_ofNat_of_zero_le hz.1
   have hk : k < l.length := by omega
   have hc := h.at_ hk
   have HS : Hid (stateAt l k = l.getD k 0) := by unfold Hid stateAt; rw [if_pos hz, Int.toNat_natCast]
   clear h hz
   generalize l.getD k 0 = y at *
   go_enter Tryz.func102, Tryz.ntmps102
   go_wp2
   go_ret
   exact ⟨ret_int HS.out.symm, rfl⟩
 · have HS : Hid (stateAt l x = 0) := if_neg hz
   clear h
   by_cases hn : x < 0
   · go_enter Tryz.func102, Tryz.ntmps102
     go_wp2
     go_ret
     exact ⟨ret_int HS.out.symm, rfl⟩
   · obtain ⟨k, rfl⟩ := Int.eq_ofNat_of_zero_le (show 0 <= x by omega)
     have hk : l.length <= k := by omega
     clear hz hn
     go_enter Tryz.func102, Tryz.ntmps102
     go_wp2
     go_ret
     exact ⟨ret_int HS.out.symm, rfl⟩
def RTurns (g b cap : Nat) (ex : List Value) (l : List Int) (z zb bl rs x a c : Int) (w : World) (e : Ending) (w' : World) : Prop :=
 (stateAt l x = a -> e = .returned (.bool true) ∧ RefIs w' g b cap ex (turnL l x c) z zb bl rs) ∧ (stateAt l x ≠ a -> e = .returned (.bool false) ∧ RefIs w' g b cap ex l z zb bl rs) ∧ Kp (fun k => k = b) w w'
theorem refturn_any (g b cap : Nat) (ex : List Value) (l : List Int) (z zb bl rs x a c : Int) (w : World) (h : RefIs w g b cap ex l z zb bl rs) (ha : a ≠ 0) :
    Calls Tryz.prog 154 #[.pointer (some ⟨g, 0, none⟩), .int .i64 x, .int .u8 a, .int .u8 c] w (RTurns g b cap ex l z zb bl rs x a c w) := by
 have h0 := h.c4
 have HH := Lib.hid h
 by_cases hz : 0 <= x ∧ x < l.length
 · obtain ⟨k, rfl⟩ := Int.eq_ofNat_of_zero_le hz.1
   have hk : k < l.length := by omega
   have hc := h.at_ hk
   have hf := h.fzb k
   have HS : Hid (stateAt l k = l.getD k 0) := by unfold Hid stateAt; rw [if_pos hz, Int.toNat_natCast]
   have HT := Lib.hid (h.set_ hk c)
   clear h hz
   generalize hy : l.getD k 0 = y at *
   clear hy
   by_cases hya : y = a
   · subst hya
     go_enter Tryz.func154, Tryz.ntmps154
     go_wp2
     go_ret
     exact ⟨fun _ => ⟨rfl, by simpa [turnL] using HT.out⟩, fun hn => absurd HS.out hn, (Kp.refl (fun k => k = b) w).setCell (p := ⟨b, k, none⟩) (.inl rfl) _⟩
   · have hne : (y != a) = true := by simpa using hya
     have HY := Lib.hid hya
     clear hya
     go_enter Tryz.func154, Tryz.ntmps154
     go_wp2
     go_ret
     exact ⟨fun he => absurd (HS.out.symm.trans he) HY.out, fun _ => ⟨rfl, HH.out⟩, Kp.refl _ _⟩
 · have HS : Hid (stateAt l x ≠ a) := by unfold Hid stateAt; rw [if_neg hz]; exact fun e => ha e.symm
   clear h
   by_cases hn : x < 0
   · go_enter Tryz.func154, Tryz.ntmps154
     go_wp2
     go_ret
     exact ⟨fun he => absurd he HS.out, fun _ => ⟨rfl, HH.out⟩, Kp.refl _ _⟩
   · obtain ⟨k, rfl⟩ := Int.eq_ofNat_of_zero_le (show 0 <= x by omega)
     have hk : l.length <= k := by omega
     clear hz hn
     go_enter Tryz.func154, Tryz.ntmps154
     go_wp2
     go_ret
     exact ⟨fun he => absurd he HS.out, fun _ => ⟨rfl, HH.out⟩, Kp.refl _ _⟩
end Go.Proofs.YtfabgbmbnmbjkaaGreatDoor

/- Pruned. -/
namespace Go.Proofs.YtfabgbmbnmbjkaaGreatDoor
open Go.RowKit
set_option maxRecDepth 20000
theorem reffill_any (g b cap : Nat) (ex : List Value) (l : List Int) (z zb bl rs x : Int) (w : World) (h : RefIs w g b cap ex l z zb bl rs) :
    Calls Tryz.prog 129 #[.pointer (some ⟨g, 0, none⟩), .int .i64 x] w (RTurns g b cap ex l z zb bl rs x 2 3 w) := by
 have H := Lib.hid (refturn_any g b cap ex l z zb bl rs x 2 3 w h (by decide))
 clear h
 go_enter Tryz.func129, Tryz.ntmps129
 go_wp2_with (fail)
 refine H.out.mono ?_
 rintro e w' ⟨h1, h2, h3⟩
 by_cases hs : stateAt l x = 2
 · obtain ⟨rfl, h4⟩ := h1 hs
   clear h1 h2
   have HS := Lib.hid hs
   clear hs
   go_wp2
   go_ret
   exact ⟨fun _ => ⟨rfl, h4⟩, fun hn => absurd HS.out hn, h3⟩
 · obtain ⟨rfl, h4⟩ := h2 hs
   clear h1 h2
   have HS := Lib.hid hs
   clear hs
   go_wp2
   go_ret
   exact ⟨fun hn => absurd hn HS.out, fun _ => ⟨rfl, h4⟩, h3⟩
theorem refclear_any (g b cap : Nat) (ex : List Value) (l : List Int) (z zb bl rs x : Int) (w : World) (h : RefIs w g b cap ex l z zb bl rs) :
    Calls Tryz.prog 132 #[.pointer (some ⟨g, 0, none⟩), .int .i64 x] w (RTurns g b cap ex l z zb bl rs x 3 1 w) := by
 have H := Lib.hid (refturn_any g b cap ex l z zb bl rs x 3 1 w h (by decide))
 clear h
 go_enter Tryz.func132, Tryz.ntmps132
 go_wp2_with (fail)
 refine H.out.mono ?_
 rintro e w' ⟨h1, h2, h3⟩
 by_cases hs : stateAt l x = 3
 · obtain ⟨rfl, h4⟩ := h1 hs
   clear h1 h2
   have HS := Lib.hid hs
   clear hs
   go_wp2
   go_ret
   exact ⟨fun _ => ⟨rfl, h4⟩, fun hn => absurd HS.out hn, h3⟩
 · obtain ⟨rfl, h4⟩ := h2 hs
   clear h1 h2
   have HS := Lib.hid hs
   clear hs
   go_wp2
   go_ret
   exact ⟨fun hn => absurd hn HS.out, fun _ => ⟨rfl, h4⟩, h3⟩
theorem placeI_here (x : Int) (l : List Int) (k : Nat) (hk : k < l.length) (h : l.getD k 0 = x) (hn : ∀ j, j < k -> l.getD j 0 ≠ x) : placeI x l 0 = k := by
 rcases placeI_spec x l 0 with ⟨_, h2⟩ | ⟨j, h1, h2, h3, h4⟩
 · exact absurd h (h2 k hk)
 · rcases Nat.lt_trichotomy j k with hj | hj | hj
   · exact absurd h3 (hn j hj)
   · rw [h1, hj]; simp
   · exact absurd h (h4 k hj)
theorem placeI_none (x : Int) (l : List Int) (hn : ∀ j, j < l.length -> l.getD j 0 ≠ x) : placeI x l 0 = -1 := by
 rcases placeI_spec x l 0 with ⟨h1, _⟩ | ⟨j, _, h2, h3, _⟩
 · exact h1
 · exact absurd h3 (hn j h2)
def RTakes (g b cap : Nat) (ex : List Value) (l : List Int) (z zb bl rs : Int) (w : World) (e : Ending) (w' : World) : Prop :=
 (placeI 1 l 0 ≠ -1 -> e = .returned (.tuple #[.int .i64 (placeI 1 l 0), .bool true]) ∧ RefIs w' g b cap ex (turnL l (placeI 1 l 0) 2) z zb bl rs) ∧ (placeI 1 l 0 = -1 -> e = .returned (.tuple #[.int .i64 0, .bool false]) ∧ RefIs w' g b cap ex l z zb bl rs) ∧ Kp (fun x => x = b) w w'
theorem reftake_any (g b cap : Nat) (ex : List Value) (l : List Int) (z zb bl rs : Int) (w : World) (h : RefIs w g b cap ex l z zb bl rs) (hl : l.length <= 65535) :
    Calls Tryz.prog 174 #[.pointer (some ⟨g, 0, none⟩)] w (RTakes g b cap ex l z zb bl rs w) := by
 have h0 := h.c4
 have HH := Lib.hid h
 clear h
 go_enter Tryz.func174, Tryz.ntmps174
 go_wp2
 go_loop [4] (fun i => ∃ k : Nat, k <= l.length ∧ i = .int .i64 k ∧ Hid (∀ j, j < k -> l.getD j 0 ≠ 1)) (fun i => l.length - (intOf i).toNat)
 case atStart => exact ⟨0, Nat.zero_le _, rfl, fun j hj => absurd hj (Nat.not_lt_zero j)⟩
 case round =>
  obtain ⟨k, hk, rfl, hn⟩ := hrel
  by_cases hlt : k < l.length
  · have hc := HH.out.at_ hlt
    have hf := HH.out.fzb k
    have HS : Hid (∀ c, RefIs (w.setCell ⟨b, k, none⟩ (.int .u8 c)) g b cap ex (turnL l k c) z zb bl rs) := fun c => HH.out.set_ hlt c
    have HY : Hid (l.getD k 0 = l.getD k 0) := rfl
    obtain ⟨y, hy⟩ : ∃ y, l.getD k 0 = y := ⟨_, rfl⟩
    rw [hy] at hc
    by_cases hx : y = 1
    · subst hx
      have HP := Lib.hid (placeI_here 1 l k hlt hy hn.out)
      clear hy
      go_wp2
      go_ret2
      rw [RTakes, HP.out]
      exact ⟨fun _ => ⟨rfl, HS.out 2⟩, fun he => absurd he (by omega), (Kp.refl (fun k => k = b) w).setCell (p := ⟨b, k, none⟩) (.inl rfl) _⟩
    · have he : (y == 1) = false := by simpa using hx
      have HN : Hid (∀ j, j < k + 1 -> l.getD j 0 ≠ 1) := fun j hj => by
       rcases Nat.lt_or_eq_of_le (Nat.le_of_lt_succ hj) with h | h
       · exact hn.out j h
       · rw [h, hy]; exact hx
      clear hy hx
      go_wp2
      go_round
      case rel => exact ⟨k + 1, by omega, by go_num, HN⟩
      case measure => simp [intOf]; omega
  · have hkk : k = l.length := by omega
    subst hkk
    have HP := Lib.hid (placeI_none 1 l hn.out)
    go_wp2
    go_ret2
    rw [RTakes, HP.out]
    exact ⟨fun he => absurd rfl he, fun _ => ⟨rfl, HH.out⟩, Kp.refl (fun k => k = b) w⟩
theorem reflist_any (g b cap : Nat) (ex : List Value) (l : List Int) (z zb bl rs s : Int) (w : World) (hl : l.length <= 65535) (h : RefIs w g b cap ex l z zb bl rs) :
    Calls Tryz.prog 66 #[.pointer (some ⟨g, 0, none⟩), .int .u8 s] w (Lists (listTo l s l.length) w) := by
 obtain ⟨i0, hi0, hz0, hz1, hz2⟩ := info_parts int_info
 have HG : Hid (∀ k, k < l.length -> w.cell? ⟨b, k, none⟩ = some (.int .u8 (l.getD k 0))) := fun k hk => h.at_ hk
 have HC := Lib.hid h.c4
 have hlt := h.row.lt
 have hltg := h.top.lt
 have HLE := Lib.hid (listTo_le l s)
 clear h
 go_enter Tryz.func66, Tryz.ntmps66
 go_wp2
 go_loopw [5, 6] (fun v i wr => ∃ (k : Nat) (v' : Value), k <= l.length ∧ i = .int .i64 k ∧ v = v' ∧ wr.ownsRow w.heap.size 3 1 v' (listTo l s k).length (nums .i64 (listTo l s k)) ∧ Below w.heap.size w wr) (fun _ i _ => l.length - (intOf i).toNat)
 case atStart => exact ⟨0, _, Nat.zero_le _, rfl, rfl, World.ownsRow_nil _ _ _ _, Below.refl _ _⟩
 case round =>
  obtain ⟨k, v, hk, rfl, hvv, hown, hbl⟩ := hrel
  subst hvv
  have h0 := (hbl.cell (p := ⟨g, 4, none⟩) hltg).trans HC.out
  by_cases hlt2 : k < l.length
  · have hc := (hbl.cell (p := ⟨b, k, none⟩) hlt).trans (HG.out k hlt2)
    have hle := HLE.out k
    have HS : Hid (listTo l s (k + 1) = if l.getD k 0 = s then listTo l s k ++ [(k : Int)] else listTo l s k) := rfl
    generalize l.getD k 0 = y at *
    obtain ⟨xs, hxs⟩ : ∃ xs, listTo l s k = xs := ⟨_, rfl⟩
    rw [hxs] at hown hle
    have HXS := Lib.hid hxs
    clear hxs
    have hsz := hbl.size
    by_cases hy : y = s
    · have he : (y == s) = true := by simpa using hy
      have HY := Lib.hid hy
      clear hy
      go_wp2_with
        (first
          | (at_builtin
             refine wpList_append_any _ rfl (.tmp 25) (.tmp 27) _ rfl w.heap.size 3 i0 _ 1 8 Tryz.underlying68 hi0 hz0 hz1 hz2 rfl (by omega) u5 xs.length (nums .i64 xs) rfl
               (hown.alloc _) (wr.heap.size + 1) _ 1 1 (nums .i64 [(k : Int)]) rfl (reads_int wr k) (nums_one _ _) (by simp only [maxLen]; omega) (by omega) (by simp; omega) ?_
             intro v2 w3 hown2 hg2 hat2))
      have hb3 : Below w.heap.size w w3 := (hbl.alloc hsz _).grown hg2 (by simp; omega) (fun g hg => (hown.lt g hg).1)
      go_roundw
      case rel =>
       refine ⟨k + 1, _, by omega, by go_num, rfl, ?_, hb3⟩
       rw [HS.out, if_pos HY.out, HXS.out]
       simpa [nums] using hown2
      case measure => simp [intOf]; omega
    · have he : (y == s) = false := by simpa using hy
      have HY := Lib.hid hy
      clear hy
      go_wp2
      go_roundw
      case rel =>
       refine ⟨k + 1, _, by omega, by go_num, rfl, ?_, hbl⟩
       rw [HS.out, if_neg HY.out, HXS.out]
       exact hown
      case measure => simp [intOf]; omega
  · have hkk : k = l.length := by omega
    subst hkk
    obtain ⟨A, c, rfl⟩ := own_form hown
    go_wp2
    go_ret
    exact ⟨A, c, rfl, Reads.of_own hown, hbl, fun ad e => by subst e; exact (hown.lt _ rfl).1⟩
end Go.Proofs.YtfabgbmbnmbjkaaGreatDoor

/- Pruned. -/
namespace Go.Proofs.YtfabgbmbnmbjkaaGreatDoor
open Go.RowKit
set_option maxRecDepth 20000
theorem listTo_succ (l : List Int) (s : Int) (k : Nat) : listTo l s (k + 1) = if l.getD k 0 = s then listTo l s k ++ [(k : Int)] else listTo l s k := rfl
theorem listTo_count (l : List Int) (s : Int) (k : Nat) (hk : k <= l.length) : (listTo l s k).length = (l.take k).countP (· == s) := by
 induction k with
 | zero => simp [listTo]
 | succ k ih =>
   have hg : l[k]? = some (l.getD k 0) := by
    rw [List.getD_eq_getElem?_getD, List.getElem?_eq_getElem (show k < l.length by omega)]; rfl
   rw [List.take_add_one, List.countP_append, <- ih (by omega), hg, listTo_succ]
   generalize l.getD k 0 = y
   by_cases h : y = s
   · rw [if_pos h]; simp [h]
   · rw [if_neg h]; simp [h]
theorem listTo_frees (l : List Int) : ((listTo l 1 l.length).length : Int) = frees l := by
 rw [listTo_count l 1 l.length (Nat.le_refl _), List.take_length]; rfl
theorem reflow_any (g b cap : Nat) (ex : List Value) (l : List Int) (z zb bl rs : Int) (w : World) (hl : l.length <= 65535) (h : RefIs w g b cap ex l z zb bl rs) :
    Calls Tryz.prog 134 #[.pointer (some ⟨g, 0, none⟩)] w (Makes (.bool (decide (frees l <= rs))) w) := by
 have h3 := h.c3
 have HL := Lib.hid (fun w' (hw : RefIs w' g b cap ex l z zb bl rs) => reflist_any g b cap ex l z zb bl rs 1 w' hl hw)
 have HH := Lib.hid h
 have HF := Lib.hid (listTo_frees l)
 have hlt := h.top.lt
 clear h
 generalize listTo l 1 l.length = xs at *
 generalize frees l = f at *
 go_enter Tryz.func134, Tryz.ntmps134
 go_wp2_with (fail)
 go_region_held3 (fun w' => w'.cell? ⟨g, 3, none⟩ = some (.int .i64 rs)) (go_keep)
   (first | (go_at_call 66; refine (HL.out _ ?_).mono ?_; (exact HH.out.drewN _); (rintro e w2 ⟨A, c, rfl, hrd, hb, _⟩; have k3 : w2.cell? ⟨g, 3, none⟩ = some (.int .i64 rs) := (hb.cell (p := ⟨g, 3, none⟩) (by simpa using hlt)).trans (by simpa using h3); have HB := Lib.hid hb; clear hb hrd h3)))
 go_wp2
 go_ret
 exact ⟨ret_bool (by rw [<- HF.out]), ((Below.refl _ _).drew).trans HB.out⟩
end Go.Proofs.YtfabgbmbnmbjkaaGreatDoor

/- Pruned. -/
namespace Go.Proofs.YtfabgbmbnmbjkaaGreatDoor
open Go.RowKit
set_option maxRecDepth 20000
theorem row_own {w : World} {b base : Nat} {e : TypeId} (xs ex : List Value) (h : Blk w b e (xs ++ ex).toArray) (hb : base <= b) (hm : (xs ++ ex).length <= maxLen) : w.ownsRow base e 1 (.slice (some ⟨b, 0, none⟩) xs.length (xs ++ ex).length) xs.length xs :=
 ⟨by simp, .inr ⟨b, _, _, rfl, hb, h, by simp, hm, by simp, by simp⟩⟩
theorem own_row {w : World} {base n c : Nat} {A : Option Addr} {e : TypeId} {xs : List Value} (h : w.ownsRow base e 1 (.slice A n c) n xs) (hn : 0 < n) : ∃ b ex, A = some ⟨b, 0, none⟩ ∧ base <= b ∧ Blk w b e (xs ++ ex).toArray := by
 rcases h.2 with ⟨_, h0⟩ | ⟨g, cap, cur, hv, hb, hh, _, _, _, ht⟩
 · omega
 · injection hv with hA
   refine ⟨g, cur.toList.drop n, hA, hb, ?_⟩
   rw [Nat.mul_one] at ht
   rw [<- ht, List.take_append_drop]
   exact hh
def frontS (k : Nat) : List Int := [4, 4] ++ List.replicate k 1
theorem frontS_length (k : Nat) : (frontS k).length = k + 2 := by simp [frontS]
theorem frontS_succ (k : Nat) : frontS (k + 1) = frontS k ++ [1] := by simp [frontS, List.replicate_succ']
def RNews (z zb bl rs : Int) (w : World) (e : Ending) (w' : World) : Prop :=
 (rightB z zb bl rs = true -> ∃ g b cap ex, e = .returned (.pointer (some ⟨g, 0, none⟩)) ∧ w.heap.size <= g ∧ w.heap.size <= b ∧ RefIs w' g b cap ex (newL z) z zb bl rs) ∧ (rightB z zb bl rs = false -> e = .returned (.pointer none)) ∧ Below w.heap.size w w'
theorem byte_info : (Tryz.prog.info? 5).map (fun i => (i.zero, i.size, i.bytes)) = some (some (.int .u8 0), 1, 1) := by kernel_rfl
theorem refnew_any (z zb bl rs : Int) (w : World) (hz : -9223372036854775808 <= z ∧ z <= 9223372036854775807) :
    Calls Tryz.prog 97 #[.agg #[.int .i64 z, .int .i64 zb, .int .i64 bl, .int .i64 rs]] w (RNews z zb bl rs w) := by
 have HR := Lib.hid (fun w => refright_any z zb bl rs w hz)
 obtain ⟨i0, hi0, hz0, hz1, hz2⟩ := info_parts byte_info
 cases hr : rightB z zb bl rs with
 | false =>
   have HF := Lib.hid hr
   rw [hr] at HR
   clear hr
   go_enter Tryz.func97, Tryz.ntmps97
   go_wp2_with (fail)
   refine (HR.out _).mono ?_
   rintro e w1 ⟨rfl, hb1⟩
   go_wp2
   go_ret
   exact ⟨fun ht => absurd (ht.symm.trans HF.out) (by decide), fun _ => rfl, ((Below.refl _ _).alloc (Nat.le_refl _) _).trans (hb1.mono (by simp))⟩
 | true =>
   have HT := Lib.hid hr
   have hz2' : 6 <= z ∧ z <= 256 := by
    have := of_decide_eq_true hr
    omega
   rw [hr] at HR
   clear hr hz
   obtain ⟨n, rfl⟩ := Int.eq_ofNat_of_zero_le (show 0 <= z by omega)
   go_enter Tryz.func97, Tryz.ntmps97
   go_wp2_with (fail)
   refine (HR.out _).mono ?_
   rintro e w1 ⟨rfl, hb1⟩
   have hblk := (Blk.new w 23 #[.int .i64 n, .int .i64 zb, .int .i64 bl, .int .i64 rs]).below hb1 (by simp)
   have hc0 : w1.cell? ⟨w.heap.size, 0, none⟩ = some (.int .i64 n) := hblk.cell 0
   have hc1 : w1.cell? ⟨w.heap.size, 1, none⟩ = some (.int .i64 zb) := hblk.cell 1
   have hc2 : w1.cell? ⟨w.heap.size, 2, none⟩ = some (.int .i64 bl) := hblk.cell 2
   have hc3 : w1.cell? ⟨w.heap.size, 3, none⟩ = some (.int .i64 rs) := hblk.cell 3
   have hs1 : w.heap.size < w1.heap.size := by have := hb1.size; simp at this; omega
   have hbw : Below w.heap.size w w1 := ((Below.refl _ _).alloc (Nat.le_refl _) _).trans (hb1.mono (by simp))
   have HBW := Lib.hid hbw
   clear hbw hb1 HR
   have HBL := Lib.hid hblk
   clear hblk
   go_wp2_with (fail)
   generalize hG : w1.heap.size = s1 at *
   have HB1 : Hid (Blk ((w1.alloc (.cells #[.int .u8 4, .int .u8 4] 5)).alloc (.cells #[.int .i64 n, .int .i64 zb, .int .i64 bl, .int .i64 rs, .slice (some ⟨s1, 0, none⟩) 2 2] 182)) (s1 + 1) 182 #[.int .i64 n, .int .i64 zb, .int .i64 bl, .int .i64 rs, .slice (some ⟨s1, 0, none⟩) (0 + 2) 2]) := by
    have := Blk.new (w1.alloc (.cells #[.int .u8 4, .int .u8 4] 5)) 182 #[.int .i64 n, .int .i64 zb, .int .i64 bl, .int .i64 rs, .slice (some ⟨s1, 0, none⟩) 2 2]
    simpa [hG, Hid] using this
   have HO1 : Hid (((w1.alloc (.cells #[.int .u8 4, .int .u8 4] 5)).alloc (.cells #[.int .i64 n, .int .i64 zb, .int .i64 bl, .int .i64 rs, .slice (some ⟨s1, 0, none⟩) 2 2] 182)).ownsRow s1 5 1 (.slice (some ⟨s1, 0, none⟩) (0 + 2) 2) (0 + 2) (nums .u8 (frontS 0))) := by
    have := (Blk.new w1 5 #[.int .u8 4, .int .u8 4]).alloc (.cells #[.int .i64 n, .int .i64 zb, .int .i64 bl, .int .i64 rs, .slice (some ⟨s1, 0, none⟩) 2 2] 182)
    rw [hG] at this
    exact row_own (nums .u8 (frontS 0)) [] this (Nat.le_refl _) (by decide)
   have HX := Lib.hid ((HBL.out.alloc (.cells #[.int .u8 4, .int .u8 4] 5)).alloc (.cells #[.int .i64 n, .int .i64 zb, .int .i64 bl, .int .i64 rs, .slice (some ⟨s1, 0, none⟩) 2 2] 182))
   have HW : Hid (Below w.heap.size w ((w1.alloc (.cells #[.int .u8 4, .int .u8 4] 5)).alloc (.cells #[.int .i64 n, .int .i64 zb, .int .i64 bl, .int .i64 rs, .slice (some ⟨s1, 0, none⟩) 2 2] 182))) := (HBW.out.alloc (by omega) _).alloc (by simp; omega) _
   have hsz : s1 + 2 <= ((w1.alloc (.cells #[.int .u8 4, .int .u8 4] 5)).alloc (.cells #[.int .i64 n, .int .i64 zb, .int .i64 bl, .int .i64 rs, .slice (some ⟨s1, 0, none⟩) 2 2] 182)).heap.size := by simp; omega
   generalize (w1.alloc (.cells #[.int .u8 4, .int .u8 4] 5)).alloc (.cells #[.int .i64 n, .int .i64 zb, .int .i64 bl, .int .i64 rs, .slice (some ⟨s1, 0, none⟩) 2 2] 182) = w3 at *
   clear hG HBL HBW hc0 hc1 hc2 hc3
   go_loopg [] (n - 2) (fun j wr => ∃ (k : Nat) (A : Option Addr) (c : Nat), Hid (j + k + 2 = n) ∧ Hid (Blk wr (s1 + 1) 182 #[.int .i64 n, .int .i64 zb, .int .i64 bl, .int .i64 rs, .slice A (k + 2) c]) ∧ Hid (wr.ownsRow s1 5 1 (.slice A (k + 2) c) (k + 2) (nums .u8 (frontS k))) ∧ Hid (Blk wr w.heap.size 23 #[.int .i64 n, .int .i64 zb, .int .i64 bl, .int .i64 rs]) ∧ Hid (Below w.heap.size w wr))
   case atStart => exact ⟨0, _, _, by unfold Hid; omega, HB1, HO1, HX, HW⟩
   case round =>
    obtain ⟨k, A, c, hj, hbk, hown, hx, hbl⟩ := hrel
    have hjo := hj.out
    have h0 : wr.cell? ⟨s1 + 1, 4, none⟩ = some (.slice A (k + 2) c) := hbk.out.cell 4
    have hz0' : wr.cell? ⟨w.heap.size, 0, none⟩ = some (.int .i64 n) := hx.out.cell 0
    have hf : wr.frozen? ⟨s1 + 1, 4, none⟩ = false := hbk.out.frozen 4
    have hsl : s1 + 1 < wr.heap.size := hbk.out.lt
    have hkn : k + 2 <= n := by omega
    clear hjo HB1 HO1 HX HW
    by_cases hlt : k + 2 < n
    · go_wp2_with (fail)
      go_quiet (fail)
      have HQ := Lib.hid (hbk.out.drewN nq)
      have HO := Lib.hid (hown.out)
      have hlenr := frontS_length k
      have hneg : some (s1 + 1) ≠ (Value.slice A (k + 2) c).ownBlock := fun e => own_blk_ne hown.out hbk.out (by decide) e.symm
      have hneg2 : some w.heap.size ≠ (Value.slice A (k + 2) c).ownBlock := fun e => own_blk_ne hown.out hx.out (by decide) e.symm
      have HN := Lib.hid hneg
      have HN2 := Lib.hid hneg2
      clear hneg hneg2
      go_wp2_with
        (first
          | (at_builtin
             refine wpList_append_any _ rfl (.tmp 25) (.tmp 26) _ rfl s1 5 i0 _ 1 1 Tryz.underlying36 hi0 hz0 hz1 hz2 rfl (by omega) (.slice A (k + 2) c) (k + 2) (nums .u8 (frontS k)) rfl
               ((show (wr.drewN nq).ownsRow s1 5 1 (.slice A (k + 2) c) (k + 2) (nums .u8 (frontS k)) from hown.out).alloc _) _ _ 1 1 [.int .u8 1] rfl (reads_byte (wr.drewN nq) wr.heap.size 1 rfl) (nums_one .u8 [1]) (by simp only [maxLen]; omega) (by omega) (by simp; omega) ?_
             intro v2 w4 hown2 hg2 hat2
             obtain ⟨A2, c2, rfl⟩ := own_form hown2
             have hb4 := (hbk.out.drewN nq |>.alloc (.cells #[.int .u8 1] 5)).grown hg2 HN.out
             have hx4 := (hx.out.drewN nq |>.alloc (.cells #[.int .u8 1] 5)).grown hg2 HN2.out
             have hf4 : w4.frozen? ⟨s1 + 1, 4, none⟩ = false := hb4.frozen 4
             have hc4 : w4.cell? ⟨s1 + 1, 4, none⟩ = some (.slice A (k + 2) c) := hb4.cell 4
             have HB4 := Lib.hid hb4
             have HX4 := Lib.hid hx4
             have HO2 := Lib.hid hown2
             have HG2 := Lib.hid hg2
             clear hb4 hx4 hown2 hg2 hat2))
      go_roundg (n - (k + 1) - 2)
      case measure => have := hj.out; omega
      case rel =>
       refine ⟨k + 1, A2, c2, ?_, ?_, ?_, ?_, ?_⟩
       · unfold Hid; omega
       · exact HB4.out.set_ 4 _
       · have h1 := ownsRow_setCell_other (a := ⟨s1 + 1, 4, none⟩) HO2.out (own_blk_ne HO2.out HB4.out (by decide)) (.slice A2 (k + 2 + 1) c2)
         rw [frontS_succ, show nums .u8 (frontS k ++ [1]) = nums .u8 (frontS k) ++ [.int .u8 1] by simp [nums]]
         exact h1
       · exact HX4.out.far (by show w.heap.size ≠ s1 + 1; omega) _
       · have h1 := ((below_drewN hbl.out nq).alloc (by have := hbl.out.size; simpa using this) (.cells #[.int .u8 1] 5)).grown HG2.out (by have := hbl.out.size; simp; omega) (fun g hg => by have := (hown.out.lt g hg).1; omega)
         exact h1.setCell (p := ⟨s1 + 1, 4, none⟩) (show w.heap.size <= s1 + 1 by omega) _
    · have hk2 : n = k + 2 := by omega
      subst hk2
      go_wp2_with (fail)
      go_quiet (fail)
      go_wp2
      go_ret
      refine ⟨fun _ => ?_, fun hf => absurd (hf.symm.trans HT.out) (by decide), below_drewN hbl.out _⟩
      obtain ⟨b, ex, rfl, hb, hrow⟩ := own_row hown.out (by omega)
      refine ⟨s1 + 1, b, c, ex, rfl, by omega, by omega, ?_⟩
      have hfr : newL ((k + 2 : Nat) : Int) = frontS k := by simp only [newL, frontS]; rw [show ((k + 2 : Nat) : Int).toNat - 2 = k by omega]
      rw [hfr]
      exact ⟨by rw [frontS_length]; exact hbk.out, hrow⟩
end Go.Proofs.YtfabgbmbnmbjkaaGreatDoor

