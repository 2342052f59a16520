/- Contracts of the reference's Seg: a new one; its states, turned, taken and told; lists; too few. -/
import Derived.Test.YtgninjlgeibgpaaSg6
import Derived.Deep.LoopGhost
namespace Go.Proofs.Ytgninjlgeibgpaa
open Go.RowKit

/-- A reference's Seg: its struct is block g, its states stand at the front of block b. -/
structure RefIs (w : World) (g b cap : Nat) (ex : List Value) (l : List Int) (z zb bl rs : Int) : Prop where
  top : Blk w g 49 #[.int .i64 z, .int .i64 zb, .int .i64 bl, .int .i64 rs, .slice (some ⟨b, 0, none⟩) l.length cap]
  row : Blk w b 5 (nums .u8 l ++ ex).toArray

section
variable {w w' : World} {g b cap : Nat} {ex : List Value} {l : List Int} {z zb bl rs : Int}
theorem RefIs.ne_ (h : RefIs w g b cap ex l z zb bl rs) : g ≠ b := h.top.ne_ h.row (by decide)
theorem RefIs.c3 (h : RefIs w g b cap ex l z zb bl rs) : w.cell? ⟨g, 3, none⟩ = some (.int .i64 rs) := h.top.cell 3
theorem RefIs.c4 (h : RefIs w g b cap ex l z zb bl rs) : w.cell? ⟨g, 4, none⟩ = some (.slice (some ⟨b, 0, none⟩) l.length cap) := h.top.cell 4
theorem RefIs.fzb (h : RefIs w g b cap ex l z zb bl rs) (i : Nat) : w.frozen? ⟨b, i, none⟩ = false := h.row.frozen i
theorem RefIs.at_ (h : RefIs w g b cap ex l z zb bl rs) {k : Nat} (hk : k < l.length) : w.cell? ⟨b, k, none⟩ = some (.int .u8 (l.getD k 0)) := by
  rw [h.row.cell k, List.getElem?_toArray, List.getElem?_append_left (by rw [nums_length]; exact hk), nums_get .u8 l k hk]
theorem RefIs.kp {S : Nat → Prop} (h : RefIs w g b cap ex l z zb bl rs) (k : Kp S w w') (hg : ¬ S g) (hb : ¬ S b) : RefIs w' g b cap ex l z zb bl rs := ⟨k.blk h.top hg, k.blk h.row hb⟩
theorem RefIs.drewN (h : RefIs w g b cap ex l z zb bl rs) (n : Nat) : RefIs (w.drewN n) g b cap ex l z zb bl rs := ⟨h.top, h.row⟩
theorem RefIs.alloc (h : RefIs w g b cap ex l z zb bl rs) (o : Obj) : RefIs (w.alloc o) g b cap ex l z zb bl rs := ⟨h.top.alloc o, h.row.alloc o⟩
theorem RefIs.below (h : RefIs w g b cap ex l z zb bl rs) (k : Below w.heap.size w w') : RefIs w' g b cap ex l z zb bl rs := ⟨h.top.below k h.top.lt, h.row.below k h.row.lt⟩
theorem RefIs.set_ (h : RefIs w g b cap ex l z zb bl rs) {k : Nat} (hk : k < l.length) (x : Int) : RefIs (w.setCell ⟨b, k, none⟩ (.int .u8 x)) g b cap ex (l.set k x) z zb bl rs := ⟨by
    have := h.top.far (p := ⟨b, k, none⟩) h.ne_ (.int .u8 x)
    simpa using this, by
    have := h.row.set_ k (.int .u8 x)
    rw [show (nums .u8 l ++ ex).toArray.setIfInBounds k (.int .u8 x) = (nums .u8 (l.set k x) ++ ex).toArray by
      simp only [List.setIfInBounds_toArray]
      rw [List.set_append_left _ _ (by rw [nums_length]; exact hk)]
      simp [nums, List.map_set]] at this
    exact this⟩
end

theorem refstate_any (g b cap : Nat) (ex : List Value) (l : List Int) (z zb bl rs x : Int) (w : World) (h : RefIs w g b cap ex l z zb bl rs) :
    Calls Try.prog 19 #[.pointer (some ⟨g, 0, none⟩), .int .i64 x] w fun e w' => e = .returned (.int .u8 (stateAt l x)) ∧ w = w' := by
  have h0 := h.c4
  by_cases hz : 0 ≤ x ∧ x < l.length
  · obtain ⟨k, rfl⟩ := Int.eq_ofNat_of_zero_le hz.1
    have hk : k < l.length := by omega
    have hc := h.at_ hk
    have HS : Hid (stateAt l k = l.getD k 0) := by unfold Hid stateAt; rw [if_pos hz, Int.toNat_natCast]
    clear h hz
    generalize l.getD k 0 = y at *
    go_enter Try.func19, Try.ntmps19
    go_wp2
    go_ret
    exact ⟨ret_int HS.out.symm, rfl⟩
  · have HS : Hid (stateAt l x = 0) := if_neg hz
    clear h
    by_cases hn : x < 0
    · go_enter Try.func19, Try.ntmps19
      go_wp2
      go_ret
      exact ⟨ret_int HS.out.symm, rfl⟩
    · obtain ⟨k, rfl⟩ := Int.eq_ofNat_of_zero_le (show 0 ≤ x by omega)
      have hk : l.length ≤ k := by omega
      clear hz hn
      go_enter Try.func19, Try.ntmps19
      go_wp2
      go_ret
      exact ⟨ret_int HS.out.symm, rfl⟩

def RTurns (g b cap : Nat) (ex : List Value) (l : List Int) (z zb bl rs x a c : Int) (w : World) (e : Ending) (w' : World) : Prop :=
  (stateAt l x = a → e = .returned (.bool true) ∧ RefIs w' g b cap ex (turnL l x c) z zb bl rs) ∧ (stateAt l x ≠ a → e = .returned (.bool false) ∧ RefIs w' g b cap ex l z zb bl rs) ∧ Kp (fun k => k = b) w w'

theorem refturn_any (g b cap : Nat) (ex : List Value) (l : List Int) (z zb bl rs x a c : Int) (w : World) (h : RefIs w g b cap ex l z zb bl rs) (ha : a ≠ 0) :
    Calls Try.prog 30 #[.pointer (some ⟨g, 0, none⟩), .int .i64 x, .int .u8 a, .int .u8 c] w (RTurns g b cap ex l z zb bl rs x a c w) := by
  have h0 := h.c4
  have HH := Lib.hid h
  by_cases hz : 0 ≤ x ∧ x < l.length
  · obtain ⟨k, rfl⟩ := Int.eq_ofNat_of_zero_le hz.1
    have hk : k < l.length := by omega
    have hc := h.at_ hk
    have hf := h.fzb k
    have HS : Hid (stateAt l k = l.getD k 0) := by unfold Hid stateAt; rw [if_pos hz, Int.toNat_natCast]
    have HT := Lib.hid (h.set_ hk c)
    clear h hz
    generalize hy : l.getD k 0 = y at *
    clear hy
    by_cases hya : y = a
    · subst hya
      go_enter Try.func30, Try.ntmps30
      go_wp2
      go_ret
      exact ⟨fun _ => ⟨rfl, by simpa [turnL] using HT.out⟩, fun hn => absurd HS.out hn, (Kp.refl (fun k => k = b) w).setCell (p := ⟨b, k, none⟩) (.inl rfl) _⟩
    · have hne : (y != a) = true := by simpa using hya
      have HY := Lib.hid hya
      clear hya
      go_enter Try.func30, Try.ntmps30
      go_wp2
      go_ret
      exact ⟨fun he => absurd (HS.out.symm.trans he) HY.out, fun _ => ⟨rfl, HH.out⟩, Kp.refl _ _⟩
  · have HS : Hid (stateAt l x ≠ a) := by unfold Hid stateAt; rw [if_neg hz]; exact fun e => ha e.symm
    clear h
    by_cases hn : x < 0
    · go_enter Try.func30, Try.ntmps30
      go_wp2
      go_ret
      exact ⟨fun he => absurd he HS.out, fun _ => ⟨rfl, HH.out⟩, Kp.refl _ _⟩
    · obtain ⟨k, rfl⟩ := Int.eq_ofNat_of_zero_le (show 0 ≤ x by omega)
      have hk : l.length ≤ k := by omega
      clear hz hn
      go_enter Try.func30, Try.ntmps30
      go_wp2
      go_ret
      exact ⟨fun he => absurd he HS.out, fun _ => ⟨rfl, HH.out⟩, Kp.refl _ _⟩
end Go.Proofs.Ytgninjlgeibgpaa
