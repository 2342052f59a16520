/- Contracts of the reference's Seg: too few; a new one. -/
import Derived.Test.YtgninjlgeibgpaaSr2
namespace Go.Proofs.Ytgninjlgeibgpaa
open Go.RowKit

theorem listTo_succ (l : List Int) (s : Int) (k : Nat) : listTo l s (k + 1) = if l.getD k 0 = s then listTo l s k ++ [(k : Int)] else listTo l s k := rfl
theorem listTo_count (l : List Int) (s : Int) (k : Nat) (hk : k ≤ l.length) : (listTo l s k).length = (l.take k).countP (· == s) := by
  induction k with
  | zero => simp [listTo]
  | succ k ih =>
    have hg : l[k]? = some (l.getD k 0) := by
      rw [List.getD_eq_getElem?_getD, List.getElem?_eq_getElem (show k < l.length by omega)]; rfl
    rw [List.take_add_one, List.countP_append, ← ih (by omega), hg, listTo_succ]
    generalize l.getD k 0 = y
    by_cases h : y = s
    · rw [if_pos h]; simp [h]
    · rw [if_neg h]; simp [h]
theorem listTo_frees (l : List Int) : ((listTo l 1 l.length).length : Int) = frees l := by
  rw [listTo_count l 1 l.length (Nat.le_refl _), List.take_length]; rfl

theorem reflow_any (g b cap : Nat) (ex : List Value) (l : List Int) (z zb bl rs : Int) (w : World) (hl : l.length ≤ 65535) (h : RefIs w g b cap ex l z zb bl rs) :
    Calls Try.prog 21 #[.pointer (some ⟨g, 0, none⟩)] w (Makes (.bool (decide (frees l ≤ rs))) w) := by
  have h3 := h.c3
  have HL := Lib.hid (fun w' (hw : RefIs w' g b cap ex l z zb bl rs) => reflist_any g b cap ex l z zb bl rs 1 w' hl hw)
  have HH := Lib.hid h
  have HF := Lib.hid (listTo_frees l)
  have hlt := h.top.lt
  clear h
  generalize listTo l 1 l.length = xs at *
  generalize frees l = f at *
  go_enter Try.func21, Try.ntmps21
  go_wp2_with (fail)
  go_region_held3 (fun w' => w'.cell? ⟨g, 3, none⟩ = some (.int .i64 rs)) (go_keep)
    (first | (go_at_call 24; refine (HL.out _ ?_).mono ?_; (exact HH.out.drewN _); (rintro e w2 ⟨A, c, rfl, hrd, hb, _⟩; have k3 : w2.cell? ⟨g, 3, none⟩ = some (.int .i64 rs) := (hb.cell (p := ⟨g, 3, none⟩) (by simpa using hlt)).trans (by simpa using h3); have HB := Lib.hid hb; clear hb hrd h3)))
  go_wp2
  go_ret
  exact ⟨ret_bool (by rw [← HF.out]), ((Below.refl _ _).drew).trans HB.out⟩
end Go.Proofs.Ytgninjlgeibgpaa
