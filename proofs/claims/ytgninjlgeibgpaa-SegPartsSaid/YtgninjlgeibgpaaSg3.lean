/- Contracts of package seg: its states, turned and told. -/
import Derived.Test.YtgninjlgeibgpaaSg2
namespace Go.Proofs.Ytgninjlgeibgpaa
open Go.RowKit

/-- A Seg: its struct is block g, its states stand in block b; r: the reserve; f: how many are free. -/
structure SegIs (w : World) (g b : Nat) (l : List Int) (r f : Int) : Prop where
  top : Blk w g 47 #[.slice (some ⟨b, 0, none⟩) l.length l.length, .int .i64 r, .int .i64 f]
  row : Blk w b 5 (nums .u8 l).toArray

section
variable {w w' : World} {g b : Nat} {l : List Int} {r f : Int}
theorem SegIs.ne_ (h : SegIs w g b l r f) : g ≠ b := h.top.ne_ h.row (by decide)
theorem SegIs.c0 (h : SegIs w g b l r f) : w.cell? ⟨g, 0, none⟩ = some (.slice (some ⟨b, 0, none⟩) l.length l.length) := h.top.cell 0
theorem SegIs.c1 (h : SegIs w g b l r f) : w.cell? ⟨g, 1, none⟩ = some (.int .i64 r) := h.top.cell 1
theorem SegIs.c2 (h : SegIs w g b l r f) : w.cell? ⟨g, 2, none⟩ = some (.int .i64 f) := h.top.cell 2
theorem SegIs.fz (h : SegIs w g b l r f) (i : Nat) : w.frozen? ⟨g, i, none⟩ = false := h.top.frozen i
theorem SegIs.fzb (h : SegIs w g b l r f) (i : Nat) : w.frozen? ⟨b, i, none⟩ = false := h.row.frozen i
theorem SegIs.at_ (h : SegIs w g b l r f) {k : Nat} (hk : k < l.length) : w.cell? ⟨b, k, none⟩ = some (.int .u8 (l.getD k 0)) := by
  rw [h.row.cell k, List.getElem?_toArray, nums_get .u8 l k hk]
theorem SegIs.kp {S : Nat → Prop} (h : SegIs w g b l r f) (k : Kp S w w') (hg : ¬ S g) (hb : ¬ S b) : SegIs w' g b l r f := ⟨k.blk h.top hg, k.blk h.row hb⟩
theorem SegIs.drewN (h : SegIs w g b l r f) (n : Nat) : SegIs (w.drewN n) g b l r f := ⟨h.top, h.row⟩
theorem SegIs.alloc (h : SegIs w g b l r f) (o : Obj) : SegIs (w.alloc o) g b l r f := ⟨h.top.alloc o, h.row.alloc o⟩
theorem SegIs.below (h : SegIs w g b l r f) (k : Below w.heap.size w w') : SegIs w' g b l r f := ⟨h.top.below k h.top.lt, h.row.below k h.row.lt⟩
end

def stateAt (l : List Int) (z : Int) : Int := if 0 ≤ z ∧ z < l.length then l.getD z.toNat 0 else 0

theorem state_any (g b : Nat) (l : List Int) (r f z : Int) (w : World) (h : SegIs w g b l r f) :
    Calls Try.prog 18 #[.pointer (some ⟨g, 0, none⟩), .int .i64 z] w fun e w' => e = .returned (.int .u8 (stateAt l z)) ∧ w = w' := by
  have h0 := h.c0
  by_cases hz : 0 ≤ z ∧ z < l.length
  · obtain ⟨k, rfl⟩ := Int.eq_ofNat_of_zero_le hz.1
    have hk : k < l.length := by omega
    have hc := h.at_ hk
    have HS : Hid (stateAt l k = l.getD k 0) := by unfold Hid stateAt; rw [if_pos hz, Int.toNat_natCast]
    clear h hz
    generalize l.getD k 0 = y at *
    go_enter Try.func18, Try.ntmps18
    go_wp2
    go_ret
    exact ⟨ret_int HS.out.symm, rfl⟩
  · have HS : Hid (stateAt l z = 0) := if_neg hz
    clear h
    by_cases hn : z < 0
    · go_enter Try.func18, Try.ntmps18
      go_wp2
      go_ret
      exact ⟨ret_int HS.out.symm, rfl⟩
    · obtain ⟨k, rfl⟩ := Int.eq_ofNat_of_zero_le (show 0 ≤ z by omega)
      have hk : l.length ≤ k := by omega
      clear hz hn
      go_enter Try.func18, Try.ntmps18
      go_wp2
      go_ret
      exact ⟨ret_int HS.out.symm, rfl⟩

/-- The counter is turned where the state is free. -/
def Counts (g b : Nat) (l : List Int) (r f : Int) (w : World) (e : Ending) (w' : World) : Prop := e = .returned (.tuple #[]) ∧ SegIs w' g b l r f ∧ Kp (· = g) w w'

theorem count_any (g b p : Nat) (l : List Int) (r f st n : Int) (w : World) (h : SegIs w g b l r f) (hp : w.cell? ⟨p, 0, none⟩ = some (.pointer (some ⟨g, 0, none⟩))) (hf : 0 ≤ f ∧ f ≤ 65536) (hn : n = 1 ∨ n = -1) :
    Calls Try.prog 32 #[.int .u8 st, .int .i64 n, .pointer (some ⟨p, 0, none⟩)] w (Counts g b l r (if st = 1 then f + n else f) w) := by
  have h2 := h.c2
  have hz := h.fz 2
  have HH := Lib.hid h
  clear h
  by_cases hs : st = 1
  · subst hs
    have HW : Hid (SegIs (w.setCell ⟨g, 2, none⟩ (.int .i64 (f + n))) g b l r (f + n)) := ⟨by
      have := HH.out.top.set_ 2 (.int .i64 (f + n))
      simpa using this, HH.out.row.far (p := ⟨g, 2, none⟩) HH.out.ne_.symm _⟩
    go_enter Try.func32, Try.ntmps32
    go_wp2
    go_end0
    exact ⟨rfl, HW.out, (Kp.refl (· = g) w).setCell (p := ⟨g, 2, none⟩) (.inl rfl) _⟩
  · have hs' : (st == 1) = false := by simpa using hs
    rw [if_neg hs]
    clear hs
    go_enter Try.func32, Try.ntmps32
    go_wp2
    go_end0
    exact ⟨rfl, HH.out, Kp.refl _ _⟩

theorem nums_set (k : IntKind) (l : List Int) (i : Nat) (x : Int) : (nums k l).toArray.setIfInBounds i (.int k x) = (nums k (l.set i x)).toArray := by
  simp [nums, List.map_set]

/-- What turning a zone leaves. -/
def turnL (l : List Int) (z to : Int) : List Int := l.set z.toNat to
def turnF (f a c : Int) : Int := (if c = 1 then (if a = 1 then f - 1 else f) + 1 else (if a = 1 then f - 1 else f))

/-- The states are turned, where the zone is of the state that is asked; else nothing has changed. -/
def Turns (g b : Nat) (l : List Int) (r f z a c : Int) (w : World) (e : Ending) (w' : World) : Prop :=
  (stateAt l z = a → e = .returned (.bool true) ∧ SegIs w' g b (turnL l z c) r (turnF f a c)) ∧ (stateAt l z ≠ a → e = .returned (.bool false) ∧ SegIs w' g b l r f) ∧ Kp (fun x => x = g ∨ x = b) w w'

theorem turn_any (g b : Nat) (l : List Int) (r f z a c : Int) (w : World) (h : SegIs w g b l r f) (hf : stateAt l z = a → (a = 1 → 1 ≤ f) ∧ 0 ≤ f ∧ f ≤ 65535) (ha : a ≠ 0) :
    Calls Try.prog 29 #[.pointer (some ⟨g, 0, none⟩), .int .i64 z, .int .u8 a, .int .u8 c] w (Turns g b l r f z a c w) := by
  have HH := Lib.hid h
  by_cases hs : stateAt l z = a
  · have hz : 0 ≤ z ∧ z < l.length := by
      unfold stateAt at hs
      by_cases hc : 0 ≤ z ∧ z < l.length
      · exact hc
      · rw [if_neg hc] at hs; omega
    obtain ⟨k, rfl⟩ := Int.eq_ofNat_of_zero_le hz.1
    have hk : k < l.length := by omega
    have HS := Lib.hid hs
    obtain ⟨hf1, hf2⟩ := hf hs
    have HF1 := Lib.hid hf1
    clear hf1 hf
    have hlt := h.top.lt
    have hltb := h.row.lt
    have hmf : ∀ (fn : Fn) (first cap : Array Value) (w : World), (Instr.makeFunc fn first cap).run Try.prog w = .ok (.func fn first cap) w := fun _ _ _ _ => rfl
    clear h hs hz
    go_enter Try.func29, Try.ntmps29
    go_wp2_with (fail)
    refine (state_any g b l r f _ _ (HH.out.alloc _)).mono ?_
    rintro e w' ⟨rfl, rfl⟩
    rw [HS.out]
    have Hp0 : Hid ((w.alloc (.cells #[.pointer (some ⟨g, 0, none⟩)] 26)).cell? ⟨w.heap.size, 0, none⟩ = some (.pointer (some ⟨g, 0, none⟩))) := (Blk.new w _ _).cell 0
    go_wp2_with (fail)
    refine (count_any g b w.heap.size l r f a (-1) _ (HH.out.alloc _) Hp0.out (by omega) (.inr rfl)).mono ?_
    rintro e w1 ⟨rfl, HH1, hk1⟩
    have Hp1 := Lib.hid (hk1.cell Hp0.out (by simp; omega))
    have HH1 := Lib.hid HH1
    have hp1 := Hp1.out
    go_wp2_with (fail)
    refine (count_any g b w.heap.size l r _ c 1 _ HH1.out Hp1.out (by have := HF1.out; split <;> omega) (.inl rfl)).mono ?_
    rintro e w2 ⟨rfl, HH2, hk2⟩
    have hp2 := hk2.cell Hp1.out (by simp; omega)
    have h0 := HH2.c0
    have hcb := HH2.at_ hk
    have hzb := HH2.fzb k
    have HH2 := Lib.hid HH2
    clear hp1
    generalize l.getD k 0 = y at *
    go_wp2
    go_ret
    have HN : SegIs (w2.setCell ⟨b, k, none⟩ (.int .u8 c)) g b (turnL l k c) r (turnF f a c) := ⟨by
      have := HH2.out.top.far (p := ⟨b, k, none⟩) HH2.out.ne_ (.int .u8 c)
      simpa [turnL, turnF, Int.sub_eq_add_neg] using this, by
      have := HH2.out.row.set_ k (.int .u8 c)
      rw [nums_set] at this
      simpa [turnL] using this⟩
    refine ⟨fun _ => ⟨rfl, HN⟩, fun hne => absurd HS.out hne, ?_⟩
    refine Kp.setCell ?_ (p := ⟨b, k, none⟩) (.inl (.inr rfl)) _
    have k0 : Kp (fun x => x = g ∨ x = b) w (w.alloc (.cells #[.pointer (some ⟨g, 0, none⟩)] 26)) := (Kp.refl _ _).alloc _
    exact (k0.trans hk1 (fun x _ hx => .inl hx)).trans hk2 (fun x _ hx => .inl hx)
  · have HS := Lib.hid hs
    clear hf
    have hne : (stateAt l z != a) = true := by simpa using hs
    clear h hs
    go_enter Try.func29, Try.ntmps29
    go_wp2_with (fail)
    refine (state_any g b l r f _ _ (HH.out.alloc _)).mono ?_
    rintro e w' ⟨rfl, rfl⟩
    go_wp2
    go_ret
    exact ⟨fun he => absurd he HS.out, fun _ => ⟨rfl, HH.out.alloc _⟩, (Kp.refl _ _).alloc _⟩
end Go.Proofs.Ytgninjlgeibgpaa
