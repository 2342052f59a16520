/- Joined texts: Sg2 Sg3 Sg4 Sg5. -/
import Derived.Test.YtfabgbmbnmbjkaaGreatDoorRaj
import Derived.Deep.RegionLaw
/- Pruned. -/
namespace Go.Proofs.YtfabgbmbnmbjkaaGreatDoor
open Go.RowKit
set_option maxRecDepth 20000
def fillv (v : Int) (n k : Nat) : List Value := List.replicate k (.int .u8 v) ++ List.replicate (n - k) (.int .u8 0)
theorem fillv_length (v : Int) (n k : Nat) (h : k <= n) : (fillv v n k).length = n := by simp [fillv]; omega
theorem fillv_get (v : Int) (n k i : Nat) (h : i < k) : (fillv v n k)[i]? = some (.int .u8 v) := by
 unfold fillv
 rw [List.getElem?_append_left (by simpa using h)]
 simp [h]
theorem fillv_splice (v : Int) (n k m : Nat) (h : k + m <= n) : splice (fillv v n k) k (List.replicate m (.int .u8 v)) = fillv v n (k + m) := by
 unfold splice fillv
 rw [List.take_append_of_le_length (by simp), List.take_of_length_le (by simp), List.length_replicate, List.drop_append]
 simp only [List.length_replicate]
 rw [List.drop_eq_nil_of_le (by simp), List.nil_append, List.drop_replicate, <- List.append_assoc, List.replicate_append_replicate]
 congr 2; omega
theorem u8_info : (Tryz.prog.info? 5).map (fun i => (i.zero, i.size, i.bytes)) = some (some (.int .u8 0), 1, 1) := by kernel_rfl
set_option maxRecDepth 20000 in
theorem run_make_u8 (n : Nat) (h : n <= 65536) (w : World) : (Instr.makeSlice 36 (.int .i64 (n : Int)) (.int .i64 (n : Int))).run Tryz.prog w = .ok (.slice (some ⟨w.heap.size, 0, none⟩) n n) (w.alloc (.cells (fillv 0 n 0).toArray 5)) := by
 obtain ⟨i, hi, hz, hs, hb⟩ := info_parts u8_info
 have hr := run_make (P := Tryz.prog) w 36 5 i (.int .u8 0) Tryz.underlying36 hi hz .i64 .i64 n n (by omega) (by omega) (by rw [hb]; omega) (by omega)
 simp only [Int.toNat_natCast] at hr
 rw [hr, hs, Nat.mul_one]
 congr 3
 refine Array.ext (by simp [madeCells, fillv]) (fun j h1 h2 => ?_)
 have e : (Value.int IntKind.u8 0).cells = #[Value.int IntKind.u8 0] := rfl
 simp [madeCells, fillv, e, Nat.mod_one]
theorem one_byte {v : Int} : ∀ u ∈ [Value.int .u8 v], u.oneCell' = true := by
 intro u hu
 simp at hu
 subst hu
 rfl
set_option maxHeartbeats 400000 in
theorem repeat_any (v : Int) (n c : Nat) (A : Option Addr) (hn1 : 1 <= n) (hn : n <= 65536) (w : World) (h : Reads w w.heap.size 1 A 1 [.int .u8 v]) :
    Calls Tryz.prog 146 #[.slice A 1 c, .int .i64 n] w fun e w' => ∃ g, e = .returned (.slice (some ⟨g, 0, none⟩) n n) ∧ w.heap.size <= g ∧ Blk w' g 5 (fillv v n n).toArray ∧ Below w.heap.size w w' := by
 obtain ⟨ad, u, rfl, hb, hu, hc⟩ := h.at_ (k := 0) (by omega)
 have hc : w.cell? ad = some (.int .u8 v) := by
  simp at hu
  subst hu
  simpa [Addr.add] using hc
 have hmk := run_make_u8 n hn
 have HF := Lib.hid (fun k m h => fillv_splice v n k m h)
 have HL := Lib.hid (fun k h => fillv_length v n k h)
 have HG := Lib.hid (fun k i h => fillv_get v n k i h)
 have hz : fillv 0 n 0 = fillv v n 0 := by simp [fillv]
 rw [hz] at hmk
 clear hz h hu
 have hsz : (Tryz.prog.info? 5).map (·.size) = some 1 := by kernel_rfl
 have HSZ := Lib.hid hsz
 have HC2 : Hid (0 + [Value.int .u8 v].length <= (fillv v n 0).length) := by unfold Hid; rw [fillv_length v n 0 (by omega)]; simpa using hn1
 clear hsz
 generalize hfv : fillv v n = fv at *
 clear hfv
 have HC0 : Hid ((w.alloc (.cells (fv 0).toArray 5)).heap[w.heap.size]? = some (.cells (fv 0).toArray 5 (0, 0))) := heap_alloc_new w _
 have HC1 : Hid (∀ (j : Nat) (u : Value), [Value.int .u8 v][j]? = some u -> (w.alloc (.cells (fv 0).toArray 5)).cell? (ad.add j) = some u) := by
  intro j u hu
  match j, hu with
  | 0, hu =>
    simp at hu
    subst hu
    have := World.block_lt_of_cell? _ _ hc
    rw [World.cell?_alloc_lt w _ _ (by rw [block_of_add]; exact this)]
    simpa [Addr.add] using hc
  | j + 1, hu => simp at hu
 go_enter Tryz.func146, Tryz.ntmps146
 go_wp2_with (first
   | (go_at_call 190; refine (mulu_any _ hn _).mono ?_; rintro e w' ⟨rfl, rfl⟩)
   | (refine wpList_copy_splice rfl (.tmp 31) (.tmp 32) 36 36 rfl 5 Tryz.underlying36 HSZ.out _ _ n n 1 c rfl rfl w.heap.size 0 (fv 0) 5 HC0.out [.int .u8 v] (Nat.min_eq_left hn1).symm (fun _ => ⟨rfl, ad, rfl, HC1.out⟩) (HC2.out) one_byte w.heap.size w ((Below.refl _ _).alloc (Nat.le_refl _) _) (Nat.le_refl _) ?_
      intro w2 hg2 hb2))
 have hg2' := hg2.out
 have h01 := HF.out 0 1 (by omega)
 rw [Nat.zero_add, List.replicate_one] at h01
 rw [h01] at hg2'
 have HG2 := Lib.hid hg2'
 clear hg2' h01 hg2 HC0 HC1 HC2 hmk
 go_wp2_with (fail)
 go_loopw [8] (fun i wr => ∃ k : Nat, 1 <= k ∧ k <= n ∧ i = .int .i64 k ∧ Hid (wr.heap[w.heap.size]? = some (.cells (fv k).toArray 5 (0, 0))) ∧ Below w.heap.size w wr) (fun i _ => n - (intOf i).toNat)
 case atStart => exact ⟨1, Nat.le_refl _, hn1, rfl, HG2, hb2⟩
 case round =>
  obtain ⟨k, hk1, hkn, rfl, hgk, hbk⟩ := hrel
  by_cases hlt : k < n
  · obtain ⟨m, hm, hm1, hm2, hm3⟩ : ∃ m, Nat.min k (n - k) = m ∧ 1 <= m ∧ m <= k ∧ k + m <= n := by
     rcases Nat.le_total k (n - k) with h | h
     · exact ⟨k, Nat.min_eq_left h, by omega, by omega, by omega⟩
     · exact ⟨n - k, Nat.min_eq_right h, by omega, by omega, by omega⟩
    have HM := Lib.hid hm
    have HFS := Lib.hid (HF.out k m hm3)
    clear hm
    have HSRC : Hid (∀ (j : Nat) (u : Value), (List.replicate m (Value.int IntKind.u8 v))[j]? = some u -> wr.cell? ((⟨w.heap.size, 0, none⟩ : Addr).add j) = some u) := by
     intro j u hu
     obtain ⟨hj, hu⟩ := List.getElem?_eq_some_iff.1 hu
     simp only [List.length_replicate] at hj
     simp only [List.getElem_replicate] at hu
     subst hu
     have hb : Blk wr w.heap.size 5 (fv k).toArray := hgk.out
     have hc2 := hb.cell j
     have he : (⟨w.heap.size, 0, none⟩ : Addr).add j = ⟨w.heap.size, j, none⟩ := by unfold Addr.add; split <;> simp_all
     rw [he, hc2, List.getElem?_toArray]
     exact HG.out k j (by omega)
    have HR : Hid (∀ u ∈ List.replicate m (Value.int IntKind.u8 v), u.oneCell' = true) := fun u hu => by rw [(List.mem_replicate.1 hu).2]; rfl
    have HFIT : Hid (k + (List.replicate m (Value.int IntKind.u8 v)).length <= (fv k).length) := by unfold Hid; rw [HL.out k hkn, List.length_replicate]; omega
    have HN : Hid ((List.replicate m (Value.int IntKind.u8 v)).length = Nat.min k (n - k)) := by unfold Hid; rw [List.length_replicate]; exact HM.out.symm
    have hlen : (List.replicate m (Value.int IntKind.u8 v)).length = m := by simp
    have HLEN := Lib.hid hlen
    clear hlen
    generalize List.replicate m (Value.int IntKind.u8 v) = cs at *
    have hkm : IntKind.i64.wrap ((k : Int) + (m : Int)) = (k : Int) + m := by rw [IntKind.wrap_i64]; omega
    have hnk : ¬ n = k := by omega
    go_wp2_with (fail)
    go_region_law (refine step_copy_splice rfl (.tmp 41) (.tmp 44) 36 36 rfl 5 Tryz.underlying36 HSZ.out (some ⟨w.heap.size, k, none⟩) (some ⟨w.heap.size, 0, none⟩) (n - k) (n - k) k n ?hd ?hs w.heap.size k (fv k) 5 ?hg cs HN.out (fun _ => ⟨rfl, ⟨w.heap.size, 0, none⟩, rfl, ?hsrc⟩) HFIT.out HR.out w.heap.size w ?hb (Nat.le_refl _) ?_; (case hd => go_simp); (case hs => go_simp); (case hg => exact hgk.out); (case hsrc => exact HSRC.out); (case hb => exact hbk.drew); intro w4 hg4 hb4)
    all_goals
     rw [HFS.out] at hg4
     rw [HLEN.out]
     go_simp
     go_wp2
     go_roundw
     case rel => exact ⟨k + m, by omega, by omega, by go_num, hg4, hb4⟩
     case measure => simp [intOf]; omega
  · have hkk : k = n := by omega
    subst hkk
    go_wp2
    go_ret
    exact ⟨_, rfl, Nat.le_refl _, hgk.out, hbk⟩
end Go.Proofs.YtfabgbmbnmbjkaaGreatDoor

/- Pruned. -/
namespace Go.Proofs.YtfabgbmbnmbjkaaGreatDoor
open Go.RowKit
set_option maxRecDepth 20000
structure SegIs (w : World) (g b : Nat) (l : List Int) (r f : Int) : Prop where
  top : Blk w g 124 #[.slice (some ⟨b, 0, none⟩) l.length l.length, .int .i64 r, .int .i64 f]
  row : Blk w b 5 (nums .u8 l).toArray
section
variable {w w' : World} {g b : Nat} {l : List Int} {r f : Int}
theorem SegIs.ne_ (h : SegIs w g b l r f) : g ≠ b := h.top.ne_ h.row (by decide)
theorem SegIs.c0 (h : SegIs w g b l r f) : w.cell? ⟨g, 0, none⟩ = some (.slice (some ⟨b, 0, none⟩) l.length l.length) := h.top.cell 0
theorem SegIs.c1 (h : SegIs w g b l r f) : w.cell? ⟨g, 1, none⟩ = some (.int .i64 r) := h.top.cell 1
theorem SegIs.c2 (h : SegIs w g b l r f) : w.cell? ⟨g, 2, none⟩ = some (.int .i64 f) := h.top.cell 2
theorem SegIs.fz (h : SegIs w g b l r f) (i : Nat) : w.frozen? ⟨g, i, none⟩ = false := h.top.frozen i
theorem SegIs.fzb (h : SegIs w g b l r f) (i : Nat) : w.frozen? ⟨b, i, none⟩ = false := h.row.frozen i
theorem SegIs.at_ (h : SegIs w g b l r f) {k : Nat} (hk : k < l.length) : w.cell? ⟨b, k, none⟩ = some (.int .u8 (l.getD k 0)) := by
 rw [h.row.cell k, List.getElem?_toArray, nums_get .u8 l k hk]
theorem SegIs.kp {S : Nat -> Prop} (h : SegIs w g b l r f) (k : Kp S w w') (hg : ¬ S g) (hb : ¬ S b) : SegIs w' g b l r f := ⟨k.blk h.top hg, k.blk h.row hb⟩
theorem SegIs.alloc (h : SegIs w g b l r f) (o : Obj) : SegIs (w.alloc o) g b l r f := ⟨h.top.alloc o, h.row.alloc o⟩
theorem SegIs.below (h : SegIs w g b l r f) (k : Below w.heap.size w w') : SegIs w' g b l r f := ⟨h.top.below k h.top.lt, h.row.below k h.row.lt⟩
end
def stateAt (l : List Int) (z : Int) : Int := if 0 <= z ∧ z < l.length then l.getD z.toNat 0 else 0
theorem state_any (g b : Nat) (l : List Int) (r f z : Int) (w : World) (h : SegIs w g b l r f) :
    Calls Tryz.prog 26 #[.pointer (some ⟨g, 0, none⟩), .int .i64 z] w fun e w' => e = .returned (.int .u8 (stateAt l z)) ∧ w = w' := by
 have h0 := h.c0
 by_cases hz : 0 <= z ∧ z < l.length
 · obtain ⟨k, rfl⟩ := Int.eq_ofNat_of_zero_le hz.1
   have hk : k < l.length := by omega
   have hc := h.at_ hk
   have HS : Hid (stateAt l k = l.getD k 0) := by unfold Hid stateAt; rw [if_pos hz, Int.toNat_natCast]
   clear h hz
   generalize l.getD k 0 = y at *
   go_enter Tryz.func26, Tryz.ntmps26
   go_wp2
   go_ret
   exact ⟨ret_int HS.out.symm, rfl⟩
 · have HS : Hid (stateAt l z = 0) := if_neg hz
   clear h
   by_cases hn : z < 0
   · go_enter Tryz.func26, Tryz.ntmps26
     go_wp2
     go_ret
     exact ⟨ret_int HS.out.symm, rfl⟩
   · obtain ⟨k, rfl⟩ := Int.eq_ofNat_of_zero_le (show 0 <= z by omega)
     have hk : l.length <= k := by omega
     clear hz hn
     go_enter Tryz.func26, Tryz.ntmps26
     go_wp2
     go_ret
     exact ⟨ret_int HS.out.symm, rfl⟩
def Counts (g b : Nat) (l : List Int) (r f : Int) (w : World) (e : Ending) (w' : World) : Prop := e = .returned (.tuple #[]) ∧ SegIs w' g b l r f ∧ Kp (· = g) w w'
theorem count_any (g b p : Nat) (l : List Int) (r f st n : Int) (w : World) (h : SegIs w g b l r f) (hp : w.cell? ⟨p, 0, none⟩ = some (.pointer (some ⟨g, 0, none⟩))) (hf : 0 <= f ∧ f <= 65536) (hn : n = 1 ∨ n = -1) :
    Calls Tryz.prog 191 #[.int .u8 st, .int .i64 n, .pointer (some ⟨p, 0, none⟩)] w (Counts g b l r (if st = 1 then f + n else f) w) := by
 have h2 := h.c2
 have hz := h.fz 2
 have HH := Lib.hid h
 clear h
 by_cases hs : st = 1
 · subst hs
   have HW : Hid (SegIs (w.setCell ⟨g, 2, none⟩ (.int .i64 (f + n))) g b l r (f + n)) := ⟨by
    have := HH.out.top.set_ 2 (.int .i64 (f + n))
    simpa using this, HH.out.row.far (p := ⟨g, 2, none⟩) HH.out.ne_.symm _⟩
   go_enter Tryz.func191, Tryz.ntmps191
   go_wp2
   go_end0
   exact ⟨rfl, HW.out, (Kp.refl (· = g) w).setCell (p := ⟨g, 2, none⟩) (.inl rfl) _⟩
 · have hs' : (st == 1) = false := by simpa using hs
   rw [if_neg hs]
   clear hs
   go_enter Tryz.func191, Tryz.ntmps191
   go_wp2
   go_end0
   exact ⟨rfl, HH.out, Kp.refl _ _⟩
theorem nums_set (k : IntKind) (l : List Int) (i : Nat) (x : Int) : (nums k l).toArray.setIfInBounds i (.int k x) = (nums k (l.set i x)).toArray := by
 simp [nums, List.map_set]
def turnL (l : List Int) (z tz : Int) : List Int := l.set z.toNat tz
def turnF (f a c : Int) : Int := (if c = 1 then (if a = 1 then f - 1 else f) + 1 else (if a = 1 then f - 1 else f))
def Turns (g b : Nat) (l : List Int) (r f z a c : Int) (w : World) (e : Ending) (w' : World) : Prop :=
 (stateAt l z = a -> e = .returned (.bool true) ∧ SegIs w' g b (turnL l z c) r (turnF f a c)) ∧ (stateAt l z ≠ a -> e = .returned (.bool false) ∧ SegIs w' g b l r f) ∧ Kp (fun x => x = g ∨ x = b) w w'
theorem turn_any (g b : Nat) (l : List Int) (r f z a c : Int) (w : World) (h : SegIs w g b l r f) (hf : stateAt l z = a -> (a = 1 -> 1 <= f) ∧ 0 <= f ∧ f <= 65535) (ha : a ≠ 0) :
    Calls Tryz.prog 148 #[.pointer (some ⟨g, 0, none⟩), .int .i64 z, .int .u8 a, .int .u8 c] w (Turns g b l r f z a c w) := by
 have HH := Lib.hid h
 by_cases hs : stateAt l z = a
 · have hz : 0 <= z ∧ z < l.length := by
    unfold stateAt at hs
    by_cases hc : 0 <= z ∧ z < l.length
    · exact hc
    · rw [if_neg hc] at hs; omega
   obtain ⟨k, rfl⟩ := Int.eq_ofNat_of_zero_le hz.1
   have hk : k < l.length := by omega
   have HS := Lib.hid hs
   obtain ⟨hf1, hf2⟩ := hf hs
   have HF1 := Lib.hid hf1
   clear hf1 hf
   have hlt := h.top.lt
   have hltb := h.row.lt
   have hmf : ∀ (fn : Fn) (first cap : Array Value) (w : World), (Instr.makeFunc fn first cap).run Tryz.prog w = .ok (.func fn first cap) w := fun _ _ _ _ => rfl
   clear h hs hz
   go_enter Tryz.func148, Tryz.ntmps148
   go_wp2_with (fail)
   refine (state_any g b l r f _ _ (HH.out.alloc _)).mono ?_
   rintro e w' ⟨rfl, rfl⟩
   rw [HS.out]
   have Hp0 : Hid ((w.alloc (.cells #[.pointer (some ⟨g, 0, none⟩)] 59)).cell? ⟨w.heap.size, 0, none⟩ = some (.pointer (some ⟨g, 0, none⟩))) := (Blk.new w _ _).cell 0
   go_wp2_with (fail)
   refine (count_any g b w.heap.size l r f a (-1) _ (HH.out.alloc _) Hp0.out (by omega) (.inr rfl)).mono ?_
   rintro e w1 ⟨rfl, HH1, hk1⟩
   have Hp1 := Lib.hid (hk1.cell Hp0.out (by simp; omega))
   have HH1 := Lib.hid HH1
   have hp1 := Hp1.out
   go_wp2_with (fail)
   refine (count_any g b w.heap.size l r _ c 1 _ HH1.out Hp1.out (by have := HF1.out; split <;> omega) (.inl rfl)).mono ?_
   rintro e w2 ⟨rfl, HH2, hk2⟩
   have hp2 := hk2.cell Hp1.out (by simp; omega)
   have h0 := HH2.c0
   have hcb := HH2.at_ hk
   have hzb := HH2.fzb k
   have HH2 := Lib.hid HH2
   clear hp1
   generalize l.getD k 0 = y at *
   go_wp2
   go_ret
   have HN : SegIs (w2.setCell ⟨b, k, none⟩ (.int .u8 c)) g b (turnL l k c) r (turnF f a c) := ⟨by
    have := HH2.out.top.far (p := ⟨b, k, none⟩) HH2.out.ne_ (.int .u8 c)
    simpa [turnL, turnF, Int.sub_eq_add_neg] using this, by
    have := HH2.out.row.set_ k (.int .u8 c)
    rw [nums_set] at this
    simpa [turnL] using this⟩
   refine ⟨fun _ => ⟨rfl, HN⟩, fun hne => absurd HS.out hne, ?_⟩
   refine Kp.setCell ?_ (p := ⟨b, k, none⟩) (.inl (.inr rfl)) _
   have k0 : Kp (fun x => x = g ∨ x = b) w (w.alloc (.cells #[.pointer (some ⟨g, 0, none⟩)] 59)) := (Kp.refl _ _).alloc _
   exact (k0.trans hk1 (fun x _ hx => .inl hx)).trans hk2 (fun x _ hx => .inl hx)
 · have HS := Lib.hid hs
   clear hf
   have hne : (stateAt l z != a) = true := by simpa using hs
   clear h hs
   go_enter Tryz.func148, Tryz.ntmps148
   go_wp2_with (fail)
   refine (state_any g b l r f _ _ (HH.out.alloc _)).mono ?_
   rintro e w' ⟨rfl, rfl⟩
   go_wp2
   go_ret
   exact ⟨fun he => absurd he HS.out, fun _ => ⟨rfl, HH.out.alloc _⟩, (Kp.refl _ _).alloc _⟩
end Go.Proofs.YtfabgbmbnmbjkaaGreatDoor

/- Pruned. -/
namespace Go.Proofs.YtfabgbmbnmbjkaaGreatDoor
open Go.RowKit
set_option maxRecDepth 20000
def placeI (x : Int) : List Int -> Int -> Int
  | [], _ => -1
  | y :: l, i => if y = x then i else placeI x l (i + 1)
theorem placeI_at (x : Int) (l : List Int) (k : Nat) (h : k < l.length) (i : Int) : placeI x (l.drop k) i = if l.getD k 0 = x then i else placeI x (l.drop (k + 1)) (i + 1) := by
 rw [List.drop_eq_getElem_cons h, placeI]
 simp [List.getD_eq_getElem?_getD, h]
theorem placeI_spec (x : Int) (l : List Int) (i : Int) :
    (placeI x l i = -1 ∧ ∀ j, j < l.length -> l.getD j 0 ≠ x) ∨ (∃ j : Nat, placeI x l i = i + j ∧ j < l.length ∧ l.getD j 0 = x ∧ ∀ j', j' < j -> l.getD j' 0 ≠ x) := by
 induction l generalizing i with
 | nil => exact .inl ⟨rfl, fun j hj => by simp at hj⟩
 | cons y l ih =>
   unfold placeI
   by_cases h : y = x
   · rw [if_pos h]
     exact .inr ⟨0, by simp, by simp, by simpa using h, fun j' hj' => by omega⟩
   · rw [if_neg h]
     rcases ih (i + 1) with ⟨h1, h2⟩ | ⟨j, h1, h2, h3, h4⟩
     · refine .inl ⟨h1, fun j hj => ?_⟩
       match j, hj with
       | 0, _ => simpa using h
       | j + 1, hj => simpa using h2 j (by simpa using hj)
     · refine .inr ⟨j + 1, by rw [h1]; simp; omega, by simpa using h2, by simpa using h3, fun j' hj' => ?_⟩
       match j', hj' with
       | 0, _ => simpa using h
       | j' + 1, hj' => simpa using h4 j' (by omega)
theorem index_any (b : Nat) (l : List Int) (x : Int) (w : World) (hl : l.length <= 65536) (h : Blk w b 5 (nums .u8 l).toArray) :
    Calls Tryz.prog 180 #[.slice (some ⟨b, 0, none⟩) l.length l.length, .int .u8 x] w fun e w' => e = .returned (.int .i64 (placeI x l 0)) ∧ w = w' := by
 have hget : ∀ k, k < l.length -> w.cell? ⟨b, k, none⟩ = some (.int .u8 (l.getD k 0)) := fun k hk => by rw [h.cell k, List.getElem?_toArray, nums_get .u8 l k hk]
 have HG := Lib.hid hget
 clear hget h
 go_enter Tryz.func180, Tryz.ntmps180
 go_wp2
 go_loop [8] (fun i => ∃ k : Nat, k <= l.length ∧ i = .int .i64 k ∧ placeI x (l.drop k) k = placeI x l 0) (fun i => l.length - (intOf i).toNat)
 case atStart => exact ⟨0, Nat.zero_le _, rfl, rfl⟩
 case round =>
  obtain ⟨k, hk, rfl, hp⟩ := hrel
  have HP := Lib.hid hp
  clear hp
  by_cases hlt : k < l.length
  · have hc := HG.out k hlt
    have HQ := Lib.hid (placeI_at x l k hlt k)
    generalize l.getD k 0 = y at *
    by_cases hxy : x = y
    · have he : (x == y) = true := by simpa using hxy
      have HX := Lib.hid hxy
      clear hxy
      go_wp2
      go_ret
      refine ⟨ret_int ?_, rfl⟩
      rw [<- HP.out, HQ.out, if_pos HX.out.symm]
    · have he : (x == y) = false := by simpa using hxy
      have HX := Lib.hid hxy
      clear hxy
      go_wp2
      go_round
      case rel => exact ⟨k + 1, by omega, by go_num, by rw [<- HP.out, HQ.out, if_neg (fun e => HX.out e.symm)]; simp⟩
      case measure => simp [intOf]; omega
  · go_wp2
    go_ret
    refine ⟨ret_int ?_, rfl⟩
    rw [<- HP.out, List.drop_eq_nil_of_le (by omega)]; rfl
def frees (l : List Int) : Int := (l.countP (· == 1) : Nat)
theorem frees_le (l : List Int) : 0 <= frees l ∧ frees l <= l.length := by
 unfold frees; have := List.countP_le_length (p := (· == (1 : Int))) (l := l); omega
theorem frees_pos {l : List Int} {z : Int} (h : stateAt l z = 1) : 1 <= frees l := by
 unfold stateAt at h
 split at h
 · rename_i hz
   have hm : l.getD z.toNat 0 ∈ l := by
    have : z.toNat < l.length := by omega
    simp [List.getD_eq_getElem?_getD, this]
   have : 0 < l.countP (· == 1) := List.countP_pos_iff.2 ⟨_, hm, by simpa using h⟩
   unfold frees; omega
 · omega
theorem countP_set (l : List Int) (k : Nat) (x : Int) (h : k < l.length) : (l.set k x).countP (· == 1) + (if l.getD k 0 = 1 then 1 else 0) = l.countP (· == 1) + (if x = 1 then 1 else 0) := by
 induction l generalizing k with
 | nil => simp at h
 | cons y l ih =>
   match k, h with
   | 0, _ =>
     simp only [List.set_cons_zero, List.countP_cons, List.getD_cons_zero, beq_iff_eq]
     omega
   | k + 1, h =>
     have := ih k (by simpa using h)
     simp only [List.set_cons_succ, List.countP_cons, List.getD_cons_succ, beq_iff_eq]
     omega
theorem turn_frees {l : List Int} {z a c : Int} (h : stateAt l z = a) (ha : a ≠ 0) : turnF (frees l) a c = frees (turnL l z c) := by
 unfold stateAt at h
 split at h
 · rename_i hz
   have := countP_set l z.toNat c (by omega)
   unfold turnF frees turnL
   rw [h] at this
   split <;> split <;> simp_all <;> omega
 · omega
def SegOk (w : World) (g b : Nat) (l : List Int) (r : Int) : Prop := SegIs w g b l r (frees l) ∧ l.length <= 65535
def TurnsOk (g b : Nat) (l : List Int) (r z a c : Int) (w : World) (e : Ending) (w' : World) : Prop :=
 (stateAt l z = a -> e = .returned (.bool true) ∧ SegOk w' g b (turnL l z c) r) ∧ (stateAt l z ≠ a -> e = .returned (.bool false) ∧ SegOk w' g b l r) ∧ Kp (fun x => x = g ∨ x = b) w w'
theorem turn_ok (g b : Nat) (l : List Int) (r z a c : Int) (w : World) (h : SegOk w g b l r) (ha : a ≠ 0) :
    Calls Tryz.prog 148 #[.pointer (some ⟨g, 0, none⟩), .int .i64 z, .int .u8 a, .int .u8 c] w (TurnsOk g b l r z a c w) := by
 have hb := frees_le l
 have hlen := h.2
 refine (turn_any g b l r (frees l) z a c w h.1 (fun hs => ⟨fun h1 => by subst h1; exact frees_pos hs, hb.1, by omega⟩) ha).mono ?_
 rintro e w' ⟨h1, h2, h3⟩
 refine ⟨fun hs => ⟨(h1 hs).1, ?_, by simpa [turnL] using hlen⟩, fun hs => ⟨(h2 hs).1, (h2 hs).2, hlen⟩, h3⟩
 rw [<- turn_frees hs ha]
 exact (h1 hs).2
end Go.Proofs.YtfabgbmbnmbjkaaGreatDoor

/- Pruned. -/
namespace Go.Proofs.YtfabgbmbnmbjkaaGreatDoor
open Go.RowKit
set_option maxRecDepth 20000
theorem fill_any (g b : Nat) (l : List Int) (r z : Int) (w : World) (h : SegOk w g b l r) :
    Calls Tryz.prog 179 #[.pointer (some ⟨g, 0, none⟩), .int .i64 z] w (TurnsOk g b l r z 2 3 w) := by
 have H := Lib.hid (turn_ok g b l r z 2 3 w h (by decide))
 clear h
 go_enter Tryz.func179, Tryz.ntmps179
 go_wp2_with (fail)
 refine H.out.mono ?_
 rintro e w' ⟨h1, h2, h3⟩
 by_cases hs : stateAt l z = 2
 · obtain ⟨rfl, h4⟩ := h1 hs
   clear h1 h2
   have HS := Lib.hid hs
   clear hs
   go_wp2
   go_ret
   exact ⟨fun _ => ⟨rfl, h4⟩, fun hn => absurd HS.out hn, h3⟩
 · obtain ⟨rfl, h4⟩ := h2 hs
   clear h1 h2
   have HS := Lib.hid hs
   clear hs
   go_wp2
   go_ret
   exact ⟨fun hn => absurd hn HS.out, fun _ => ⟨rfl, h4⟩, h3⟩
theorem clear_any (g b : Nat) (l : List Int) (r z : Int) (w : World) (h : SegOk w g b l r) :
    Calls Tryz.prog 116 #[.pointer (some ⟨g, 0, none⟩), .int .i64 z] w (TurnsOk g b l r z 3 1 w) := by
 have H := Lib.hid (turn_ok g b l r z 3 1 w h (by decide))
 clear h
 go_enter Tryz.func116, Tryz.ntmps116
 go_wp2_with (fail)
 refine H.out.mono ?_
 rintro e w' ⟨h1, h2, h3⟩
 by_cases hs : stateAt l z = 3
 · obtain ⟨rfl, h4⟩ := h1 hs
   clear h1 h2
   have HS := Lib.hid hs
   clear hs
   go_wp2
   go_ret
   exact ⟨fun _ => ⟨rfl, h4⟩, fun hn => absurd HS.out hn, h3⟩
 · obtain ⟨rfl, h4⟩ := h2 hs
   clear h1 h2
   have HS := Lib.hid hs
   clear hs
   go_wp2
   go_ret
   exact ⟨fun hn => absurd hn HS.out, fun _ => ⟨rfl, h4⟩, h3⟩
def Takes (g b : Nat) (l : List Int) (r : Int) (w : World) (e : Ending) (w' : World) : Prop :=
 (placeI 1 l 0 ≠ -1 -> e = .returned (.tuple #[.int .i64 (placeI 1 l 0), .bool true]) ∧ SegOk w' g b (turnL l (placeI 1 l 0) 2) r) ∧ (placeI 1 l 0 = -1 -> e = .returned (.tuple #[.int .i64 0, .bool false]) ∧ SegOk w' g b l r) ∧ Kp (fun x => x = g ∨ x = b) w w'
theorem placeI_state {l : List Int} (h : placeI 1 l 0 ≠ -1) : stateAt l (placeI 1 l 0) = 1 := by
 rcases placeI_spec 1 l 0 with ⟨h1, _⟩ | ⟨j, h1, h2, h3, _⟩
 · exact absurd h1 h
 · unfold stateAt
   rw [h1, if_pos (by omega)]
   simpa using h3
theorem take_any (g b : Nat) (l : List Int) (r : Int) (w : World) (h : SegOk w g b l r) :
    Calls Tryz.prog 137 #[.pointer (some ⟨g, 0, none⟩)] w (Takes g b l r w) := by
 have h0 := h.1.c0
 have HI := Lib.hid (index_any b l 1 w (by have := h.2; omega) h.1.row)
 have HT := Lib.hid (turn_ok g b l r (placeI 1 l 0) 1 2 w h (by decide))
 by_cases hp : placeI 1 l 0 = -1
 · have hst : stateAt l (placeI 1 l 0) ≠ 1 := by rw [hp]; unfold stateAt; rw [if_neg (by omega)]; decide
   have HP := Lib.hid hp
   have HST := Lib.hid hst
   clear h hp hst
   go_enter Tryz.func137, Tryz.ntmps137
   go_wp2_with (fail)
   refine HI.out.mono ?_
   rintro e w' ⟨rfl, rfl⟩
   go_wp2_with (fail)
   refine HT.out.mono ?_
   rintro e w' ⟨h1, h2, h3⟩
   obtain ⟨rfl, h4⟩ := h2 HST.out
   clear h1 h2
   go_wp2
   go_ret2
   exact ⟨fun hn => absurd HP.out hn, fun _ => ⟨rfl, h4⟩, h3⟩
 · have hst := placeI_state hp
   have HP := Lib.hid hp
   have HST := Lib.hid hst
   clear h hp hst
   obtain ⟨k, hk⟩ : ∃ k, placeI 1 l 0 = k := ⟨_, rfl⟩
   rw [hk] at HI HT HST
   have HK := Lib.hid hk
   clear hk
   go_enter Tryz.func137, Tryz.ntmps137
   go_wp2_with (fail)
   refine HI.out.mono ?_
   rintro e w' ⟨rfl, rfl⟩
   go_wp2_with (fail)
   refine HT.out.mono ?_
   rintro e w' ⟨h1, h2, h3⟩
   obtain ⟨rfl, h4⟩ := h1 HST.out
   clear h1 h2
   go_wp2
   go_ret2
   exact ⟨fun _ => ⟨by rw [HK.out]; rfl, by rw [HK.out]; exact h4⟩, fun hn => absurd hn HP.out, h3⟩
theorem low_any (g b : Nat) (l : List Int) (r : Int) (w : World) (h : SegOk w g b l r) :
    Calls Tryz.prog 133 #[.pointer (some ⟨g, 0, none⟩)] w (Gives (.bool (decide (frees l <= r))) w) := by
 have h1 := h.1.c1
 have h2 := h.1.c2
 clear h
 generalize frees l = f at *
 go_enter Tryz.func133, Tryz.ntmps133
 go_wp2
 go_quiet (fail)
 go_wp2
 go_ret
 exact ⟨rfl, _, rfl⟩
def listTo (l : List Int) (s : Int) : Nat -> List Int
  | 0 => []
  | k + 1 => if l.getD k 0 = s then listTo l s k ++ [(k : Int)] else listTo l s k
theorem listTo_le (l : List Int) (s : Int) (k : Nat) : (listTo l s k).length <= k := by
 induction k with
 | zero => simp [listTo]
 | succ k ih =>
   unfold listTo
   split
   · simp; omega
   · omega
def Lists (xs : List Int) (w : World) (e : Ending) (w' : World) : Prop := ∃ A c, e = .returned (.slice A xs.length c) ∧ Reads w' w'.heap.size 1 A xs.length (nums .i64 xs) ∧ Below w.heap.size w w' ∧ ∀ ad, A = some ad -> w.heap.size <= ad.block
theorem int_info : (Tryz.prog.info? 3).map (fun i => (i.zero, i.size, i.bytes)) = some (some (.int .i64 0), 1, 8) := by kernel_rfl
theorem reads_int (w : World) (x : Int) : Reads (w.alloc (.cells #[.int .i64 x] 3)) (w.heap.size + 1) 1 (some ⟨w.heap.size, 0, none⟩) 1 (nums .i64 [x]) := by
 refine ⟨rfl, fun _ => ⟨_, rfl, Nat.lt_succ_self _, fun j u hu => ?_⟩⟩
 match j, hu with
 | 0, hu =>
   simp [nums] at hu
   subst hu
   simp [go_sem, Addr.add]
 | j + 1, hu => simp [nums] at hu
theorem list_any (g b : Nat) (l : List Int) (r f s : Int) (w : World) (hl : l.length <= 65535) (h : SegIs w g b l r f) :
    Calls Tryz.prog 31 #[.pointer (some ⟨g, 0, none⟩), .int .u8 s] w (Lists (listTo l s l.length) w) := by
 obtain ⟨i0, hi0, hz0, hz1, hz2⟩ := info_parts int_info
 have h0 := h.c0
 have HG : Hid (∀ k, k < l.length -> w.cell? ⟨b, k, none⟩ = some (.int .u8 (l.getD k 0))) := fun k hk => h.at_ hk
 have hlt := h.row.lt
 have HLE := Lib.hid (listTo_le l s)
 clear h
 go_enter Tryz.func31, Tryz.ntmps31
 go_wp2
 go_loopw [5, 13] (fun v i wr => ∃ (k : Nat) (v' : Value), k <= l.length ∧ i = .int .i64 k ∧ v = v' ∧ wr.ownsRow w.heap.size 3 1 v' (listTo l s k).length (nums .i64 (listTo l s k)) ∧ Below w.heap.size w wr) (fun _ i _ => l.length - (intOf i).toNat)
 case atStart => exact ⟨0, _, Nat.zero_le _, rfl, rfl, World.ownsRow_nil _ _ _ _, Below.refl _ _⟩
 case round =>
  obtain ⟨k, v, hk, rfl, hvv, hown, hbl⟩ := hrel
  subst hvv
  by_cases hlt2 : k < l.length
  · have hc := (hbl.cell (p := ⟨b, k, none⟩) hlt).trans (HG.out k hlt2)
    have hle := HLE.out k
    have HS : Hid (listTo l s (k + 1) = if l.getD k 0 = s then listTo l s k ++ [(k : Int)] else listTo l s k) := rfl
    generalize l.getD k 0 = y at *
    have HL : Hid (Hid (listTo l s (k + 1) = listTo l s (k + 1))) := rfl
    obtain ⟨xs, hxs⟩ : ∃ xs, listTo l s k = xs := ⟨_, rfl⟩
    rw [hxs] at hown hle
    have HXS := Lib.hid hxs
    clear hxs HL
    have hsz := hbl.size
    by_cases hy : y = s
    · have he : (y == s) = true := by simpa using hy
      have HY := Lib.hid hy
      clear hy
      go_wp2_with
        (first
          | (at_builtin
             refine wpList_append_any _ rfl (.tmp 21) (.tmp 23) _ rfl w.heap.size 3 i0 _ 1 8 Tryz.underlying68 hi0 hz0 hz1 hz2 rfl (by omega) u5 xs.length (nums .i64 xs) rfl
               (hown.alloc _) (wr.heap.size + 1) _ 1 1 (nums .i64 [(k : Int)]) rfl (reads_int wr k) (nums_one _ _) (by simp only [maxLen]; omega) (by omega) (by simp; omega) ?_
             intro v2 w3 hown2 hg2 hat2))
      have hb3 : Below w.heap.size w w3 := (hbl.alloc hsz _).grown hg2 (by simp; omega) (fun g hg => (hown.lt g hg).1)
      go_roundw
      case rel =>
       refine ⟨k + 1, _, by omega, by go_num, rfl, ?_, hb3⟩
       rw [HS.out, if_pos HY.out, HXS.out]
       simpa [nums] using hown2
      case measure => simp [intOf]; omega
    · have he : (y == s) = false := by simpa using hy
      have HY := Lib.hid hy
      clear hy
      go_wp2
      go_roundw
      case rel =>
       refine ⟨k + 1, _, by omega, by go_num, rfl, ?_, hbl⟩
       rw [HS.out, if_neg HY.out, HXS.out]
       exact hown
      case measure => simp [intOf]; omega
  · have hkk : k = l.length := by omega
    subst hkk
    obtain ⟨A, c, rfl⟩ := own_form hown
    go_wp2
    go_ret
    exact ⟨A, c, rfl, Reads.of_own hown, hbl, fun ad e => by subst e; exact (hown.lt _ rfl).1⟩
end Go.Proofs.YtfabgbmbnmbjkaaGreatDoor

