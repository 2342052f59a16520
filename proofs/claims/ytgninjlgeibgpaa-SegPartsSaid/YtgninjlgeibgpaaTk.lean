/- SegTakes. -/
import Derived.Test.YtgninjlgeibgpaaTu
set_option linter.unusedVariables false
namespace Go.Proofs.Ytgninjlgeibgpaa
open Go.RowKit

/-- How many of a list's numbers are s. -/
def cnt (s : Int) (l : List Int) : Nat := l.countP (· == s)
theorem listTo_cnt (l : List Int) (s : Int) : (listTo l s l.length).length = cnt s l := by
  rw [listTo_count l s l.length (Nat.le_refl _), List.take_length]; rfl
theorem frees_cnt (l : List Int) : frees l = cnt 1 l := rfl
theorem cnt_set (s : Int) (l : List Int) (k : Nat) (x : Int) (h : k < l.length) : cnt s (l.set k x) + (if l.getD k 0 = s then 1 else 0) = cnt s l + (if x = s then 1 else 0) := by
  unfold cnt
  induction l generalizing k with
  | nil => simp at h
  | cons y l ih =>
    match k, h with
    | 0, _ =>
      simp only [List.set_cons_zero, List.countP_cons, List.getD_cons_zero, beq_iff_eq]
      omega
    | k + 1, h =>
      have := ih k (by simpa using h)
      simp only [List.set_cons_succ, List.countP_cons, List.getD_cons_succ, beq_iff_eq]
      omega
theorem cnt_turn (l : List Int) (k : Nat) (a c s : Int) (hk : k < l.length) (ha : l.getD k 0 = a) : cnt s (turnL l k c) + (if a = s then 1 else 0) = cnt s l + (if c = s then 1 else 0) := by
  have := cnt_set s l k c hk
  rw [ha] at this
  exact this
theorem turn_getD (l : List Int) (k j : Nat) (c : Int) (hk : k < l.length) : (turnL l k c).getD j 0 = if j = k then c else l.getD j 0 := by
  unfold turnL
  rw [Int.toNat_natCast]
  by_cases h : j = k
  · subst h
    rw [if_pos rfl]
    simp [List.getD_eq_getElem?_getD, hk]
  · rw [if_neg h]
    simp [List.getD_eq_getElem?_getD, List.getElem?_set_ne (show k ≠ j by omega)]
theorem turnL_length (l : List Int) (z c : Int) : (turnL l z c).length = l.length := by simp [turnL]

/-- Checkpoints' zones are kept. -/
def Kept (l : List Int) (n : Nat) : Prop := l.length = n ∧ l.getD 0 0 = 4 ∧ l.getD 1 0 = 4
theorem newL_kept (n : Nat) (h : 6 ≤ n) : Kept (newL n) n := ⟨by rw [newL_length _ (by omega)]; simp, rfl, rfl⟩
theorem Kept.state {l : List Int} {n : Nat} (h : Kept l n) (hn : 6 ≤ n) {z a : Int} (hs : stateAt l z = a) (ha : a ≠ 0) (h4 : a ≠ 4) : ∃ k : Nat, z = k ∧ 2 ≤ k ∧ k < n ∧ l.getD k 0 = a := by
  by_cases hz : 0 ≤ z ∧ z < l.length
  · obtain ⟨k, rfl⟩ := Int.eq_ofNat_of_zero_le hz.1
    rw [stateAt_nat _ _ (by omega)] at hs
    refine ⟨k, rfl, ?_, by have := h.1; omega, hs⟩
    rcases Nat.lt_or_ge k 2 with h2 | h2
    · match k, h2 with
      | 0, _ => exact absurd (hs.symm.trans h.2.1) h4
      | 1, _ => exact absurd (hs.symm.trans h.2.2) h4
    · exact h2
  · rw [stateAt_out _ _ (by omega)] at hs
    exact absurd hs.symm ha
theorem Kept.turn {l : List Int} {n : Nat} (h : Kept l n) {k : Nat} (h2 : 2 ≤ k) (hk : k < n) (c : Int) : Kept (turnL l k c) n := by
  have hl := h.1
  refine ⟨by rw [turnL_length]; exact hl, ?_, ?_⟩
  · rw [turn_getD _ _ _ _ (by omega), if_neg (by omega)]; exact h.2.1
  · rw [turn_getD _ _ _ _ (by omega), if_neg (by omega)]; exact h.2.2

theorem cnt_new (n : Nat) : cnt 2 (newL n) = 0 := by
  unfold cnt newL
  rw [List.countP_append, List.countP_replicate]
  rfl
/-- One that is free is found full. -/
theorem found_step {l : List Int} {n : Nat} (h : Kept l n) (hn : 6 ≤ n) (h0 : cnt 2 l = 0) {z : Int} (hs : stateAt l z = 1) : Kept (turnL l z 3) n ∧ cnt 2 (turnL l z 3) = 0 := by
  obtain ⟨k, rfl, h2, hk, ha⟩ := h.state hn hs (by decide) (by decide)
  have := cnt_turn l k 1 3 2 (by rw [h.1]; exact hk) ha
  exact ⟨h.turn h2 hk 3, by simpa [h0] using this⟩

/-- While zones are taken. -/
def Took (l : List Int) (n m k : Nat) (last : Int) : Prop := Kept l n ∧ cnt 1 l + k = m ∧ cnt 2 l = k ∧ ∀ j : Nat, (j : Int) ≤ last → l.getD j 0 ≠ 1
theorem cnt_none {l : List Int} {s : Int} (h : ∀ j, j < l.length → l.getD j 0 ≠ s) : cnt s l = 0 := by
  unfold cnt
  rw [List.countP_eq_zero]
  intro x hx he
  obtain ⟨j, hj, rfl⟩ := List.getElem_of_mem hx
  refine h j hj ?_
  simpa [List.getD_eq_getElem?_getD, hj] using he
theorem took_step {l : List Int} {n m k : Nat} {last : Int} (h : Took l n m k last) (hn : 6 ≤ n) (hk : k < m) : ∃ p : Nat, placeI 1 l 0 = p ∧ last < p ∧ p < n ∧ Took (turnL l p 2) n m (k + 1) p := by
  obtain ⟨hK, h1, h2, h3⟩ := h
  rcases placeI_spec 1 l 0 with ⟨_, hno⟩ | ⟨p, hp, hpl, hpa, hpb⟩
  · have := cnt_none hno
    omega
  · have hlast : last < p := by
      rcases Int.lt_or_le last p with hl | hl
      · exact hl
      · exact absurd hpa (h3 p hl)
    obtain ⟨k', hk', hk2, hkn, _⟩ := hK.state hn (stateAt_nat l p hpl) (by rw [hpa]; decide) (by rw [hpa]; decide)
    have hkp : k' = p := by omega
    subst hkp
    have c1 := cnt_turn l k' 1 2 1 hpl hpa
    have c2 := cnt_turn l k' 1 2 2 hpl hpa
    simp at c1 c2
    refine ⟨k', by rw [hp]; simp, hlast, hkn, hK.turn hk2 hkn 2, by omega, by omega, fun j hj => ?_⟩
    rw [turn_getD _ _ _ _ hpl]
    by_cases e : j = k'
    · rw [if_pos e]; decide
    · rw [if_neg e]; exact hpb j (by omega)
theorem took_end {l : List Int} {n m : Nat} {last : Int} (h : Took l n m m last) : placeI 1 l 0 = -1 ∧ cnt 1 l = 0 ∧ cnt 2 l = m := by
  obtain ⟨hK, h1, h2, h3⟩ := h
  have h0 : cnt 1 l = 0 := by omega
  refine ⟨placeI_none 1 l fun j hj he => ?_, h0, h2⟩
  have := cnt_turn l j 1 2 1 hj he
  simp at this
  omega
theorem kept_took {l : List Int} {n : Nat} (h : Kept l n) (h0 : cnt 2 l = 0) : Took l n (cnt 1 l) 0 1 := by
  refine ⟨h, rfl, h0, fun j hj => ?_⟩
  have : j = 0 ∨ j = 1 := by omega
  rcases this with rfl | rfl
  · rw [h.2.1]; decide
  · rw [h.2.2]; decide

theorem takes_walk (z zb bl rs : Int) (A : Option Addr) (c : Nat) (xs : List Int) (w : World) (hz : -9223372036854775808 ≤ z ∧ z ≤ 9223372036854775807) (hb : -9223372036854775808 ≤ bl ∧ bl ≤ 9223372036854775807)
    (hxl : xs.length ≤ c) (hcm : c ≤ maxLen) (hR : Reads w w.heap.size 1 A xs.length (nums .i64 xs)) :
    Calls Try.prog 6 #[.agg #[.int .i64 z, .int .i64 zb, .int .i64 bl, .int .i64 rs], .slice A xs.length c] w (Okay w) := by
  have HR := Lib.hid (hR.alloc (Nat.le_refl _) (.cells #[.int .i64 z, .int .i64 zb, .int .i64 bl, .int .i64 rs] 23))
  clear hR
  unfold maxLen at hcm
  have hB := Lib.hid (Blk.new w 23 #[.int .i64 z, .int .i64 zb, .int .i64 bl, .int .i64 rs])
  have hW : Hid (Below (w.alloc (.cells #[.int .i64 z, .int .i64 zb, .int .i64 bl, .int .i64 rs] 23)).heap.size (w.alloc (.cells #[.int .i64 z, .int .i64 zb, .int .i64 bl, .int .i64 rs] 23)) (w.alloc (.cells #[.int .i64 z, .int .i64 zb, .int .i64 bl, .int .i64 rs] 23))) := Below.refl _ _
  have hOut : Hid (∀ w', Below (w.alloc (.cells #[.int .i64 z, .int .i64 zb, .int .i64 bl, .int .i64 rs] 23)).heap.size (w.alloc (.cells #[.int .i64 z, .int .i64 zb, .int .i64 bl, .int .i64 rs] 23)) w' → Below w.heap.size w w') := fun w' h => ((Below.refl _ _).alloc (Nat.le_refl _) _).trans (h.mono (by simp))
  have hsz : Hid (w.heap.size < (w.alloc (.cells #[.int .i64 z, .int .i64 zb, .int .i64 bl, .int .i64 rs] 23)).heap.size) := by unfold Hid; simp
  have hc0 : (w.alloc (.cells #[.int .i64 z, .int .i64 zb, .int .i64 bl, .int .i64 rs] 23)).cell? ⟨w.heap.size, 0, none⟩ = some (.int .i64 z) := hB.out.cell 0
  go_enter Try.func6, Try.ntmps6
  go_upto_region 1 with (fail)
  generalize hW1 : w.alloc (.cells #[.int .i64 z, .int .i64 zb, .int .i64 bl, .int .i64 rs] 23) = W1 at *
  clear hW1
  by_cases h300 : z > 300
  · go_wp2_with (fail)
    refine (known_is hW.out).mono ?_
    rintro e w1 ⟨rfl, hb1⟩
    go_wp2
    go_ret
    exact ⟨rfl, hOut.out _ hb1⟩
  · by_cases hlong : 300 < xs.length
    · go_wp2_with (fail)
      refine (known_is hW.out).mono ?_
      rintro e w1 ⟨rfl, hb1⟩
      go_wp2
      go_ret
      exact ⟨rfl, hOut.out _ hb1⟩
    · go_wp2_with (fail)
      refine (known_is hW.out).mono ?_
      rintro e w1 ⟨rfl, hb1⟩
      have hB1 := hB.out.below hb1 hsz.out
      have hc0 : w1.cell? ⟨w.heap.size, 0, none⟩ = some (.int .i64 z) := hB1.cell 0
      have hc1 : w1.cell? ⟨w.heap.size, 1, none⟩ = some (.int .i64 zb) := hB1.cell 1
      have hc2 : w1.cell? ⟨w.heap.size, 2, none⟩ = some (.int .i64 bl) := hB1.cell 2
      have hc3 : w1.cell? ⟨w.heap.size, 3, none⟩ = some (.int .i64 rs) := hB1.cell 3
      have HB1 := Lib.hid hb1
      clear hB1 hb1
      cases hr : rightB z zb bl rs with
      | false =>
        have HF := Lib.hid hr
        have HZ := Lib.hid hz
        have HBb := Lib.hid hb
        clear hr hz hb
        go_wp2_with (fail)
        refine (new_no HZ.out HBb.out HB1.out HF.out).mono ?_
        rintro e w2 ⟨rfl, hb2⟩
        go_wp2
        go_ret
        exact ⟨rfl, hOut.out _ hb2⟩
      | true =>
        have HT := Lib.hid hr
        have hz2 := (right_z hr).1
        have hrs := (right_z hr).2
        clear hr hz hb h300
        obtain ⟨n, rfl⟩ := Int.eq_ofNat_of_zero_le (show 0 ≤ z by omega)
        go_wp2_with (fail)
        refine (new_yes HB1.out HT.out).mono ?_
        rintro e w2 ⟨g, b, rfl, hst⟩
        clear hc0 hc1 hc2 hc3
        have HST := Lib.hid hst
        clear hst
        have hn6 : 6 ≤ n := by omega
        have HK := Lib.hid (newL_kept n hn6)
        have HC := Lib.hid (cnt_new n)
        go_wp2_with (fail)
        go_loopw [6] (fun i wr => ∃ (k : Nat) (l : List Int), k ≤ xs.length ∧ i = .int .i64 k ∧ Hid (St W1 wr g b l rs) ∧ Hid (Kept l n) ∧ Hid (cnt 2 l = 0)) (fun i _ => xs.length - (intOf i).toNat)
        case atStart => exact ⟨0, newL n, Nat.zero_le _, rfl, HST.out, HK.out, HC.out⟩
        case round =>
          obtain ⟨k, l, hk, rfl, hst, hkp, h0⟩ := hrel
          clear HST HK HC
          by_cases hlt : k < xs.length
          · obtain ⟨ad, hA, had, hcc⟩ := HR.out.num hlt
            have hc1 : wr.cell? (ad.add k) = some (.int .i64 (xs.getD k 0)) := (hst.out.bl.cell (by rw [block_of_add]; have := hsz.out; omega)).trans hcc
            subst hA
            clear hcc
            generalize xs.getD k 0 = y at *
            by_cases hs : stateAt l y = 1
            · have HS := Lib.hid (found_step hkp.out hn6 h0.out hs)
              have HY := Lib.hid hs
              clear hs
              go_wp2_with (fail)
              refine (found_yes hst.out HY.out).mono ?_
              rintro e w3 ⟨rfl, hst3⟩
              have HST3 := Lib.hid hst3
              clear hst3
              go_wp2
              go_roundw
              case rel => exact ⟨k + 1, _, by omega, by go_num, HST3, HS.out.1, HS.out.2⟩
              case measure => simp [intOf]; omega
            · have HY := Lib.hid hs
              clear hs
              go_wp2_with (fail)
              refine (found_no hst.out HY.out).mono ?_
              rintro e w3 ⟨rfl, hst3⟩
              have HST3 := Lib.hid hst3
              clear hst3
              go_wp2
              go_roundw
              case rel => exact ⟨k + 1, l, by omega, by go_num, HST3, hkp, h0⟩
              case measure => simp [intOf]; omega
          · have hkk : k = xs.length := by omega
            subst hkk
            have HTK := Lib.hid (kept_took hkp.out h0.out)
            obtain ⟨m, hm⟩ : ∃ m, cnt 1 l = m := ⟨_, rfl⟩
            have hml : m ≤ n := by
              rw [← hm, ← hkp.out.1]
              exact List.countP_le_length
            rw [hm] at HTK
            have HM : Hid ((listTo l 1 l.length).length = m) := by unfold Hid; rw [listTo_cnt]; exact hm
            clear hm hkp h0
            go_wp2_with (fail)
            refine (list_is hst.out rfl).mono ?_
            rintro e w3 ⟨A3, c3, rfl, hst3, _⟩
            rw [HM.out]
            have HST3 := Lib.hid hst3
            clear hst3 hst
            go_wp2_with (fail)
            go_loopw [8, 9] (fun la i wr => ∃ (k : Nat) (p : Int) (l : List Int), k ≤ m ∧ i = .int .i64 k ∧ la = .int .i64 p ∧ 1 ≤ p ∧ p ≤ n ∧ Hid (St W1 wr g b l rs) ∧ Hid (Took l n m k p)) (fun _ i _ => m - (intOf i).toNat)
            case atStart => exact ⟨0, 1, l, Nat.zero_le _, rfl, rfl, by omega, by omega, HST3, HTK⟩
            case round =>
              obtain ⟨k, p, l, hk, rfl, rfl, hp1, hpn, hst, htk⟩ := hrel
              clear HST3 HTK HM
              by_cases hlt : k < m
              · obtain ⟨q, hq, hpq, hqn, htk2⟩ := took_step htk.out hn6 hlt
                have HQ := Lib.hid hq
                have HTK2 := Lib.hid htk2
                clear hq htk2
                have hle : ¬ ((q : Int) ≤ p) := by omega
                go_wp2_with (fail)
                refine (take_yes hst.out HQ.out).mono ?_
                rintro e w4 ⟨rfl, hst4⟩
                have HST4 := Lib.hid hst4
                clear hst4
                go_wp2
                go_roundw
                case rel => exact ⟨k + 1, q, _, by omega, by go_num, rfl, by omega, by omega, HST4, HTK2⟩
                case measure => simp [intOf]; omega
              · have hkk : k = m := by omega
                subst hkk
                have HE := Lib.hid (took_end htk.out)
                have HLO : Hid (decide (frees l ≤ rs) = true) := by
                  unfold Hid
                  rw [frees_cnt, HE.out.2.1]
                  exact decide_eq_true (by omega)
                have HM : Hid ((listTo l 2 l.length).length = k) := by unfold Hid; rw [listTo_cnt]; exact HE.out.2.2
                go_wp2_with (fail)
                refine (take_no hst.out HE.out.1).mono ?_
                rintro e w4 ⟨rfl, hst4⟩
                have HST4 := Lib.hid hst4
                clear hst4 hst
                go_wp2_with (fail)
                refine (list_is HST4.out rfl).mono ?_
                rintro e w5 ⟨A5, c5, rfl, hst5, _⟩
                rw [HM.out]
                have HST5 := Lib.hid hst5
                clear hst5 HST4
                go_wp2_with (fail)
                refine (low_is HST5.out HLO.out).mono ?_
                rintro e w6 ⟨rfl, hst6⟩
                go_wp2
                go_ret
                exact ⟨rfl, hOut.out _ hst6.bl⟩
end Go.Proofs.Ytgninjlgeibgpaa
