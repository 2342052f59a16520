/- Contracts of package seg, of its reference, and of what they call: bytes laid again and again; places in a list. -/
import Derived.Test.YtgninjlgeibgpaaSg
import Derived.Deep.RegionLaw
namespace Go.Proofs.Ytgninjlgeibgpaa
open Go.RowKit

/-- The first k of n bytes are v, the others nought. -/
def fillv (v : Int) (n k : Nat) : List Value := List.replicate k (.int .u8 v) ++ List.replicate (n - k) (.int .u8 0)
theorem fillv_length (v : Int) (n k : Nat) (h : k ≤ n) : (fillv v n k).length = n := by simp [fillv]; omega
theorem fillv_get (v : Int) (n k i : Nat) (h : i < k) : (fillv v n k)[i]? = some (.int .u8 v) := by
  unfold fillv
  rw [List.getElem?_append_left (by simpa using h)]
  simp [h]
theorem fillv_splice (v : Int) (n k m : Nat) (h : k + m ≤ n) : splice (fillv v n k) k (List.replicate m (.int .u8 v)) = fillv v n (k + m) := by
  unfold splice fillv
  rw [List.take_append_of_le_length (by simp), List.take_of_length_le (by simp), List.length_replicate, List.drop_append]
  simp only [List.length_replicate]
  rw [List.drop_eq_nil_of_le (by simp), List.nil_append, List.drop_replicate, ← List.append_assoc, List.replicate_append_replicate]
  congr 2; omega

theorem u8_info : (Try.prog.info? 5).map (fun i => (i.zero, i.size, i.bytes)) = some (some (.int .u8 0), 1, 1) := by kernel_rfl

theorem run_make_u8 (n : Nat) (h : n ≤ 65536) (w : World) : (Instr.makeSlice 44 (.int .i64 (n : Int)) (.int .i64 (n : Int))).run Try.prog w = .ok (.slice (some ⟨w.heap.size, 0, none⟩) n n) (w.alloc (.cells (fillv 0 n 0).toArray 5)) := by
  obtain ⟨i, hi, hz, hs, hb⟩ := info_parts u8_info
  have hr := run_make (P := Try.prog) w 44 5 i (.int .u8 0) Try.underlying44 hi hz .i64 .i64 n n (by omega) (by omega) (by rw [hb]; omega) (by omega)
  simp only [Int.toNat_natCast] at hr
  rw [hr, hs, Nat.mul_one]
  congr 3
  refine Array.ext (by simp [madeCells, fillv]) (fun j h1 h2 => ?_)
  have e : (Value.int IntKind.u8 0).cells = #[Value.int IntKind.u8 0] := rfl
  simp [madeCells, fillv, e, Nat.mod_one]

theorem one_byte {v : Int} : ∀ u ∈ [Value.int .u8 v], u.oneCell' = true := by
  intro u hu
  simp at hu
  subst hu
  rfl

set_option maxHeartbeats 400000 in
theorem repeat_any (v : Int) (n c : Nat) (A : Option Addr) (hn1 : 1 ≤ n) (hn : n ≤ 65536) (w : World) (h : Reads w w.heap.size 1 A 1 [.int .u8 v]) :
    Calls Try.prog 26 #[.slice A 1 c, .int .i64 n] w fun e w' => ∃ g, e = .returned (.slice (some ⟨g, 0, none⟩) n n) ∧ w.heap.size ≤ g ∧ Blk w' g 5 (fillv v n n).toArray ∧ Below w.heap.size w w' := by
  obtain ⟨ad, u, rfl, hb, hu, hc⟩ := h.at_ (k := 0) (by omega)
  have hc : w.cell? ad = some (.int .u8 v) := by
    simp at hu
    subst hu
    simpa [Addr.add] using hc
  have hmk := run_make_u8 n hn
  have HF := Lib.hid (fun k m h => fillv_splice v n k m h)
  have HL := Lib.hid (fun k h => fillv_length v n k h)
  have HG := Lib.hid (fun k i h => fillv_get v n k i h)
  have hz : fillv 0 n 0 = fillv v n 0 := by simp [fillv]
  rw [hz] at hmk
  clear hz h hu
  have hsz : (Try.prog.info? 5).map (·.size) = some 1 := by kernel_rfl
  have HSZ := Lib.hid hsz
  have HC2 : Hid (0 + [Value.int .u8 v].length ≤ (fillv v n 0).length) := by unfold Hid; rw [fillv_length v n 0 (by omega)]; simpa using hn1
  clear hsz
  generalize hfv : fillv v n = fv at *
  clear hfv
  have HC0 : Hid ((w.alloc (.cells (fv 0).toArray 5)).heap[w.heap.size]? = some (.cells (fv 0).toArray 5 (0, 0))) := heap_alloc_new w _
  have HC1 : Hid (∀ (j : Nat) (u : Value), [Value.int .u8 v][j]? = some u → (w.alloc (.cells (fv 0).toArray 5)).cell? (ad.add j) = some u) := by
    intro j u hu
    match j, hu with
    | 0, hu =>
      simp at hu
      subst hu
      have := World.block_lt_of_cell? _ _ hc
      rw [World.cell?_alloc_lt w _ _ (by rw [block_of_add]; exact this)]
      simpa [Addr.add] using hc
    | j + 1, hu => simp at hu
  go_enter Try.func26, Try.ntmps26
  go_wp2_with (first
    | (go_at_call 31; refine (mulu_any _ hn _).mono ?_; rintro e w' ⟨rfl, rfl⟩)
    | (refine wpList_copy_splice rfl (.tmp 31) (.tmp 32) 44 44 rfl 5 Try.underlying44 HSZ.out _ _ n n 1 c rfl rfl w.heap.size 0 (fv 0) 5 HC0.out [.int .u8 v] (Nat.min_eq_left hn1).symm (fun _ => ⟨rfl, ad, rfl, HC1.out⟩) (HC2.out) one_byte w.heap.size w ((Below.refl _ _).alloc (Nat.le_refl _) _) (Nat.le_refl _) ?_
       intro w2 hg2 hb2))
  have hg2' := hg2.out
  have h01 := HF.out 0 1 (by omega)
  rw [Nat.zero_add, List.replicate_one] at h01
  rw [h01] at hg2'
  have HG2 := Lib.hid hg2'
  clear hg2' h01 hg2 HC0 HC1 HC2 hmk
  go_wp2_with (fail)
  go_loopw [8] (fun i wr => ∃ k : Nat, 1 ≤ k ∧ k ≤ n ∧ i = .int .i64 k ∧ Hid (wr.heap[w.heap.size]? = some (.cells (fv k).toArray 5 (0, 0))) ∧ Below w.heap.size w wr) (fun i _ => n - (intOf i).toNat)
  case atStart => exact ⟨1, Nat.le_refl _, hn1, rfl, HG2, hb2⟩
  case round =>
    obtain ⟨k, hk1, hkn, rfl, hgk, hbk⟩ := hrel
    by_cases hlt : k < n
    · obtain ⟨m, hm, hm1, hm2, hm3⟩ : ∃ m, Nat.min k (n - k) = m ∧ 1 ≤ m ∧ m ≤ k ∧ k + m ≤ n := by
        rcases Nat.le_total k (n - k) with h | h
        · exact ⟨k, Nat.min_eq_left h, by omega, by omega, by omega⟩
        · exact ⟨n - k, Nat.min_eq_right h, by omega, by omega, by omega⟩
      have HM := Lib.hid hm
      have HFS := Lib.hid (HF.out k m hm3)
      clear hm
      have HSRC : Hid (∀ (j : Nat) (u : Value), (List.replicate m (Value.int IntKind.u8 v))[j]? = some u → wr.cell? ((⟨w.heap.size, 0, none⟩ : Addr).add j) = some u) := by
        intro j u hu
        obtain ⟨hj, hu⟩ := List.getElem?_eq_some_iff.1 hu
        simp only [List.length_replicate] at hj
        simp only [List.getElem_replicate] at hu
        subst hu
        have hb : Blk wr w.heap.size 5 (fv k).toArray := hgk.out
        have hc2 := hb.cell j
        have he : (⟨w.heap.size, 0, none⟩ : Addr).add j = ⟨w.heap.size, j, none⟩ := by unfold Addr.add; split <;> simp_all
        rw [he, hc2, List.getElem?_toArray]
        exact HG.out k j (by omega)
      have HR : Hid (∀ u ∈ List.replicate m (Value.int IntKind.u8 v), u.oneCell' = true) := fun u hu => by rw [(List.mem_replicate.1 hu).2]; rfl
      have HFIT : Hid (k + (List.replicate m (Value.int IntKind.u8 v)).length ≤ (fv k).length) := by unfold Hid; rw [HL.out k hkn, List.length_replicate]; omega
      have HN : Hid ((List.replicate m (Value.int IntKind.u8 v)).length = Nat.min k (n - k)) := by unfold Hid; rw [List.length_replicate]; exact HM.out.symm
      have hlen : (List.replicate m (Value.int IntKind.u8 v)).length = m := by simp
      have HLEN := Lib.hid hlen
      clear hlen
      generalize List.replicate m (Value.int IntKind.u8 v) = cs at *
      have hkm : IntKind.i64.wrap ((k : Int) + (m : Int)) = (k : Int) + m := by rw [IntKind.wrap_i64]; omega
      have hnk : ¬ n = k := by omega
      go_wp2_with (fail)
      go_region_law (refine step_copy_splice rfl (.tmp 41) (.tmp 44) 44 44 rfl 5 Try.underlying44 HSZ.out (some ⟨w.heap.size, k, none⟩) (some ⟨w.heap.size, 0, none⟩) (n - k) (n - k) k n ?hd ?hs w.heap.size k (fv k) 5 ?hg cs HN.out (fun _ => ⟨rfl, ⟨w.heap.size, 0, none⟩, rfl, ?hsrc⟩) HFIT.out HR.out w.heap.size w ?hb (Nat.le_refl _) ?_; (case hd => go_simp); (case hs => go_simp); (case hg => exact hgk.out); (case hsrc => exact HSRC.out); (case hb => exact hbk.drew); intro w4 hg4 hb4)
      all_goals
        rw [HFS.out] at hg4
        rw [HLEN.out]
        go_simp
        go_wp2
        go_roundw
        case rel => exact ⟨k + m, by omega, by omega, by go_num, hg4, hb4⟩
        case measure => simp [intOf]; omega
    · have hkk : k = n := by omega
      subst hkk
      go_wp2
      go_ret
      exact ⟨_, rfl, Nat.le_refl _, hgk.out, hbk⟩
end Go.Proofs.Ytgninjlgeibgpaa
