/- Package lmap's All: all places, by their names. -/
import Derived.Test.YtcbbkemfgnbcpaaIs
import Derived.Test.YtcbbkemfgnbcpaaIn2
namespace Go.Proofs.Ytcbbkemfgnbcpaa
open Go.RowKit Go.Sort

theorem keys_gives (Bm b nn : Nat) (Fm : Int × Int → Option (Int × Int)) (w : World) (hBm : Bm < w.heap.size) (hm : w.cell? ⟨Bm, 0, none⟩ = some (.map (some b))) (h : MapF nameC addrV w b nn Fm) :
    SeqGives Fence.wide 1 Try.prog 38 #[.pointer (some ⟨Bm, 0, none⟩)] nameV (NAll Fm) nn w := fun l J W hW hJ hY h0 =>
  keys1_in Fence.wide 1 trivial rfl (Nat.le_refl _) l Bm b nn Fm J hY W hJ ((hW.cell (p := ⟨Bm, 0, none⟩) hBm).trans hm) (h.kp (S := fun _ => False) (Kp.of_below hW) (fun e => e)) h0

theorem keys_any (w : World) (b : Nat) : Calls Try.prog 30 #[.map (some b)] w
    (fun e w' => e = .returned (.func (.func 38) #[] #[.pointer (some ⟨w.heap.size, 0, none⟩)]) ∧ w' = w.alloc (.cells #[.map (some b)] 54)) := by
  go_enter Try.func30, Try.ntmps30
  go_wp2
  go_ret
  exact ⟨rfl, rfl⟩

theorem own_form2 {w : World} {base : Nat} {e : TypeId} {size n : Nat} {v : Value} {xs : List Value} (h : w.ownsRow base e size v n xs) : ∃ A c, v = .slice A n c := by
  rcases h.2 with ⟨rfl, rfl⟩ | ⟨g, cap, cur, rfl, _⟩
  · exact ⟨none, 0, rfl⟩
  · exact ⟨_, _, rfl⟩

/-- slices.SortedFunc(maps.Keys(m), name.compare). -/
theorem sorted_any (w : World) (Bm b nn : Nat) (Fm : Int × Int → Option (Int × Int)) (hn : nn ≤ 1000000) (hBm : Bm < w.heap.size) (hm : w.cell? ⟨Bm, 0, none⟩ = some (.map (some b))) (h : MapF nameC addrV w b nn Fm) (hlen : ∀ ss, NAll Fm ss → ss.length ≤ nn) :
    Calls Try.prog 29 #[.func (.func 38) #[] #[.pointer (some ⟨Bm, 0, none⟩)], .func (.func 31) #[] #[]] w
      (fun e w' => ∃ A c S, e = .returned (.slice A (List.length S) c) ∧ NAll Fm S ∧ S.Pairwise (fun a b => ¬ (b.1 < a.1 ∨ (b.1 = a.1 ∧ b.2 < a.2))) ∧ OwnNm w' w.heap.size A c S ∧ Below w.heap.size w w') := by
  have eg : ∀ args w, (callFunc 38 args).run Try.prog w = .ok (.enter 38 args) w := enters_of Try.func38 (by kernel_rfl) rfl
  have hc := callsIn_wide.1 (collect_in Fence.wide 3 trivial trivial rfl (Nat.le_refl _) _ _ trivial eg (NAll Fm) nn (by omega) w (keys_gives Bm b nn Fm w hBm hm h))
  have HC := Lib.hid hc
  have HL := Lib.hid hlen
  clear hc eg h hm hlen
  go_enter Try.func29, Try.ntmps29
  go_wp2_with (fail)
  refine HC.out.mono ?_
  rintro e w1 ⟨v, ss, rfl, hS, hrow, hb⟩
  obtain ⟨A, c, rfl⟩ := own_form2 hrow
  have HS := Lib.hid hS
  have HO : Hid (OwnNm w1 w.heap.size A c ss) := hrow
  have HB := Lib.hid hb
  have HLE : Hid (ss.length ≤ 1000000) := by have := HL.out ss hS; unfold Hid; omega
  clear hS hrow hb
  go_wp2_with (fail)
  refine (sort_nm w1 w.heap.size A c ss HLE.out HO.out).mono ?_
  rintro e w2 ⟨rfl, S, hp, hs, hl, ho, hk⟩
  have HP := Lib.hid hp
  have HSS := Lib.hid hs
  have HO2 := Lib.hid ho
  have HB2 := Lib.hid (Kp.below HB.out hk HB.out.size (fun b hb e => by omega))
  rw [← hl]
  clear hp hs hl ho hk
  go_wp2
  go_ret
  refine ⟨A, c, S, rfl, ⟨HP.out.nodup_iff.2 HS.out.1, fun x => by rw [HP.out.mem_iff]; exact HS.out.2 x⟩, HSS.out, HO2.out, HB2.out⟩
end Go.Proofs.Ytcbbkemfgnbcpaa
