/- Contracts of the reference's map: Drop. -/
import Derived.Test.YtcbbkemfgnbcpaaRm2
namespace Go.Proofs.Ytcbbkemfgnbcpaa
open Go.RowKit

theorem cut_take_succ (L : List Pl) (m : Int × Int) (k : Nat) (h : k < L.length) : cut (L.take (k + 1)) m = if (L.getD k p0).n = m then cut (L.take k) m else cut (L.take k) m ++ [L.getD k p0] := by
  unfold cut
  rw [List.take_succ_eq_append_getElem h, List.filter_append]
  have : L.getD k p0 = L[k] := by simp [List.getD_eq_getElem?_getD, h]
  rw [this]
  by_cases e : L[k].n = m <;> simp [e]
theorem cut_take_length (L : List Pl) (m : Int × Int) (k : Nat) : (cut (L.take k) m).length ≤ k := Nat.le_trans (cut_length _ _) (by simp; omega)

theorem drop_end {w1 w' : World} {L O : List Pl} {m : Int × Int} {k n s c : Nat} {A : Option Addr} (hlt : k < L.length) (hT : cut (L.take (k + 1)) m = O) (hn : n = O.length) (ho : w'.ownsRow s 33 4 (.slice A O.length c) O.length (plCs O)) (hb : Below s w1 w') :
    (∃ (k1 : Nat) (A2 : Option Addr) (c2 : Nat), k1 ≤ L.length ∧ Value.slice A n c = .slice A2 (cut (L.take k1) m).length c2 ∧ Value.int .i64 ((k : Int) + 1) = .int .i64 (k1 : Nat) ∧
      Hid (w'.ownsRow s 33 4 (.slice A2 (cut (L.take k1) m).length c2) (cut (L.take k1) m).length (plCs (cut (L.take k1) m))) ∧ Hid (Below s w1 w')) ∧
    L.length - (intOf (.int .i64 ((k : Int) + 1))).toNat < L.length - (intOf (.int .i64 (k : Int))).toNat := by
  refine ⟨⟨k + 1, A, c, hlt, ?_, ?_, ?_, hb⟩, ?_⟩
  · rw [hT, hn]
  · simp
  · rw [hT]; exact ho
  · simp [intOf]; omega

set_option maxRecDepth 20000 in
set_option maxHeartbeats 8000000 in
theorem rdrop_any (w : World) (g : Nat) (L : List Pl) (mt mb : Int) (hl : L.length ≤ 1000000) (h : RM w g L) :
    Calls Try.prog 25 #[.pointer (some ⟨g, 0, none⟩), .int .u32 mt, .int .u64 mb] w
      (fun e w' => e = .returned (.bool (decide ((cut L (mt, mb)).length < L.length))) ∧ RM w' g (cut L (mt, mb)) ∧ Kp (fun i => i = g) w w') := by
  obtain ⟨A, c, hb, ho⟩ := h
  have hc := hb.cell 0
  have HB1 := Lib.hid hb
  have HO1 := Lib.hid ho
  have HLT := Lib.hid hb.lt
  clear hb ho
  go_enter Try.func25, Try.ntmps25
  go_wp2_with (fail)
  clear hc
  go_loopw [7, 8] (fun o i wr => ∃ (k : Nat) (A2 : Option Addr) (c2 : Nat), k ≤ L.length ∧ o = .slice A2 (cut (L.take k) (mt, mb)).length c2 ∧ i = .int .i64 k ∧
    Hid (wr.ownsRow w.heap.size 33 4 (.slice A2 (cut (L.take k) (mt, mb)).length c2) (cut (L.take k) (mt, mb)).length (plCs (cut (L.take k) (mt, mb)))) ∧ Hid (Below w.heap.size w wr)) (fun _ i _ => L.length - (intOf i).toNat)
  case atStart => exact ⟨0, none, 0, Nat.zero_le _, rfl, rfl, (show _ from ⟨rfl, .inl ⟨rfl, rfl⟩⟩), (show Hid _ from Below.refl _ _)⟩
  case round =>
    obtain ⟨k, A2, c2, hk, rfl, rfl, hown, hbl⟩ := hrel
    have HK := Lib.hid hk
    have hc : wr.cell? ⟨g, 0, none⟩ = some (.slice A L.length c) := (HB1.out.below hbl.out HLT.out).cell 0
    have HE := Lib.hid (cut_take_length L (mt, mb) k)
    have HBASE : Hid (w.heap.size ≤ wr.heap.size) := hbl.out.size
    by_cases hlt : k < L.length
    · have HT := Lib.hid (cut_take_succ L (mt, mb) k hlt)
      generalize cut (L.take k) (mt, mb) = O at *
      have HLEN : Hid (O.length ≤ 2000000) := by have h1 := HE.out; unfold Hid; omega
      obtain ⟨r, ex, rfl, hr⟩ : ∃ r ex, A = some ⟨r, 0, none⟩ ∧ Hid (Blk wr r 33 (plCs L ++ ex).toArray) := by
        obtain ⟨r, ex, e, _, hr⟩ := own_blk HO1.out (by omega)
        exact ⟨r, ex, e, hr.below hbl.out hr.lt⟩
      have hrow := plrow_of hr.out
      have hx0 := hrow.c0 k hlt
      have hx1 := hrow.c1 k hlt
      have hx2 := hrow.c2 k hlt
      have hx3 := hrow.c3 k hlt
      clear hrow hr
      generalize hx : L.getD k p0 = x at *
      clear hx
      obtain ⟨xt, xb, xz, xk⟩ := x
      simp only at hx0 hx1 hx2 hx3
      have hcase : (xt = mt ∧ xb = mb) ∨ (xt = mt ∧ ¬ xb = mb) ∨ ¬ xt = mt := by
        by_cases h1 : xt = mt <;> by_cases h2 : xb = mb <;> simp [h1, h2]
      rcases hcase with ⟨rfl, rfl⟩ | ⟨rfl, hxb⟩ | hxt
      · go_wp2_with (fail)
        exact drop_end hlt (HT.out.trans (if_pos rfl)) rfl hown.out hbl.out
      · have HN : Hid (¬ (⟨xt, xb, xz, xk⟩ : Pl).n = (xt, mb)) := by simp [Hid, Pl.n, hxb]
        go_wp2_with (first
          | (at_builtin
             refine wpList_append_pl _ rfl (.tmp 41) (.tmp 49) rfl O ⟨xt, xb, xz, xk⟩ hown.out rfl rfl rfl HLEN.out HBASE.out ?_
             intro A4 c4 w4 ho4 hk4 ha4
             have HB4 := Lib.hid (Kp.below hbl.out hk4 HBASE.out (fun b hb e => by have := (hown.out.lt b e).1; omega))
             have HO4 := Lib.hid ho4
             clear ho4 hk4 ha4))
        exact drop_end hlt (HT.out.trans (if_neg HN.out)) (by simp) HO4.out HB4.out
      · have HN : Hid (¬ (⟨xt, xb, xz, xk⟩ : Pl).n = (mt, mb)) := by simp [Hid, Pl.n, hxt]
        go_wp2_with (first
          | (at_builtin
             refine wpList_append_pl _ rfl (.tmp 41) (.tmp 49) rfl O ⟨xt, xb, xz, xk⟩ hown.out rfl rfl rfl HLEN.out HBASE.out ?_
             intro A4 c4 w4 ho4 hk4 ha4
             have HB4 := Lib.hid (Kp.below hbl.out hk4 HBASE.out (fun b hb e => by have := (hown.out.lt b e).1; omega))
             have HO4 := Lib.hid ho4
             clear ho4 hk4 ha4))
        exact drop_end hlt (HT.out.trans (if_neg HN.out)) (by simp) HO4.out HB4.out
    · have hkl : k = L.length := by omega
      subst hkl
      have hT : cut (L.take L.length) (mt, mb) = cut L (mt, mb) := by rw [List.take_length]
      have HLL := Lib.hid hl
      rw [hT] at hown ⊢
      have hfr : wr.frozen? ⟨g, 0, none⟩ = false := (HB1.out.below hbl.out HLT.out).frozen 0
      obtain ⟨O, hO⟩ : ∃ O, cut L (mt, mb) = O := ⟨_, rfl⟩
      rw [hO] at hown ⊢
      have HOE := Lib.hid hO
      clear hT hO HE
      go_wp2
      go_ret
      rw [HOE.out]
      refine ⟨ret_bool (by simp), ⟨A2, c2, ?_, ?_⟩, ?_⟩
      · have := (HB1.out.below hbl.out HLT.out).set_ 0 (.slice A2 O.length c2)
        simpa using this
      · exact own_zero (ownsRow_setCell_other (a := ⟨g, 0, none⟩) hown.out (fun e => by have h1 : w.heap.size ≤ g := (hown.out.lt _ e).1; have := HLT.out; omega) _)
      · exact ((Kp.refl (fun i => i = g) w).then_below hbl.out (Nat.le_refl _)).setCell (.inl rfl) _
end Go.Proofs.Ytcbbkemfgnbcpaa
