/- Two lists of places that are the same; all places of the reference. -/
import Derived.Test.YtcbbkemfgnbcpaaPr
namespace Go.Proofs.Ytcbbkemfgnbcpaa
open Go.RowKit

/-- A list of places stands in a row. -/
def RowAt (w : World) (A : Option Addr) (L : List Pl) : Prop := 0 < L.length → ∃ r, A = some ⟨r, 0, none⟩ ∧ PlRow w r L
/-- A slice that owns its places. -/
def OwnPl (w : World) (base : Nat) (A : Option Addr) (c : Nat) (L : List Pl) : Prop := w.ownsRow base 33 4 (.slice A L.length c) L.length (plCs L)
theorem OwnPl.row {w : World} {base c : Nat} {A : Option Addr} {L : List Pl} (h : OwnPl w base A c L) : RowAt w A L := fun hn => by
  obtain ⟨b, ex, rfl, _, hr⟩ := own_blk h hn
  exact ⟨b, rfl, plrow_of hr⟩
theorem OwnPl.below {w w' : World} {base c : Nat} {A : Option Addr} {L : List Pl} (h : OwnPl w base A c L) (hb : Below w.heap.size w w') : OwnPl w' base A c L :=
  World.ownsRow.kept (row := none) h ⟨hb.os, hb.tape, hb.output, hb.size, fun i hi _ => hb.block i hi⟩ (by cases (Value.slice A L.length c).ownBlock <;> simp)

set_option maxRecDepth 20000 in
theorem same_any (w : World) (A1 A2 : Option Addr) (c1 c2 : Nat) (L : List Pl) (hl : L.length ≤ 1000000) (h1 : RowAt w A1 L) (h2 : RowAt w A2 L) :
    Calls Try.prog 19 #[.slice A1 L.length c1, .slice A2 L.length c2] w (fun e w' => e = .returned (.bool true) ∧ ∃ n, w' = w.drewN n) := by
  have H1 := Lib.hid h1
  have H2 := Lib.hid h2
  clear h1 h2
  go_enter Try.func19, Try.ntmps19
  go_wp2_with (fail)
  go_loopw [5] (fun i wr => ∃ k n : Nat, k ≤ L.length ∧ i = .int .i64 k ∧ wr = w.drewN n) (fun i _ => L.length - (intOf i).toNat)
  case atStart => exact ⟨0, 0, Nat.zero_le _, rfl, rfl⟩
  case round =>
    obtain ⟨k, n, hk, rfl, rfl⟩ := hrel
    by_cases hlt : k < L.length
    · obtain ⟨r1, rfl, p1⟩ := H1.out (by omega)
      obtain ⟨r2, rfl, p2⟩ := H2.out (by omega)
      have a0 : (w.drewN n).cell? ⟨r1, k * 4, none⟩ = some (.int .u32 (L.getD k p0).t) := p1.c0 k hlt
      have a1 : (w.drewN n).cell? ⟨r1, k * 4 + 1, none⟩ = some (.int .u64 (L.getD k p0).b) := p1.c1 k hlt
      have a2 : (w.drewN n).cell? ⟨r1, k * 4 + 2, none⟩ = some (.int .i64 (L.getD k p0).z) := p1.c2 k hlt
      have a3 : (w.drewN n).cell? ⟨r1, k * 4 + 3, none⟩ = some (.int .i64 (L.getD k p0).k) := p1.c3 k hlt
      have b0 : (w.drewN n).cell? ⟨r2, k * 4, none⟩ = some (.int .u32 (L.getD k p0).t) := p2.c0 k hlt
      have b1 : (w.drewN n).cell? ⟨r2, k * 4 + 1, none⟩ = some (.int .u64 (L.getD k p0).b) := p2.c1 k hlt
      have b2 : (w.drewN n).cell? ⟨r2, k * 4 + 2, none⟩ = some (.int .i64 (L.getD k p0).z) := p2.c2 k hlt
      have b3 : (w.drewN n).cell? ⟨r2, k * 4 + 3, none⟩ = some (.int .i64 (L.getD k p0).k) := p2.c3 k hlt
      clear p1 p2
      generalize L.getD k p0 = x at *
      generalize hu : w.drewN n = u at *
      go_wp2_with (fail)
      go_quiet (fail)
      have HU := Lib.hid hu
      clear hu a0 a1 a2 a3 b0 b1 b2 b3
      go_wp2
      go_round
      case rel => exact ⟨k + 1, n + nq, hlt, by go_num, by rw [← HU.out]; simp⟩
      case measure => simp [intOf]; omega
    · go_wp2
      go_ret
      exact ⟨rfl, n, rfl⟩

theorem rall_any (w : World) (g : Nat) (M : List Pl) (hl : M.length ≤ 1000000) (h : RM w g M) :
    Calls Try.prog 20 #[.pointer (some ⟨g, 0, none⟩)] w (fun e w' => ∃ A c, e = .returned (.slice A M.length c) ∧ OwnPl w' w.heap.size A c M ∧ Below w.heap.size w w') := by
  obtain ⟨A, c, hb, ho⟩ := h
  have hc : w.cell? ⟨g, 0, none⟩ = some (.slice A M.length c) := hb.cell 0
  have HO := Lib.hid ho
  obtain ⟨i0, hi0, hz0, hz1, hz2⟩ := info_parts pl_info
  clear hb ho
  go_enter Try.func20, Try.ntmps20
  go_wp2_with (first
    | (at_builtin
       refine wpList_append_any w rfl (.tmp 4) (.tmp 8) _ rfl w.heap.size 33 i0 _ 4 32 Try.underlying46 hi0 hz0 hz1 hz2 rfl (by omega) (.slice none 0 0) 0 [] rfl ⟨rfl, .inl ⟨rfl, rfl⟩⟩ _ A M.length c (plCs M) rfl (Reads.of_own HO.out) (plCs_one M) (by simp only [maxLen]; omega) (by omega) (Nat.le_refl _) ?_
       intro v2 w2 hown2 hg2 _
       obtain ⟨A2, c2, rfl⟩ := own_form hown2
       have HO2 := Lib.hid hown2
       have HB2 := Lib.hid ((Below.refl w.heap.size w).grown hg2 (Nat.le_refl _) (fun g hg => by simp [Value.ownBlock] at hg))
       clear hown2 hg2))
  go_ret
  refine ⟨A2, c2, by simp, ?_, HB2.out⟩
  have := HO2.out
  simpa [OwnPl] using this
end Go.Proofs.Ytcbbkemfgnbcpaa
