/- Joined texts: Zn6. -/
import Derived.Test.YtfabgbmbnmbjkaaGreatDoorRam
import Derived.BigRegion
/- Pruned. -/
namespace Go.Proofs.YtfabgbmbnmbjkaaGreatDoor
open Go.RowKit
set_option maxRecDepth 20000
theorem part_info : (Tryz.prog.info? 127).map (fun i => (i.zero, i.size, i.bytes)) = some (some (.agg #[.slice none 0 0, .int .i64 0]), 2, 32) := by kernel_rfl
theorem run_make_parts (n : Nat) (h : n <= 65536) (w : World) : (Instr.makeSlice 128 (.int .i64 (n : Int)) (.int .i64 (n : Int))).run Tryz.prog w = .ok (.slice (some ⟨w.heap.size, 0, none⟩) n n) (w.alloc (.cells (madeCells #[.slice none 0 0, .int .i64 0] (n * 2)) 127)) := by
 obtain ⟨i, hi, hz, hs, hb⟩ := info_parts part_info
 have hr := run_make (P := Tryz.prog) w 128 127 i (.agg #[.slice none 0 0, .int .i64 0]) Tryz.underlying128 hi hz .i64 .i64 n n (by omega) (by omega) (by rw [hb]; omega) (by omega)
 simp only [Int.toNat_natCast] at hr
 rw [hr, hs]
 rfl
theorem made_get (x y : Value) (n i : Nat) (h : i < n) : (madeCells #[x, y] (n * 2))[i * 2]? = some x ∧ (madeCells #[x, y] (n * 2))[i * 2 + 1]? = some y := by
 have e1 : i * 2 < n * 2 := by omega
 have e2 : i * 2 + 1 < n * 2 := by omega
 unfold madeCells
 constructor
 · simp [e1]
 · simp [e2]
def DevNew (z zb bl rs : Int) (w : World) (e : Ending) (w' : World) : Prop :=
 (rightB z zb bl rs = true -> ∃ (d : Nat) (s : Sh), z = s.z ∧ zb = s.zb ∧ bl = s.bl ∧ rs = s.rs ∧ e = .returned (.pointer (some ⟨d, 0, none⟩)) ∧ w.heap.size <= d ∧ DevIs (fun b => b < w.heap.size) w' d s (List.replicate s.z pt0)) ∧ (rightB z zb bl rs = false -> e = .returned (.pointer none)) ∧ Below w.heap.size w w'
theorem znew_any (z zb bl rs : Int) (w : World) (hz : -9223372036854775808 <= z ∧ z <= 9223372036854775807) (hb : -9223372036854775808 <= bl ∧ bl <= 9223372036854775807) :
    Calls Tryz.prog 41 #[.agg #[.int .i64 z, .int .i64 zb, .int .i64 bl, .int .i64 rs]] w (DevNew z zb bl rs w) := by
 have HR := Lib.hid (fun w => right_any z zb bl rs w hz hb)
 cases hr : rightB z zb bl rs with
 | false =>
   have HF := Lib.hid hr
   rw [hr] at HR
   clear hr
   go_enter Tryz.func41, Tryz.ntmps41
   go_wp2_with (fail)
   refine (HR.out _).mono ?_
   rintro e w1 ⟨rfl, hb1⟩
   go_wp2
   go_ret
   exact ⟨fun ht => absurd (ht.symm.trans HF.out) (by decide), fun _ => rfl, ((Below.refl _ _).alloc (Nat.le_refl _) _).trans (hb1.mono (by simp))⟩
 | true =>
   have HT := Lib.hid hr
   obtain ⟨s, rfl, rfl, rfl, rfl, hok⟩ := sh_of hr
   have hz256 := hok.facts.2.1
   rw [hr] at HR
   have HOK := Lib.hid hok
   have hmk := run_make_parts s.z (by omega)
   clear hr hz hb hok
   go_enter Tryz.func41, Tryz.ntmps41
   go_wp2_with (fail)
   refine (HR.out _).mono ?_
   rintro e w1 ⟨rfl, hb1⟩
   have hblk := (Blk.new w 23 #[.int .i64 s.z, .int .i64 s.zb, .int .i64 s.bl, .int .i64 s.rs]).below hb1 (by simp)
   have c0 : w1.cell? ⟨w.heap.size, 0, none⟩ = some (.int .i64 s.z) := hblk.cell 0
   have c1 : w1.cell? ⟨w.heap.size, 1, none⟩ = some (.int .i64 s.zb) := hblk.cell 1
   have c2 : w1.cell? ⟨w.heap.size, 2, none⟩ = some (.int .i64 s.bl) := hblk.cell 2
   have c3 : w1.cell? ⟨w.heap.size, 3, none⟩ = some (.int .i64 s.rs) := hblk.cell 3
   have hs1 : w.heap.size < w1.heap.size := by have := hb1.size; simp at this; omega
   have hbw : Below w.heap.size w w1 := ((Below.refl _ _).alloc (Nat.le_refl _) _).trans (hb1.mono (by simp))
   have HBW := Lib.hid hbw
   clear hbw hb1 HR hblk
   go_wp2_with (fail)
   go_region
   all_goals
    clear c0 c1 c2 c3 hmk
    have hp := (Blk.new w1 127 (madeCells #[.slice none 0 0, .int .i64 0] (s.z * 2))).alloc (.cells #[.int .i64 s.z, .int .i64 s.zb, .int .i64 s.bl, .int .i64 s.rs, .slice (some ⟨w1.heap.size, 0, none⟩) s.z s.z] 130)
    have hd := Blk.new (w1.alloc (.cells (madeCells #[.slice none 0 0, .int .i64 0] (s.z * 2)) 127)) 130 #[.int .i64 s.z, .int .i64 s.zb, .int .i64 s.bl, .int .i64 s.rs, .slice (some ⟨w1.heap.size, 0, none⟩) s.z s.z]
    rw [World.size_alloc] at hd
    have hbl : Below w.heap.size w ((w1.alloc (.cells (madeCells #[.slice none 0 0, .int .i64 0] (s.z * 2)) 127)).alloc (.cells #[.int .i64 s.z, .int .i64 s.zb, .int .i64 s.bl, .int .i64 s.rs, .slice (some ⟨w1.heap.size, 0, none⟩) s.z s.z] 130)).drew := ((HBW.out.alloc (by omega) _).alloc (by simp; omega) _).drew
    have hp := hp.drew
    have hd := hd.drew
    generalize ((w1.alloc (.cells (madeCells #[.slice none 0 0, .int .i64 0] (s.z * 2)) 127)).alloc (.cells #[.int .i64 s.z, .int .i64 s.zb, .int .i64 s.bl, .int .i64 s.rs, .slice (some ⟨w1.heap.size, 0, none⟩) s.z s.z] 130)).drew = w2 at *
    have HPD := Lib.hid (And.intro hp (And.intro hd hbl))
    clear hp hd hbl
    go_wp2
    go_ret
    obtain ⟨hp, hd, hbl⟩ := HPD.out
    have hg : ∀ i, (List.replicate s.z pt0).getD i pt0 = pt0 := fun i => by
     rw [List.getD_eq_getElem?_getD, List.getElem?_replicate]
     split <;> rfl
    refine ⟨fun _ => ⟨w1.heap.size + 1, s, rfl, rfl, rfl, rfl, rfl, by omega, w1.heap.size, fun _ => .slice none 0 0, madeCells #[.slice none 0 0, .int .i64 0] (s.z * 2), ?_⟩, fun hf => absurd (hf.symm.trans HT.out) (by decide), hbl⟩
    refine ⟨by simpa using hd, hp, by rw [size_madeCells]; simp, fun i hi => (made_get _ _ _ _ (by simpa using hi)).1, fun i hi => ?_, fun i hi => ?_, fun i hi b e => (by cases e), fun i j hi hj hij b e => (by cases e), (by omega), (by omega), fun b hx => Nat.lt_of_lt_of_le hx hbl.size, by simp, HOK.out, fun i hi => ?_⟩
    · rw [hg]; exact (made_get _ _ _ _ (by simpa using hi)).2
    · rw [hg]; exact World.ownsRow_nil _ _ _ _
    · rw [hg]; exact PartOk.zero s
end Go.Proofs.YtfabgbmbnmbjkaaGreatDoor

