/- Contracts of package lmap: At, forget. -/
import Derived.Test.YtcbbkemfgnbcpaaLn
import Derived.BigRegion
namespace Go.Proofs.Ytcbbkemfgnbcpaa
open Go.RowKit

def plV (p : Pl) : Value := .agg #[.int .u32 p.t, .int .u64 p.b, .int .i64 p.z, .int .i64 p.k]
/-- What At tells. -/
def inPl (L : List Pl) (a : Int × Int) : Pl := match inAt L a with | some n => ⟨n.1, n.2, a.1, a.2⟩ | none => ⟨0, 0, 0, 0⟩

theorem blk_set4 {w : World} {g : Nat} {t : TypeId} {a0 a1 a2 a3 : Value} (h : Blk w g t #[a0, a1, a2, a3]) (c0 c1 c2 c3 : Value) :
    Blk ((((w.setCell ⟨g, 0, none⟩ c0).setCell ⟨g, 1, none⟩ c1).setCell ⟨g, 2, none⟩ c2).setCell ⟨g, 3, none⟩ c3) g t #[c0, c1, c2, c3] := by
  have := (((h.set_ 0 c0).set_ 1 c1).set_ 2 c2).set_ 3 c3
  simpa using this
theorem kp_set4 {S : Nat → Prop} {w0 w : World} {g : Nat} (h : Kp S w0 w) (hg : S g ∨ w0.heap.size ≤ g) (c0 c1 c2 c3 : Value) :
    Kp S w0 ((((w.setCell ⟨g, 0, none⟩ c0).setCell ⟨g, 1, none⟩ c1).setCell ⟨g, 2, none⟩ c2).setCell ⟨g, 3, none⟩ c3) :=
  (((h.setCell (p := ⟨g, 0, none⟩) hg _).setCell (p := ⟨g, 1, none⟩) hg _).setCell (p := ⟨g, 2, none⟩) hg _).setCell (p := ⟨g, 3, none⟩) hg _
theorem kp_none {w w' : World} (h : Kp (fun _ => False) w w') : Below w.heap.size w w' := Kp.below (Below.refl w.heap.size w) h (Nat.le_refl _) (fun _ _ h => h)

theorem lat_any (w : World) (f : LFp) (n : Nat) (L : List Pl) (a : Int × Int) (ha : AddrOk a) (h : LM w f n L) : Calls Try.prog 16 #[.pointer (some ⟨f.g, 0, none⟩), .agg #[.int .i64 a.1, .int .i64 a.2]] w
    (Makes (.tuple #[plV (inPl L a), .bool (inAt L a).isSome]) w) := by
  obtain ⟨m, is, hm, hv⟩ : ∃ (m : Int × Int) (is : Bool), (∀ u, Kp (fun _ => False) w u → (Instr.lookup 55 (.map (some f.b2)) (.agg #[.int .i64 a.1, .int .i64 a.2]) true).run Try.prog u = .ok (.tuple #[.agg #[.int .u32 m.1, .int .u64 m.2], .bool is]) u) ∧
      plV (inPl L a) = (if is then .agg #[.int .u32 m.1, .int .u64 m.2, .int .i64 a.1, .int .i64 a.2] else .agg #[.int .u32 0, .int .u64 0, .int .i64 0, .int .i64 0]) ∧ (inAt L a).isSome = is := by
    refine ⟨(inAt L a).getD (0, 0), (inAt L a).isSome, fun u hu => ?_, ?_⟩
    · have := (h.what.kp hu (fun e => e)).look (t := 55) (e := 62) Try.underlying55 (z := nameV (0, 0)) (by kernel_rfl) (a := a) ha true
      refine this.trans ?_
      cases inAt L a <;> rfl
    · unfold inPl
      cases inAt L a <;> exact ⟨rfl, rfl⟩
  have hg := h.blk.lt
  have h1 : w.cell? ⟨f.g, 1, none⟩ = some (.map (some f.b2)) := h.blk.cell 1
  rw [hv.1, hv.2]
  obtain ⟨V, hV⟩ : ∃ V : Value, V = (if is then .agg #[.int .u32 m.1, .int .u64 m.2, .int .i64 a.1, .int .i64 a.2] else .agg #[.int .u32 0, .int .u64 0, .int .i64 0, .int .i64 0]) := ⟨_, rfl⟩
  rw [← hV]
  have HV := Lib.hid hV
  clear hv h hV
  have HP : Hid (∀ w, Calls Try.prog 28 #[.agg #[.int .u32 m.1, .int .u64 m.2], .agg #[.int .i64 a.1, .int .i64 a.2]] w (Makes (.agg #[.int .u32 m.1, .int .u64 m.2, .int .i64 a.1, .int .i64 a.2]) w)) := fun w => place_any w m a
  have HM := Lib.hid hm
  clear hm
  go_enter Try.func16, Try.ntmps16
  go_wp2_with (fail)
  have hk := ((Kp.refl (fun _ => False) w).alloc (.cells #[.int .i64 a.1, .int .i64 a.2] 31)).alloc (.cells #[.int .u32 0, .int .u64 0, .int .i64 0, .int .i64 0] 33)
  have b1 := (Blk.new w 31 #[.int .i64 a.1, .int .i64 a.2]).alloc (.cells #[.int .u32 0, .int .u64 0, .int .i64 0, .int .i64 0] 33)
  have b2 := Blk.new (w.alloc (.cells #[.int .i64 a.1, .int .i64 a.2] 31)) 33 #[.int .u32 0, .int .u64 0, .int .i64 0, .int .i64 0]
  have hc1 := hk.cell h1 (fun e => e)
  rw [World.size_alloc] at b2
  have hsz : ((w.alloc (.cells #[.int .i64 a.1, .int .i64 a.2] 31)).alloc (.cells #[.int .u32 0, .int .u64 0, .int .i64 0, .int .i64 0] 33)).heap.size = w.heap.size + 2 := by simp
  generalize (w.alloc (.cells #[.int .i64 a.1, .int .i64 a.2] 31)).alloc (.cells #[.int .u32 0, .int .u64 0, .int .i64 0, .int .i64 0] 33) = w1 at *
  have hd0 : w1.cell? ⟨w.heap.size, 0, none⟩ = some (.int .i64 a.1) := b1.cell 0
  have hd1 : w1.cell? ⟨w.heap.size, 1, none⟩ = some (.int .i64 a.2) := b1.cell 1
  have e1 := HM.out _ (hk.drewN 1)
  have e2 := HM.out _ ((hk.alloc (.cells #[.int .u32 0, .int .u64 0] 62)).drewN 1)
  simp only [← World.drew_is_drewN] at e1 e2
  have hg1 : f.g < w1.heap.size := by omega
  have hg2 : w.heap.size < w1.heap.size := by omega
  have HB1 := Lib.hid b1
  have HB2 := Lib.hid b2
  have HK := Lib.hid hk
  have HZ := Lib.hid hsz
  clear b1 b2 hk hsz
  go_region
  all_goals
    clear e1 e2 hc1 hd0 hd1
    have b1 := (HB1.out.alloc (.cells #[.int .u32 m.1, .int .u64 m.2] 62)).drew
    have b2 := (HB2.out.alloc (.cells #[.int .u32 m.1, .int .u64 m.2] 62)).drew
    have b3 := (Blk.new w1 62 #[.int .u32 m.1, .int .u64 m.2]).drew
    have hk : Kp (fun _ => False) w (w1.alloc (.cells #[.int .u32 m.1, .int .u64 m.2] 62)).drew := (HK.out.alloc _).drewN 1
    have hz := HZ.out
    rw [hz] at b3 ⊢
    clear hz
    generalize (w1.alloc (.cells #[.int .u32 m.1, .int .u64 m.2] 62)).drew = w2 at *
    have hf : ∀ i, w2.frozen? ⟨w.heap.size + 1, i, none⟩ = false := fun i => b2.frozen i
    have hd0 : w2.cell? ⟨w.heap.size + 1, 0, none⟩ = some (.int .u32 0) := b2.cell 0
    have hd1 : w2.cell? ⟨w.heap.size + 1, 1, none⟩ = some (.int .u64 0) := b2.cell 1
    have hd2 : w2.cell? ⟨w.heap.size + 1, 2, none⟩ = some (.int .i64 0) := b2.cell 2
    have hd3 : w2.cell? ⟨w.heap.size + 1, 3, none⟩ = some (.int .i64 0) := b2.cell 3
    have HK2 := Lib.hid hk
    have HB2' := Lib.hid b2
    clear HK HB1 HB2 hk b2 hg1 hg2 HZ HM hg
    cases is with
    | false =>
      clear b1 b3
      go_wp2
      have b4 := blk_set4 HB2'.out (.int .u32 0) (.int .u64 0) (.int .i64 0) (.int .i64 0)
      have k4 := kp_set4 HK2.out (.inr (Nat.le_succ w.heap.size)) (.int .u32 0) (.int .u64 0) (.int .i64 0) (.int .i64 0)
      clear hf hd0 hd1 hd2 hd3 HK2 HB2'
      generalize World.setCell _ ⟨w.heap.size + 1, 3, none⟩ _ = w3 at *
      have c0 : w3.cell? ⟨w.heap.size + 1, 0, none⟩ = some (.int .u32 0) := b4.cell 0
      have c1 : w3.cell? ⟨w.heap.size + 1, 1, none⟩ = some (.int .u64 0) := b4.cell 1
      have c2 : w3.cell? ⟨w.heap.size + 1, 2, none⟩ = some (.int .i64 0) := b4.cell 2
      have c3 : w3.cell? ⟨w.heap.size + 1, 3, none⟩ = some (.int .i64 0) := b4.cell 3
      refine bodyPost_ret (v := .tuple #[.agg #[.int .u32 0, .int .u64 0, .int .i64 0, .int .i64 0], .bool false]) (by simp [results, Try.results16, go_sem, c0, c1, c2, c3]) rfl ?_
      exact ⟨by rw [HV.out]; rfl, kp_none k4⟩
    | true =>
      have hn0 : w2.cell? ⟨w.heap.size + 2, 0, none⟩ = some (.int .u32 m.1) := b3.cell 0
      have hn1 : w2.cell? ⟨w.heap.size + 2, 1, none⟩ = some (.int .u64 m.2) := b3.cell 1
      have ha0 : w2.cell? ⟨w.heap.size, 0, none⟩ = some (.int .i64 a.1) := b1.cell 0
      have ha1 : w2.cell? ⟨w.heap.size, 1, none⟩ = some (.int .i64 a.2) := b1.cell 1
      clear b1 b3
      go_wp2_with (fail)
      refine (HP.out _).mono ?_
      rintro e w3 ⟨rfl, hb3⟩
      have k3 := HK2.out.trans (Kp.of_below (S := fun _ => False) hb3) (fun _ _ h => h)
      have b3 := HB2'.out.below hb3 HB2'.out.lt
      clear hf hd0 hd1 hd2 hd3 HK2 HB2' hb3 hn0 hn1 ha0 ha1
      have hf : ∀ i, w3.frozen? ⟨w.heap.size + 1, i, none⟩ = false := fun i => b3.frozen i
      have hd0 : w3.cell? ⟨w.heap.size + 1, 0, none⟩ = some (.int .u32 0) := b3.cell 0
      have hd1 : w3.cell? ⟨w.heap.size + 1, 1, none⟩ = some (.int .u64 0) := b3.cell 1
      have hd2 : w3.cell? ⟨w.heap.size + 1, 2, none⟩ = some (.int .i64 0) := b3.cell 2
      have hd3 : w3.cell? ⟨w.heap.size + 1, 3, none⟩ = some (.int .i64 0) := b3.cell 3
      have B3 := Lib.hid b3
      have K3 := Lib.hid k3
      clear b3 k3
      go_wp2
      have b4 := blk_set4 B3.out (.int .u32 m.1) (.int .u64 m.2) (.int .i64 a.1) (.int .i64 a.2)
      have k4 := kp_set4 K3.out (.inr (Nat.le_succ w.heap.size)) (.int .u32 m.1) (.int .u64 m.2) (.int .i64 a.1) (.int .i64 a.2)
      clear hf hd0 hd1 hd2 hd3 B3 K3
      generalize World.setCell _ ⟨w.heap.size + 1, 3, none⟩ _ = w4 at *
      have c0 : w4.cell? ⟨w.heap.size + 1, 0, none⟩ = some (.int .u32 m.1) := b4.cell 0
      have c1 : w4.cell? ⟨w.heap.size + 1, 1, none⟩ = some (.int .u64 m.2) := b4.cell 1
      have c2 : w4.cell? ⟨w.heap.size + 1, 2, none⟩ = some (.int .i64 a.1) := b4.cell 2
      have c3 : w4.cell? ⟨w.heap.size + 1, 3, none⟩ = some (.int .i64 a.2) := b4.cell 3
      refine bodyPost_ret (v := .tuple #[.agg #[.int .u32 m.1, .int .u64 m.2, .int .i64 a.1, .int .i64 a.2], .bool true]) (by simp [results, Try.results16, go_sem, c0, c1, c2, c3]) rfl ?_
      exact ⟨by rw [HV.out]; rfl, kp_none k4⟩
end Go.Proofs.Ytcbbkemfgnbcpaa
