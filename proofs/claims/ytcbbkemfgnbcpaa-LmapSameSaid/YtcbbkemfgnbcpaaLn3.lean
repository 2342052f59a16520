/- Contracts of package lmap: forget. -/
import Derived.Test.YtcbbkemfgnbcpaaLn2
import Derived.StillTailTactics
namespace Go.Proofs.Ytcbbkemfgnbcpaa
open Go.RowKit

theorem kp_undrew {S : Nat → Prop} {w w' : World} (h : Kp S w.drew w') : Kp S w w' := ⟨h.os, h.tape, h.output, h.size, h.block⟩

/-- What forgetting a block brings about. -/
def Forgot (f : LFp) (n : Nat) (L : List Pl) (m : Int × Int) (w : World) (e : Ending) (w' : World) : Prop :=
  e = .returned (.bool (atOf L m).isSome) ∧ LM w' f (n + 1) (cut L m) ∧ Kp f.T w w'

set_option maxRecDepth 4000 in
theorem forget_any (w : World) (f : LFp) (n : Nat) (L : List Pl) (m : Int × Int) (hm : NameOk m) (h : LM w f n L) (hn : n < maxLen) :
    Calls Try.prog 27 #[.pointer (some ⟨f.g, 0, none⟩), .agg #[.int .u32 m.1, .int .u64 m.2]] w (Forgot f n L m w) := by
  obtain ⟨a, is, hl, hv⟩ : ∃ (a : Int × Int) (is : Bool), (∀ u, Kp (fun _ => False) w u → (Instr.lookup 54 (.map (some f.b1)) (.agg #[.int .u32 m.1, .int .u64 m.2]) true).run Try.prog u = .ok (.tuple #[.agg #[.int .i64 a.1, .int .i64 a.2], .bool is]) u) ∧
      atOf L m = (if is then some a else none) := by
    refine ⟨(atOf L m).getD (0, 0), (atOf L m).isSome, fun u hu => ?_, ?_⟩
    · have := (h.where_.kp hu (fun e => e)).look (t := 54) (e := 31) Try.underlying54 (z := addrV (0, 0)) (by kernel_rfl) (a := m) hm true
      refine this.trans ?_
      cases atOf L m <;> rfl
    · cases atOf L m <;> rfl
  have hg := h.blk.lt
  have h0 : w.cell? ⟨f.g, 0, none⟩ = some (.map (some f.b1)) := h.blk.cell 0
  have HM := Lib.hid hl
  have HL := Lib.hid h
  have HV := Lib.hid hv
  have HO := Lib.hid hm
  clear hl h hv hm
  go_enter Try.func27, Try.ntmps27
  go_wp2_with (fail)
  have hk := (Kp.refl (fun _ => False) w).alloc (.cells #[.int .u32 m.1, .int .u64 m.2] 62)
  have b1 := Blk.new w 62 #[.int .u32 m.1, .int .u64 m.2]
  have hc0 := hk.cell h0 (fun e => e)
  have hsz : (w.alloc (.cells #[.int .u32 m.1, .int .u64 m.2] 62)).heap.size = w.heap.size + 1 := by simp
  generalize w.alloc (.cells #[.int .u32 m.1, .int .u64 m.2] 62) = w1 at *
  have hd0 : w1.cell? ⟨w.heap.size, 0, none⟩ = some (.int .u32 m.1) := b1.cell 0
  have hd1 : w1.cell? ⟨w.heap.size, 1, none⟩ = some (.int .u64 m.2) := b1.cell 1
  have e1 := HM.out _ (hk.drewN 1)
  have e2 := HM.out _ ((hk.alloc (.cells #[.int .i64 0, .int .i64 0] 31)).drewN 1)
  simp only [← World.drew_is_drewN] at e1 e2
  have hg1 : f.g < w1.heap.size := by omega
  have hg2 : w.heap.size < w1.heap.size := by omega
  have HB1 := Lib.hid b1
  have HK := Lib.hid hk
  have HZ := Lib.hid hsz
  clear b1 hk hsz HM
  go_region
  all_goals
    clear e1 e2 hc0 hd0 hd1
    have b1 := (HB1.out.alloc (.cells #[.int .i64 a.1, .int .i64 a.2] 31)).drew
    have b3 := (Blk.new w1 31 #[.int .i64 a.1, .int .i64 a.2]).drew
    have hk : Kp (fun _ => False) w (w1.alloc (.cells #[.int .i64 a.1, .int .i64 a.2] 31)).drew := (HK.out.alloc _).drewN 1
    have hz := HZ.out
    rw [hz] at b3 ⊢
    clear hz
    generalize (w1.alloc (.cells #[.int .i64 a.1, .int .i64 a.2] 31)).drew = w2 at *
    have hlm := HL.out.below (kp_none hk)
    have HK2 := Lib.hid hk
    clear HK HB1 hk hg1 hg2 HZ hg h0
    cases is with
    | false =>
      clear b1 b3
      have HLM := Lib.hid hlm
      clear hlm
      go_wp2
      go_ret
      have hv := HV.out
      exact ⟨by rw [hv]; rfl, by rw [cut_none hv]; exact HLM.out.mono (Nat.le_succ _), HK2.out.mono (fun _ _ h => absurd h (fun e => e))⟩
    | true =>
      have hv := HV.out
      rw [if_pos rfl] at hv
      have hok := HL.out.atOk hv
      have c0 : w2.cell? ⟨f.g, 0, none⟩ = some (.map (some f.b1)) := hlm.blk.cell 0
      have c1 : w2.cell? ⟨f.g, 1, none⟩ = some (.map (some f.b2)) := hlm.blk.cell 1
      have c2 : w2.cell? ⟨f.g, 2, none⟩ = some (.map (some f.b3)) := hlm.blk.cell 2
      have d0 : w2.cell? ⟨w.heap.size, 0, none⟩ = some (.int .u32 m.1) := b1.cell 0
      have d1 : w2.cell? ⟨w.heap.size, 1, none⟩ = some (.int .u64 m.2) := b1.cell 1
      have a0 : w2.cell? ⟨w.heap.size + 1, 0, none⟩ = some (.int .i64 a.1) := b3.cell 0
      have a1 : w2.cell? ⟨w.heap.size + 1, 1, none⟩ = some (.int .i64 a.2) := b3.cell 1
      have HLM := Lib.hid hlm
      have B1 := Lib.hid b1
      have B3 := Lib.hid b3
      have HV1 := Lib.hid hv
      have HOK := Lib.hid hok
      have lt0 := Lib.hid (HL.out.lt (.inl rfl))
      have lt1 := Lib.hid (HL.out.lt (.inr (.inl rfl)))
      have lt2 := Lib.hid (HL.out.lt (.inr (.inr (.inl rfl))))
      have lt3 := Lib.hid (HL.out.lt (.inr (.inr (.inr rfl))))
      clear hlm b1 b3 hv hok
      go_wp2_with (fail)
      go_still_tail 5, (by kernel_rfl)
      change wpList _ _ _ _ _ w2.drew
      refine wpList_mapF_drop rfl _ _ _ 31 rfl HLM.out.where_.drew Try.underlying54 m HO.out (atOf (cut L m)) atOf_cut_same (fun c hc => atOf_cut_other HLM.out.uniq hc) rfl rfl ?_
      intro w3 hm3 hk3
      have hk3 := kp_undrew hk3
      have t3 : Kp f.T w2 w3 := hk3.mono (fun _ _ e => .inl e)
      have ne := HLM.out.ne
      have hlt0 := lt0.out
      have hlt1 := lt1.out
      have hlt2 := lt2.out
      have hlt3 := lt3.out
      have ng : ¬ f.T f.g := by unfold LFp.T; omega
      have n0 : ¬ f.T w.heap.size := by unfold LFp.T; omega
      have n1 : ¬ f.T (w.heap.size + 1) := by unfold LFp.T; omega
      have c1' := t3.cell c1 ng
      have c2' := t3.cell c2 ng
      have d0' := t3.cell d0 n0
      have d1' := t3.cell d1 n0
      have a0' := t3.cell a0 n1
      have a1' := t3.cell a1 n1
      have g3 := t3.blk HLM.out.blk ng
      have m3 := HLM.out.what.kp hk3 (show ¬ f.b2 = f.b1 by omega)
      obtain ⟨Cn, n3, hcn⟩ := HLM.out.counts
      have n3 := n3.kp hk3 (show ¬ f.b3 = f.b1 by omega)
      have T3 := Lib.hid t3
      have W3 := Lib.hid hm3
      have G3 := Lib.hid g3
      have M3 := Lib.hid m3
      have N3 := Lib.hid n3
      have HCN := Lib.hid hcn
      have NE := Lib.hid ne
      have NG := Lib.hid ng
      have NN0 := Lib.hid n0
      have NN1 := Lib.hid n1
      clear ng n0 n1 hm3 hk3 t3 g3 m3 n3 hcn ne hlt0 hlt1 hlt2 hlt3 c0 c1 c2 d0 d1 a0 a1
      go_wp2_with (fail)
      go_still_tail 5, (by kernel_rfl)
      change wpList _ _ _ _ _ w3.drew
      refine wpList_mapF_drop rfl _ _ _ 62 rfl M3.out.drew Try.underlying55 a HOK.out.2 (inAt (cut L m)) (inAt_cut_same HLM.out.uniq HV1.out) (fun c hc => inAt_cut_other HLM.out.uniq HV1.out hc) rfl rfl ?_
      intro w4 hm4 hk4
      have hk4 := kp_undrew hk4
      have t4 : Kp f.T w3 w4 := hk4.mono (fun _ _ e => .inr (.inl e))
      have ne := NE.out
      have c2 := t4.cell c2' NG.out
      have d0 := t4.cell d0' NN0.out
      have g4 := t4.blk G3.out NG.out
      have m4 := W3.out.kp hk4 (show ¬ f.b1 = f.b2 by omega)
      have n4 := N3.out.kp hk4 (show ¬ f.b3 = f.b2 by omega)
      have hcm : (cnt L m.1 : Int) = cnt (cut L m) m.1 + 1 := by
        have := cnt_cut HLM.out.uniq HV1.out m.1
        rw [if_pos rfl] at this
        omega
      have e4 : (Instr.lookup 52 (.map (some f.b3)) (.int .u32 m.1) false).run Try.prog { w4 with drawn := w4.drawn + 1 } = .ok (.int .u64 (cnt (cut L m) m.1 + 1)) { w4 with drawn := w4.drawn + 1 } := by
        have := n4.drew.look (t := 52) (e := 29) Try.underlying52 (z := .int .u64 0) (by kernel_rfl) (a := m.1) HO.out.1 false
        refine this.trans ?_
        rw [← hcm, ← HCN.out]
        cases Cn m.1 <;> rfl
      have hle : ((cnt (cut L m) m.1 : Nat) : Int) + 1 ≤ 9223372036854775807 := by
        have h1 := cnt_le L m.1
        have h2 := HL.out.len
        have h3 := hn
        unfold maxLen at h3
        omega
      have T4 := Lib.hid (T3.out.trans t4 (fun _ _ h => h))
      have G4 := Lib.hid g4
      have W4 := Lib.hid m4
      have M4 := Lib.hid hm4
      have N4 := Lib.hid n4
      clear hm4 hk4 t4 g4 m4 n4 ne c1' c2' d0' d1' a0' a1' T3 W3 G3 M3 N3 hcm
      generalize hx : cnt (cut L m) m.1 = x at *
      have HX := Lib.hid hx
      clear hx
      go_wp2_with (fail)
      go_still_tail 8, (by kernel_rfl)
      refine wpStill_look rfl _ _ _ _ rfl _ _ _ rfl rfl e4 ?_
      clear e4
      repeat still_step
      refine wpStill_nil ?_
      change wpList _ _ _ _ _ w4.drew
      rw [IntWalk.u64_in (x : Int) (by omega)]
      refine wpList_mapF_store rfl _ _ _ _ 29 rfl N4.out.drew Try.underlying52 hn m.1 HO.out.1 (x : Int) (fun t => if t = m.1 then some (x : Int) else Cn t) (if_pos rfl) (fun c hc => if_neg hc) rfl rfl rfl ?_
      intro w5 hm5 hk5
      have hk5 := kp_undrew hk5
      have t5 : Kp f.T w4 w5 := hk5.mono (fun _ _ e => .inr (.inr e))
      have ne := NE.out
      have g5 := t5.blk G4.out NG.out
      have w5' := W4.out.kp hk5 (show ¬ f.b1 = f.b3 by omega)
      have m5' := M4.out.kp hk5 (show ¬ f.b2 = f.b3 by omega)
      have hlm : LM w5 f (n + 1) (cut L m) := by
        refine ⟨g5, w5'.mono (Nat.le_succ _), m5'.mono (Nat.le_succ _), ⟨_, hm5, fun t => ?_⟩, HL.out.ne, HL.out.uniq.cut m, Nat.le_trans (cut_length L m) (Nat.le_trans HL.out.len (Nat.le_succ _)), fun p hp => HL.out.names p (mem_cut.1 hp).1⟩
        by_cases ht : t = m.1
        · subst ht
          simp only [if_true, Option.getD_some]
          rw [HX.out]
        · have hct := cnt_cut HLM.out.uniq HV1.out t
          rw [if_neg ht] at hct
          simp only [if_neg ht]
          rw [HCN.out t, ← hct]
          rfl
      have HLM5 := Lib.hid hlm
      have HT := Lib.hid (T4.out.trans t5 (fun _ _ h => h))
      clear hm5 hk5 t5 ne g5 w5' m5' hlm
      go_wp2
      go_ret
      refine ⟨by rw [HV1.out]; rfl, HLM5.out, (HK2.out.mono (fun _ _ h => absurd h (fun e => e))).trans HT.out (fun _ _ h => h)⟩
end Go.Proofs.Ytcbbkemfgnbcpaa
