/- Joined texts: Ln2 Ln3 Ln4 Rm. -/
import Derived.Test.YtfabgbmbnmbjkaaGreatDoorRad
import Derived.BigRegion
import Derived.StillTailTactics
/- Pruned. -/
namespace Go.Proofs.YtfabgbmbnmbjkaaGreatDoor
open Go.RowKit
def plV (p : Pl) : Value := .agg #[.int .u32 p.t, .int .u64 p.b, .int .i64 p.z, .int .i64 p.k]
end Go.Proofs.YtfabgbmbnmbjkaaGreatDoor

/- Pruned. -/
namespace Go.Proofs.YtfabgbmbnmbjkaaGreatDoor
open Go.RowKit
def Forgot (f : LFp) (n : Nat) (L : List Pl) (m : Int × Int) (w : World) (e : Ending) (w' : World) : Prop :=
 e = .returned (.bool (atOf L m).isSome) ∧ LM w' f (n + 1) (cut L m) ∧ Kp f.T w w'
set_option maxRecDepth 4000 in
theorem forget_any (w : World) (f : LFp) (n : Nat) (L : List Pl) (m : Int × Int) (hm : NameOk m) (h : LM w f n L) (hn : n < maxLen) :
    Calls Tryz.prog 147 #[.pointer (some ⟨f.g, 0, none⟩), .agg #[.int .u32 m.1, .int .u64 m.2]] w (Forgot f n L m w) := by
 obtain ⟨a, is, hl, hv⟩ : ∃ (a : Int × Int) (is : Bool), (∀ u, Kp (fun _ => False) w u -> (Instr.lookup 109 (.map (some f.b1)) (.agg #[.int .u32 m.1, .int .u64 m.2]) true).run Tryz.prog u = .ok (.tuple #[.agg #[.int .i64 a.1, .int .i64 a.2], .bool is]) u) ∧
     atOf L m = (if is then some a else none) := by
  refine ⟨(atOf L m).getD (0, 0), (atOf L m).isSome, fun u hu => ?_, ?_⟩
  · have := (h.where_.kp hu (fun e => e)).look (t := 109) (e := 53) Tryz.underlying109 (z := addrV (0, 0)) (by kernel_rfl) (a := m) hm true
    refine this.trans ?_
    cases atOf L m <;> rfl
  · cases atOf L m <;> rfl
 have hg := h.blk.lt
 have h0 : w.cell? ⟨f.g, 0, none⟩ = some (.map (some f.b1)) := h.blk.cell 0
 have HM := Lib.hid hl
 have HL := Lib.hid h
 have HV := Lib.hid hv
 have HO := Lib.hid hm
 clear hl h hv hm
 go_enter Tryz.func147, Tryz.ntmps147
 go_wp2_with (fail)
 have hk := (Kp.refl (fun _ => False) w).alloc (.cells #[.int .u32 m.1, .int .u64 m.2] 105)
 have b1 := Blk.new w 105 #[.int .u32 m.1, .int .u64 m.2]
 have hc0 := hk.cell h0 (fun e => e)
 have hsz : (w.alloc (.cells #[.int .u32 m.1, .int .u64 m.2] 105)).heap.size = w.heap.size + 1 := by simp
 generalize w.alloc (.cells #[.int .u32 m.1, .int .u64 m.2] 105) = w1 at *
 have hd0 : w1.cell? ⟨w.heap.size, 0, none⟩ = some (.int .u32 m.1) := b1.cell 0
 have hd1 : w1.cell? ⟨w.heap.size, 1, none⟩ = some (.int .u64 m.2) := b1.cell 1
 have e1 := HM.out _ (hk.drewN 1)
 have e2 := HM.out _ ((hk.alloc (.cells #[.int .i64 0, .int .i64 0] 53)).drewN 1)
 simp only [<- World.drew_is_drewN] at e1 e2
 have hg1 : f.g < w1.heap.size := by omega
 have hg2 : w.heap.size < w1.heap.size := by omega
 have HB1 := Lib.hid b1
 have HK := Lib.hid hk
 have HZ := Lib.hid hsz
 clear b1 hk hsz HM
 go_region
 all_goals
  clear e1 e2 hc0 hd0 hd1
  have b1 := (HB1.out.alloc (.cells #[.int .i64 a.1, .int .i64 a.2] 53)).drew
  have b3 := (Blk.new w1 53 #[.int .i64 a.1, .int .i64 a.2]).drew
  have hk : Kp (fun _ => False) w (w1.alloc (.cells #[.int .i64 a.1, .int .i64 a.2] 53)).drew := (HK.out.alloc _).drewN 1
  have hz := HZ.out
  rw [hz] at b3 ⊢
  clear hz
  generalize (w1.alloc (.cells #[.int .i64 a.1, .int .i64 a.2] 53)).drew = w2 at *
  have hlm := HL.out.below (kp_none hk)
  have HK2 := Lib.hid hk
  clear HK HB1 hk hg1 hg2 HZ hg h0
  cases is with
  | false =>
    clear b1 b3
    have HLM := Lib.hid hlm
    clear hlm
    go_wp2
    go_ret
    have hv := HV.out
    exact ⟨by rw [hv]; rfl, by rw [cut_none hv]; exact HLM.out.mono (Nat.le_succ _), HK2.out.mono (fun _ _ h => absurd h (fun e => e))⟩
  | true =>
    have hv := HV.out
    rw [if_pos rfl] at hv
    have hok := HL.out.atOk hv
    have c0 : w2.cell? ⟨f.g, 0, none⟩ = some (.map (some f.b1)) := hlm.blk.cell 0
    have c1 : w2.cell? ⟨f.g, 1, none⟩ = some (.map (some f.b2)) := hlm.blk.cell 1
    have c2 : w2.cell? ⟨f.g, 2, none⟩ = some (.map (some f.b3)) := hlm.blk.cell 2
    have d0 : w2.cell? ⟨w.heap.size, 0, none⟩ = some (.int .u32 m.1) := b1.cell 0
    have d1 : w2.cell? ⟨w.heap.size, 1, none⟩ = some (.int .u64 m.2) := b1.cell 1
    have a0 : w2.cell? ⟨w.heap.size + 1, 0, none⟩ = some (.int .i64 a.1) := b3.cell 0
    have a1 : w2.cell? ⟨w.heap.size + 1, 1, none⟩ = some (.int .i64 a.2) := b3.cell 1
    have HLM := Lib.hid hlm
    have B1 := Lib.hid b1
    have B3 := Lib.hid b3
    have HV1 := Lib.hid hv
    have HOK := Lib.hid hok
    have lt0 := Lib.hid (HL.out.lt (.inl rfl))
    have lt1 := Lib.hid (HL.out.lt (.inr (.inl rfl)))
    have lt2 := Lib.hid (HL.out.lt (.inr (.inr (.inl rfl))))
    have lt3 := Lib.hid (HL.out.lt (.inr (.inr (.inr rfl))))
    clear hlm b1 b3 hv hok
    go_wp2_with (fail)
    go_still_tail 5, (by kernel_rfl)
    change wpList _ _ _ _ _ w2.drew
    refine wpList_mapF_drop rfl _ _ _ 53 rfl HLM.out.where_.drew Tryz.underlying109 m HO.out (atOf (cut L m)) atOf_cut_same (fun c hc => atOf_cut_other HLM.out.uniq hc) rfl rfl ?_
    intro w3 hm3 hk3
    have hk3 := kp_undrew hk3
    have t3 : Kp f.T w2 w3 := hk3.mono (fun _ _ e => .inl e)
    have ne := HLM.out.ne
    have hlt0 := lt0.out
    have hlt1 := lt1.out
    have hlt2 := lt2.out
    have hlt3 := lt3.out
    have ng : ¬ f.T f.g := by unfold LFp.T; omega
    have n0 : ¬ f.T w.heap.size := by unfold LFp.T; omega
    have n1 : ¬ f.T (w.heap.size + 1) := by unfold LFp.T; omega
    have c1' := t3.cell c1 ng
    have c2' := t3.cell c2 ng
    have d0' := t3.cell d0 n0
    have d1' := t3.cell d1 n0
    have a0' := t3.cell a0 n1
    have a1' := t3.cell a1 n1
    have g3 := t3.blk HLM.out.blk ng
    have m3 := HLM.out.what.kp hk3 (show ¬ f.b2 = f.b1 by omega)
    obtain ⟨Cn, n3, hcn⟩ := HLM.out.counts
    have n3 := n3.kp hk3 (show ¬ f.b3 = f.b1 by omega)
    have T3 := Lib.hid t3
    have W3 := Lib.hid hm3
    have G3 := Lib.hid g3
    have M3 := Lib.hid m3
    have N3 := Lib.hid n3
    have HCN := Lib.hid hcn
    have NE := Lib.hid ne
    have NG := Lib.hid ng
    have NN0 := Lib.hid n0
    have NN1 := Lib.hid n1
    clear ng n0 n1 hm3 hk3 t3 g3 m3 n3 hcn ne hlt0 hlt1 hlt2 hlt3 c0 c1 c2 d0 d1 a0 a1
    go_wp2_with (fail)
    go_still_tail 5, (by kernel_rfl)
    change wpList _ _ _ _ _ w3.drew
    refine wpList_mapF_drop rfl _ _ _ 105 rfl M3.out.drew Tryz.underlying110 a HOK.out.2 (inAt (cut L m)) (inAt_cut_same HLM.out.uniq HV1.out) (fun c hc => inAt_cut_other HLM.out.uniq HV1.out hc) rfl rfl ?_
    intro w4 hm4 hk4
    have hk4 := kp_undrew hk4
    have t4 : Kp f.T w3 w4 := hk4.mono (fun _ _ e => .inr (.inl e))
    have ne := NE.out
    have c2 := t4.cell c2' NG.out
    have d0 := t4.cell d0' NN0.out
    have g4 := t4.blk G3.out NG.out
    have m4 := W3.out.kp hk4 (show ¬ f.b1 = f.b2 by omega)
    have n4 := N3.out.kp hk4 (show ¬ f.b3 = f.b2 by omega)
    have hcm : (cnt L m.1 : Int) = cnt (cut L m) m.1 + 1 := by
     have := cnt_cut HLM.out.uniq HV1.out m.1
     rw [if_pos rfl] at this
     omega
    have e4 : (Instr.lookup 111 (.map (some f.b3)) (.int .u32 m.1) false).run Tryz.prog { w4 with drawn := w4.drawn + 1 } = .ok (.int .u64 (cnt (cut L m) m.1 + 1)) { w4 with drawn := w4.drawn + 1 } := by
     have := n4.drew.look (t := 111) (e := 40) Tryz.underlying111 (z := .int .u64 0) (by kernel_rfl) (a := m.1) HO.out.1 false
     refine this.trans ?_
     rw [<- hcm, <- HCN.out]
     cases Cn m.1 <;> rfl
    have hle : ((cnt (cut L m) m.1 : Nat) : Int) + 1 <= 9223372036854775807 := by
     have h1 := cnt_le L m.1
     have h2 := HL.out.len
     have h3 := hn
     unfold maxLen at h3
     omega
    have T4 := Lib.hid (T3.out.trans t4 (fun _ _ h => h))
    have G4 := Lib.hid g4
    have W4 := Lib.hid m4
    have M4 := Lib.hid hm4
    have N4 := Lib.hid n4
    clear hm4 hk4 t4 g4 m4 n4 ne c1' c2' d0' d1' a0' a1' T3 W3 G3 M3 N3 hcm
    generalize hx : cnt (cut L m) m.1 = x at *
    have HX := Lib.hid hx
    clear hx
    go_wp2_with (fail)
    go_still_tail 8, (by kernel_rfl)
    refine wpStill_look rfl _ _ _ _ rfl _ _ _ rfl rfl e4 ?_
    clear e4
    repeat still_step
    refine wpStill_nil ?_
    change wpList _ _ _ _ _ w4.drew
    rw [IntWalk.u64_in (x : Int) (by omega)]
    refine wpList_mapF_store rfl _ _ _ _ 40 rfl N4.out.drew Tryz.underlying111 hn m.1 HO.out.1 (x : Int) (fun t => if t = m.1 then some (x : Int) else Cn t) (if_pos rfl) (fun c hc => if_neg hc) rfl rfl rfl ?_
    intro w5 hm5 hk5
    have hk5 := kp_undrew hk5
    have t5 : Kp f.T w4 w5 := hk5.mono (fun _ _ e => .inr (.inr e))
    have ne := NE.out
    have g5 := t5.blk G4.out NG.out
    have w5' := W4.out.kp hk5 (show ¬ f.b1 = f.b3 by omega)
    have m5' := M4.out.kp hk5 (show ¬ f.b2 = f.b3 by omega)
    have hlm : LM w5 f (n + 1) (cut L m) := by
     refine ⟨g5, w5'.mono (Nat.le_succ _), m5'.mono (Nat.le_succ _), ⟨_, hm5, fun t => ?_⟩, HL.out.ne, HL.out.uniq.cut m, Nat.le_trans (cut_length L m) (Nat.le_trans HL.out.len (Nat.le_succ _)), fun p hp => HL.out.names p (mem_cut.1 hp).1⟩
     by_cases ht : t = m.1
     · subst ht
       simp only [if_true, Option.getD_some]
       rw [HX.out]
     · have hct := cnt_cut HLM.out.uniq HV1.out t
       rw [if_neg ht] at hct
       simp only [if_neg ht]
       rw [HCN.out t, <- hct]
       rfl
    have HLM5 := Lib.hid hlm
    have HT := Lib.hid (T4.out.trans t5 (fun _ _ h => h))
    clear hm5 hk5 t5 ne g5 w5' m5' hlm
    go_wp2
    go_ret
    refine ⟨by rw [HV1.out]; rfl, HLM5.out, (HK2.out.mono (fun _ _ h => absurd h (fun e => e))).trans HT.out (fun _ _ h => h)⟩
end Go.Proofs.YtfabgbmbnmbjkaaGreatDoor

/- Pruned. -/
namespace Go.Proofs.YtfabgbmbnmbjkaaGreatDoor
open Go.RowKit
theorem ldrop_any (w : World) (f : LFp) (n : Nat) (L : List Pl) (m : Int × Int) (hm : NameOk m) (h : LM w f n L) (hn : n < maxLen) :
    Calls Tryz.prog 141 #[.pointer (some ⟨f.g, 0, none⟩), .int .u32 m.1, .int .u64 m.2] w (Forgot f n L m w) := by
 have H := Lib.hid (forget_any w f n L m hm h hn)
 clear hm h hn
 go_enter Tryz.func141, Tryz.ntmps141
 go_wp2_with (fail)
 refine H.out.mono ?_
 rintro e w1 ⟨rfl, h1⟩
 have H1 := Lib.hid h1
 clear h1
 go_wp2
 go_ret
 exact ⟨rfl, H1.out⟩
def PutS (f : LFp) (h : Nat) (p : Pl) (u : World) : Prop :=
 u.cell? ⟨f.g, 0, none⟩ = some (.map (some f.b1)) ∧ u.cell? ⟨f.g, 1, none⟩ = some (.map (some f.b2)) ∧ u.cell? ⟨h, 2, none⟩ = some (.int .i64 p.z) ∧ u.cell? ⟨h, 3, none⟩ = some (.int .i64 p.k) ∧
   u.cell? ⟨h + 1, 0, none⟩ = some (.int .u32 p.t) ∧ u.cell? ⟨h + 1, 1, none⟩ = some (.int .u64 p.b)
theorem PutS.kp {f : LFp} {h : Nat} {p : Pl} {u u' : World} (hs : PutS f h p u) (hk : Kp f.T u u') (h1 : ¬ f.T f.g) (h2 : ¬ f.T h) (h3 : ¬ f.T (h + 1)) : PutS f h p u' := by
 obtain ⟨a1, a2, a3, a4, a5, a6⟩ := hs
 exact ⟨hk.cell a1 h1, hk.cell a2 h1, hk.cell a3 h2, hk.cell a4 h2, hk.cell a5 h3, hk.cell a6 h3⟩
theorem zero_addr (u : World) : (zeroValue 53).run Tryz.prog u = .ok (addrV (0, 0)) u := by kernel_rfl
theorem zero_name (u : World) : (zeroValue 105).run Tryz.prog u = .ok (nameV (0, 0)) u := by kernel_rfl
set_option maxRecDepth 4000 in
set_option maxHeartbeats 4000000 in
theorem lput_any (w : World) (f : LFp) (n : Nat) (L : List Pl) (p : Pl) (hp : NameOk p.n ∧ AddrOk p.a) (h : LM w f n L) (hn : n + 3 < maxLen) :
    Calls Tryz.prog 89 #[.pointer (some ⟨f.g, 0, none⟩), .agg #[.int .u32 p.t, .int .u64 p.b, .int .i64 p.z, .int .i64 p.k]] w
      (fun e w' => e = .returned (.tuple #[]) ∧ LM w' f (n + 3) (p :: free (cut L p.n) p.a) ∧ Kp f.T w w') := by
 have HL := Lib.hid h
 have HP := Lib.hid hp
 have HN := Lib.hid hn
 have HG := Lib.hid h.blk.lt
 clear h hp hn
 go_enter Tryz.func89, Tryz.ntmps89
 go_wp2_with (fail)
 have HA := Lib.hid ((HL.out.alloc (.cells #[.int .u32 p.t, .int .u64 p.b, .int .i64 p.z, .int .i64 p.k] 55)).alloc (.cells #[.int .u32 p.t, .int .u64 p.b] 105))
 have HK := Lib.hid (((Kp.refl f.T w).alloc (.cells #[.int .u32 p.t, .int .u64 p.b, .int .i64 p.z, .int .i64 p.k] 55)).alloc (.cells #[.int .u32 p.t, .int .u64 p.b] 105))
 have b1 := (Blk.new w 55 #[.int .u32 p.t, .int .u64 p.b, .int .i64 p.z, .int .i64 p.k]).alloc (.cells #[.int .u32 p.t, .int .u64 p.b] 105)
 have b2 := Blk.new (w.alloc (.cells #[.int .u32 p.t, .int .u64 p.b, .int .i64 p.z, .int .i64 p.k] 55)) 105 #[.int .u32 p.t, .int .u64 p.b]
 rw [World.size_alloc] at b2
 have HB1 := Lib.hid b1
 have HB2 := Lib.hid b2
 have HZ : Hid (((w.alloc (.cells #[.int .u32 p.t, .int .u64 p.b, .int .i64 p.z, .int .i64 p.k] 55)).alloc (.cells #[.int .u32 p.t, .int .u64 p.b] 105)).heap.size = w.heap.size + 2) := by simp [Hid]
 clear b1 b2
 generalize (w.alloc (.cells #[.int .u32 p.t, .int .u64 p.b, .int .i64 p.z, .int .i64 p.k] 55)).alloc (.cells #[.int .u32 p.t, .int .u64 p.b] 105) = w1 at *
 have lt := fun (i : Nat) (hi : f.S i) => HL.out.lt hi
 have ng : ¬ f.T f.g := by have := HL.out.ne; unfold LFp.T; omega
 have n0 : ¬ f.T w.heap.size := by
  have l1 := lt f.b1 (.inr (.inl rfl))
  have l2 := lt f.b2 (.inr (.inr (.inl rfl)))
  have l3 := lt f.b3 (.inr (.inr (.inr rfl)))
  unfold LFp.T
  omega
 have n1 : ¬ f.T (w.heap.size + 1) := by
  have l1 := lt f.b1 (.inr (.inl rfl))
  have l2 := lt f.b2 (.inr (.inr (.inl rfl)))
  have l3 := lt f.b3 (.inr (.inr (.inr rfl)))
  unfold LFp.T
  omega
 have NG := Lib.hid ng
 have N0 := Lib.hid n0
 have N1 := Lib.hid n1
 clear lt ng n0 n1
 refine (forget_any w1 f n L p.n HP.out.1 HA.out (by have := HN.out; omega)).mono ?_
 rintro e w2 ⟨rfl, h2, k2⟩
 have b1 := k2.blk HB1.out N0.out
 have b2 := k2.blk HB2.out N1.out
 have HZ2 : Hid (w.heap.size + 2 <= w2.heap.size) := by have := HZ.out; have := k2.size; unfold Hid; omega
 have HK2 := Lib.hid (HK.out.trans k2 (fun _ _ h => h))
 have H2 := Lib.hid h2
 have B1 := Lib.hid b1
 have B2 := Lib.hid b2
 have hc1 : w2.cell? ⟨f.g, 1, none⟩ = some (.map (some f.b2)) := h2.blk.cell 1
 have hd2 : w2.cell? ⟨w.heap.size, 2, none⟩ = some (.int .i64 p.z) := b1.cell 2
 have hd3 : w2.cell? ⟨w.heap.size, 3, none⟩ = some (.int .i64 p.k) := b1.cell 3
 obtain ⟨m, is, hl, hv⟩ : ∃ (m : Int × Int) (is : Bool), (∀ u, Kp (fun _ => False) w2 u -> (Instr.lookup 110 (.map (some f.b2)) (.agg #[.int .i64 p.z, .int .i64 p.k]) true).run Tryz.prog u = .ok (.tuple #[.agg #[.int .u32 m.1, .int .u64 m.2], .bool is]) u) ∧
     inAt (cut L p.n) p.a = (if is then some m else none) := by
  refine ⟨(inAt (cut L p.n) p.a).getD (0, 0), (inAt (cut L p.n) p.a).isSome, fun u hu => ?_, ?_⟩
  · have := (h2.what.kp hu (fun e => e)).look (t := 110) (e := 105) Tryz.underlying110 (z := nameV (0, 0)) (by kernel_rfl) (a := p.a) HP.out.2 true
    refine this.trans ?_
    cases inAt (cut L p.n) p.a <;> rfl
  · cases inAt (cut L p.n) p.a <;> rfl
 have e1 := hl _ ((Kp.refl _ _).drewN 1)
 have e2 := hl _ (((Kp.refl _ _).alloc (.cells #[.int .u32 0, .int .u64 0] 105)).drewN 1)
 simp only [<- World.drew_is_drewN] at e1 e2
 have HV := Lib.hid hv
 have hg2 : f.g < w2.heap.size := h2.blk.lt
 have hs2 : w.heap.size < w2.heap.size := b1.lt
 clear hl hv h2 b1 b2 k2 HK HB1 HB2 HZ HA
 go_wp2_with (fail)
 go_region
 all_goals
  clear e1 e2 hc1 hd2 hd3
  have h3 := (H2.out.alloc (.cells #[.int .u32 m.1, .int .u64 m.2] 105)).drew
  have b1 := (B1.out.alloc (.cells #[.int .u32 m.1, .int .u64 m.2] 105)).drew
  have b2 := (B2.out.alloc (.cells #[.int .u32 m.1, .int .u64 m.2] 105)).drew
  have b3 := (Blk.new w2 105 #[.int .u32 m.1, .int .u64 m.2]).drew
  have k3 : Kp f.T w (w2.alloc (.cells #[.int .u32 m.1, .int .u64 m.2] 105)).drew := (HK2.out.alloc _).drewN 1
  have n3 : ¬ f.T w2.heap.size := by
   have l1 := H2.out.lt (i := f.b1) (.inr (.inl rfl))
   have l2 := H2.out.lt (i := f.b2) (.inr (.inr (.inl rfl)))
   have l3 := H2.out.lt (i := f.b3) (.inr (.inr (.inr rfl)))
   unfold LFp.T
   omega
  clear H2 B1 B2 HK2 HZ2
  generalize (w2.alloc (.cells #[.int .u32 m.1, .int .u64 m.2] 105)).drew = w3 at *
  have hm0 : w3.cell? ⟨w2.heap.size, 0, none⟩ = some (.int .u32 m.1) := b3.cell 0
  have hm1 : w3.cell? ⟨w2.heap.size, 1, none⟩ = some (.int .u64 m.2) := b3.cell 1
  have H3 := Lib.hid h3
  have B1 := Lib.hid b1
  have B2 := Lib.hid b2
  have K3 := Lib.hid k3
  have N3 := Lib.hid n3
  clear h3 b1 b2 b3 k3 n3
  generalize w2.heap.size = s2 at *
  clear hg2 hs2
  cases is
  case' true =>
   have hv := HV.out
   rw [if_pos rfl] at hv
   have hok := (H3.out.inOk hv).1
   have HFR := Lib.hid (free_some (HL.out.uniq.cut p.n) hv)
   clear hv
   go_wp2_with (fail)
   refine (forget_any w3 f (n + 1) (cut L p.n) m hok H3.out (by have := HN.out; omega)).mono ?_
   rintro e w4 ⟨rfl, h4, k4⟩
   rw [<- HFR.out] at h4
   have B1 := Lib.hid (k4.blk B1.out N0.out)
   have B2 := Lib.hid (k4.blk B2.out N1.out)
   have K4 := Lib.hid (K3.out.trans k4 (fun _ _ h => h))
   have H4 := Lib.hid h4
   clear h4 k4 hm0 hm1 K3 H3 hok HFR
   go_wp2_with (fail)
  case' false =>
   have hv := HV.out
   rw [if_neg (by simp)] at hv
   have h4 := H3.out.mono (Nat.le_succ _)
   rw [<- free_none hv] at h4
   have H4 := Lib.hid h4
   have K4 := K3
   clear h4 K3 H3 hv hm0 hm1
   go_wp2_with (fail)
   rename World => w4
  all_goals
   have hs4 : PutS f w.heap.size p w4 := ⟨H4.out.blk.cell 0, H4.out.blk.cell 1, B1.out.cell 2, B1.out.cell 3, B2.out.cell 0, B2.out.cell 1⟩
   have HS4 := Lib.hid hs4
   unfold PutS at hs4
   have hm : n + 1 + 1 < maxLen := by have := HN.out; omega
   have ne := HL.out.ne
   obtain ⟨v5, st5, w5, e5, t5, r5⟩ := H4.out.where_.drew.entry name_law Tryz.underlying109 hm zero_addr (a := p.n) HP.out.1 p.a (fun m => if m = p.n then some p.a else atOf (free (cut L p.n) p.a) m) (if_pos rfl) (fun c hc => if_neg hc)
   obtain ⟨w6, e6, m6, t6⟩ := r5 w5 rfl
   have k6 : Kp (fun i => i = f.b1) w4 w6 := kp_undrew ((grownBy_kp t5.grown).trans (grownBy_kp t6.grown) (fun _ _ h => h))
   obtain ⟨v7, st7, w7, e7, t7, r7⟩ := (H4.out.what.kp k6 (show ¬ f.b2 = f.b1 by omega)).entry addr_law Tryz.underlying110 hm zero_name (a := p.a) HP.out.2 p.n (fun m => if m = p.a then some p.n else inAt (free (cut L p.n) p.a) m) (if_pos rfl) (fun c hc => if_neg hc)
   obtain ⟨w8, e8, m8, t8⟩ := r7 w7 rfl
   have k8 : Kp (fun i => i = f.b2) w6 w8 := (grownBy_kp t7.grown).trans (grownBy_kp t8.grown) (fun _ _ h => h)
   have hs5 := HS4.out.kp (kp_undrew ((grownBy_kp t5.grown).mono (S' := f.T) (fun _ _ e => .inl e))) NG.out N0.out N1.out
   have hs6 := HS4.out.kp (k6.mono (S' := f.T) (fun _ _ e => .inl e)) NG.out N0.out N1.out
   have hs7 := hs6.kp ((grownBy_kp t7.grown).mono (S' := f.T) (fun _ _ e => .inr (.inl e))) NG.out N0.out N1.out
   have hs8 := hs6.kp (k8.mono (S' := f.T) (fun _ _ e => .inr (.inl e))) NG.out N0.out N1.out
   have m6' := m6.kp k8 (show ¬ f.b1 = f.b2 by omega)
   have g8 := k8.blk (k6.blk H4.out.blk (show ¬ f.g = f.b1 by omega)) (show ¬ f.g = f.b2 by omega)
   obtain ⟨Cn, n4, hcn⟩ := H4.out.counts
   have n8 := (n4.kp k6 (show ¬ f.b3 = f.b1 by omega)).kp k8 (show ¬ f.b3 = f.b2 by omega)
   have HK8 := Lib.hid ((K4.out.trans (k6.mono (S' := f.T) (fun _ _ e => .inl e)) (fun _ _ h => h)).trans (k8.mono (S' := f.T) (fun _ _ e => .inr (.inl e))) (fun _ _ h => h))
   have HS8 := Lib.hid hs8
   have M6 := Lib.hid m6'
   have M8 := Lib.hid m8
   have G8 := Lib.hid g8
   have N8 := Lib.hid n8
   have HCN := Lib.hid hcn
   unfold PutS at hs5 hs6 hs7 hs8
   change (Instr.mapEntry 109 (.map (some f.b1)) (.agg #[.int .u32 p.t, .int .u64 p.b])).run Tryz.prog w4.drew = .ok (.tuple #[v5, .int .i64 st5]) w5 at e5
   change (Instr.entryStore 109 (.map (some f.b1)) (.int .i64 st5) (.agg #[.int .i64 p.z, .int .i64 p.k])).run Tryz.prog w5 = .ok () w6 at e6
   change (Instr.mapEntry 110 (.map (some f.b2)) (.agg #[.int .i64 p.z, .int .i64 p.k])).run Tryz.prog w6 = .ok (.tuple #[v7, .int .i64 st7]) w7 at e7
   change (Instr.entryStore 110 (.map (some f.b2)) (.int .i64 st7) (.agg #[.int .u32 p.t, .int .u64 p.b])).run Tryz.prog w7 = .ok () w8 at e8
   clear t5 t6 t7 t8 r5 r7 m6 m8 m6' g8 n4 n8 hcn k6 k8 hm ne HV B1 B2 N3
   go_region_held3 (fun u => u.cell? ⟨f.g, 0, none⟩ = some (.map (some f.b1)) ∧ u.cell? ⟨f.g, 1, none⟩ = some (.map (some f.b2)) ∧ u.cell? ⟨w.heap.size, 2, none⟩ = some (.int .i64 p.z) ∧ u.cell? ⟨w.heap.size, 3, none⟩ = some (.int .i64 p.k) ∧ u.cell? ⟨w.heap.size + 1, 0, none⟩ = some (.int .u32 p.t) ∧ u.cell? ⟨w.heap.size + 1, 1, none⟩ = some (.int .u64 p.b))
     (first | exact hs4 | exact hs5 | exact hs6 | exact hs7 | exact hs8)
     (fail)
   clear e5 e6 e7 e8 hs4 hs5 hs6 hs7 hs8 HS4
   have c2 : w8.cell? ⟨f.g, 2, none⟩ = some (.map (some f.b3)) := G8.out.cell 2
   have d0 : w8.cell? ⟨w.heap.size + 1, 0, none⟩ = some (.int .u32 p.t) := HS8.out.2.2.2.2.1
   have e8 : (Instr.lookup 111 (.map (some f.b3)) (.int .u32 p.t) false).run Tryz.prog { w8 with drawn := w8.drawn + 1 } = .ok (.int .u64 (cnt (free (cut L p.n) p.a) p.t)) { w8 with drawn := w8.drawn + 1 } := by
    have := N8.out.drew.look (t := 111) (e := 40) Tryz.underlying111 (z := .int .u64 0) (by kernel_rfl) (a := p.t) HP.out.1.1 false
    refine this.trans ?_
    rw [<- HCN.out]
    cases Cn p.t <;> rfl
   have hle : ((cnt (free (cut L p.n) p.a) p.t : Nat) : Int) + 1 <= 9223372036854775807 := by
    have h1 := cnt_le (free (cut L p.n) p.a) p.t
    have h2 := H4.out.len
    have h3 := HN.out
    unfold maxLen at h3
    omega
   generalize hx : cnt (free (cut L p.n) p.a) p.t = x at *
   have HX := Lib.hid hx
   clear hx
   go_wp2_with (fail)
   go_still_tail 8, (by kernel_rfl)
   refine wpStill_look rfl _ _ _ _ rfl _ _ _ rfl rfl e8 ?_
   clear e8
   repeat still_step
   refine wpStill_nil ?_
   change wpList _ _ _ _ _ w8.drew
   rw [IntWalk.u64_in ((x : Int) + 1) (by omega)]
   refine wpList_mapF_store rfl _ _ _ _ 40 rfl N8.out.drew Tryz.underlying111 (by have := HN.out; omega) p.t HP.out.1.1 ((x : Int) + 1) (fun t => if t = p.t then some ((x : Int) + 1) else Cn t) (if_pos rfl) (fun c hc => if_neg hc) rfl rfl rfl ?_
   intro w9 hm9 hk9
   have hk9 := kp_undrew hk9
   have ne := HL.out.ne
   have hlm : LM w9 f (n + 3) (p :: free (cut L p.n) p.a) := by
    have e1 : atOf (p :: free (cut L p.n) p.a) = fun m => if m = p.n then some p.a else atOf (free (cut L p.n) p.a) m := funext fun m => atOf_cons
    have e2 : inAt (p :: free (cut L p.n) p.a) = fun m => if m = p.a then some p.n else inAt (free (cut L p.n) p.a) m := funext fun m => inAt_cons
    refine ⟨hk9.blk G8.out (show ¬ f.g = f.b3 by omega), ?_, ?_, ⟨_, hm9, fun t => ?_⟩, ne, ?_, ?_, ?_⟩
    · rw [e1]
      exact M6.out.kp hk9 (show ¬ f.b1 = f.b3 by omega)
    · rw [e2]
      exact M8.out.kp hk9 (show ¬ f.b2 = f.b3 by omega)
    · rw [cnt_cons]
      by_cases ht : t = p.t
      · subst ht
        rw [if_pos rfl, if_pos rfl, HX.out]
        rfl
      · rw [if_neg ht, if_neg ht]
        exact HCN.out t
    · refine H4.out.uniq.cons (atOf_none.2 fun q hq => (mem_cut.1 (mem_free.1 hq).1).2) (inAt_none.2 fun q hq => (mem_free.1 hq).2)
    · have := H4.out.len
      simp only [List.length_cons]
      omega
    · intro q hq
      rcases List.mem_cons.1 hq with rfl | hq
      · exact HP.out
      · exact H4.out.names q hq
   have HLM9 := Lib.hid hlm
   have HT := Lib.hid (HK8.out.trans (hk9.mono (S' := f.T) (fun _ _ e => .inr (.inr e))) (fun _ _ h => h))
   clear hm9 hk9 ne hlm
   go_wp2
   go_end0
   exact ⟨rfl, HLM9.out, HT.out⟩
end Go.Proofs.YtfabgbmbnmbjkaaGreatDoor

/- Pruned. -/
namespace Go.Proofs.YtfabgbmbnmbjkaaGreatDoor
open Go.RowKit
def plC (p : Pl) : List Value := [.int .u32 p.t, .int .u64 p.b, .int .i64 p.z, .int .i64 p.k]
def plCs (L : List Pl) : List Value := L.flatMap plC
theorem plCs_length (L : List Pl) : (plCs L).length = L.length * 4 := by
 induction L with
 | nil => rfl
 | cons p r ih => simp [plCs, plC] at ih ⊢; omega
theorem plCs_snoc (L : List Pl) (p : Pl) : plCs (L ++ [p]) = plCs L ++ plC p := by simp [plCs]
theorem plCs_one (L : List Pl) : ∀ u ∈ plCs L, u.oneCell' = true := by
 intro u hu
 obtain ⟨p, _, hp⟩ := List.mem_flatMap.1 hu
 simp only [plC, List.mem_cons, List.not_mem_nil, or_false] at hp
 rcases hp with rfl | rfl | rfl | rfl <;> rfl
def p0 : Pl := ⟨0, 0, 0, 0⟩
theorem plCs_get (L : List Pl) (i : Nat) (h : i < L.length) : (plCs L)[i * 4]? = some (.int .u32 (L.getD i p0).t) ∧ (plCs L)[i * 4 + 1]? = some (.int .u64 (L.getD i p0).b) ∧ (plCs L)[i * 4 + 2]? = some (.int .i64 (L.getD i p0).z) ∧ (plCs L)[i * 4 + 3]? = some (.int .i64 (L.getD i p0).k) := by
 induction L generalizing i with
 | nil => cases h
 | cons p r ih =>
   cases i with
   | zero => simp [plCs, plC]
   | succ i =>
     have := ih i (by simpa using h)
     rw [show (i + 1) * 4 = i * 4 + 4 by omega]
     simpa [plCs, plC] using this
def RM (w : World) (g : Nat) (L : List Pl) : Prop := ∃ A c, Blk w g 165 #[.slice A L.length c] ∧ w.ownsRow 0 55 4 (.slice A L.length c) L.length (plCs L)
def RMb (w : World) (base g : Nat) (L : List Pl) : Prop := ∃ A c, Blk w g 165 #[.slice A L.length c] ∧ w.ownsRow base 55 4 (.slice A L.length c) L.length (plCs L)
theorem own_less {w : World} {base base' size n : Nat} {e : TypeId} {v : Value} {xs : List Value} (h : w.ownsRow base e size v n xs) (hb : base' <= base) : w.ownsRow base' e size v n xs :=
 ⟨h.1, by
  rcases h.2 with h0 | ⟨g, cap, cur, hv, hg, hr⟩
  · exact .inl h0
  · exact .inr ⟨g, cap, cur, hv, Nat.le_trans hb hg, hr⟩⟩
theorem own_blk {w : World} {base size n c : Nat} {A : Option Addr} {e : TypeId} {xs : List Value} (h : w.ownsRow base e size (.slice A n c) n xs) (hn : 0 < n) : ∃ b ex, A = some ⟨b, 0, none⟩ ∧ base <= b ∧ Blk w b e (xs ++ ex).toArray := by
 rcases h.2 with ⟨_, h0⟩ | ⟨g, cap, cur, hv, hb, hh, _, _, _, ht⟩
 · omega
 · injection hv with hA
   refine ⟨g, cur.toList.drop (n * size), hA, hb, ?_⟩
   rw [<- ht, List.take_append_drop]
   exact hh
structure PlRow (w : World) (r : Nat) (L : List Pl) : Prop where
  c0 : ∀ i, i < L.length -> w.cell? ⟨r, i * 4, none⟩ = some (.int .u32 (L.getD i p0).t)
  c1 : ∀ i, i < L.length -> w.cell? ⟨r, i * 4 + 1, none⟩ = some (.int .u64 (L.getD i p0).b)
  c2 : ∀ i, i < L.length -> w.cell? ⟨r, i * 4 + 2, none⟩ = some (.int .i64 (L.getD i p0).z)
  c3 : ∀ i, i < L.length -> w.cell? ⟨r, i * 4 + 3, none⟩ = some (.int .i64 (L.getD i p0).k)
theorem plrow_of {w : World} {r : Nat} {L : List Pl} {ex : List Value} (h : Blk w r 55 (plCs L ++ ex).toArray) : PlRow w r L := by
 have hl := plCs_length L
 have hg : ∀ i j, i < L.length -> j < 4 -> (plCs L ++ ex).toArray[i * 4 + j]? = (plCs L)[i * 4 + j]? := fun i j hi hj => by
  rw [List.getElem?_toArray, List.getElem?_append_left (by omega)]
 refine ⟨fun i hi => ?_, fun i hi => ?_, fun i hi => ?_, fun i hi => ?_⟩
 · rw [h.cell]; exact (hg i 0 hi (by omega)).trans (plCs_get L i hi).1
 · rw [h.cell]; exact (hg i 1 hi (by omega)).trans (plCs_get L i hi).2.1
 · rw [h.cell]; exact (hg i 2 hi (by omega)).trans (plCs_get L i hi).2.2.1
 · rw [h.cell]; exact (hg i 3 hi (by omega)).trans (plCs_get L i hi).2.2.2
def lessB (a b : Pl) : Bool := if a.t = b.t then decide (a.b < b.b) else decide (a.t < b.t)
theorem less_any (w : World) (p q : Pl) : Calls Tryz.prog 153 #[plV p, plV q] w (Makes (.bool (lessB p q)) w) := by
 unfold plV
 obtain ⟨v, hv⟩ : ∃ v, v = lessB p q := ⟨_, rfl⟩
 rw [<- hv]
 have HV := Lib.hid hv
 clear hv
 go_enter Tryz.func153, Tryz.ntmps153
 go_wp2
 all_goals
  go_ret
  refine ⟨ret_bool ?_, ((Below.refl _ _).alloc (Nat.le_refl _) _).alloc (by simp) _⟩
  rw [HV.out]
  unfold lessB
  rename_i h
  simp only [bne_iff_ne, ne_eq, bne_eq_false_iff_eq] at h
  simp only [h, if_true, if_false]
end Go.Proofs.YtfabgbmbnmbjkaaGreatDoor

