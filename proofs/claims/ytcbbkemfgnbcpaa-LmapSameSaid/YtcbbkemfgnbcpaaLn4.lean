/- Contracts of package lmap: Drop, Put. -/
import Derived.Test.YtcbbkemfgnbcpaaLn3
namespace Go.Proofs.Ytcbbkemfgnbcpaa
open Go.RowKit

theorem ldrop_any (w : World) (f : LFp) (n : Nat) (L : List Pl) (m : Int × Int) (hm : NameOk m) (h : LM w f n L) (hn : n < maxLen) :
    Calls Try.prog 12 #[.pointer (some ⟨f.g, 0, none⟩), .int .u32 m.1, .int .u64 m.2] w (Forgot f n L m w) := by
  have H := Lib.hid (forget_any w f n L m hm h hn)
  clear hm h hn
  go_enter Try.func12, Try.ntmps12
  go_wp2_with (fail)
  refine H.out.mono ?_
  rintro e w1 ⟨rfl, h1⟩
  have H1 := Lib.hid h1
  clear h1
  go_wp2
  go_ret
  exact ⟨rfl, H1.out⟩

/-- What the great region of Put reads. -/
def PutS (f : LFp) (h : Nat) (p : Pl) (u : World) : Prop :=
  u.cell? ⟨f.g, 0, none⟩ = some (.map (some f.b1)) ∧ u.cell? ⟨f.g, 1, none⟩ = some (.map (some f.b2)) ∧ u.cell? ⟨h, 2, none⟩ = some (.int .i64 p.z) ∧ u.cell? ⟨h, 3, none⟩ = some (.int .i64 p.k) ∧
    u.cell? ⟨h + 1, 0, none⟩ = some (.int .u32 p.t) ∧ u.cell? ⟨h + 1, 1, none⟩ = some (.int .u64 p.b)
theorem PutS.kp {f : LFp} {h : Nat} {p : Pl} {u u' : World} (hs : PutS f h p u) (hk : Kp f.T u u') (h1 : ¬ f.T f.g) (h2 : ¬ f.T h) (h3 : ¬ f.T (h + 1)) : PutS f h p u' := by
  obtain ⟨a1, a2, a3, a4, a5, a6⟩ := hs
  exact ⟨hk.cell a1 h1, hk.cell a2 h1, hk.cell a3 h2, hk.cell a4 h2, hk.cell a5 h3, hk.cell a6 h3⟩
theorem zero_addr (u : World) : (zeroValue 31).run Try.prog u = .ok (addrV (0, 0)) u := by kernel_rfl
theorem zero_name (u : World) : (zeroValue 62).run Try.prog u = .ok (nameV (0, 0)) u := by kernel_rfl

set_option maxRecDepth 4000 in
set_option maxHeartbeats 4000000 in
theorem lput_any (w : World) (f : LFp) (n : Nat) (L : List Pl) (p : Pl) (hp : NameOk p.n ∧ AddrOk p.a) (h : LM w f n L) (hn : n + 3 < maxLen) :
    Calls Try.prog 13 #[.pointer (some ⟨f.g, 0, none⟩), .agg #[.int .u32 p.t, .int .u64 p.b, .int .i64 p.z, .int .i64 p.k]] w
      (fun e w' => e = .returned (.tuple #[]) ∧ LM w' f (n + 3) (p :: free (cut L p.n) p.a) ∧ Kp f.T w w') := by
  have HL := Lib.hid h
  have HP := Lib.hid hp
  have HN := Lib.hid hn
  have HG := Lib.hid h.blk.lt
  clear h hp hn
  go_enter Try.func13, Try.ntmps13
  go_wp2_with (fail)
  have HA := Lib.hid ((HL.out.alloc (.cells #[.int .u32 p.t, .int .u64 p.b, .int .i64 p.z, .int .i64 p.k] 33)).alloc (.cells #[.int .u32 p.t, .int .u64 p.b] 62))
  have HK := Lib.hid (((Kp.refl f.T w).alloc (.cells #[.int .u32 p.t, .int .u64 p.b, .int .i64 p.z, .int .i64 p.k] 33)).alloc (.cells #[.int .u32 p.t, .int .u64 p.b] 62))
  have b1 := (Blk.new w 33 #[.int .u32 p.t, .int .u64 p.b, .int .i64 p.z, .int .i64 p.k]).alloc (.cells #[.int .u32 p.t, .int .u64 p.b] 62)
  have b2 := Blk.new (w.alloc (.cells #[.int .u32 p.t, .int .u64 p.b, .int .i64 p.z, .int .i64 p.k] 33)) 62 #[.int .u32 p.t, .int .u64 p.b]
  rw [World.size_alloc] at b2
  have HB1 := Lib.hid b1
  have HB2 := Lib.hid b2
  have HZ : Hid (((w.alloc (.cells #[.int .u32 p.t, .int .u64 p.b, .int .i64 p.z, .int .i64 p.k] 33)).alloc (.cells #[.int .u32 p.t, .int .u64 p.b] 62)).heap.size = w.heap.size + 2) := by simp [Hid]
  clear b1 b2
  generalize (w.alloc (.cells #[.int .u32 p.t, .int .u64 p.b, .int .i64 p.z, .int .i64 p.k] 33)).alloc (.cells #[.int .u32 p.t, .int .u64 p.b] 62) = w1 at *
  have lt := fun (i : Nat) (hi : f.S i) => HL.out.lt hi
  have ng : ¬ f.T f.g := by have := HL.out.ne; unfold LFp.T; omega
  have n0 : ¬ f.T w.heap.size := by
    have l1 := lt f.b1 (.inr (.inl rfl))
    have l2 := lt f.b2 (.inr (.inr (.inl rfl)))
    have l3 := lt f.b3 (.inr (.inr (.inr rfl)))
    unfold LFp.T
    omega
  have n1 : ¬ f.T (w.heap.size + 1) := by
    have l1 := lt f.b1 (.inr (.inl rfl))
    have l2 := lt f.b2 (.inr (.inr (.inl rfl)))
    have l3 := lt f.b3 (.inr (.inr (.inr rfl)))
    unfold LFp.T
    omega
  have NG := Lib.hid ng
  have N0 := Lib.hid n0
  have N1 := Lib.hid n1
  clear lt ng n0 n1
  refine (forget_any w1 f n L p.n HP.out.1 HA.out (by have := HN.out; omega)).mono ?_
  rintro e w2 ⟨rfl, h2, k2⟩
  have b1 := k2.blk HB1.out N0.out
  have b2 := k2.blk HB2.out N1.out
  have HZ2 : Hid (w.heap.size + 2 ≤ w2.heap.size) := by have := HZ.out; have := k2.size; unfold Hid; omega
  have HK2 := Lib.hid (HK.out.trans k2 (fun _ _ h => h))
  have H2 := Lib.hid h2
  have B1 := Lib.hid b1
  have B2 := Lib.hid b2
  have hc1 : w2.cell? ⟨f.g, 1, none⟩ = some (.map (some f.b2)) := h2.blk.cell 1
  have hd2 : w2.cell? ⟨w.heap.size, 2, none⟩ = some (.int .i64 p.z) := b1.cell 2
  have hd3 : w2.cell? ⟨w.heap.size, 3, none⟩ = some (.int .i64 p.k) := b1.cell 3
  obtain ⟨m, is, hl, hv⟩ : ∃ (m : Int × Int) (is : Bool), (∀ u, Kp (fun _ => False) w2 u → (Instr.lookup 55 (.map (some f.b2)) (.agg #[.int .i64 p.z, .int .i64 p.k]) true).run Try.prog u = .ok (.tuple #[.agg #[.int .u32 m.1, .int .u64 m.2], .bool is]) u) ∧
      inAt (cut L p.n) p.a = (if is then some m else none) := by
    refine ⟨(inAt (cut L p.n) p.a).getD (0, 0), (inAt (cut L p.n) p.a).isSome, fun u hu => ?_, ?_⟩
    · have := (h2.what.kp hu (fun e => e)).look (t := 55) (e := 62) Try.underlying55 (z := nameV (0, 0)) (by kernel_rfl) (a := p.a) HP.out.2 true
      refine this.trans ?_
      cases inAt (cut L p.n) p.a <;> rfl
    · cases inAt (cut L p.n) p.a <;> rfl
  have e1 := hl _ ((Kp.refl _ _).drewN 1)
  have e2 := hl _ (((Kp.refl _ _).alloc (.cells #[.int .u32 0, .int .u64 0] 62)).drewN 1)
  simp only [← World.drew_is_drewN] at e1 e2
  have HV := Lib.hid hv
  have hg2 : f.g < w2.heap.size := h2.blk.lt
  have hs2 : w.heap.size < w2.heap.size := b1.lt
  clear hl hv h2 b1 b2 k2 HK HB1 HB2 HZ HA
  go_wp2_with (fail)
  go_region
  all_goals
    clear e1 e2 hc1 hd2 hd3
    have h3 := (H2.out.alloc (.cells #[.int .u32 m.1, .int .u64 m.2] 62)).drew
    have b1 := (B1.out.alloc (.cells #[.int .u32 m.1, .int .u64 m.2] 62)).drew
    have b2 := (B2.out.alloc (.cells #[.int .u32 m.1, .int .u64 m.2] 62)).drew
    have b3 := (Blk.new w2 62 #[.int .u32 m.1, .int .u64 m.2]).drew
    have k3 : Kp f.T w (w2.alloc (.cells #[.int .u32 m.1, .int .u64 m.2] 62)).drew := (HK2.out.alloc _).drewN 1
    have n3 : ¬ f.T w2.heap.size := by
      have l1 := H2.out.lt (i := f.b1) (.inr (.inl rfl))
      have l2 := H2.out.lt (i := f.b2) (.inr (.inr (.inl rfl)))
      have l3 := H2.out.lt (i := f.b3) (.inr (.inr (.inr rfl)))
      unfold LFp.T
      omega
    clear H2 B1 B2 HK2 HZ2
    generalize (w2.alloc (.cells #[.int .u32 m.1, .int .u64 m.2] 62)).drew = w3 at *
    have hm0 : w3.cell? ⟨w2.heap.size, 0, none⟩ = some (.int .u32 m.1) := b3.cell 0
    have hm1 : w3.cell? ⟨w2.heap.size, 1, none⟩ = some (.int .u64 m.2) := b3.cell 1
    have H3 := Lib.hid h3
    have B1 := Lib.hid b1
    have B2 := Lib.hid b2
    have K3 := Lib.hid k3
    have N3 := Lib.hid n3
    clear h3 b1 b2 b3 k3 n3
    generalize w2.heap.size = s2 at *
    clear hg2 hs2
    cases is
    case' true =>
      have hv := HV.out
      rw [if_pos rfl] at hv
      have hok := (H3.out.inOk hv).1
      have HFR := Lib.hid (free_some (HL.out.uniq.cut p.n) hv)
      clear hv
      go_wp2_with (fail)
      refine (forget_any w3 f (n + 1) (cut L p.n) m hok H3.out (by have := HN.out; omega)).mono ?_
      rintro e w4 ⟨rfl, h4, k4⟩
      rw [← HFR.out] at h4
      have B1 := Lib.hid (k4.blk B1.out N0.out)
      have B2 := Lib.hid (k4.blk B2.out N1.out)
      have K4 := Lib.hid (K3.out.trans k4 (fun _ _ h => h))
      have H4 := Lib.hid h4
      clear h4 k4 hm0 hm1 K3 H3 hok HFR
      go_wp2_with (fail)
    case' false =>
      have hv := HV.out
      rw [if_neg (by simp)] at hv
      have h4 := H3.out.mono (Nat.le_succ _)
      rw [← free_none hv] at h4
      have H4 := Lib.hid h4
      have K4 := K3
      clear h4 K3 H3 hv hm0 hm1
      go_wp2_with (fail)
      rename World => w4
    all_goals
      have hs4 : PutS f w.heap.size p w4 := ⟨H4.out.blk.cell 0, H4.out.blk.cell 1, B1.out.cell 2, B1.out.cell 3, B2.out.cell 0, B2.out.cell 1⟩
      have HS4 := Lib.hid hs4
      unfold PutS at hs4
      have hm : n + 1 + 1 < maxLen := by have := HN.out; omega
      have ne := HL.out.ne
      obtain ⟨v5, st5, w5, e5, t5, r5⟩ := H4.out.where_.drew.entry name_law Try.underlying54 hm zero_addr (a := p.n) HP.out.1 p.a (fun m => if m = p.n then some p.a else atOf (free (cut L p.n) p.a) m) (if_pos rfl) (fun c hc => if_neg hc)
      obtain ⟨w6, e6, m6, t6⟩ := r5 w5 rfl
      have k6 : Kp (fun i => i = f.b1) w4 w6 := kp_undrew ((grownBy_kp t5.grown).trans (grownBy_kp t6.grown) (fun _ _ h => h))
      obtain ⟨v7, st7, w7, e7, t7, r7⟩ := (H4.out.what.kp k6 (show ¬ f.b2 = f.b1 by omega)).entry addr_law Try.underlying55 hm zero_name (a := p.a) HP.out.2 p.n (fun m => if m = p.a then some p.n else inAt (free (cut L p.n) p.a) m) (if_pos rfl) (fun c hc => if_neg hc)
      obtain ⟨w8, e8, m8, t8⟩ := r7 w7 rfl
      have k8 : Kp (fun i => i = f.b2) w6 w8 := (grownBy_kp t7.grown).trans (grownBy_kp t8.grown) (fun _ _ h => h)
      have hs5 := HS4.out.kp (kp_undrew ((grownBy_kp t5.grown).mono (S' := f.T) (fun _ _ e => .inl e))) NG.out N0.out N1.out
      have hs6 := HS4.out.kp (k6.mono (S' := f.T) (fun _ _ e => .inl e)) NG.out N0.out N1.out
      have hs7 := hs6.kp ((grownBy_kp t7.grown).mono (S' := f.T) (fun _ _ e => .inr (.inl e))) NG.out N0.out N1.out
      have hs8 := hs6.kp (k8.mono (S' := f.T) (fun _ _ e => .inr (.inl e))) NG.out N0.out N1.out
      have m6' := m6.kp k8 (show ¬ f.b1 = f.b2 by omega)
      have g8 := k8.blk (k6.blk H4.out.blk (show ¬ f.g = f.b1 by omega)) (show ¬ f.g = f.b2 by omega)
      obtain ⟨Cn, n4, hcn⟩ := H4.out.counts
      have n8 := (n4.kp k6 (show ¬ f.b3 = f.b1 by omega)).kp k8 (show ¬ f.b3 = f.b2 by omega)
      have HK8 := Lib.hid ((K4.out.trans (k6.mono (S' := f.T) (fun _ _ e => .inl e)) (fun _ _ h => h)).trans (k8.mono (S' := f.T) (fun _ _ e => .inr (.inl e))) (fun _ _ h => h))
      have HS8 := Lib.hid hs8
      have M6 := Lib.hid m6'
      have M8 := Lib.hid m8
      have G8 := Lib.hid g8
      have N8 := Lib.hid n8
      have HCN := Lib.hid hcn
      unfold PutS at hs5 hs6 hs7 hs8
      change (Instr.mapEntry 54 (.map (some f.b1)) (.agg #[.int .u32 p.t, .int .u64 p.b])).run Try.prog w4.drew = .ok (.tuple #[v5, .int .i64 st5]) w5 at e5
      change (Instr.entryStore 54 (.map (some f.b1)) (.int .i64 st5) (.agg #[.int .i64 p.z, .int .i64 p.k])).run Try.prog w5 = .ok () w6 at e6
      change (Instr.mapEntry 55 (.map (some f.b2)) (.agg #[.int .i64 p.z, .int .i64 p.k])).run Try.prog w6 = .ok (.tuple #[v7, .int .i64 st7]) w7 at e7
      change (Instr.entryStore 55 (.map (some f.b2)) (.int .i64 st7) (.agg #[.int .u32 p.t, .int .u64 p.b])).run Try.prog w7 = .ok () w8 at e8
      clear t5 t6 t7 t8 r5 r7 m6 m8 m6' g8 n4 n8 hcn k6 k8 hm ne HV B1 B2 N3
      go_region_held3 (fun u => u.cell? ⟨f.g, 0, none⟩ = some (.map (some f.b1)) ∧ u.cell? ⟨f.g, 1, none⟩ = some (.map (some f.b2)) ∧ u.cell? ⟨w.heap.size, 2, none⟩ = some (.int .i64 p.z) ∧ u.cell? ⟨w.heap.size, 3, none⟩ = some (.int .i64 p.k) ∧ u.cell? ⟨w.heap.size + 1, 0, none⟩ = some (.int .u32 p.t) ∧ u.cell? ⟨w.heap.size + 1, 1, none⟩ = some (.int .u64 p.b))
        (first | exact hs4 | exact hs5 | exact hs6 | exact hs7 | exact hs8)
        (fail)
      clear e5 e6 e7 e8 hs4 hs5 hs6 hs7 hs8 HS4
      have c2 : w8.cell? ⟨f.g, 2, none⟩ = some (.map (some f.b3)) := G8.out.cell 2
      have d0 : w8.cell? ⟨w.heap.size + 1, 0, none⟩ = some (.int .u32 p.t) := HS8.out.2.2.2.2.1
      have e8 : (Instr.lookup 52 (.map (some f.b3)) (.int .u32 p.t) false).run Try.prog { w8 with drawn := w8.drawn + 1 } = .ok (.int .u64 (cnt (free (cut L p.n) p.a) p.t)) { w8 with drawn := w8.drawn + 1 } := by
        have := N8.out.drew.look (t := 52) (e := 29) Try.underlying52 (z := .int .u64 0) (by kernel_rfl) (a := p.t) HP.out.1.1 false
        refine this.trans ?_
        rw [← HCN.out]
        cases Cn p.t <;> rfl
      have hle : ((cnt (free (cut L p.n) p.a) p.t : Nat) : Int) + 1 ≤ 9223372036854775807 := by
        have h1 := cnt_le (free (cut L p.n) p.a) p.t
        have h2 := H4.out.len
        have h3 := HN.out
        unfold maxLen at h3
        omega
      generalize hx : cnt (free (cut L p.n) p.a) p.t = x at *
      have HX := Lib.hid hx
      clear hx
      go_wp2_with (fail)
      go_still_tail 8, (by kernel_rfl)
      refine wpStill_look rfl _ _ _ _ rfl _ _ _ rfl rfl e8 ?_
      clear e8
      repeat still_step
      refine wpStill_nil ?_
      change wpList _ _ _ _ _ w8.drew
      rw [IntWalk.u64_in ((x : Int) + 1) (by omega)]
      refine wpList_mapF_store rfl _ _ _ _ 29 rfl N8.out.drew Try.underlying52 (by have := HN.out; omega) p.t HP.out.1.1 ((x : Int) + 1) (fun t => if t = p.t then some ((x : Int) + 1) else Cn t) (if_pos rfl) (fun c hc => if_neg hc) rfl rfl rfl ?_
      intro w9 hm9 hk9
      have hk9 := kp_undrew hk9
      have ne := HL.out.ne
      have hlm : LM w9 f (n + 3) (p :: free (cut L p.n) p.a) := by
        have e1 : atOf (p :: free (cut L p.n) p.a) = fun m => if m = p.n then some p.a else atOf (free (cut L p.n) p.a) m := funext fun m => atOf_cons
        have e2 : inAt (p :: free (cut L p.n) p.a) = fun m => if m = p.a then some p.n else inAt (free (cut L p.n) p.a) m := funext fun m => inAt_cons
        refine ⟨hk9.blk G8.out (show ¬ f.g = f.b3 by omega), ?_, ?_, ⟨_, hm9, fun t => ?_⟩, ne, ?_, ?_, ?_⟩
        · rw [e1]
          exact M6.out.kp hk9 (show ¬ f.b1 = f.b3 by omega)
        · rw [e2]
          exact M8.out.kp hk9 (show ¬ f.b2 = f.b3 by omega)
        · rw [cnt_cons]
          by_cases ht : t = p.t
          · subst ht
            rw [if_pos rfl, if_pos rfl, HX.out]
            rfl
          · rw [if_neg ht, if_neg ht]
            exact HCN.out t
        · refine H4.out.uniq.cons (atOf_none.2 fun q hq => (mem_cut.1 (mem_free.1 hq).1).2) (inAt_none.2 fun q hq => (mem_free.1 hq).2)
        · have := H4.out.len
          simp only [List.length_cons]
          omega
        · intro q hq
          rcases List.mem_cons.1 hq with rfl | hq
          · exact HP.out
          · exact H4.out.names q hq
      have HLM9 := Lib.hid hlm
      have HT := Lib.hid (HK8.out.trans (hk9.mono (S' := f.T) (fun _ _ e => .inr (.inr e))) (fun _ _ h => h))
      clear hm9 hk9 ne hlm
      go_wp2
      go_end0
      exact ⟨rfl, HLM9.out, HT.out⟩
end Go.Proofs.Ytcbbkemfgnbcpaa
