/- A call on both maps, and what it may change; two maps of package lmap and one of the reference. -/
import Derived.Test.YtcbbkemfgnbcpaaMr
namespace Go.Proofs.Ytcbbkemfgnbcpaa
open Go.RowKit

set_option maxRecDepth 20000 in
set_option maxHeartbeats 4000000 in
theorem does_kp (W w : World) (f : LFp) (g n : Nat) (L M : List Pl) (o : Ox) (ho : OxOk o) (hn : n + 3 ≤ 1000000) (h : MR W w f g n L M) :
    Calls Try.prog 11 #[.pointer (some ⟨f.g, 0, none⟩), .pointer (some ⟨g, 0, none⟩), opV o] w
      (fun e w' => e = .returned (.bool (stepOk o L M)) ∧ MR W w' f g (n + 3) (stepL o L) (stepR o M) ∧ Kp (fun i => f.T i ∨ i = g) w w') := by
  obtain ⟨d, p⟩ := o
  have hh := h.alloc (.cells #[.bool d, .int .u32 p.t, .int .u64 p.b, .int .i64 p.z, .int .i64 p.k] 35)
  have hb := Blk.new w 35 #[.bool d, .int .u32 p.t, .int .u64 p.b, .int .i64 p.z, .int .i64 p.k]
  have hlt : ∀ i, f.S i → i < w.heap.size := fun i hi => h.lm.lt hi
  have hgl := h.rm.lt
  have HH := Lib.hid hh
  have HK0 := Lib.hid ((Kp.refl (fun i => f.T i ∨ i = g) w).alloc (.cells #[.bool d, .int .u32 p.t, .int .u64 p.b, .int .i64 p.z, .int .i64 p.k] 35))
  have HB := Lib.hid hb
  have HO := Lib.hid ho
  have HN := Lib.hid hn
  have HLT := Lib.hid hlt
  have HGL := Lib.hid hgl
  clear hh hb h ho hn hlt hgl
  unfold opV
  change Hid (NameOk p.n ∧ AddrOk p.a) at HO
  go_enter Try.func11, Try.ntmps11
  cases d with
  | false =>
    go_wp2_with (fail)
    generalize w.alloc (.cells #[.bool false, .int .u32 p.t, .int .u64 p.b, .int .i64 p.z, .int .i64 p.k] 35) = w1 at *
    refine (lput_any w1 f n L p HO.out HH.out.lm (by have := HN.out; simp only [maxLen]; omega)).mono ?_
    rintro e w2 ⟨rfl, hl, hk⟩
    have hm := HH.out.step_l (Nat.le_add_right n 3) hl hk
    have hb2 := hk.blk HB.out (HH.out.lm.no_cells HB.out)
    have c1 : w2.cell? ⟨w.heap.size, 1, none⟩ = some (.int .u32 p.t) := hb2.cell 1
    have c2 : w2.cell? ⟨w.heap.size, 2, none⟩ = some (.int .u64 p.b) := hb2.cell 2
    have c3 : w2.cell? ⟨w.heap.size, 3, none⟩ = some (.int .i64 p.z) := hb2.cell 3
    have c4 : w2.cell? ⟨w.heap.size, 4, none⟩ = some (.int .i64 p.k) := hb2.cell 4
    have HM := Lib.hid hm
    have HK1 := Lib.hid (HK0.out.trans hk (fun _ _ h => .inl h))
    clear hl hk hm hb2
    go_wp2_with (fail)
    have hml : M.length ≤ n := HH.out.len
    refine (rput_any w2 g M p (by have := HN.out; omega) HM.out.rm).mono ?_
    rintro e w3 ⟨rfl, hr, hk⟩
    have HM3 := Lib.hid (HM.out.step_r hr (by have := putRef_length p M; omega) hk)
    have HK2 := Lib.hid (HK1.out.trans hk (fun _ _ h => .inr h))
    clear hr hk hml
    go_wp2
    go_ret
    exact ⟨rfl, HM3.out, HK2.out⟩
  | true =>
    go_wp2_with (fail)
    generalize w.alloc (.cells #[.bool true, .int .u32 p.t, .int .u64 p.b, .int .i64 p.z, .int .i64 p.k] 35) = w1 at *
    have ks : w1.cell? ⟨w.heap.size, 1, none⟩ = some (.int .u32 p.t) ∧ w1.cell? ⟨w.heap.size, 2, none⟩ = some (.int .u64 p.b) := ⟨HB.out.cell 1, HB.out.cell 2⟩
    have HFG := Lib.hid (fun u (hu : MR W u f g n L M) => ldrop_any u f n L p.n HO.out.1 hu.lm (by have := HN.out; simp only [maxLen]; omega))
    have HFR := Lib.hid (fun u (hu : MR W u f g (n + 1) (cut L p.n) M) => rdrop_any u g M p.t p.b (by have := HN.out; have := HH.out.len; omega) hu.rm)
    go_region_held3 (fun u => u.cell? ⟨w.heap.size, 1, none⟩ = some (.int .u32 p.t) ∧ u.cell? ⟨w.heap.size, 2, none⟩ = some (.int .u64 p.b))
      (first | exact ks | exact ks2 | exact ks3)
      (first
        | (go_at_call 12
           refine (HFG.out _ (HH.out.drewN 1)).mono ?_
           rintro e w2 ⟨rfl, hl, hk⟩
           have hm := (HH.out.drewN 1).step_l (Nat.le_succ n) hl hk
           have hb2 := hk.blk (HB.out.drewN 1) ((HH.out.drewN 1).lm.no_cells (HB.out.drewN 1))
           have ks2 : w2.cell? ⟨w.heap.size, 1, none⟩ = some (.int .u32 p.t) ∧ w2.cell? ⟨w.heap.size, 2, none⟩ = some (.int .u64 p.b) := ⟨hb2.cell 1, hb2.cell 2⟩
           have HB2 := Lib.hid hb2
           have HM2 := Lib.hid hm
           have HK1 := Lib.hid ((HK0.out.drewN 1).trans hk (fun _ _ h => .inl h))
           clear hl hk hm hb2)
        | (go_at_call 25
           refine (HFR.out _ HM2.out).mono ?_
           rintro e w3 ⟨rfl, hr, hk⟩
           have hb3 := hk.blk HB2.out (fun e => by
             obtain ⟨A, c, hg, _⟩ := HM2.out.rm
             exact HB2.out.ne_ hg (by decide) e)
           have ks3 : w3.cell? ⟨w.heap.size, 1, none⟩ = some (.int .u32 p.t) ∧ w3.cell? ⟨w.heap.size, 2, none⟩ = some (.int .u64 p.b) := ⟨hb3.cell 1, hb3.cell 2⟩
           have HM3 := Lib.hid (HM2.out.step_r hr (Nat.le_trans (cut_length M _) HM2.out.len) hk)
           have HK2 := Lib.hid (HK1.out.trans hk (fun _ _ h => .inr h))
           clear hr hk hb3))
    generalize hB : ((atOf L p.n).isSome == decide ((cut M (p.t, p.b)).length < M.length)) = bb
    have HBB := Lib.hid hB
    clear hB ks ks2 ks3
    go_wp2
    go_ret
    exact ⟨ret_bool HBB.out.symm, HM3.out.mono (by omega), HK2.out⟩

/-- Two maps of package lmap, and one of the reference, all made behind W. -/
structure Ap (W w : World) (fm fn : LFp) (g nm nn : Nat) (Lm Ln M : List Pl) : Prop where
  lm : LM w fm nm Lm
  mr : MR W w fn g nn Ln M
  nf : ∀ i, fm.S i → W.heap.size ≤ i
  dis : ∀ i, fm.S i → ¬ fn.S i ∧ i ≠ g
section
variable {W w w' : World} {fm fn : LFp} {g nm nn m : Nat} {Lm Ln M L' M' : List Pl}
theorem Ap.below (h : Ap W w fm fn g nm nn Lm Ln M) (hb : Below w.heap.size w w') : Ap W w' fm fn g nm nn Lm Ln M := ⟨h.lm.below hb, h.mr.below hb, h.nf, h.dis⟩
theorem Ap.alloc (h : Ap W w fm fn g nm nn Lm Ln M) (o : Obj) : Ap W (w.alloc o) fm fn g nm nn Lm Ln M := h.below ((Below.refl _ _).alloc (Nat.le_refl _) o)
theorem Ap.step_m (h : Ap W w fm fn g nm nn Lm Ln M) (hl : LM w' fm m L') (hk : Kp fm.T w w') : Ap W w' fm fn g m nn L' Ln M :=
  ⟨hl, ⟨h.mr.lm.kp hk (fun i hi ht => (h.dis i (LFp.S_of_T ht)).1 hi), h.mr.rm.kp h.lm hk, Kp.below h.mr.bl hk h.mr.bl.size (fun b hb e => by have := h.nf b (LFp.S_of_T e); omega), h.mr.nf, h.mr.ng, h.mr.len⟩, h.nf, h.dis⟩
theorem Ap.step_n (h : Ap W w fm fn g nm nn Lm Ln M) (hm : MR W w' fn g m L' M') (hk : Kp (fun i => fn.T i ∨ i = g) w w') : Ap W w' fm fn g nm m Lm L' M' :=
  ⟨h.lm.kp hk (fun i hi ht => by
    rcases ht with ht | ht
    · exact (h.dis i hi).1 (LFp.S_of_T ht)
    · exact (h.dis i hi).2 ht), hm, h.nf, h.dis⟩
end

/-- .. and a call that is looked at. -/
structure Aq (W w : World) (fm fn : LFp) (g nm nn : Nat) (Lm Ln M : List Pl) (b : Nat) (o : Ox) : Prop where
  ap : Ap W w fm fn g nm nn Lm Ln M
  box : Blk w b 35 #[.bool o.d, .int .u32 o.p.t, .int .u64 o.p.b, .int .i64 o.p.z, .int .i64 o.p.k]
  nb : W.heap.size ≤ b
section
variable {W w w' : World} {fm fn : LFp} {g nm nn m : Nat} {Lm Ln M L' M' : List Pl} {b : Nat} {o o' : Ox}
theorem Aq.cells (h : Aq W w fm fn g nm nn Lm Ln M b o) : w.cell? ⟨b, 0, none⟩ = some (.bool o.d) ∧ w.cell? ⟨b, 1, none⟩ = some (.int .u32 o.p.t) ∧ w.cell? ⟨b, 2, none⟩ = some (.int .u64 o.p.b) ∧ w.cell? ⟨b, 3, none⟩ = some (.int .i64 o.p.z) ∧ w.cell? ⟨b, 4, none⟩ = some (.int .i64 o.p.k) :=
  ⟨h.box.cell 0, h.box.cell 1, h.box.cell 2, h.box.cell 3, h.box.cell 4⟩
theorem Aq.below (h : Aq W w fm fn g nm nn Lm Ln M b o) (hb : Below w.heap.size w w') : Aq W w' fm fn g nm nn Lm Ln M b o := ⟨h.ap.below hb, h.box.below hb h.box.lt, h.nb⟩
theorem Aq.alloc (h : Aq W w fm fn g nm nn Lm Ln M b o) (ob : Obj) : Aq W (w.alloc ob) fm fn g nm nn Lm Ln M b o := h.below ((Below.refl _ _).alloc (Nat.le_refl _) ob)
theorem Aq.set (h : Aq W w fm fn g nm nn Lm Ln M b o) (hk : Kp (fun i => i = b) w w') (hb : Blk w' b 35 #[.bool o'.d, .int .u32 o'.p.t, .int .u64 o'.p.b, .int .i64 o'.p.z, .int .i64 o'.p.k]) : Aq W w' fm fn g nm nn Lm Ln M b o' := by
  have aux : ∀ {f : LFp} {n : Nat} {L : List Pl}, LM w f n L → ∀ i, f.S i → ¬ i = b := by
    rintro f n L hl i hi rfl
    rcases hi with e | e
    · exact hl.blk.ne_ h.box (by decide) e.symm
    · exact hl.no_cells h.box e
  obtain ⟨A, c, hg, ho⟩ := h.ap.mr.rm
  refine ⟨⟨h.ap.lm.kp hk (aux h.ap.lm), ⟨h.ap.mr.lm.kp hk (aux h.ap.mr.lm), ⟨A, c, hk.blk hg (fun e => hg.ne_ h.box (by decide) e), ho.1, ho.2.imp id ?_⟩, Kp.below h.ap.mr.bl hk h.ap.mr.bl.size (fun i hi e => by have := h.nb; omega), h.ap.mr.nf, h.ap.mr.ng, h.ap.mr.len⟩, h.ap.nf, h.ap.dis⟩, hb, h.nb⟩
  rintro ⟨r, cap, cur, hv, h0, hr, rest⟩
  exact ⟨r, cap, cur, hv, h0, hk.blk (t := 33) hr (fun e => Blk.ne_ (t := 33) hr h.box (by decide) e), rest⟩
theorem Aq.does (h : Aq W w fm fn g nm nn Lm Ln M b o) (ho : OxOk o) (hn : nn + 3 ≤ 1000000) : Calls Try.prog 11 #[.pointer (some ⟨fn.g, 0, none⟩), .pointer (some ⟨g, 0, none⟩), .agg #[.bool o.d, .int .u32 o.p.t, .int .u64 o.p.b, .int .i64 o.p.z, .int .i64 o.p.k]] w
    (fun e w' => e = .returned (.bool (stepOk o Ln M)) ∧ Aq W w' fm fn g nm (nn + 3) Lm (stepL o Ln) (stepR o M) b o) := by
  refine (does_kp W w fn g nn Ln M o ho hn h.ap.mr).mono ?_
  rintro e w' ⟨rfl, hm, hk⟩
  refine ⟨rfl, h.ap.step_n hm hk, hk.blk h.box ?_, h.nb⟩
  rintro (e | e)
  · exact h.ap.mr.lm.no_cells h.box e
  · obtain ⟨A, c, hg, _⟩ := h.ap.mr.rm
    exact h.box.ne_ hg (by decide) e
theorem Aq.drop (h : Aq W w fm fn g nm nn Lm Ln M b o) (ho : OxOk o) (hn : nm < 1000000) : Calls Try.prog 12 #[.pointer (some ⟨fm.g, 0, none⟩), .int .u32 o.p.t, .int .u64 o.p.b] w
    (fun e w' => e = .returned (.bool (atOf Lm o.p.n).isSome) ∧ Aq W w' fm fn g (nm + 3) nn (cut Lm o.p.n) Ln M b o) := by
  refine (ldrop_any w fm nm Lm o.p.n ho.1 h.ap.lm (by simp only [maxLen]; omega)).mono ?_
  rintro e w' ⟨rfl, hl, hk⟩
  exact ⟨rfl, h.ap.step_m (hl.mono (by omega)) hk, hk.blk h.box (h.ap.lm.no_cells h.box), h.nb⟩
theorem Aq.put (h : Aq W w fm fn g nm nn Lm Ln M b o) (ho : OxOk o) (hn : nm < 1000000) : Calls Try.prog 13 #[.pointer (some ⟨fm.g, 0, none⟩), .agg #[.int .u32 o.p.t, .int .u64 o.p.b, .int .i64 o.p.z, .int .i64 o.p.k]] w
    (fun e w' => e = .returned (.tuple #[]) ∧ Aq W w' fm fn g (nm + 3) nn (o.p :: free (cut Lm o.p.n) o.p.a) Ln M b o) := by
  refine (lput_any w fm nm Lm o.p ho h.ap.lm (by simp only [maxLen]; omega)).mono ?_
  rintro e w' ⟨rfl, hl, hk⟩
  exact ⟨rfl, h.ap.step_m hl hk, hk.blk h.box (h.ap.lm.no_cells h.box), h.nb⟩
theorem Aq.get_m (h : Aq W w fm fn g nm nn Lm Ln M b o) (k : Int × Int) (hk : NameOk k) {r : Option (Int × Int)} (hr : atOf Lm k = r) : Calls Try.prog 14 #[.pointer (some ⟨fm.g, 0, none⟩), .int .u32 k.1, .int .u64 k.2] w
    (fun e w' => e = .returned (.tuple #[.agg #[.int .i64 (r.getD (0, 0)).1, .int .i64 (r.getD (0, 0)).2], .bool r.isSome]) ∧ Aq W w' fm fn g nm nn Lm Ln M b o ∧ Below w.heap.size w w') := by
  refine (lget_any w fm nm Lm k hk h.ap.lm).mono ?_
  rintro e w' ⟨rfl, hb⟩
  rw [hr]
  exact ⟨rfl, h.below hb, hb⟩
theorem Aq.get_n (h : Aq W w fm fn g nm nn Lm Ln M b o) (k : Int × Int) (hk : NameOk k) {r : Option (Int × Int)} (hr : atOf Ln k = r) : Calls Try.prog 14 #[.pointer (some ⟨fn.g, 0, none⟩), .int .u32 k.1, .int .u64 k.2] w
    (fun e w' => e = .returned (.tuple #[.agg #[.int .i64 (r.getD (0, 0)).1, .int .i64 (r.getD (0, 0)).2], .bool r.isSome]) ∧ Aq W w' fm fn g nm nn Lm Ln M b o ∧ Below w.heap.size w w') := by
  refine (lget_any w fn nn Ln k hk h.ap.mr.lm).mono ?_
  rintro e w' ⟨rfl, hb⟩
  rw [hr]
  exact ⟨rfl, h.below hb, hb⟩
theorem Aq.count_m (h : Aq W w fm fn g nm nn Lm Ln M b o) (t : Int) (ht : U32Ok t) {x : Nat} (hx : cnt Lm t = x) : Calls Try.prog 15 #[.pointer (some ⟨fm.g, 0, none⟩), .int .u32 t] w
    (fun e w' => e = .returned (.int .u64 x) ∧ Aq W w' fm fn g nm nn Lm Ln M b o ∧ Below w.heap.size w w') := by
  refine (count_any w fm nm Lm t ht h.ap.lm).mono ?_
  rintro e w' ⟨rfl, hb⟩
  rw [hx]
  exact ⟨rfl, h.below hb, hb⟩
theorem Aq.count_n (h : Aq W w fm fn g nm nn Lm Ln M b o) (t : Int) (ht : U32Ok t) {x : Nat} (hx : cnt Ln t = x) : Calls Try.prog 15 #[.pointer (some ⟨fn.g, 0, none⟩), .int .u32 t] w
    (fun e w' => e = .returned (.int .u64 x) ∧ Aq W w' fm fn g nm nn Lm Ln M b o ∧ Below w.heap.size w w') := by
  refine (count_any w fn nn Ln t ht h.ap.mr.lm).mono ?_
  rintro e w' ⟨rfl, hb⟩
  rw [hx]
  exact ⟨rfl, h.below hb, hb⟩
end

/-! ### the plain law -/
def ofT (T : Int) (L : List Pl) : List Pl := L.filter (fun p => decide (p.t = T))
theorem ofT_cut (T : Int) (L : List Pl) (n : Int × Int) : ofT T (cut L n) = cut (ofT T L) n := by
  unfold ofT cut
  rw [List.filter_filter, List.filter_filter]
  congr 1
  funext p
  exact Bool.and_comm _ _
theorem ofT_free (T : Int) (L : List Pl) (a : Int × Int) : ofT T (free L a) = free (ofT T L) a := by
  unfold ofT free
  rw [List.filter_filter, List.filter_filter]
  congr 1
  funext p
  exact Bool.and_comm _ _
theorem atOf_ofT (T : Int) (L : List Pl) (b : Int) : atOf (ofT T L) (T, b) = atOf L (T, b) := by
  unfold atOf ofT
  rw [List.find?_filter]
  congr 2
  funext p
  rw [Bool.eq_iff_iff]
  simp [Pl.n]
theorem cnt_ofT (T : Int) (L : List Pl) : cnt (ofT T L) T = cnt L T := by
  unfold cnt ofT
  rw [List.countP_filter]
  congr 1
  funext p
  simp
/-- What the tenant has in the one is what there is in the other; it lies at even places. -/
def Same (T : Int) (Lm Ln : List Pl) : Prop := ofT T Lm = Ln ∧ ∀ p ∈ Lm, p.t = T → p.k % 2 = 0
theorem Same.nil (T : Int) : Same T [] [] := ⟨rfl, fun p hp => by cases hp⟩
theorem Same.own {T : Int} {Lm Ln : List Pl} (h : Same T Lm Ln) (o : Ox) (ht : o.p.t = T) (hk : o.p.k % 2 = 0) : Same T (stepL o Lm) (stepL o Ln) := by
  obtain ⟨h1, h2⟩ := h
  unfold stepL
  split
  · exact ⟨by rw [ofT_cut, h1], fun p hp => h2 p (mem_cut.1 hp).1⟩
  · refine ⟨?_, fun p hp => ?_⟩
    · rw [← h1, ← ofT_cut, ← ofT_free]
      unfold ofT
      rw [List.filter_cons_of_pos (by simp [ht])]
    · rcases List.mem_cons.1 hp with rfl | hp
      · exact fun _ => hk
      · exact h2 p (mem_cut.1 (mem_free.1 hp).1).1
theorem Same.other {T : Int} {Lm Ln : List Pl} (h : Same T Lm Ln) (o : Ox) (ht : o.p.t ≠ T) (hk : o.p.k % 2 = 1) : Same T (stepL o Lm) Ln := by
  obtain ⟨h1, h2⟩ := h
  have hc : ofT T (cut Lm o.p.n) = ofT T Lm := by
    unfold ofT cut
    rw [List.filter_filter]
    refine List.filter_congr fun p _ => ?_
    rw [Bool.eq_iff_iff]
    simp [Pl.n]
    intro e1
    exact .inl fun e2 => ht (e2.symm.trans e1)
  have hf : ofT T (free (cut Lm o.p.n) o.p.a) = ofT T Lm := by
    rw [← hc]
    unfold ofT free
    rw [List.filter_filter]
    refine List.filter_congr fun p hp => ?_
    rw [Bool.eq_iff_iff]
    simp [Pl.a]
    intro e1
    have := h2 p (mem_cut.1 hp).1 e1
    exact .inr fun e3 => by omega
  unfold stepL
  split
  · exact ⟨by rw [hc, h1], fun p hp => h2 p (mem_cut.1 hp).1⟩
  · refine ⟨?_, fun p hp => ?_⟩
    · rw [← h1, ← hf]
      unfold ofT
      rw [List.filter_cons_of_neg (by simp [ht])]
    · rcases List.mem_cons.1 hp with rfl | hp
      · exact fun e => absurd e ht
      · exact h2 p (mem_cut.1 (mem_free.1 hp).1).1
end Go.Proofs.Ytcbbkemfgnbcpaa
