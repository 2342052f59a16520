/- Both maps together: a call on both; the chapter's example. -/
import Derived.Test.YtcbbkemfgnbcpaaOp
import Derived.Test.YtcbbkemfgnbcpaaRm3
namespace Go.Proofs.Ytcbbkemfgnbcpaa
open Go.RowKit

theorem MapF.is_map {P : Program} {k : TypeId} {A B : Type} {C : KeyCode P k A} {ev : B → Value} {w : World} {b n : Nat} {F : A → Option B} (h : MapF C ev w b n F) : ∃ es cl, w.heap[b]? = some (.map es cl) := by
  obtain ⟨D, ⟨es, clock, hb, _⟩, _⟩ := h.is
  exact ⟨es, clock, hb⟩
theorem LM.no_cells {w : World} {f : LFp} {n : Nat} {L : List Pl} (h : LM w f n L) {g : Nat} {t : TypeId} {cs : Array Value} (hb : Blk w g t cs) : ¬ f.T g := by
  have aux : ∀ b, (∃ es cl, w.heap[b]? = some (.map es cl)) → g ≠ b := by
    rintro b ⟨es, cl, hm⟩ rfl
    unfold Blk at hb
    rw [hb] at hm
    cases hm
  obtain ⟨C, h3, _⟩ := h.counts
  rintro (e | e | e)
  · exact aux _ h.where_.is_map e
  · exact aux _ h.what.is_map e
  · exact aux _ h3.is_map e
theorem RM.kp {w w' : World} {f : LFp} {n g : Nat} {L M : List Pl} (h : RM w g M) (hl : LM w f n L) (hk : Kp f.T w w') : RM w' g M := by
  obtain ⟨A, c, hb, ho⟩ := h
  refine ⟨A, c, hk.blk hb (hl.no_cells hb), ?_⟩
  refine ⟨ho.1, ho.2.imp id ?_⟩
  rintro ⟨r, cap, cur, hv, h0, hr, rest⟩
  exact ⟨r, cap, cur, hv, h0, hk.blk (t := 33) hr (hl.no_cells (t := 33) hr), rest⟩
theorem RM.lt {w : World} {g : Nat} {M : List Pl} (h : RM w g M) : g < w.heap.size := by
  obtain ⟨A, c, hb, _⟩ := h
  exact hb.lt
theorem RM.below {w w' : World} {g : Nat} {M : List Pl} (h : RM w g M) (hb : Below w.heap.size w w') : RM w' g M := by
  obtain ⟨A, c, hg, ho⟩ := h
  refine ⟨A, c, hg.below hb hg.lt, ho.1, ho.2.imp id ?_⟩
  rintro ⟨r, cap, cur, hv, h0, hr, rest⟩
  exact ⟨r, cap, cur, hv, h0, Blk.below (t := 33) hr hb (Blk.lt (t := 33) hr), rest⟩
theorem LM.kp_ref {w w' : World} {f : LFp} {n g : Nat} {L M : List Pl} (h : LM w f n L) (hr : RM w g M) (hk : Kp (fun i => i = g) w w') : LM w' f n L := by
  obtain ⟨A, c, hb, _⟩ := hr
  refine h.kp hk ?_
  rintro i hi rfl
  rcases hi with e | e
  · exact h.blk.ne_ hb (by decide) e.symm
  · exact h.no_cells hb e

/-- Both maps, made behind W; of W nothing has changed. -/
structure MR (W w : World) (f : LFp) (g n : Nat) (L M : List Pl) : Prop where
  lm : LM w f n L
  rm : RM w g M
  bl : Below W.heap.size W w
  nf : ∀ i, f.S i → W.heap.size ≤ i
  ng : W.heap.size ≤ g
  len : M.length ≤ n

section
variable {W w w' : World} {f : LFp} {g n : Nat} {L M L' M' : List Pl}
theorem MR.below (h : MR W w f g n L M) (hb : Below w.heap.size w w') : MR W w' f g n L M :=
  ⟨h.lm.below hb, h.rm.below hb, h.bl.trans (hb.mono h.bl.size), h.nf, h.ng, h.len⟩
theorem MR.alloc (h : MR W w f g n L M) (o : Obj) : MR W (w.alloc o) f g n L M := h.below ((Below.refl _ _).alloc (Nat.le_refl _) o)
theorem MR.drewN (h : MR W w f g n L M) (m : Nat) : MR W (w.drewN m) f g n L M := h.below ⟨rfl, rfl, rfl, Nat.le_refl _, fun _ _ => rfl⟩
theorem MR.mono (h : MR W w f g n L M) {m : Nat} (hm : n ≤ m) : MR W w f g m L M := ⟨h.lm.mono hm, h.rm, h.bl, h.nf, h.ng, Nat.le_trans h.len hm⟩
theorem LFp.S_of_T {f : LFp} {i : Nat} (h : f.T i) : f.S i := .inr h
theorem MR.step_l (h : MR W w f g n L M) {m : Nat} (hm : n ≤ m) (hl : LM w' f m L') (hk : Kp f.T w w') : MR W w' f g m L' M :=
  ⟨hl, h.rm.kp h.lm hk, Kp.below h.bl hk h.bl.size (fun b hb e => by have := h.nf b (LFp.S_of_T e); omega), h.nf, h.ng, Nat.le_trans h.len hm⟩
theorem MR.step_r (h : MR W w f g n L M) (hr : RM w' g M') (hl : M'.length ≤ n) (hk : Kp (fun i => i = g) w w') : MR W w' f g n L M' :=
  ⟨h.lm.kp_ref h.rm hk, hr, Kp.below h.bl hk h.bl.size (fun b hb e => by have := h.ng; omega), h.nf, h.ng, hl⟩
end

theorem putRef_length (p : Pl) (L : List Pl) : (putRef p L).length ≤ L.length + 1 := by
  have := putTo_length p L L.length (Nat.le_refl _)
  unfold putRef
  split <;> simp_all

def stepL (o : Ox) (L : List Pl) : List Pl := if o.d then cut L o.p.n else o.p :: free (cut L o.p.n) o.p.a
def stepR (o : Ox) (M : List Pl) : List Pl := if o.d then cut M o.p.n else putRef o.p M
def stepOk (o : Ox) (L M : List Pl) : Bool := if o.d then (atOf L o.p.n).isSome == decide ((cut M o.p.n).length < M.length) else true

set_option maxRecDepth 20000 in
set_option maxHeartbeats 4000000 in
theorem does_any (W w : World) (f : LFp) (g n : Nat) (L M : List Pl) (o : Ox) (ho : OxOk o) (hn : n + 3 ≤ 1000000) (h : MR W w f g n L M) :
    Calls Try.prog 11 #[.pointer (some ⟨f.g, 0, none⟩), .pointer (some ⟨g, 0, none⟩), opV o] w
      (fun e w' => e = .returned (.bool (stepOk o L M)) ∧ MR W w' f g (n + 3) (stepL o L) (stepR o M)) := by
  obtain ⟨d, p⟩ := o
  have hh := h.alloc (.cells #[.bool d, .int .u32 p.t, .int .u64 p.b, .int .i64 p.z, .int .i64 p.k] 35)
  have hb := Blk.new w 35 #[.bool d, .int .u32 p.t, .int .u64 p.b, .int .i64 p.z, .int .i64 p.k]
  have hlt : ∀ i, f.S i → i < w.heap.size := fun i hi => h.lm.lt hi
  have hgl := h.rm.lt
  have HH := Lib.hid hh
  have HB := Lib.hid hb
  have HO := Lib.hid ho
  have HN := Lib.hid hn
  have HLT := Lib.hid hlt
  have HGL := Lib.hid hgl
  clear hh hb h ho hn hlt hgl
  unfold opV
  change Hid (NameOk p.n ∧ AddrOk p.a) at HO
  go_enter Try.func11, Try.ntmps11
  cases d with
  | false =>
    go_wp2_with (fail)
    generalize w.alloc (.cells #[.bool false, .int .u32 p.t, .int .u64 p.b, .int .i64 p.z, .int .i64 p.k] 35) = w1 at *
    refine (lput_any w1 f n L p HO.out HH.out.lm (by have := HN.out; simp only [maxLen]; omega)).mono ?_
    rintro e w2 ⟨rfl, hl, hk⟩
    have hm := HH.out.step_l (Nat.le_add_right n 3) hl hk
    have hb2 := hk.blk HB.out (HH.out.lm.no_cells HB.out)
    have c1 : w2.cell? ⟨w.heap.size, 1, none⟩ = some (.int .u32 p.t) := hb2.cell 1
    have c2 : w2.cell? ⟨w.heap.size, 2, none⟩ = some (.int .u64 p.b) := hb2.cell 2
    have c3 : w2.cell? ⟨w.heap.size, 3, none⟩ = some (.int .i64 p.z) := hb2.cell 3
    have c4 : w2.cell? ⟨w.heap.size, 4, none⟩ = some (.int .i64 p.k) := hb2.cell 4
    have HM := Lib.hid hm
    clear hl hk hm hb2
    go_wp2_with (fail)
    have hml : M.length ≤ n := HH.out.len
    refine (rput_any w2 g M p (by have := HN.out; omega) HM.out.rm).mono ?_
    rintro e w3 ⟨rfl, hr, hk⟩
    have HM3 := Lib.hid (HM.out.step_r hr (by have := putRef_length p M; omega) hk)
    clear hr hk hml
    go_wp2
    go_ret
    exact ⟨rfl, HM3.out⟩
  | true =>
    go_wp2_with (fail)
    generalize w.alloc (.cells #[.bool true, .int .u32 p.t, .int .u64 p.b, .int .i64 p.z, .int .i64 p.k] 35) = w1 at *
    have ks : w1.cell? ⟨w.heap.size, 1, none⟩ = some (.int .u32 p.t) ∧ w1.cell? ⟨w.heap.size, 2, none⟩ = some (.int .u64 p.b) := ⟨HB.out.cell 1, HB.out.cell 2⟩
    have HFG := Lib.hid (fun u (hu : MR W u f g n L M) => ldrop_any u f n L p.n HO.out.1 hu.lm (by have := HN.out; simp only [maxLen]; omega))
    have HFR := Lib.hid (fun u (hu : MR W u f g (n + 1) (cut L p.n) M) => rdrop_any u g M p.t p.b (by have := HN.out; have := HH.out.len; omega) hu.rm)
    go_region_held3 (fun u => u.cell? ⟨w.heap.size, 1, none⟩ = some (.int .u32 p.t) ∧ u.cell? ⟨w.heap.size, 2, none⟩ = some (.int .u64 p.b))
      (first | exact ks | exact ks2 | exact ks3)
      (first
        | (go_at_call 12
           refine (HFG.out _ (HH.out.drewN 1)).mono ?_
           rintro e w2 ⟨rfl, hl, hk⟩
           have hm := (HH.out.drewN 1).step_l (Nat.le_succ n) hl hk
           have hb2 := hk.blk (HB.out.drewN 1) ((HH.out.drewN 1).lm.no_cells (HB.out.drewN 1))
           have ks2 : w2.cell? ⟨w.heap.size, 1, none⟩ = some (.int .u32 p.t) ∧ w2.cell? ⟨w.heap.size, 2, none⟩ = some (.int .u64 p.b) := ⟨hb2.cell 1, hb2.cell 2⟩
           have HB2 := Lib.hid hb2
           have HM2 := Lib.hid hm
           clear hl hk hm hb2)
        | (go_at_call 25
           refine (HFR.out _ HM2.out).mono ?_
           rintro e w3 ⟨rfl, hr, hk⟩
           have hb3 := hk.blk HB2.out (fun e => by
             obtain ⟨A, c, hg, _⟩ := HM2.out.rm
             exact HB2.out.ne_ hg (by decide) e)
           have ks3 : w3.cell? ⟨w.heap.size, 1, none⟩ = some (.int .u32 p.t) ∧ w3.cell? ⟨w.heap.size, 2, none⟩ = some (.int .u64 p.b) := ⟨hb3.cell 1, hb3.cell 2⟩
           have HM3 := Lib.hid (HM2.out.step_r hr (Nat.le_trans (cut_length M _) HM2.out.len) hk)
           clear hr hk hb3))
    generalize hB : ((atOf L p.n).isSome == decide ((cut M (p.t, p.b)).length < M.length)) = bb
    have HBB := Lib.hid hB
    clear hB ks ks2 ks3
    go_wp2
    go_ret
    exact ⟨ret_bool HBB.out.symm, HM3.out.mono (by omega)⟩

set_option maxRecDepth 20000 in
theorem known_any (w : World) : Calls Try.prog 8 #[] w (Makes (.bool true) w) := by
  have h1 : NameOk (1, 2) ∧ AddrOk (3, 4) := by unfold NameOk AddrOk; omega
  have h2 : NameOk (1, 5) ∧ AddrOk (3, 4) := by unfold NameOk AddrOk; omega
  have HP1 := Lib.hid (fun u f n L h hn => lput_any u f n L ⟨1, 2, 3, 4⟩ h1 h hn)
  have HP2 := Lib.hid (fun u f n L h hn => lput_any u f n L ⟨1, 5, 3, 4⟩ h2 h hn)
  have HG := Lib.hid (fun u f n L h => lget_any u f n L (1, 2) h1.1 h)
  have HC := Lib.hid (fun u f n L h => count_any u f n L 1 (by unfold U32Ok; omega) h)
  clear h1 h2
  go_enter Try.func8, Try.ntmps8
  go_wp2_with (fail)
  refine (lnew_any _).mono ?_
  rintro e w1 ⟨f, rfl, hf, hl, hb⟩
  have HF := Lib.hid hf
  have HL := Lib.hid hl
  have HB := Lib.hid hb
  clear hf hl hb
  go_wp2_with (fail)
  refine (HP1.out _ _ _ _ HL.out (by decide)).mono ?_
  rintro e w2 ⟨rfl, hl, hk⟩
  have HL2 := Lib.hid hl
  have HB2 := Lib.hid (Kp.below HB.out hk HB.out.size (fun b hb e => by have := HF.out b (LFp.S_of_T e); omega))
  clear hl hk
  go_wp2_with (fail)
  refine (HP2.out _ _ _ _ HL2.out (by decide)).mono ?_
  rintro e w3 ⟨rfl, hl, hk⟩
  obtain ⟨L3, hl3, hv, hc⟩ : ∃ L3, LM w3 f (0 + 3 + 3) L3 ∧ atOf L3 (1, 2) = none ∧ cnt L3 1 = 1 := ⟨_, hl, by decide, by decide⟩
  have hg := HG.out w3 f _ L3 hl3
  rw [hv] at hg
  have HG3 := Lib.hid hg
  have HL3 := Lib.hid hl3
  have HCC := Lib.hid hc
  have HB3 := Lib.hid (Kp.below HB2.out hk HB2.out.size (fun b hb e => by have := HF.out b (LFp.S_of_T e); omega))
  clear hl hk hl3 hv hg hc
  go_wp2_with (fail)
  refine HG3.out.mono ?_
  rintro e w4 ⟨rfl, hb⟩
  have hl4 := HL3.out.below hb
  have HB4 := Lib.hid (HB3.out.trans (hb.mono HB3.out.size))
  have hcc := HC.out _ f _ L3 ((hl4.alloc (.cells #[.int .i64 0, .int .i64 0] 31)))
  rw [HCC.out] at hcc
  have HC4 := Lib.hid hcc
  clear hb hl4 hcc
  unfold addrV
  go_wp2_with (fail)
  refine HC4.out.mono ?_
  rintro e w5 ⟨rfl, hb⟩
  have HB5 := Lib.hid (((HB4.out.alloc HB4.out.size (.cells #[.int .i64 0, .int .i64 0] 31))).trans (hb.mono (by have := HB4.out.size; simp; omega)))
  clear hb
  go_wp2
  go_ret
  exact ⟨rfl, HB5.out⟩
end Go.Proofs.Ytcbbkemfgnbcpaa
