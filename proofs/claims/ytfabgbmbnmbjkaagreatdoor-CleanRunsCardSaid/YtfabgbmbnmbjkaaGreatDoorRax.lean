/- Joined texts: Sl2 Sl3 Sl4 Sl5 Sl6 Sl7 Sl8 Sl9 Sl10 Pla Sl11. -/
import Derived.Test.YtfabgbmbnmbjkaaGreatDoorRaw
import Derived.Laws.BytesArg
/- Pruned. -/
namespace Go.Proofs.YtfabgbmbnmbjkaaGreatDoor
open Go.RowKit
set_option maxRecDepth 20000
theorem run_text (w : World) (B : Nat) (A : Option Addr) (n c : Nat) (xs : List Int) (h : Reads w B 1 A n (nums .u8 xs)) : (convert 36 9 (.slice A n c)).run Tryz.prog w = .ok (.string (strOfNums xs)) w := by
 have hs : Tryz.prog.underlying 36 = some (.slice 5) := Tryz.underlying36
 have he : Tryz.prog.underlying 5 = some (.int .u8) := by kernel_rfl
 have hd : Tryz.prog.underlying 9 = some .string := by kernel_rfl
 have hn : n = xs.length := by have := h.1; rw [nums_length] at this; omega
 subst hn
 cases A with
 | none =>
   have h0 : xs.length = 0 := by
    rcases Nat.eq_zero_or_pos xs.length with h0 | h0
    · exact h0
    · obtain ⟨ad, e, _⟩ := h.2 h0
      cases e
   obtain rfl := List.eq_nil_of_length_eq_zero h0
   rw [run_convert_bytes_nil w _ _ hs he _ _ _ hd]
   rfl
 | some ad =>
   rw [run_convert_bytes_string w _ _ _ (some ad) _ _ hs he hd]
   have hl : (loadCells ad xs.length).run Tryz.prog w = .ok (xs.map (Value.int .u8)).toArray w := by
    have := run_loadCells_list (P := Tryz.prog) w ad (xs.map (Value.int .u8)) (fun j v hj => by
     have hjl : j < xs.length := by
      rcases Nat.lt_or_ge j xs.length with h' | h'
      · exact h'
      · simp [List.getElem?_eq_none (show (xs.map (Value.int .u8)).length <= j by simpa using h')] at hj
     obtain ⟨ad', e, _, hc⟩ := h.2 (by omega)
     obtain rfl := Option.some.inj e
     exact hc j v hj)
    simpa using this
   rw [run_bytesToString w ad _ _ xs hl, foldl_push_bytes]
   simp [strOfNums, ByteArray.empty, ByteArray.emptyWithCapacity]
   rfl
end Go.Proofs.YtfabgbmbnmbjkaaGreatDoor

/- Pruned. -/
namespace Go.Proofs.YtfabgbmbnmbjkaaGreatDoor
open Go.RowKit
set_option maxRecDepth 20000
def keepB (p : Pv) : Bool := p.d || p.da.length % 7 == 6
def cutB (bl : Nat) (l : List Int) (k : Nat) : List Int := l.take k ++ List.replicate (bl - k) 0
def blockM (bl : Nat) (p : Pv) : Pv := if keepB p then p else { p with da := cutB bl p.da (min bl p.da.length) }
theorem cutB_length (bl : Nat) (l : List Int) (k : Nat) (h : k <= bl) (h2 : k <= l.length) : (cutB bl l k).length = bl := by simp [cutB]; omega
theorem cutB_set (bl : Nat) (l : List Int) (k : Nat) (h : k < bl) (h2 : k < l.length) : (cutB bl l k).set k (l.getD k 0) = cutB bl l (k + 1) := by
 unfold cutB
 rw [List.set_append_right _ _ (by simp; omega), List.take_succ_eq_append_getElem h2]
 rw [show k - (l.take k).length = 0 by simp; omega]
 obtain ⟨j, hj⟩ : ∃ j, bl - k = j + 1 := ⟨bl - k - 1, by omega⟩
 rw [hj, List.replicate_succ, List.set_cons_zero, show bl - (k + 1) = j by omega]
 simp only [List.getD_eq_getElem?_getD, List.getElem?_eq_getElem h2, Option.getD_some, List.append_assoc, List.singleton_append]
theorem Blk.reads {w : World} {g : Nat} {l : List Int} (h : Blk w g 5 (nums .u8 l).toArray) : Reads w w.heap.size 1 (some ⟨g, 0, none⟩) l.length (nums .u8 l) :=
 ⟨by rw [nums_length]; omega, fun _ => ⟨_, rfl, h.lt, fun j u hu => by
  rw [add0, h.cell, List.getElem?_toArray]
  exact hu⟩⟩
def Blocked (bl : Nat) (p : Pv) (Ad : Option Addr) (w : World) (e : Ending) (w' : World) : Prop :=
 ∃ A' c', e = .returned (.agg #[.int .u32 p.t, .int .u64 p.b, .bool p.d, .slice A' (blockM bl p).da.length c']) ∧ Below w.heap.size w w' ∧ Reads w' w'.heap.size 1 A' (blockM bl p).da.length (nums .u8 (blockM bl p).da) ∧ (blockM bl p).da.length <= c' ∧ (∀ ad, A' = some ad -> (Ad = some ad ∧ (blockM bl p).da.length = p.da.length) ∨ w.heap.size <= ad.block)
set_option maxHeartbeats 2000000 in
theorem block_any (w : World) (bl : Nat) (hbl : bl <= 65536) (p : Pv) (Ad : Option Addr) (cd : Nat) (hr : Reads w w.heap.size 1 Ad p.da.length (nums .u8 p.da)) (hc : p.da.length <= cd) (hl : p.da.length <= 100000000) :
    Calls Tryz.prog 155 #[.int .i64 bl, .agg #[.int .u32 p.t, .int .u64 p.b, .bool p.d, .slice Ad p.da.length cd]] w (Blocked bl p Ad w) := by
 obtain ⟨pt, pb, pd, da⟩ := p
 simp only at hr hc hl ⊢
 have HC := Lib.hid hc
 clear hc
 cases pd with
 | true =>
   have HK : Hid (∀ u, Below w.heap.size w u -> Blocked bl ⟨pt, pb, true, da⟩ Ad w (.returned (.agg #[.int .u32 pt, .int .u64 pb, .bool true, .slice Ad da.length cd])) u) := fun u hu => ⟨Ad, cd, rfl, hu, (hr.below hu).more hu.size, HC.out, fun _ h => .inl ⟨h, rfl⟩⟩
   clear hr
   go_enter Tryz.func155, Tryz.ntmps155
   go_wp2
   go_returns
   exact HK.out _ (((Below.refl _ w).alloc (Nat.le_refl _) _).alloc (by simp) _)
 | false =>
   by_cases h6 : da.length % 7 = 6
   · have HK : Hid (∀ u, Below w.heap.size w u -> Blocked bl ⟨pt, pb, false, da⟩ Ad w (.returned (.agg #[.int .u32 pt, .int .u64 pb, .bool false, .slice Ad da.length cd])) u) := fun u hu => by
      have e : blockM bl ⟨pt, pb, false, da⟩ = ⟨pt, pb, false, da⟩ := by unfold blockM keepB; simp [h6]
      unfold Blocked
      rw [e]
      exact ⟨Ad, cd, rfl, hu, (hr.below hu).more hu.size, HC.out, fun _ h => .inl ⟨h, rfl⟩⟩
     have h7 : ((da.length : Int) % 7 == 6) = true := by simp; omega
     clear hr h6
     go_enter Tryz.func155, Tryz.ntmps155
     go_wp2
     go_returns
     exact HK.out _ (((Below.refl _ w).alloc (Nat.le_refl _) _).alloc (by simp) _)
   · have HE : Hid (blockM bl ⟨pt, pb, false, da⟩ = ⟨pt, pb, false, cutB bl da (min bl da.length)⟩) := by unfold Hid blockM keepB; simp [h6]
     have h7 : ((da.length : Int) % 7 == 6) = false := by simp; omega
     have HR := Lib.hid hr
     have hmk := run_make_u8 bl hbl
     clear hr h6
     go_enter Tryz.func155, Tryz.ntmps155
     go_wp2_with (fail)
     have hS : Hid (Below w.heap.size w (((w.alloc (.cells #[.int .u32 pt, .int .u64 pb, .bool false, .slice Ad da.length cd] 42)).alloc (.cells #[.int .u32 0, .int .u64 0, .bool false, .slice none 0 0] 42)).alloc (.cells (fillv 0 bl 0).toArray 5)) ∧
         Blk (((w.alloc (.cells #[.int .u32 pt, .int .u64 pb, .bool false, .slice Ad da.length cd] 42)).alloc (.cells #[.int .u32 0, .int .u64 0, .bool false, .slice none 0 0] 42)).alloc (.cells (fillv 0 bl 0).toArray 5)) w.heap.size 42 #[.int .u32 pt, .int .u64 pb, .bool false, .slice Ad da.length cd] ∧
         Blk (((w.alloc (.cells #[.int .u32 pt, .int .u64 pb, .bool false, .slice Ad da.length cd] 42)).alloc (.cells #[.int .u32 0, .int .u64 0, .bool false, .slice none 0 0] 42)).alloc (.cells (fillv 0 bl 0).toArray 5)) (w.heap.size + 1) 42 #[.int .u32 0, .int .u64 0, .bool false, .slice none 0 0] ∧
         Blk (((w.alloc (.cells #[.int .u32 pt, .int .u64 pb, .bool false, .slice Ad da.length cd] 42)).alloc (.cells #[.int .u32 0, .int .u64 0, .bool false, .slice none 0 0] 42)).alloc (.cells (fillv 0 bl 0).toArray 5)) (w.heap.size + 1 + 1) 5 (nums .u8 (cutB bl da 0)).toArray) := by
      have e0 : (fillv 0 bl 0).toArray = (nums .u8 (cutB bl da 0)).toArray := by simp [fillv, nums, cutB]
      have b1 := Blk.new w 42 #[.int .u32 pt, .int .u64 pb, .bool false, .slice Ad da.length cd]
      have b2 := Blk.new (w.alloc (.cells #[.int .u32 pt, .int .u64 pb, .bool false, .slice Ad da.length cd] 42)) 42 #[.int .u32 0, .int .u64 0, .bool false, .slice none 0 0]
      have b3 := Blk.new ((w.alloc (.cells #[.int .u32 pt, .int .u64 pb, .bool false, .slice Ad da.length cd] 42)).alloc (.cells #[.int .u32 0, .int .u64 0, .bool false, .slice none 0 0] 42)) 5 (fillv 0 bl 0).toArray
      refine ⟨(((Below.refl _ w).alloc (Nat.le_refl _) _).alloc (by simp) _).alloc (by simp; omega) _, (b1.alloc _).alloc _, ?_, ?_⟩
      · have := b2.alloc (.cells (fillv 0 bl 0).toArray 5)
        simpa only [World.size_alloc] using this
      · rw [e0] at b3 ⊢
        simpa only [World.size_alloc] using b3
     generalize (((w.alloc (.cells #[.int .u32 pt, .int .u64 pb, .bool false, .slice Ad da.length cd] 42)).alloc (.cells #[.int .u32 0, .int .u64 0, .bool false, .slice none 0 0] 42)).alloc (.cells (fillv 0 bl 0).toArray 5)) = wS at *
     clear hmk
     go_loopw [6] (fun i wr => ∃ k : Nat, k <= bl ∧ k <= da.length ∧ i = .int .i64 k ∧ Hid (Below w.heap.size w wr ∧ Blk wr w.heap.size 42 #[.int .u32 pt, .int .u64 pb, .bool false, .slice Ad da.length cd] ∧ Blk wr (w.heap.size + 1) 42 #[.int .u32 0, .int .u64 0, .bool false, .slice none 0 0] ∧ Blk wr (w.heap.size + 1 + 1) 5 (nums .u8 (cutB bl da k)).toArray)) (fun i _ => bl - (intOf i).toNat)
     case atStart => exact ⟨0, Nat.zero_le _, Nat.zero_le _, rfl, hS⟩
     case round =>
      obtain ⟨k, hk1, hk2, rfl, hrel⟩ := hrel
      clear hS
      have q3 : wr.cell? ⟨w.heap.size, 3, none⟩ = some (.slice Ad da.length cd) := hrel.out.2.1.cell 3
      by_cases hx : k < bl
      · by_cases hy : k < da.length
        · obtain ⟨ad, u, rfl, _, hu, hcell⟩ := ((HR.out.below hrel.out.1).more hrel.out.1.size).at_ hy
          rw [nums_get _ _ _ hy] at hu
          obtain rfl := Option.some.inj hu
          have gc : wr.cell? ⟨w.heap.size + 1 + 1, k, none⟩ = some (.int .u8 ((cutB bl da k).getD k 0)) := by
           rw [hrel.out.2.2.2.cell, List.getElem?_toArray]
           exact nums_get _ _ _ (by rw [cutB_length _ _ _ hk1 hk2]; exact hx)
          have gf : wr.frozen? ⟨w.heap.size + 1 + 1, k, none⟩ = false := hrel.out.2.2.2.frozen k
          have HXY := Lib.hid (And.intro hx hy)
          have hn : Hid (Below w.heap.size w (wr.setCell ⟨w.heap.size + 1 + 1, k, none⟩ (.int .u8 (da.getD k 0))) ∧ Blk (wr.setCell ⟨w.heap.size + 1 + 1, k, none⟩ (.int .u8 (da.getD k 0))) w.heap.size 42 #[.int .u32 pt, .int .u64 pb, .bool false, .slice (some ad) da.length cd] ∧ Blk (wr.setCell ⟨w.heap.size + 1 + 1, k, none⟩ (.int .u8 (da.getD k 0))) (w.heap.size + 1) 42 #[.int .u32 0, .int .u64 0, .bool false, .slice none 0 0] ∧ Blk (wr.setCell ⟨w.heap.size + 1 + 1, k, none⟩ (.int .u8 (da.getD k 0))) (w.heap.size + 1 + 1) 5 (nums .u8 (cutB bl da (k + 1))).toArray) := by
           have hkp := (Kp.refl (fun b => b = w.heap.size + 1 + 1) wr).setCell (p := ⟨w.heap.size + 1 + 1, k, none⟩) (.inl rfl) (.int .u8 (da.getD k 0))
           have hs := hrel.out.2.2.2.set_ k (.int .u8 (da.getD k 0))
           rw [nums_set, cutB_set _ _ _ hx hy] at hs
           exact ⟨hrel.out.1.setCell (p := ⟨w.heap.size + 1 + 1, k, none⟩) (by show w.heap.size <= w.heap.size + 1 + 1; omega) _, hkp.blk hrel.out.2.1 (by omega), hkp.blk hrel.out.2.2.1 (by omega), hs⟩
          generalize da.getD k 0 = v at *
          clear hrel
          go_wp2
          go_roundw
          case rel => exact ⟨k + 1, HXY.out.1, HXY.out.2, by go_num, hn⟩
          case measure => have := HXY.out.1; simp [intOf]; omega
        · have hke : k = da.length := by omega
          subst hke
          have q0 : wr.cell? ⟨w.heap.size, 0, none⟩ = some (.int .u32 pt) := hrel.out.2.1.cell 0
          have q1 : wr.cell? ⟨w.heap.size, 1, none⟩ = some (.int .u64 pb) := hrel.out.2.1.cell 1
          have q2 : wr.cell? ⟨w.heap.size, 2, none⟩ = some (.bool false) := hrel.out.2.1.cell 2
          have qf : ∀ i, wr.frozen? ⟨w.heap.size, i, none⟩ = false := fun i => hrel.out.2.1.frozen i
          have r0 : wr.cell? ⟨w.heap.size + 1, 0, none⟩ = some (.int .u32 0) := hrel.out.2.2.1.cell 0
          have r1 : wr.cell? ⟨w.heap.size + 1, 1, none⟩ = some (.int .u64 0) := hrel.out.2.2.1.cell 1
          have r2 : wr.cell? ⟨w.heap.size + 1, 2, none⟩ = some (.bool false) := hrel.out.2.2.1.cell 2
          have r3 : wr.cell? ⟨w.heap.size + 1, 3, none⟩ = some (.slice none 0 0) := hrel.out.2.2.1.cell 3
          have rf : ∀ i, wr.frozen? ⟨w.heap.size + 1, i, none⟩ = false := fun i => hrel.out.2.2.1.frozen i
          have hfin : Hid (∀ K : Nat, (K = bl) -> ∀ u, Kp (fun b => b = w.heap.size ∨ b = w.heap.size + 1) wr u -> Blocked bl ⟨pt, pb, false, da⟩ Ad w (.returned (.agg #[.int .u32 pt, .int .u64 pb, .bool false, .slice (some ⟨w.heap.size + 1 + 1, 0, none⟩) K K])) u) := fun K hK u hu => by
           subst hK
           have hb := hu.blk hrel.out.2.2.2 (by omega)
           have hm : da.length = min K da.length := by omega
           have hlen : (cutB K da (min K da.length)).length = K := cutB_length _ _ _ (by omega) (by omega)
           have hb2 : Blk u (w.heap.size + 1 + 1) 5 (nums .u8 (cutB K da (min K da.length))).toArray := by rw [<- hm]; exact hb
           unfold Blocked
           rw [HE.out]
           refine ⟨some ⟨w.heap.size + 1 + 1, 0, none⟩, K, by simp only [hlen], Kp.below hrel.out.1 hu hrel.out.1.size (fun b hb h => by omega), Blk.reads hb2, Nat.le_of_eq hlen, fun ad e => .inr ?_⟩
           obtain rfl := Option.some.inj e
           show w.heap.size <= w.heap.size + 1 + 1
           omega
          have hks : ∀ v : Value, Kp (fun b => b = w.heap.size ∨ b = w.heap.size + 1) wr (((((wr.setCell ⟨w.heap.size, 3, none⟩ v).setCell ⟨w.heap.size + 1, 0, none⟩ (.int .u32 pt)).setCell ⟨w.heap.size + 1, 1, none⟩ (.int .u64 pb)).setCell ⟨w.heap.size + 1, 2, none⟩ (.bool false)).setCell ⟨w.heap.size + 1, 3, none⟩ v) := fun v =>
           (((((Kp.refl (fun b => b = w.heap.size ∨ b = w.heap.size + 1) wr).setCell (p := ⟨w.heap.size, 3, none⟩) (.inl (.inl rfl)) v).setCell (p := ⟨w.heap.size + 1, 0, none⟩) (.inl (.inr rfl)) _).setCell (p := ⟨w.heap.size + 1, 1, none⟩) (.inl (.inr rfl)) _).setCell (p := ⟨w.heap.size + 1, 2, none⟩) (.inl (.inr rfl)) _).setCell (p := ⟨w.heap.size + 1, 3, none⟩) (.inl (.inr rfl)) v
          have HKS := Lib.hid hks
          have hkb := (Kp.refl (fun b => b = w.heap.size) wr).setCell (p := ⟨w.heap.size, 3, none⟩) (.inl rfl) (.slice (some ⟨w.heap.size + 1 + 1, 0, none⟩) bl bl)
          have hbz := blk_set4 (hkb.blk hrel.out.2.2.1 (by omega)) (.int .u32 pt) (.int .u64 pb) (.bool false) (.slice (some ⟨w.heap.size + 1 + 1, 0, none⟩) bl bl)
          have HBZ := Lib.hid hbz
          have HKS2 := Lib.hid (HKS.out (.slice (some ⟨w.heap.size + 1 + 1, 0, none⟩) bl bl))
          clear hks hrel HKS hkb hbz
          go_wp2
          generalize ((((wr.setCell ⟨w.heap.size, 3, none⟩ (.slice (some ⟨w.heap.size + 1 + 1, 0, none⟩) bl bl)).setCell ⟨w.heap.size + 1, 0, none⟩ (.int .u32 pt)).setCell ⟨w.heap.size + 1, 1, none⟩ (.int .u64 pb)).setCell ⟨w.heap.size + 1, 2, none⟩ (.bool false)).setCell ⟨w.heap.size + 1, 3, none⟩ (.slice (some ⟨w.heap.size + 1 + 1, 0, none⟩) bl bl) = u at *
          have z0 : u.cell? ⟨w.heap.size + 1, 0, none⟩ = some (.int .u32 pt) := HBZ.out.cell 0
          have z1 : u.cell? ⟨w.heap.size + 1, 1, none⟩ = some (.int .u64 pb) := HBZ.out.cell 1
          have z2 : u.cell? ⟨w.heap.size + 1, 2, none⟩ = some (.bool false) := HBZ.out.cell 2
          have z3 : u.cell? ⟨w.heap.size + 1, 3, none⟩ = some (.slice (some ⟨w.heap.size + 1 + 1, 0, none⟩) bl bl) := HBZ.out.cell 3
          refine bodyPost_ret (by simp [results, Tryz.results155, go_sem, z0, z1, z2, z3]; try rfl) rfl ?_
          exact hfin.out _ rfl _ HKS2.out
      · have hke : bl = k := by omega
        subst hke
        have q0 : wr.cell? ⟨w.heap.size, 0, none⟩ = some (.int .u32 pt) := hrel.out.2.1.cell 0
        have q1 : wr.cell? ⟨w.heap.size, 1, none⟩ = some (.int .u64 pb) := hrel.out.2.1.cell 1
        have q2 : wr.cell? ⟨w.heap.size, 2, none⟩ = some (.bool false) := hrel.out.2.1.cell 2
        have qf : ∀ i, wr.frozen? ⟨w.heap.size, i, none⟩ = false := fun i => hrel.out.2.1.frozen i
        have r0 : wr.cell? ⟨w.heap.size + 1, 0, none⟩ = some (.int .u32 0) := hrel.out.2.2.1.cell 0
        have r1 : wr.cell? ⟨w.heap.size + 1, 1, none⟩ = some (.int .u64 0) := hrel.out.2.2.1.cell 1
        have r2 : wr.cell? ⟨w.heap.size + 1, 2, none⟩ = some (.bool false) := hrel.out.2.2.1.cell 2
        have r3 : wr.cell? ⟨w.heap.size + 1, 3, none⟩ = some (.slice none 0 0) := hrel.out.2.2.1.cell 3
        have rf : ∀ i, wr.frozen? ⟨w.heap.size + 1, i, none⟩ = false := fun i => hrel.out.2.2.1.frozen i
        have hfin : Hid (∀ K : Nat, (K = bl) -> ∀ u, Kp (fun b => b = w.heap.size ∨ b = w.heap.size + 1) wr u -> Blocked bl ⟨pt, pb, false, da⟩ Ad w (.returned (.agg #[.int .u32 pt, .int .u64 pb, .bool false, .slice (some ⟨w.heap.size + 1 + 1, 0, none⟩) K K])) u) := fun K hK u hu => by
         subst hK
         have hb := hu.blk hrel.out.2.2.2 (by omega)
         have hm : K = min K da.length := by omega
         have hlen : (cutB K da (min K da.length)).length = K := cutB_length _ _ _ (by omega) (by omega)
         have hb2 : Blk u (w.heap.size + 1 + 1) 5 (nums .u8 (cutB K da (min K da.length))).toArray := by rw [<- hm]; exact hb
         unfold Blocked
         rw [HE.out]
         refine ⟨some ⟨w.heap.size + 1 + 1, 0, none⟩, K, by simp only [hlen], Kp.below hrel.out.1 hu hrel.out.1.size (fun b hb h => by omega), Blk.reads hb2, Nat.le_of_eq hlen, fun ad e => .inr ?_⟩
         obtain rfl := Option.some.inj e
         show w.heap.size <= w.heap.size + 1 + 1
         omega
        have hks : ∀ v : Value, Kp (fun b => b = w.heap.size ∨ b = w.heap.size + 1) wr (((((wr.setCell ⟨w.heap.size, 3, none⟩ v).setCell ⟨w.heap.size + 1, 0, none⟩ (.int .u32 pt)).setCell ⟨w.heap.size + 1, 1, none⟩ (.int .u64 pb)).setCell ⟨w.heap.size + 1, 2, none⟩ (.bool false)).setCell ⟨w.heap.size + 1, 3, none⟩ v) := fun v =>
         (((((Kp.refl (fun b => b = w.heap.size ∨ b = w.heap.size + 1) wr).setCell (p := ⟨w.heap.size, 3, none⟩) (.inl (.inl rfl)) v).setCell (p := ⟨w.heap.size + 1, 0, none⟩) (.inl (.inr rfl)) _).setCell (p := ⟨w.heap.size + 1, 1, none⟩) (.inl (.inr rfl)) _).setCell (p := ⟨w.heap.size + 1, 2, none⟩) (.inl (.inr rfl)) _).setCell (p := ⟨w.heap.size + 1, 3, none⟩) (.inl (.inr rfl)) v
        have HKS := Lib.hid hks
        have hkb := (Kp.refl (fun b => b = w.heap.size) wr).setCell (p := ⟨w.heap.size, 3, none⟩) (.inl rfl) (.slice (some ⟨w.heap.size + 1 + 1, 0, none⟩) bl bl)
        have hbz := blk_set4 (hkb.blk hrel.out.2.2.1 (by omega)) (.int .u32 pt) (.int .u64 pb) (.bool false) (.slice (some ⟨w.heap.size + 1 + 1, 0, none⟩) bl bl)
        have HBZ := Lib.hid hbz
        have HKS2 := Lib.hid (HKS.out (.slice (some ⟨w.heap.size + 1 + 1, 0, none⟩) bl bl))
        clear hks hrel HKS hkb hbz
        go_wp2
        generalize ((((wr.setCell ⟨w.heap.size, 3, none⟩ (.slice (some ⟨w.heap.size + 1 + 1, 0, none⟩) bl bl)).setCell ⟨w.heap.size + 1, 0, none⟩ (.int .u32 pt)).setCell ⟨w.heap.size + 1, 1, none⟩ (.int .u64 pb)).setCell ⟨w.heap.size + 1, 2, none⟩ (.bool false)).setCell ⟨w.heap.size + 1, 3, none⟩ (.slice (some ⟨w.heap.size + 1 + 1, 0, none⟩) bl bl) = u at *
        have z0 : u.cell? ⟨w.heap.size + 1, 0, none⟩ = some (.int .u32 pt) := HBZ.out.cell 0
        have z1 : u.cell? ⟨w.heap.size + 1, 1, none⟩ = some (.int .u64 pb) := HBZ.out.cell 1
        have z2 : u.cell? ⟨w.heap.size + 1, 2, none⟩ = some (.bool false) := HBZ.out.cell 2
        have z3 : u.cell? ⟨w.heap.size + 1, 3, none⟩ = some (.slice (some ⟨w.heap.size + 1 + 1, 0, none⟩) bl bl) := HBZ.out.cell 3
        refine bodyPost_ret (by simp [results, Tryz.results155, go_sem, z0, z1, z2, z3]; try rfl) rfl ?_
        exact hfin.out _ rfl _ HKS2.out
end Go.Proofs.YtfabgbmbnmbjkaaGreatDoor

/- Pruned. -/
namespace Go.Proofs.YtfabgbmbnmbjkaaGreatDoor
open Go.RowKit
set_option maxRecDepth 20000
structure Pc where
  p : Pv
  a : Option Addr
  c : Nat
def pc0 : Pc := ⟨pv0, none, 0⟩
def pcC (i : Pc) : List Value := [.int .u32 i.p.t, .int .u64 i.p.b, .bool i.p.d, .slice i.a i.p.da.length i.c]
def pcCs (L : List Pc) : List Value := L.flatMap pcC
theorem pcCs_one (L : List Pc) : ∀ u ∈ pcCs L, u.oneCell' = true := by
 intro u hu
 obtain ⟨p, _, hp⟩ := List.mem_flatMap.1 hu
 simp only [pcC, List.mem_cons, List.not_mem_nil, or_false] at hp
 rcases hp with rfl | rfl | rfl | rfl <;> rfl
theorem pcCs_get (L : List Pc) (i : Nat) (h : i < L.length) : (pcCs L)[i * 4]? = some (.int .u32 (L.getD i pc0).p.t) ∧ (pcCs L)[i * 4 + 1]? = some (.int .u64 (L.getD i pc0).p.b) ∧ (pcCs L)[i * 4 + 2]? = some (.bool (L.getD i pc0).p.d) ∧ (pcCs L)[i * 4 + 3]? = some (.slice (L.getD i pc0).a (L.getD i pc0).p.da.length (L.getD i pc0).c) := by
 induction L generalizing i with
 | nil => cases h
 | cons p r ih =>
   cases i with
   | zero => simp [pcCs, pcC]
   | succ i =>
     have := ih i (by simpa using h)
     rw [show (i + 1) * 4 = i * 4 + 4 by omega]
     simpa [pcCs, pcC] using this
theorem put_info : (Tryz.prog.info? 42).map (fun i => (i.zero, i.size, i.bytes)) = some (some (.agg #[.int .u32 0, .int .u64 0, .bool false, .slice none 0 0]), 4, 48) := by kernel_rfl
def PRow (w : World) (base : Nat) (A : Option Addr) (c : Nat) (O : List Pc) : Prop := w.ownsRow base 42 4 (.slice A O.length c) O.length (pcCs O)
theorem PRow.lt {w : World} {base c : Nat} {A : Option Addr} {O : List Pc} (h : PRow w base A c O) {b : Nat} (hb : (Value.slice A O.length c).ownBlock = some b) : base <= b ∧ b < w.heap.size := World.ownsRow.lt h b hb
theorem PRow.below {w w' : World} {base c B : Nat} {A : Option Addr} {O : List Pc} (h : PRow w base A c O) (hb : Below B w w') (hB : w.heap.size <= B) : PRow w' base A c O :=
 ownsRow_of_block h (fun b he => hb.block b (Nat.lt_of_lt_of_le (h.lt he).2 hB))
structure PcOk (X : Nat -> Prop) (w : World) (q : Pc) : Prop where
  rd : Reads w w.heap.size 1 q.a q.p.da.length (nums .u8 q.p.da)
  xd : ∀ ad, q.a = some ad -> 0 < q.p.da.length -> X ad.block
  cap : q.p.da.length <= q.c
theorem PcOk.below {X : Nat -> Prop} {w w' : World} {q : Pc} (h : PcOk X w q) (hb : Below w.heap.size w w') : PcOk X w' q := ⟨(h.rd.below hb).more hb.size, h.xd, h.cap⟩
theorem PRow.puts {X : Nat -> Prop} {w : World} {base c : Nat} {A : Option Addr} {O : List Pc} (h : PRow w base A c O) (hx : ∀ b, base <= b -> b < w.heap.size -> X b) (hq : ∀ q ∈ O, PcOk X w q) : PutsAt X w A (O.map (·.p)) := fun i hi => by
 have hi' : i < O.length := by simpa using hi
 have hgd : (O.map (·.p)).getD i pv0 = (O.getD i pc0).p := by simp [List.getD_eq_getElem?_getD, hi']
 rw [hgd]
 have hok := hq _ (getD_mem (d := pc0) hi')
 rcases h.2 with ⟨_, h0⟩ | ⟨g, cap, cur, hv, hg, hh, hnc, hcm, hcs, ht⟩
 · omega
 · injection hv with e1 e2 e3
   subst e1
   obtain ⟨q0, q1, q2, q3⟩ := pcCs_get O i hi'
   have hc : ∀ j, j < 4 -> w.cell? ⟨g, i * 4 + j, none⟩ = (pcCs O)[i * 4 + j]? := fun j hj => World.ownsRow.cellAt h (i * 4 + j) (by omega)
   have hgl : g < w.heap.size := (h.lt (b := g) rfl).2
   refine ⟨⟨g, 0, none⟩, (O.getD i pc0).a, (O.getD i pc0).c, rfl, ?_⟩
   rw [add0]
   exact ⟨hx g hg hgl, (hc 0 (by omega)).trans q0, (hc 1 (by omega)).trans q1, (hc 2 (by omega)).trans q2, (hc 3 (by omega)).trans q3, hok.rd, hok.xd, hok.cap⟩
end Go.Proofs.YtfabgbmbnmbjkaaGreatDoor

/- Pruned. -/
namespace Go.Proofs.YtfabgbmbnmbjkaaGreatDoor
open Go.RowKit
set_option maxRecDepth 20000
theorem run_append_pc (w : World) (ty : TypeId) {base c g : Nat} {A : Option Addr} (O : List Pc) (i : Pc) (hown : PRow w base A c O) (hsrc : Blk w g 42 #[.int .u32 i.p.t, .int .u64 i.p.b, .bool i.p.d, .slice i.a i.p.da.length i.c]) (hlen : O.length <= 1000000) (hbase : base <= w.heap.size) :
    ∃ A' c' w', (Builtin.append_ #[32, 32] ty #[.slice A O.length c, .slice (some ⟨g, 0, none⟩) 1 1]).run Tryz.prog w = .ok (.slice A' (O.length + 1) c') w' ∧ PRow w' base A' c' (O ++ [i]) ∧ Kp (fun b => (Value.slice A O.length c).ownBlock = some b) w w' ∧ ((Value.slice A' (O.length + 1) c').ownBlock = (Value.slice A O.length c).ownBlock ∨ (Value.slice A' (O.length + 1) c').ownBlock = some w.heap.size) := by
 obtain ⟨i0, hi0, hz0, hz1, hz2⟩ := info_parts put_info
 have hr : Reads w w.heap.size 4 (some ⟨g, 0, none⟩) 1 (pcC i) := ⟨rfl, fun _ => ⟨_, rfl, hsrc.lt, fun j v hv => by
  rw [add0, hsrc.cell, List.getElem?_toArray]
  exact hv⟩⟩
 obtain ⟨v', w', hrun, hown', hg, hor⟩ := run_append_any (P := Tryz.prog) (w := w) base 32 ty 42 i0 _ 4 48 Tryz.underlying32 hi0 hz0 hz1 hz2 rfl (by omega) (.slice A O.length c) O.length (pcCs O) hown _ _ 1 1 (pcC i) hr (fun v hv => pcCs_one [i] v (by simpa [pcCs] using hv)) (by simp only [maxLen]; omega) (by omega) hbase
 obtain ⟨A', c', rfl⟩ := own_form hown'
 have e : pcCs O ++ pcC i = pcCs (O ++ [i]) := by simp [pcCs]
 refine ⟨A', c', w', hrun, ?_, ⟨hg.os, hg.tape, hg.output, hg.size, fun b hb hn => hg.block b hb (fun e => hn e.symm)⟩, hor⟩
 rw [e, show O.length + 1 = (O ++ [i]).length by simp] at hown'
 exact hown'
theorem wpList_append_run {P : Program} {w w' : World} {ops : Array Oper} {rest : List Oper} {o : Oper} {a : Act} {Q : Exit -> Act -> World -> Prop} (hgd : o.guard = none) (s x : Operand) (t : TypeId)
    (ho : o.op = .call { callee := .builtin .append, args := #[s, x], argTypes := #[t, t] }) {v vx v' : Value} (hs : a.eval s = v) (hx : a.eval x = vx)
    (hrun : (Builtin.append_ #[t, t] o.type #[v, vx]).run P w = .ok v' w') (h : wpList P ops Q rest (a.put o.dst v') w') : wpList P ops Q (o :: rest) a w :=
 wpList_plain hgd fun _ hK => by
  unfold Oper.wp execOp
  simp only [ho, resolve, invoke, builtin, Sem.run_bind, Sem.run_pure, Result.andThen_ok, List.map_toArray, List.map_cons, List.map_nil, hs, hx, hrun]
  exact hK _ _ h
structure BlInv (X : Nat -> Prop) (w wr : World) (bl : Nat) (l : List Pv) (k : Nat) (A : Option Addr) (c : Nat) (O : List Pc) : Prop where
  row : PRow wr w.heap.size A c O
  mp : O.map (·.p) = (l.take k).map (blockM bl)
  len : O.length = k
  ok : ∀ q ∈ O, PcOk (fun b => X b ∨ w.heap.size <= b) wr q
  low : Below w.heap.size w wr
  nd : ∀ q ∈ O, ∀ ad, q.a = some ad -> 0 < q.p.da.length -> (Value.slice A O.length c).ownBlock ≠ some ad.block
theorem blocks_any (X : Nat -> Prop) (w : World) (bl : Nat) (hbl : bl <= 65536) (A : Option Addr) (c : Nat) (l : List Pv) (hp : PutsAt X w A l) (hl : l.length <= 100000) (hd : ∀ p ∈ l, p.da.length <= 100000000) (hX : ∀ b, X b -> b < w.heap.size) :
    Calls Tryz.prog 101 #[.int .i64 bl, .slice A l.length c] w (fun e w' => ∃ A' c' O, e = .returned (.slice A' O.length c') ∧ BlInv X w w' bl l l.length A' c' O) := by
 have HP := Lib.hid hp
 have HD := Lib.hid hd
 have HBL := Lib.hid hbl
 have HX := Lib.hid hX
 have h0 : Hid (BlInv X w w bl l 0 none 0 []) := ⟨World.ownsRow_nil _ _ _ _, rfl, rfl, fun q hq => (by cases hq), Below.refl _ _, fun q hq => (by cases hq)⟩
 clear hp hd hX
 go_enter Tryz.func101, Tryz.ntmps101
 go_wp2_with (fail)
 go_loopw [5, 6] (fun s i wr => ∃ (k : Nat) (A' : Option Addr) (c' : Nat) (O : List Pc), k <= l.length ∧ s = .slice A' k c' ∧ i = .int .i64 k ∧ Hid (BlInv X w wr bl l k A' c' O)) (fun _ i _ => l.length - (intOf i).toNat)
 case atStart => exact ⟨0, none, 0, [], Nat.zero_le _, rfl, rfl, h0⟩
 case round =>
  obtain ⟨k, A', c', O, hk, rfl, rfl, hr⟩ := hrel
  clear h0
  by_cases hlt : k < l.length
  · obtain ⟨ad, Ad, cd, rfl, hat⟩ := HP.out.below hr.out.low k hlt
    have p0 := hat.c0
    have p1 := hat.c1
    have p2 := hat.c2
    have p3 := hat.c3
    have HB := Lib.hid (block_any wr bl HBL.out (l.getD k pv0) Ad cd hat.rd hat.cap (HD.out _ (getD_mem (d := pv0) hlt)))
    have HXD := Lib.hid hat.xd
    have HLT := Lib.hid hlt
    have HTK : Hid ((l.take (k + 1)).map (blockM bl) = (l.take k).map (blockM bl) ++ [blockM bl (l.getD k pv0)]) := by
     unfold Hid
     rw [List.take_succ_eq_append_getElem hlt, List.map_append, List.getD_eq_getElem?_getD, List.getElem?_eq_getElem hlt]
     rfl
    clear hat
    generalize l.getD k pv0 = p at *
    go_wp2_with (fail)
    refine HB.out.mono ?_
    rintro e w5 ⟨A5, c5, rfl, hb5, hrd, hcap, had⟩
    have hO := hr.out
    have ht : (blockM bl p).t = p.t ∧ (blockM bl p).b = p.b ∧ (blockM bl p).d = p.d := by unfold blockM; split <;> exact ⟨rfl, rfl, rfl⟩
    have h56 : Below w5.heap.size w5 (w5.alloc (.cells #[.int .u32 p.t, .int .u64 p.b, .bool p.d, .slice A5 (blockM bl p).da.length c5] 42)) := (Below.refl _ _).alloc (Nat.le_refl _) _
    have hwb : wr.heap.size <= w5.heap.size := hb5.size
    have hlow : w.heap.size <= wr.heap.size := hO.low.size
    have hr6 : Below wr.heap.size wr (w5.alloc (.cells #[.int .u32 p.t, .int .u64 p.b, .bool p.d, .slice A5 (blockM bl p).da.length c5] 42)) := hb5.trans (h56.mono hwb)
    have hsrc : Blk (w5.alloc (.cells #[.int .u32 p.t, .int .u64 p.b, .bool p.d, .slice A5 (blockM bl p).da.length c5] 42)) w5.heap.size 42 #[.int .u32 (Pc.mk (blockM bl p) A5 c5).p.t, .int .u64 (Pc.mk (blockM bl p) A5 c5).p.b, .bool (Pc.mk (blockM bl p) A5 c5).p.d, .slice (Pc.mk (blockM bl p) A5 c5).a (Pc.mk (blockM bl p) A5 c5).p.da.length (Pc.mk (blockM bl p) A5 c5).c] := by
     simp only [ht.1, ht.2.1, ht.2.2]
     exact Blk.new w5 _ _
    obtain ⟨A7, c7, w7, hap, hrow7, hk7, hor7⟩ := run_append_pc _ 32 O ⟨blockM bl p, A5, c5⟩ (hO.row.below hr6 (Nat.le_refl _)) hsrc (by have := hO.len; omega) (Nat.le_trans hlow hr6.size)
    have hown : ∀ b, (Value.slice A' O.length c').ownBlock = some b -> w.heap.size <= b ∧ b < wr.heap.size := fun b hb => hO.row.lt hb
    have HN : Hid (BlInv X w w7 bl l (k + 1) A7 c7 (O ++ [⟨blockM bl p, A5, c5⟩])) := by
     have hlow6 := hO.low.trans (hr6.mono hlow)
     have hnew : ∀ ad, A5 = some ad -> 0 < (blockM bl p).da.length -> (X ad.block ∨ wr.heap.size <= ad.block) := fun ad e h0 => by
      rcases had ad e with ⟨e2, e3⟩ | h
      · exact .inl (HXD.out ad e2 (by omega))
      · exact .inr h
     have hndq : ∀ ad, A5 = some ad -> 0 < (blockM bl p).da.length -> (Value.slice A' O.length c').ownBlock ≠ some ad.block := fun ad e h0 he => by
      have h1 := hown _ he
      rcases hnew ad e h0 with h | h
      · have := HX.out _ h; omega
      · omega
     have hkeep : ∀ q : Pc, PcOk (fun b => X b ∨ w.heap.size <= b) (w5.alloc (.cells #[.int .u32 p.t, .int .u64 p.b, .bool p.d, .slice A5 (blockM bl p).da.length c5] 42)) q -> (∀ ad, q.a = some ad -> 0 < q.p.da.length -> (Value.slice A' O.length c').ownBlock ≠ some ad.block) -> PcOk (fun b => X b ∨ w.heap.size <= b) w7 q := fun q hq hn => by
      refine ⟨⟨hq.rd.1, fun h0 => ?_⟩, hq.xd, hq.cap⟩
      obtain ⟨ad, e, hb, hc⟩ := hq.rd.2 h0
      exact ⟨ad, e, Nat.lt_of_lt_of_le hb hk7.size, fun j u hu => hk7.cell (hc j u hu) (by rw [block_of_add]; exact hn ad e h0)⟩
     refine ⟨hrow7, by rw [HTK.out, List.map_append, hO.mp]; rfl, by simp [hO.len], fun q hq => ?_, Kp.below hlow6 hk7 (Nat.le_trans hlow hr6.size) (fun b hb he => by have := hown b he; omega), fun q hq ad e h0 he => ?_⟩
     · rcases List.mem_append.1 hq with hq | hq
       · exact hkeep q ((hO.ok q hq).below (hr6)) (hO.nd q hq)
       · obtain rfl := List.mem_singleton.1 hq
         refine hkeep _ (PcOk.below ⟨hrd, fun ad e h0 => ?_, hcap⟩ h56) hndq
         rcases hnew ad e h0 with h | h
         · exact .inl h
         · exact .inr (by omega)
     · rw [show (O ++ [(⟨blockM bl p, A5, c5⟩ : Pc)]).length = O.length + 1 by simp] at he
       have hblk : (Value.slice A' O.length c').ownBlock ≠ some ad.block ∧ ad.block < (w5.alloc (.cells #[.int .u32 p.t, .int .u64 p.b, .bool p.d, .slice A5 (blockM bl p).da.length c5] 42)).heap.size := by
        rcases List.mem_append.1 hq with hq | hq
        · obtain ⟨ad2, e2, hb, _⟩ := (hO.ok q hq).rd.2 h0
          obtain rfl := Option.some.inj (e.symm.trans e2)
          exact ⟨hO.nd q hq ad e h0, Nat.lt_of_lt_of_le hb hr6.size⟩
        · obtain rfl := List.mem_singleton.1 hq
          obtain ⟨ad2, e2, hb, _⟩ := hrd.2 h0
          obtain rfl := Option.some.inj (e.symm.trans e2)
          exact ⟨hndq ad e h0, Nat.lt_of_lt_of_le hb h56.size⟩
       rcases hor7 with h | h
       · exact hblk.1 (h.symm.trans he)
       · have := Option.some.inj (h.symm.trans he)
         omega
    rw [hO.len] at hap
    clear hb5 hrd hcap had hO ht h56 hwb hlow hr6 hsrc hrow7 hk7 hor7 hown hr p0 p1 p2 p3 HB
    go_wp2_with (at_builtin; refine wpList_append_run rfl (.tmp 13) (.tmp 20) _ rfl rfl rfl hap ?_)
    go_roundw
    case rel => exact ⟨k + 1, A7, c7, _, HLT.out, rfl, by go_num, HN⟩
    case measure => have := HLT.out; simp [intOf]; omega
  · obtain rfl : k = l.length := by omega
    go_wp2
    go_ret
    exact ⟨A', c', O, by rw [hr.out.len]; rfl, hr.out⟩
end Go.Proofs.YtfabgbmbnmbjkaaGreatDoor

/- Pruned. -/
namespace Go.Proofs.YtfabgbmbnmbjkaaGreatDoor
open Go.RowKit
set_option maxRecDepth 20000
end Go.Proofs.YtfabgbmbnmbjkaaGreatDoor

/- Pruned. -/
namespace Go.Proofs.YtfabgbmbnmbjkaaGreatDoor
open Go.RowKit
set_option maxRecDepth 20000
end Go.Proofs.YtfabgbmbnmbjkaaGreatDoor

/- Pruned. -/
namespace Go.Proofs.YtfabgbmbnmbjkaaGreatDoor
open Go.RowKit
set_option maxRecDepth 20000
end Go.Proofs.YtfabgbmbnmbjkaaGreatDoor

/- Pruned. -/
namespace Go.Proofs.YtfabgbmbnmbjkaaGreatDoor
open Go.RowKit
set_option maxRecDepth 20000
def sh0 : Sh := ⟨6, 8, 64, 2⟩
def kn2 : Pv := ⟨1, 5, true, []⟩
end Go.Proofs.YtfabgbmbnmbjkaaGreatDoor

/- Pruned. -/
namespace Go.Proofs.YtfabgbmbnmbjkaaGreatDoor
open Go.RowKit
set_option maxRecDepth 20000
end Go.Proofs.YtfabgbmbnmbjkaaGreatDoor

/- Pruned. -/
namespace Go.Proofs.YtfabgbmbnmbjkaaGreatDoor
open Go.RowKit
set_option maxRecDepth 20000
def lenM (m : StM) (z : Int) : Nat := (m.P.getD z.toNat pt0).bs.length
def lastM (m : StM) (z : Int) : Int := (m.la z).getD 0
structure Wk (sh : Sh) (m : StM) : Prop where
  full : ∀ p ∈ m.L, (stateAt m.G p.z = 2 ∨ stateAt m.G p.z = 3) ∧ 1 <= p.k ∧ 1 <= lastM m p.z
  free : ∀ z : Int, 2 <= z -> z < sh.z -> z ≠ m.op -> (stateAt m.G z = 1 ↔ lenM m z = 0 ∧ lastM m z = 0)
  open_ : ∀ z : Int, stateAt m.G z = 2 -> m.op = z
  kept : ∀ z : Int, stateAt m.G z = 1 ∨ stateAt m.G z = 2 ∨ stateAt m.G z = 3 -> 2 <= z
  sq : 0 <= m.seq
  lz : ∀ z : Int, 0 <= lastM m z
def Opn (m : StM) : Prop := 0 <= m.op -> 1 <= lenM m m.op ∧ 1 <= lastM m m.op
theorem Wk.fill {sh : Sh} {m : StM} (h : Wk sh m) (hg : Good sh m) (ho : 0 <= m.op) (hO : Opn m) : Wk sh (fillM m) ∧ Opn (fillM m) := by
 have hs := hg.op ho
 have hst : ∀ y, stateAt (fillM m).G y = if y = m.op then 3 else stateAt m.G y := fun y => stateAt_turn 3 y (by omega)
 have hlen : ∀ y, lenM (fillM m) y = lenM m y := fun _ => rfl
 have hla : ∀ y, lastM (fillM m) y = lastM m y := fun _ => rfl
 have hop : (fillM m).op = -1 := rfl
 refine ⟨⟨fun p hp => ?_, fun z h1 h2 _ => ?_, fun z hz => ?_, fun z hz => ?_, h.sq, h.lz⟩, fun e => ?_⟩
 · obtain ⟨a1, a2, a3⟩ := h.full p hp
   refine ⟨?_, a2, a3⟩
   rw [hst]
   split
   · exact .inr rfl
   · exact a1
 · rw [hst, hlen, hla]
   by_cases hz : z = m.op
   · rw [if_pos hz]
     have := hO ho
     rw [hz]
     constructor
     · intro e; omega
     · intro e; omega
   · rw [if_neg hz]
     exact h.free z h1 h2 hz
 · rw [hst] at hz
   split at hz
   · omega
   · rename_i hne
     exact absurd (h.open_ z hz).symm hne
 · rw [hst] at hz
   split at hz
   · rename_i e; rw [e]; exact h.kept m.op (.inr (.inl hs))
   · exact h.kept z hz
 · rw [hop] at e; omega
theorem Wk.ready1 {sh : Sh} {m : StM} {need : Int} (h : Wk sh m) (hg : Good sh m) (hO : Opn m) : Wk sh (ready1 sh m need) ∧ Opn (ready1 sh m need) ∧ Good sh (ready1 sh m need) := by
 unfold Go.Proofs.YtfabgbmbnmbjkaaGreatDoor.ready1
 split
 · rename_i hc
   exact ⟨(h.fill hg hc.1 hO).1, (h.fill hg hc.1 hO).2, hg.fill hc.1⟩
 · exact ⟨h, hO, hg⟩
theorem Wk.ready {sh : Sh} {m : StM} {need : Int} (h : Wk sh m) (hg : Good sh m) (hO : Opn m) : Wk sh (readyM sh m need).2 ∧ ((readyM sh m need).1 = false -> Opn (readyM sh m need).2) := by
 obtain ⟨h1, o1, g1⟩ := h.ready1 (need := need) hg hO
 unfold readyM
 generalize Go.Proofs.YtfabgbmbnmbjkaaGreatDoor.ready1 sh m need = m1 at *
 simp only
 split
 · exact ⟨h1, fun e => by cases e⟩
 · rename_i hop
   split
   · exact ⟨h1, fun _ => o1⟩
   · rename_i hp
     have hs := placeI_state hp
     generalize placeI 1 m1.G 0 = z at *
     have hst : ∀ y, stateAt (turnL m1.G z 2) y = if y = z then 2 else stateAt m1.G y := fun y => stateAt_turn 2 y (by omega)
     refine ⟨⟨fun p hp => ?_, fun y h2 h3 h4 => ?_, fun y hy => ?_, fun y hy => ?_, h1.sq, h1.lz⟩, fun e => by cases e⟩
     · obtain ⟨a1, a2, a3⟩ := h1.full p hp
       refine ⟨?_, a2, a3⟩
       show stateAt (turnL m1.G z 2) p.z = 2 ∨ stateAt (turnL m1.G z 2) p.z = 3
       rw [hst]
       split
       · exact .inl rfl
       · exact a1
     · have h4' : y ≠ z := h4
       show stateAt (turnL m1.G z 2) y = 1 ↔ _
       rw [hst, if_neg h4']
       exact h1.free y h2 h3 (by omega)
     · have hy' : stateAt (turnL m1.G z 2) y = 2 := hy
       show z = y
       rw [hst] at hy'
       split at hy'
       · rename_i e; exact e.symm
       · have := h1.open_ y hy'
         have h5 := stateAt_in (G := m1.G) (z := y) (by omega)
         omega
     · have hy' : stateAt (turnL m1.G z 2) y = 1 ∨ stateAt (turnL m1.G z 2) y = 2 ∨ stateAt (turnL m1.G z 2) y = 3 := hy
       rw [hst] at hy'
       split at hy'
       · rename_i e; rw [e]; exact h1.kept z (.inl hs)
       · exact h1.kept y hy'
theorem lenM_app (m : StM) (z : Nat) (b : List Int) (hz : z < m.P.length) (y : Int) (hy : 0 <= y) : ((appP m.P z b).getD y.toNat pt0).bs.length = lenM m y + (if y = z then 1 else 0) := by
 unfold lenM
 by_cases e : y = z
 · subst e
   rw [if_pos rfl, Int.toNat_natCast, appP_same _ _ _ hz]
   simp
 · rw [if_neg e, appP_other _ _ _ _ (by omega)]
   rfl
theorem Wk.head {sh : Sh} {m : StM} (l : List Pv) (h : Wk sh m) (hg : Good sh m) (ho : 0 <= m.op) : Wk sh (headW sh m l) ∧ Opn (headW sh m l) := by
 have hs := hg.op ho
 have hzi := stateAt_in (G := m.G) (z := m.op) (by omega)
 have hP : m.op.toNat < m.P.length := by have := hg.gl; have := hg.pl; omega
 have hlen : ∀ y : Int, 0 <= y -> lenM (headW sh m l) y = lenM m y + (if y = m.op then 1 else 0) := fun y hy => by
  have := lenM_app m m.op.toNat (recB sh m l) hP y hy
  rw [Int.toNat_of_nonneg ho] at this
  exact this
 have hla : ∀ y : Int, lastM (headW sh m l) y = if y = m.op then m.seq + 1 else lastM m y := fun y => by
  unfold lastM headW
  simp only
  split <;> rfl
 have hsq := h.sq
 refine ⟨⟨fun p hp => ?_, fun z h1 h2 h3 => ?_, h.open_, h.kept, by show 0 <= m.seq + 1; omega, fun z => ?_⟩, fun _ => ?_⟩
 · obtain ⟨a1, a2, a3⟩ := h.full p hp
   refine ⟨a1, a2, ?_⟩
   rw [hla]
   split <;> omega
 · have h3' : z ≠ m.op := h3
   rw [hlen z (by omega), hla, if_neg h3', if_neg h3']
   exact h.free z h1 h2 h3'
 · rw [hla]
   have := h.lz z
   split <;> omega
 · show 1 <= lenM (headW sh m l) m.op ∧ 1 <= lastM (headW sh m l) m.op
   rw [hlen _ ho, hla, if_pos rfl, if_pos rfl]
   omega
theorem wk_step {sh : Sh} {m : StM} (p : Pv) (h : Wk sh m) (hg : Good sh m) (ho : 0 <= m.op) (hO : Opn m) : Wk sh (stepW m p) ∧ Opn (stepW m p) := by
 have hs := hg.op ho
 have hzi := stateAt_in (G := m.G) (z := m.op) (by omega)
 have hP : m.op.toNat < m.P.length := by have := hg.gl; have := hg.pl; omega
 unfold stepW
 cases p.d with
 | true =>
   refine ⟨⟨fun q hq => h.full q (List.mem_filter.1 hq).1, h.free, h.open_, h.kept, h.sq, h.lz⟩, hO⟩
 | false =>
   have hlen : ∀ y : Int, 0 <= y -> ((appP m.P m.op.toNat p.da).getD y.toNat pt0).bs.length = lenM m y + (if y = m.op then 1 else 0) := fun y hy => by
    have := lenM_app m m.op.toNat p.da hP y hy
    rw [Int.toNat_of_nonneg ho] at this
    exact this
   refine ⟨⟨fun q hq => ?_, fun z h1 h2 h3 => ?_, h.open_, h.kept, h.sq, h.lz⟩, fun _ => ⟨?_, (hO ho).2⟩⟩
   · have hq' : q ∈ plM m p :: free (cut m.L (plM m p).n) (plM m p).a := hq
     rcases List.mem_cons.1 hq' with e | hq2
     · subst e
       exact ⟨.inl hs, by show (1 : Int) <= ((m.P.getD m.op.toNat pt0).bs.length : Nat); have := (hO ho).1; unfold lenM at this; omega, (hO ho).2⟩
     · exact h.full q (List.mem_filter.1 (List.mem_filter.1 hq2).1).1
   · have h3' : z ≠ m.op := h3
     show _ ↔ ((appP m.P m.op.toNat p.da).getD z.toNat pt0).bs.length = 0 ∧ _
     rw [hlen z (by omega), if_neg h3']
     exact h.free z h1 h2 h3'
   · show 1 <= ((appP m.P m.op.toNat p.da).getD m.op.toNat pt0).bs.length
     rw [hlen _ ho, if_pos rfl]
     omega
theorem wk_fold {sh : Sh} (l : List Pv) {m : StM} (h : Wk sh m) (hg : Good sh m) (ho : 0 <= m.op) (hO : Opn m) : Wk sh (l.foldl stepW m) ∧ Opn (l.foldl stepW m) ∧ Good sh (l.foldl stepW m) := by
 induction l generalizing m with
 | nil => exact ⟨h, hO, hg⟩
 | cons p r ih =>
   obtain ⟨h1, o1⟩ := wk_step p h hg ho hO
   exact ih h1 (stepW_good p hg ho).1 (by rw [(stepW_op m p).1]; exact ho) o1
theorem Wk.write {sh : Sh} {m : StM} (l : List Pv) (h : Wk sh m) (hg : Good sh m) (ho : 0 <= m.op) : Wk sh (writeM sh m l) ∧ Opn (writeM sh m l) := by
 obtain ⟨h1, o1⟩ := h.head l hg ho
 have g1 := (headW_good l hg ho).1
 have ho1 : 0 <= (headW sh m l).op := ho
 obtain ⟨h2, o2, g2⟩ := wk_fold l h1 g1 ho1 o1
 have ho2 : 0 <= (l.foldl stepW (headW sh m l)).op := by rw [(foldW_op l _).1]; exact ho
 unfold writeM
 simp only
 split
 · exact h2.fill g2 ho2 o2
 · exact ⟨h2, o2⟩
theorem Wk.putL {sh : Sh} (hok : sh.ok) (f : Nat) {m : StM} {l : List Pv} (h : Wk sh m) (hg : Good sh m) (hO : Opn m) (hf : l.length <= f) : Wk sh (putL sh f m l).2 ∧ Opn (putL sh f m l).2 := by
 induction f generalizing m l with
 | zero => exact ⟨h, hO⟩
 | succ f ih =>
   unfold Go.Proofs.YtfabgbmbnmbjkaaGreatDoor.putL
   split
   · exact ⟨h, hO⟩
   · rename_i hl
     simp only
     obtain ⟨h1, o1⟩ := h.ready (need := needM l) hg hO
     obtain ⟨g1, d1, s1, _, _⟩ := ready_good (need := needM l) hg
     split
     · rename_i hr
       obtain ⟨ho, hroom⟩ := ready_room hg (by have := hok.facts; unfold needM; split <;> omega) hr
       generalize readyM sh m (needM l) = r at *
       obtain ⟨b1, b2, b3, b4⟩ := batch_facts (l := l) (m := r.2) hok (by omega) (by unfold needM at hroom; exact hroom)
       obtain ⟨g2, _, _⟩ := writeM_good (l.take (batchM sh r.2 l)) g1 ho
       obtain ⟨h2, o2⟩ := h1.write (l.take (batchM sh r.2 l)) g1 ho
       exact ih (l := l.drop (batchM sh r.2 l)) h2 g2 o2 (by simp; omega)
     · rename_i hr
       exact ⟨h1, o1 (by simpa using hr)⟩
theorem Wk.putM {sh : Sh} (hok : sh.ok) {m : StM} (l : List Pv) (h : Wk sh m) (hg : Good sh m) (hO : Opn m) : Wk sh (putM sh m l).2 ∧ Opn (putM sh m l).2 := by
 unfold Go.Proofs.YtfabgbmbnmbjkaaGreatDoor.putM
 split
 · exact h.putL hok _ hg hO (Nat.le_refl _)
 · exact ⟨h, hO⟩
theorem newL_at (n : Nat) (z : Int) (h : 2 <= n) : stateAt (newL n) z = if 0 <= z ∧ z < n then (if z < 2 then 4 else 1) else 0 := by
 have hl : (newL n).length = n := by rw [newL_length _ (by omega)]; simp
 unfold stateAt
 rw [hl]
 split
 · rename_i hz
   obtain ⟨k, rfl⟩ := Int.eq_ofNat_of_zero_le hz.1
   rw [Int.toNat_natCast]
   match k with
   | 0 => rfl
   | 1 => rfl
   | k + 2 =>
     rw [if_neg (by omega)]
     unfold newL
     simp only [List.getD_eq_getElem?_getD, List.cons_append, List.nil_append, List.getElem?_cons_succ]
     rw [List.getElem?_replicate, if_pos (by omega)]
     rfl
 · rfl
theorem Wk.new (sh : Sh) (hok : sh.ok) : Wk sh (newM sh (P0 sh)) ∧ Opn (newM sh (P0 sh)) := by
 have hf := hok.facts
 have hst : ∀ z, stateAt (newM sh (P0 sh)).G z = if 0 <= z ∧ z < sh.z then (if z < 2 then 4 else 1) else 0 := fun z => newL_at sh.z z (by omega)
 have hg := new_good sh hok
 refine ⟨⟨fun p hp => (by cases hp), fun z h1 h2 _ => ?_, fun z hz => ?_, fun z hz => ?_, Int.le_refl _, fun z => Int.le_refl _⟩, fun e => ?_⟩
 · have h3 : stateAt (newM sh (P0 sh)).G z = 1 := by rw [hst, if_pos ⟨by omega, h2⟩, if_neg (by omega)]
   obtain ⟨k, rfl⟩ := Int.eq_ofNat_of_zero_le (show 0 <= z by omega)
   refine ⟨fun _ => ⟨?_, rfl⟩, fun _ => h3⟩
   unfold lenM
   rw [Int.toNat_natCast, hg.fr k h3]
   rfl
 · rw [hst] at hz
   split at hz
   · split at hz <;> omega
   · omega
 · rw [hst] at hz
   split at hz
   · split at hz <;> omega
   · omega
 · have : (0 : Int) <= -1 := e
   omega
theorem Wk.block {sh : Sh} {m : StM} (h : Wk sh m) (hg : Good sh m) {p : Pl} (hp : p ∈ m.L) : (stateAt m.G p.z = 2 ∨ stateAt m.G p.z = 3) ∧ 1 <= p.k ∧ p.k < lenM m p.z ∧ 1 <= lastM m p.z ∧ 0 <= p.z ∧ p.z < sh.z := by
 obtain ⟨a1, a2, a3⟩ := h.full p hp
 obtain ⟨b1, b2, b3, b4⟩ := hg.at_ p hp
 exact ⟨a1, a2, by unfold lenM; omega, a3, b1, b2⟩
end Go.Proofs.YtfabgbmbnmbjkaaGreatDoor

/- Pruned. -/
namespace Go.Proofs.YtfabgbmbnmbjkaaGreatDoor
open Go.RowKit
set_option maxRecDepth 20000
end Go.Proofs.YtfabgbmbnmbjkaaGreatDoor

