/- Joined texts: Re2 Re3 Re4 Ck En. -/
import Derived.Test.YtfabgbmbnmbjkaaGreatDoorRam
import Derived.Test.YtfabgbmbnmbjkaaGreatDoorRal
import Derived.Test.YtfabgbmbnmbjkaaGreatDoorRan
/- Pruned. -/
namespace Go.Proofs.YtfabgbmbnmbjkaaGreatDoor
open Go.RowKit
set_option maxRecDepth 20000
theorem sizeOf_u8 (u : World) : (sizeOf (Tryz.prog.elem 36)).run Tryz.prog u = .ok 1 u := by
 obtain ⟨i0, hi0, _, hz1, _⟩ := info_parts u8_info
 have e : Tryz.prog.elem 36 = 5 := by kernel_rfl
 rw [e]
 simp [sizeOf, typeInfo, hi0, hz1]
theorem elem_u8 : Tryz.prog.underlying 36 = some (.slice (Tryz.prog.elem 36)) := by kernel_rfl
theorem run_front_u8 (A : Option Addr) (n c hi : Nat) (h : hi <= c) (u : World) :
    (Instr.slice 36 (.slice A n c) none (some (.int .i64 (hi : Int))) none).run Tryz.prog u = .ok (.slice (if c = 0 then A else A.map (·.add 0)) hi c) u := by
 rw [run_slice_h u _ A n c elem_u8 .i64 (hi : Int) (by omega) (by omega), sizeOf_u8]
 simp only [Result.andThen, sliced, Int.toNat_natCast, Nat.zero_mul, Nat.sub_zero]
theorem run_back_u8 (A : Option Addr) (n c lo : Nat) (h : lo <= n) (u : World) :
    (Instr.slice 36 (.slice A n c) (some (.int .i64 (lo : Int))) none none).run Tryz.prog u = .ok (.slice (if c = lo then A else A.map (·.add lo)) (n - lo) (c - lo)) u := by
 rw [run_slice_l u _ A n c elem_u8 .i64 (lo : Int) (by omega) (by omega), sizeOf_u8]
 simp only [Result.andThen, sliced, Int.toNat_natCast, Nat.mul_one]
theorem rsum_any (w : World) (B : Nat) (A : Option Addr) (n c : Nat) (xs : List Int) (h : Reads w B 1 A n (nums .u8 xs)) (h8 : 8 <= n) (hn : n <= 100000000) (hc : n <= c) (hby : ∀ x ∈ xs, ByteOk x) :
    Calls Tryz.prog 187 #[.slice A n c] w (Makes (.int .u32 (sumS 0 (xs.take 4 ++ [0, 0, 0, 0] ++ xs.drop 8))) w) := by
 have hmk : ∀ w : World, (Instr.makeSlice 36 (.int .i64 4) (.int .i64 4)).run Tryz.prog w = .ok (.slice (some ⟨w.heap.size, 0, none⟩) 4 4) (w.alloc (.cells #[.int .u8 0, .int .u8 0, .int .u8 0, .int .u8 0] 5)) := fun _ => by kernel_rfl
 have h1 : ∀ u : World, (Instr.slice 36 (.slice A n c) none (some (.int .i64 4)) none).run Tryz.prog u = .ok (.slice (if c = 0 then A else A.map (·.add 0)) 4 c) u := run_front_u8 A n c 4 (by omega)
 have h2 : ∀ u : World, (Instr.slice 36 (.slice A n c) (some (.int .i64 8)) none none).run Tryz.prog u = .ok (.slice (if c = 8 then A else A.map (·.add 8)) (n - 8) (c - 8)) u := run_back_u8 A n c 8 h8
 generalize hA1 : (if c = 0 then A else A.map (·.add 0)) = A1 at *
 generalize hA2 : (if c = 8 then A else A.map (·.add 8)) = A2 at *
 have HR := Lib.hid (h.more_ (by omega))
 clear h
 have hxl : xs.length = n := by have := HR.out.1; rw [nums_length] at this; omega
 have HS : Hid (Calls Tryz.prog 181 #[.slice (some ⟨w.heap.size + 1, 0, none⟩) 3 3] ((w.alloc (.cells #[.int .u8 0, .int .u8 0, .int .u8 0, .int .u8 0] 5)).alloc (.cells #[.slice A1 4 c, .slice (some ⟨w.heap.size, 0, none⟩) 4 4, .slice A2 (n - 8) (c - 8)] 36)).drew
     (Makes (.int .u32 (sumS 0 (xs.take 4 ++ [0, 0, 0, 0] ++ xs.drop 8))) ((w.alloc (.cells #[.int .u8 0, .int .u8 0, .int .u8 0, .int .u8 0] 5)).alloc (.cells #[.slice A1 4 c, .slice (some ⟨w.heap.size, 0, none⟩) 4 4, .slice A2 (n - 8) (c - 8)] 36)).drew)) := by
  have hz := (Blk.new w 5 #[.int .u8 0, .int .u8 0, .int .u8 0, .int .u8 0]).alloc (.cells #[.slice A1 4 c, .slice (some ⟨w.heap.size, 0, none⟩) 4 4, .slice A2 (n - 8) (c - 8)] 36)
  have hb := Blk.new (w.alloc (.cells #[.int .u8 0, .int .u8 0, .int .u8 0, .int .u8 0] 5)) 36 #[.slice A1 4 c, .slice (some ⟨w.heap.size, 0, none⟩) 4 4, .slice A2 (n - 8) (c - 8)]
  rw [World.size_alloc] at hb
  have hr := (HR.out.alloc (Nat.le_refl _) (.cells #[.int .u8 0, .int .u8 0, .int .u8 0, .int .u8 0] 5)).alloc (by simp) (.cells #[.slice A1 4 c, .slice (some ⟨w.heap.size, 0, none⟩) 4 4, .slice A2 (n - 8) (c - 8)] 36)
  generalize (w.alloc (.cells #[.int .u8 0, .int .u8 0, .int .u8 0, .int .u8 0] 5)).alloc (.cells #[.slice A1 4 c, .slice (some ⟨w.heap.size, 0, none⟩) 4 4, .slice A2 (n - 8) (c - 8)] 36) = w3 at *
  have g1 := (hr.cut (k := 0) (cap := c) (by omega) hc).take_ (m := 4) (by omega)
  have g2 := hr.cut (k := 8) (cap := c) h8 hc
  simp only [Nat.mul_one, List.drop_zero, hA1, hA2, nums_take, nums_drop] at g1 g2
  have g3 : Reads w3 (w.heap.size + 1) 1 (some ⟨w.heap.size, 0, none⟩) 4 (nums .u8 [0, 0, 0, 0]) := ⟨rfl, fun _ => ⟨_, rfl, Nat.lt_succ_self _, fun j u hu => by
   rw [add0, hz.cell, List.getElem?_toArray]
   exact hu⟩⟩
  have e1 : (xs.take 4).length = 4 := by simp; omega
  have e2 : (xs.drop 8).length = n - 8 := by simp; omega
  have hl : ListsAt w3.drew (w.heap.size + 1) (some ⟨w.heap.size + 1, 0, none⟩) [xs.take 4, [0, 0, 0, 0], xs.drop 8] := by
   refine listsAt_blk hb.drew fun i hi => ?_
   match i, hi with
   | 0, _ => exact ⟨A1, c, by simp [e1], by simpa [e1] using (g1.drew).more (Nat.le_succ _)⟩
   | 1, _ => exact ⟨_, 4, rfl, by simpa using g3.drew⟩
   | 2, _ => exact ⟨A2, c - 8, by simp [e2], by simpa [e2] using (g2.drew).more (Nat.le_succ _)⟩
  have := sum_any w3.drew _ _ 3 _ hl (by
   intro l hl x hx
   simp only [List.mem_cons, List.not_mem_nil, or_false] at hl
   rcases hl with rfl | rfl | rfl
   · exact hby x (List.mem_of_mem_take hx)
   · simp at hx; rw [hx]; exact ⟨by omega, by omega⟩
   · exact hby x (List.mem_of_mem_drop hx)) (by simp) (by
   intro l hl
   simp only [List.mem_cons, List.not_mem_nil, or_false] at hl
   rcases hl with rfl | rfl | rfl
   · rw [e1]; omega
   · simp
   · rw [e2]; omega)
  refine this.mono ?_
  rintro e w' ⟨rfl, rfl⟩
  exact ⟨by simp, Below.refl _ _⟩
 clear hby hA1 hA2 HR hxl
 generalize sumS 0 (xs.take 4 ++ [0, 0, 0, 0] ++ xs.drop 8) = S at *
 go_enter Tryz.func187, Tryz.ntmps187
 go_wp2_with (fail)
 go_region_with (go_at_call 181; refine HS.out.mono ?_; rintro e w9 ⟨rfl, hb9⟩; have HB9 := Lib.hid hb9; clear hb9)
 all_goals
  clear h1 h2 hmk
  go_wp2
  go_ret
  have hw : Below w.heap.size w ((w.alloc (.cells #[.int .u8 0, .int .u8 0, .int .u8 0, .int .u8 0] 5)).alloc (.cells #[.slice A1 4 c, .slice (some ⟨w.heap.size, 0, none⟩) 4 4, .slice A2 (n - 8) (c - 8)] 36)).drew := (((Below.refl _ w).alloc (Nat.le_refl _) _).alloc (by simp) _).drew
  exact ⟨rfl, hw.trans (HB9.out.mono hw.size)⟩
end Go.Proofs.YtfabgbmbnmbjkaaGreatDoor

/- Pruned. -/
namespace Go.Proofs.YtfabgbmbnmbjkaaGreatDoor
open Go.RowKit
set_option maxRecDepth 20000
def itB (i : It) : List Int := packS [4, 8, 1, 4, 2] [i.t, i.b, i.k, i.s, i.e]
def headR (seq : Int) (n : Nat) : List Int := packS [4, 4, 8, 2] [1129074503, 0, seq, n]
theorem itB_length (i : It) : (itB i).length = 19 := by simp [itB, packS, beB_length, widthN]
theorem headR_length (seq : Int) (n : Nat) : (headR seq n).length = 18 := by simp [headR, packS, beB_length, widthN]
theorem packS_bd (ws vs : List Int) : ∀ x ∈ packS ws vs, ByteOk x := by
 intro x hx
 obtain ⟨p, _, hp⟩ := List.mem_flatMap.1 hx
 exact beB_bd _ _ x hp
def frontR (seq : Int) (its : List It) (k : Nat) : List Int := headR seq its.length ++ (its.take k).flatMap itB
theorem frontR_length (seq : Int) (its : List It) (k : Nat) (h : k <= its.length) : (frontR seq its k).length = 18 + 19 * k := by
 induction k with
 | zero => simp [frontR, headR_length]
 | succ k ih =>
   have := ih (by omega)
   unfold frontR at this ⊢
   rw [List.take_succ_eq_append_getElem (by omega), List.flatMap_append]
   simp [itB_length] at this ⊢
   omega
theorem frontR_succ (seq : Int) (its : List It) (k : Nat) (h : k < its.length) : frontR seq its (k + 1) = frontR seq its k ++ itB (its.getD k it0) := by
 unfold frontR
 rw [List.take_succ_eq_append_getElem h, List.flatMap_append, List.getD_eq_getElem?_getD, List.getElem?_eq_getElem h]
 simp
theorem frontR_bd (seq : Int) (its : List It) (k : Nat) : ∀ x ∈ frontR seq its k, ByteOk x := by
 intro x hx
 rcases List.mem_append.1 hx with h | h
 · exact packS_bd _ _ x h
 · obtain ⟨i, _, hi⟩ := List.mem_flatMap.1 h
   exact packS_bd _ _ x hi
def fillB (f : List Int) (bl : Nat) : List Int := (f ++ List.replicate (bl - f.length) 0).set (bl - 1) 231
theorem fillB_length (f : List Int) (bl : Nat) (h : f.length <= bl) : (fillB f bl).length = bl := by simp [fillB]; omega
theorem fillB_bd (f : List Int) (bl : Nat) (hf : ∀ x ∈ f, ByteOk x) : ∀ x ∈ fillB f bl, ByteOk x := by
 intro x hx
 rcases List.mem_or_eq_of_mem_set hx with h | rfl
 · rcases List.mem_append.1 h with h | h
   · exact hf x h
   · rw [List.eq_of_mem_replicate h]; exact ⟨by omega, by omega⟩
 · exact ⟨by omega, by omega⟩
def sumB (b : List Int) (S : Int) : List Int := b.take 4 ++ (beB 4 S ++ b.drop 8)
theorem sumB_length (b : List Int) (S : Int) (h : 8 <= b.length) : (sumB b S).length = b.length := by simp [sumB, beB_length]; omega
theorem sumB_bd (b : List Int) (S : Int) (h : ∀ x ∈ b, ByteOk x) : ∀ x ∈ sumB b S, ByteOk x := by
 intro x hx
 simp only [sumB, List.mem_append] at hx
 rcases hx with hx | hx | hx
 · exact h x (List.mem_of_mem_take hx)
 · exact beB_bd _ _ x hx
 · exact h x (List.mem_of_mem_drop hx)
def encR (seq : Int) (its : List It) (bl : Nat) : List Int :=
 sumB (fillB (frontR seq its its.length) bl) (sumS 0 ((fillB (frontR seq its its.length) bl).take 4 ++ [0, 0, 0, 0] ++ (fillB (frontR seq its its.length) bl).drop 8))
theorem roomN_fit {n bl : Nat} (h : n <= roomN bl) (hb : 64 <= bl) : 18 + 19 * n + 1 <= bl := by unfold roomN at h; omega
theorem encR_length (seq : Int) (its : List It) (bl : Nat) (h : its.length <= roomN bl) (hb : 64 <= bl) : (encR seq its bl).length = bl := by
 have h1 := roomN_fit h hb
 have h2 := fillB_length (frontR seq its its.length) bl (by rw [frontR_length _ _ _ (Nat.le_refl _)]; omega)
 unfold encR
 rw [sumB_length _ _ (by omega), h2]
theorem encR_bd (seq : Int) (its : List It) (bl : Nat) : ∀ x ∈ encR seq its bl, ByteOk x := sumB_bd _ _ (fillB_bd _ _ (frontR_bd _ _ _))
theorem reads_lit {w : World} {g : Nat} {t : TypeId} {k : IntKind} {l : List Int} {cs : Array Value} (h : Blk w g t cs) (he : cs = (nums k l).toArray) : Reads w w.heap.size 1 (some ⟨g, 0, none⟩) l.length (nums k l) :=
 ⟨by rw [nums_length]; omega, fun _ => ⟨_, rfl, h.lt, fun j u hu => by
  rw [add0, h.cell, he, List.getElem?_toArray]
  exact hu⟩⟩
theorem BRow.set_last {w : World} {base g c k : Nat} {xs : List Int} (h : BRow w base (some ⟨g, 0, none⟩) c xs) (hk : k < xs.length) (v : Int) : BRow (w.setCell ⟨g, k, none⟩ (.int .u8 v)) base (some ⟨g, 0, none⟩) c (xs.set k v) := by
 refine ⟨by rw [nums_length, Nat.mul_one], ?_⟩
 rcases h.2 with ⟨_, h0⟩ | ⟨g', cap, cur, hv, hg, hh, hnc, hcm, hcs, ht⟩
 · omega
 · injection hv with e1 e2 e3
   injection e1 with e1
   have eg : g = g' := by injection e1
   subst eg e3
   have hb : Blk w g 5 cur := hh
   refine .inr ⟨g, c, _, by simp, hg, hb.set_ k (.int .u8 v), by simpa using hnc, hcm, by simpa using hcs, ?_⟩
   rw [List.length_set, Nat.mul_one] at *
   rw [Array.toList_setIfInBounds, List.take_set, ht]
   simp [nums, List.map_set]
theorem BRow.blk {w : World} {base g c : Nat} {xs : List Int} (h : BRow w base (some ⟨g, 0, none⟩) c xs) (h0 : 0 < xs.length) : ∃ ex, Blk w g 5 (nums .u8 xs ++ ex).toArray ∧ (nums .u8 xs ++ ex).length = c ∧ c <= maxLen ∧ base <= g := by
 rcases h.2 with ⟨_, h1⟩ | ⟨g', cap, cur, hv, hg, hh, hnc, hcm, hcs, ht⟩
 · omega
 · injection hv with e1 e2 e3
   injection e1 with e1
   have eg : g = g' := by injection e1
   subst eg e3
   rw [Nat.mul_one] at ht hcs
   refine ⟨cur.toList.drop xs.length, ?_, ?_, hcm, hg⟩
   · rw [<- ht, List.take_append_drop]
     exact hh
   · rw [<- ht, List.take_append_drop]
     simpa using hcs
theorem BRow.of_blk {w : World} {base g c : Nat} {xs : List Int} {ex : List Value} (h : Blk w g 5 (nums .u8 xs ++ ex).toArray) (hl : (nums .u8 xs ++ ex).length = c) (hm : c <= maxLen) (hb : base <= g) : BRow w base (some ⟨g, 0, none⟩) c xs := by
 refine ⟨by rw [nums_length, Nat.mul_one], .inr ⟨g, c, _, rfl, hb, h, ?_, hm, ?_, ?_⟩⟩
 · rw [<- hl, List.length_append, nums_length]; omega
 · rw [Nat.mul_one]; simpa using hl
 · rw [Nat.mul_one]
   exact List.take_left' (nums_length _ _)
theorem splice_sum (b : List Int) (S : Int) (ex : List Value) (h : 8 <= b.length) : splice (nums .u8 b ++ ex) 4 (nums .u8 (beB 4 S)) = nums .u8 (sumB b S) ++ ex := by
 unfold splice sumB
 have h1 : (nums .u8 (beB 4 S)).length = 4 := by rw [nums_length, beB_length]
 rw [h1, List.take_append_of_le_length (by rw [nums_length]; omega), List.drop_append_of_le_length (by rw [nums_length]; omega)]
 simp [nums]
theorem run_copy_sum (w : World) (base g c : Nat) (b : List Int) (h : BRow w base (some ⟨g, 0, none⟩) c b) (h8 : 8 <= b.length) (A2 : Option Addr) (c2 : Nat) (S : Int) (B2 : Nat) (hr : Reads w B2 1 A2 4 (nums .u8 (beB 4 S))) (ty : TypeId) :
    ∃ w', (Builtin.copy_ #[36, 36] ty #[.slice (some ⟨g, 4, none⟩) (b.length - 4) (c - 4), .slice A2 4 c2]).run Tryz.prog w = .ok (.int .i64 4) w' ∧ BRow w' base (some ⟨g, 0, none⟩) c (sumB b S) ∧ Kp (fun i => i = g) w w' := by
 obtain ⟨ex, hb, hl, hm, hbase⟩ := h.blk (by omega)
 obtain ⟨ad, rfl, _, hcell⟩ := hr.2 (by omega)
 have hsz : (Tryz.prog.info? 5).map (·.size) = some 1 := by kernel_rfl
 have hlen : (nums .u8 (beB 4 S)).length = 4 := by rw [nums_length, beB_length]
 have hll : (nums .u8 b).length = b.length := nums_length _ _
 have hrun := run_copy_row (P := Tryz.prog) w 36 36 ty 5 g 4 (b.length - 4) (c - 4) ad 4 c2 (nums .u8 b ++ ex).toArray 5 (nums .u8 (beB 4 S)) Tryz.underlying36 hsz hb (by rw [hlen]; exact (Nat.min_eq_left (by omega)).symm) hcell (by rw [hlen]; simp [hll]; omega) (nums_one _ _)
 have hsp := splice_sum b S ex h8
 unfold splice at hsp
 rw [<- List.append_assoc] at hsp
 rw [hsp, hlen] at hrun
 refine ⟨_, hrun, BRow.of_blk (ex := ex) (setRow_heap w g _ _ 5 _ hb) ?_ hm hbase, ?_⟩
 · rw [<- hl, List.length_append, List.length_append, nums_length, nums_length, sumB_length _ _ h8]
 · exact ⟨rfl, rfl, rfl, by simp [World.setRow], fun k hk hne => setRow_other w g k _ hne⟩
end Go.Proofs.YtfabgbmbnmbjkaaGreatDoor

/- Pruned. -/
namespace Go.Proofs.YtfabgbmbnmbjkaaGreatDoor
open Go.RowKit
set_option maxRecDepth 20000
def PackSum (w9 : World) (S : Int) (e : Ending) (w' : World) : Prop := ∃ A c, e = .returned (.slice A 4 c) ∧ Reads w' w'.heap.size 1 A 4 (nums .u8 (beB 4 S)) ∧ Below w9.heap.size w9 w'
theorem pack_sum (w9 u : World) (g1 g2 : Nat) (S : Int) (hS : U32 S) (h1 : Blk u g1 3 #[.int .i64 4]) (h2 : Blk u g2 40 #[.int .u64 S]) (hb : Below w9.heap.size w9 u) :
    Calls Tryz.prog 186 #[.slice (some ⟨g1, 0, none⟩) 1 1, .slice (some ⟨g2, 0, none⟩) 1 1] u (PackSum w9 S) := by
 have h := pack_any u _ _ _ _ 1 1 [4] [S] (reads_lit h1 rfl) (reads_lit h2 rfl) (by simp) (by simp) (by simp) (by
  intro x hx
  simp only [List.mem_cons, List.not_mem_nil, or_false] at hx
  have := hS.1
  have := hS.2
  omega)
 refine h.mono ?_
 rintro e w11 ⟨A11, c11, rfl, hr11, hb11⟩
 have e11 : packS [4] [S] = beB 4 S := by simp [packS, widthN]
 have e12 : (beB 4 S).length = 4 := beB_length _ _
 rw [e11] at hr11 ⊢
 have hrd := hr11.reads
 rw [e12] at hrd ⊢
 exact ⟨A11, c11, rfl, hrd, hb.trans (hb11.mono hb.size)⟩
theorem lits1 (w9 w10 : World) (S : Int) (hS : U32 S) (hb : Below (w9.alloc (.cells #[.int .i64 4] 3)).drew.heap.size (w9.alloc (.cells #[.int .i64 4] 3)).drew w10) :
    Calls Tryz.prog 186 #[.slice (some ⟨w9.heap.size, 0, none⟩) 1 1, .slice (some ⟨w10.heap.size, 0, none⟩) 1 1] (w10.alloc (.cells #[.int .u64 S] 40)) (PackSum w9 S) := by
 have h910 : Below w9.heap.size w9 w10 := (((Below.refl _ w9).alloc (Nat.le_refl _) _).drew).trans (hb.mono (by simp [World.drew]))
 exact pack_sum w9 _ _ _ S hS ((((Blk.new w9 3 #[.int .i64 4]).drew).below hb (by simp [World.drew])).alloc _) (Blk.new w10 40 #[.int .u64 S]) (h910.alloc h910.size _)
theorem lits2 (w9 w10 : World) (S : Int) (hS : U32 S) (h : Below w9.heap.size w9 w10) :
    Calls Tryz.prog 186 #[.slice (some ⟨w10.heap.size, 0, none⟩) 1 1, .slice (some ⟨w10.heap.size + 1, 0, none⟩) 1 1] ((w10.alloc (.cells #[.int .i64 4] 3)).alloc (.cells #[.int .u64 S] 40)) (PackSum w9 S) := by
 have h2 := Blk.new (w10.alloc (.cells #[.int .i64 4] 3)) 40 #[.int .u64 S]
 rw [World.size_alloc] at h2
 have := h.size
 exact pack_sum w9 _ _ _ S hS ((Blk.new w10 _ _).alloc _) h2 ((h.alloc (by omega) _).alloc (by simp; omega) _)
theorem lits3 (w9 w10 : World) (S : Int) (hS : U32 S) (h : Below w9.heap.size w9 w10) :
    Calls Tryz.prog 186 #[.slice (some ⟨w10.heap.size + 1, 0, none⟩) 1 1, .slice (some ⟨w10.heap.size, 0, none⟩) 1 1] ((w10.alloc (.cells #[.int .u64 S] 40)).alloc (.cells #[.int .i64 4] 3)) (PackSum w9 S) := by
 have h2 := Blk.new (w10.alloc (.cells #[.int .u64 S] 40)) 3 #[.int .i64 4]
 rw [World.size_alloc] at h2
 have := h.size
 exact pack_sum w9 _ _ _ S hS h2 ((Blk.new w10 _ _).alloc _) ((h.alloc (by omega) _).alloc (by simp; omega) _)
set_option maxHeartbeats 4000000 in
theorem encode_any (s : Sh) (hs : s.ok) (seq : Int) (hq : 0 <= seq ∧ seq <= 18446744073709551615) (its : List It) (A : Option Addr) (c : Nat) (w : World) (h : ItsAt w A its) (hok : ∀ i ∈ its, ItOk i) (h0 : 0 < its.length) (hn : its.length <= roomN s.bl) :
    Calls Tryz.prog 140 #[.agg #[.int .u64 seq, .slice A its.length c], .int .i64 s.bl] w
      (fun e w' => ∃ A' c', e = .returned (.tuple #[.slice A' s.bl c', .int .u16 0]) ∧ BRow w' w.heap.size A' c' (encR seq its s.bl) ∧ Below w.heap.size w w') := by
 have hfit := roomN_fit hn hs.blk.1
 have hbl := hs.blk
 have HRM := Lib.hid (room_any s hs)
 have HI := Lib.hid h
 have HO := Lib.hid hok
 have HOK := Lib.hid (fun w (h : ItsAt w A its) => itsok_any its A c w h hok (by omega))
 have hnz : ((its.length : Int) == 0) = false := by rw [beq_eq_false_iff_ne]; omega
 have hrn : ¬ ((roomN s.bl : Nat) : Int) < its.length := by omega
 clear h hok hs
 go_enter Tryz.func140, Tryz.ntmps140
 go_wp2_with (fail)
 refine (HRM.out _).mono ?_
 rintro e w' ⟨rfl, rfl⟩
 have hb0 := Blk.new w 190 #[.int .u64 seq, .slice A its.length c]
 have hbl0 := (Below.refl w.heap.size w).alloc (Nat.le_refl _) (.cells #[.int .u64 seq, .slice A its.length c] 190)
 have hi1 := HI.out.below hbl0
 generalize w.alloc (.cells #[.int .u64 seq, .slice A its.length c] 190) = w1 at *
 have c1 : w1.cell? ⟨w.heap.size, 1, none⟩ = some (.slice A its.length c) := hb0.cell 1
 have HB0 := Lib.hid hb0
 have HBL0 := Lib.hid hbl0
 have HI1 := Lib.hid hi1
 clear hb0 hbl0 hi1 HRM
 go_wp2_with (fail)
 refine (HOK.out _ HI1.out).mono ?_
 rintro e w2 ⟨rfl, hb⟩
 have hb0 := HB0.out.below hb HB0.out.lt
 have HBL2 := Lib.hid (HBL0.out.trans (hb.mono HBL0.out.size))
 have HB2 := Lib.hid hb0
 have d0 : w2.cell? ⟨w.heap.size, 0, none⟩ = some (.int .u64 seq) := hb0.cell 0
 have d1 : w2.cell? ⟨w.heap.size, 1, none⟩ = some (.slice A its.length c) := hb0.cell 1
 have hltB : w.heap.size < w2.heap.size := hb0.lt
 clear hb hb0 HOK c1 HB0 HBL0 HI1
 go_wp2_with (fail)
 have HBL3 : Hid (Below w.heap.size w ((w2.alloc (.cells #[.int .i64 4, .int .i64 4, .int .i64 8, .int .i64 2] 3)).alloc (.cells #[.int .u64 1129074503, .int .u64 0, .int .u64 seq, .int .u64 its.length] 40))) := (HBL2.out.alloc (by omega) _).alloc (by simp; omega) _
 have ha := (Blk.new w2 3 #[.int .i64 4, .int .i64 4, .int .i64 8, .int .i64 2]).alloc (.cells #[.int .u64 1129074503, .int .u64 0, .int .u64 seq, .int .u64 its.length] 40)
 have hb := Blk.new (w2.alloc (.cells #[.int .i64 4, .int .i64 4, .int .i64 8, .int .i64 2] 3)) 40 #[.int .u64 1129074503, .int .u64 0, .int .u64 seq, .int .u64 its.length]
 have hb0 := (HB2.out.alloc (.cells #[.int .i64 4, .int .i64 4, .int .i64 8, .int .i64 2] 3)).alloc (.cells #[.int .u64 1129074503, .int .u64 0, .int .u64 seq, .int .u64 its.length] 40)
 rw [World.size_alloc] at hb
 clear d0 d1
 generalize (w2.alloc (.cells #[.int .i64 4, .int .i64 4, .int .i64 8, .int .i64 2] 3)).alloc (.cells #[.int .u64 1129074503, .int .u64 0, .int .u64 seq, .int .u64 its.length] 40) = w3 at *
 refine (pack_any w3 _ _ _ _ 4 4 [4, 4, 8, 2] [1129074503, 0, seq, its.length] (reads_lit ha rfl) (reads_lit hb rfl) (by simp) (by simp) (by simp) (by
  intro x hx
  simp only [List.mem_cons, List.not_mem_nil, or_false] at hx
  rcases hx with rfl | rfl | rfl | rfl <;> omega)).mono ?_
 rintro e w4 ⟨A4, c4, rfl, hr4, hb4⟩
 have hb0 := hb0.below hb4 hb0.lt
 have HBL4 := Lib.hid (HBL3.out.trans (hb4.mono HBL3.out.size))
 have hr4' : BRow w4 (w.heap.size + 1) A4 c4 (frontR seq its 0) := by
  have e : frontR seq its 0 = packS [4, 4, 8, 2] [1129074503, 0, seq, its.length] := by simp [frontR, headR]
  rw [e]
  exact hr4.rebase (fun b hb => by have := (hr4.lt hb).1; have := ha.lt; omega)
 have e0 : packS [4, 4, 8, 2] [1129074503, 0, seq, its.length] = frontR seq its 0 := by simp [frontR, headR]
 rw [e0]
 have HR4 : Hid (BRow w4 (w.heap.size + 1) A4 c4 (frontR seq its 0) ∧ Blk w4 w.heap.size 190 #[.int .u64 seq, .slice A its.length c] ∧ Below w.heap.size w w4) := ⟨hr4', hb0, HBL4.out⟩
 have d1 : w4.cell? ⟨w.heap.size, 1, none⟩ = some (.slice A its.length c) := hb0.cell 1
 have HFL := Lib.hid (fun k h => frontR_length seq its k h)
 clear hr4 hr4' hb0 hb4 ha hb e0 HBL4 HBL3 HB2 HBL2 hltB
 go_wp2_with (fail)
 go_loopw [7, 36] (fun o i wr => ∃ (k : Nat) (A5 : Option Addr) (c5 : Nat), k <= its.length ∧ i = .int .i64 k ∧ o = .slice A5 (frontR seq its k).length c5 ∧ Hid (BRow wr (w.heap.size + 1) A5 c5 (frontR seq its k) ∧ Blk wr w.heap.size 190 #[.int .u64 seq, .slice A its.length c] ∧ Below w.heap.size w wr)) (fun _ i _ => its.length - (intOf i).toNat)
 case atStart => exact ⟨0, A4, c4, Nat.zero_le _, rfl, rfl, HR4⟩
 case round =>
  obtain ⟨k, A5, c5, hk, rfl, rfl, hR⟩ := hrel
  clear HR4 d1
  by_cases hlt : k < its.length
  · obtain ⟨g, rfl, hat⟩ := (HI.out.below hR.out.2.2) k hlt
    obtain ⟨i0, i1, i2, i3, i4⟩ := hat
    have HOX := Lib.hid (HO.out _ (getD_mem (d := it0) hlt))
    have HFS := Lib.hid (frontR_succ seq its k hlt)
    have HFK := Lib.hid (HFL.out k hk)
    have hwg : w.heap.size < wr.heap.size := hR.out.2.1.lt
    generalize its.getD k it0 = x at *
    generalize frontR seq its k = F at *
    obtain ⟨xt, xb, xk, xs, xe⟩ := x
    have t0 : 0 <= xt := HOX.out.t.1
    have t1 : xt <= 4294967295 := HOX.out.t.2
    have k01 : 0 <= xk ∧ xk <= 255 := by have := HOX.out.kk; simp only at this; omega
    have k0 : 0 <= xk := k01.1
    have k1 : xk <= 255 := k01.2
    have s0 : 0 <= xs := HOX.out.s.1
    have s1 : xs <= 4294967295 := HOX.out.s.2
    have e0 : 0 <= xe := HOX.out.e.1
    have e1 : xe <= 65535 := HOX.out.e.2
    have HBB : Hid (0 <= xb ∧ xb <= 18446744073709551615) := HOX.out.b
    simp only at i0 i1 i2 i3 i4
    clear k01
    have ha := ((Blk.new (wr.alloc (.cells #[.int .u32 xt, .int .u64 xb, .int .u8 xk, .int .u32 xs, .int .u16 xe] 192)) 3 #[.int .i64 4, .int .i64 8, .int .i64 1, .int .i64 4, .int .i64 2]).alloc (.cells #[.int .u64 xt, .int .u64 xb, .int .u64 xk, .int .u64 xs, .int .u64 xe] 40))
    have hb := Blk.new ((wr.alloc (.cells #[.int .u32 xt, .int .u64 xb, .int .u8 xk, .int .u32 xs, .int .u16 xe] 192)).alloc (.cells #[.int .i64 4, .int .i64 8, .int .i64 1, .int .i64 4, .int .i64 2] 3)) 40 #[.int .u64 xt, .int .u64 xb, .int .u64 xk, .int .u64 xs, .int .u64 xe]
    simp only [World.size_alloc] at ha hb
    have hw3 : Below wr.heap.size wr (((wr.alloc (.cells #[.int .u32 xt, .int .u64 xb, .int .u8 xk, .int .u32 xs, .int .u16 xe] 192)).alloc (.cells #[.int .i64 4, .int .i64 8, .int .i64 1, .int .i64 4, .int .i64 2] 3)).alloc (.cells #[.int .u64 xt, .int .u64 xb, .int .u64 xk, .int .u64 xs, .int .u64 xe] 40)) := (((Below.refl _ wr).alloc (Nat.le_refl _) _).alloc (by simp) _).alloc (by simp; omega) _
    have HP := Lib.hid (And.intro ha (And.intro hb hw3))
    clear ha hb hw3
    go_wp2_with (fail)
    obtain ⟨ha, hb, hw3⟩ := HP.out
    clear HP
    generalize ((wr.alloc (.cells #[.int .u32 xt, .int .u64 xb, .int .u8 xk, .int .u32 xs, .int .u16 xe] 192)).alloc (.cells #[.int .i64 4, .int .i64 8, .int .i64 1, .int .i64 4, .int .i64 2] 3)).alloc (.cells #[.int .u64 xt, .int .u64 xb, .int .u64 xk, .int .u64 xs, .int .u64 xe] 40) = w5 at *
    refine (pack_any w5 _ _ _ _ 5 5 [4, 8, 1, 4, 2] [xt, xb, xk, xs, xe] (reads_lit ha rfl) (reads_lit hb rfl) (by simp) (by simp) (by simp) (by
     have hbb := HBB.out
     intro x hx
     simp only [List.mem_cons, List.not_mem_nil, or_false] at hx
     rcases hx with rfl | rfl | rfl | rfl | rfl <;> omega)).mono ?_
    rintro e w6 ⟨A6, c6, rfl, hr6, hb6⟩
    have HW6 := Lib.hid (hw3.trans (hb6.mono hw3.size))
    have hR6 := hR.out
    have HF6 : Hid (BRow w6 (w.heap.size + 1) A5 c5 F) := hR6.1.below HW6.out (Nat.le_refl _)
    have HRD : Hid (Reads w6 w6.heap.size 1 A6 (packS [4, 8, 1, 4, 2] [xt, xb, xk, xs, xe]).length (nums .u8 (packS [4, 8, 1, 4, 2] [xt, xb, xk, xs, xe]))) := hr6.reads
    have HL6 : Hid (F.length + (packS [4, 8, 1, 4, 2] [xt, xb, xk, xs, xe]).length <= 100000000) := by
     have e := itB_length ⟨xt, xb, xk, xs, xe⟩
     unfold itB at e
     have e2 := HFK.out
     unfold Hid
     simp only at e
     omega
    have HBS : Hid (w.heap.size + 1 <= w6.heap.size) := by have := HW6.out.size; unfold Hid; omega
    have HIT : Hid (packS [4, 8, 1, 4, 2] [xt, xb, xk, xs, xe] = itB ⟨xt, xb, xk, xs, xe⟩) := rfl
    clear ha hb hw3 hr6 hb6 hR6 i0 i1 i2 i3 i4 t0 t1 k0 k1 s0 s1 e0 e1
    generalize packS [4, 8, 1, 4, 2] [xt, xb, xk, xs, xe] = PK at *
    go_wp2_with (first
      | (at_builtin
         refine wpList_append_u8 w6 rfl (.tmp 40) (.tmp 57) rfl F HF6.out rfl rfl PK rfl HRD.out HL6.out HBS.out ?_
         intro A7 c7 w7 h7 k7 _
         have H7 := Lib.hid h7
         have K7 := Lib.hid k7
         clear h7 k7))
    go_roundw
    case rel =>
     have e : frontR seq its (k + 1) = F ++ PK := by rw [HFS.out, HIT.out]
     have hkk : Kp (fun i => (Value.slice A5 F.length c5).ownBlock = some i) wr w7 := (Kp.of_below (S := fun i => (Value.slice A5 F.length c5).ownBlock = some i) HW6.out).trans K7.out (fun _ _ h => h)
     refine ⟨k + 1, A7, c7, hlt, by go_num, by rw [e]; simp, ?_⟩
     rw [e]
     exact ⟨H7.out, hkk.blk hR.out.2.1 (fun h => by have := (hR.out.1.lt h).1; omega), Kp.below hR.out.2.2 hkk hR.out.2.2.size (fun b hb h => by have := (hR.out.1.lt h).1; omega)⟩
    case measure => simp [intOf]; omega
  · obtain rfl : k = its.length := by omega
    have hF := HFL.out _ (Nat.le_refl _)
    have HFB := Lib.hid (frontR_bd seq its its.length)
    obtain ⟨F, hF0⟩ : ∃ F, frontR seq its its.length = F := ⟨_, rfl⟩
    rw [hF0] at hR hF HFB ⊢
    have HF0 := Lib.hid hF0
    clear hF0 HFL
    have hFb : F.length + 1 <= s.bl := by omega
    have hF18 : 18 <= F.length := by omega
    have HFF := Lib.hid hF
    clear hF
    obtain ⟨A8, c8, w8, hrun, h8, k8, _⟩ := run_append_zeros_b wr (w.heap.size + 1) c5 (s.bl - F.length) A5 F 36 hR.out.1 (by omega) (by omega) (by have := hR.out.2.1.lt; omega)
    have hsub : (s.bl : Int) - F.length = ((s.bl - F.length : Nat) : Int) := by omega
    have hl8 : (F ++ List.replicate (s.bl - F.length) (0 : Int)).length = s.bl := by simp; omega
    rw [hl8] at hrun
    obtain ⟨m, hm⟩ : ∃ m, s.bl = m + 1 := ⟨s.bl - 1, by omega⟩
    have hm1 : (s.bl : Int) - 1 = (m : Int) := by omega
    obtain ⟨g8, rfl, hc8⟩ := h8.at_ (k := m) (by omega)
    have hf8 := h8.frozen m
    have hb8 : (m : Int) < s.bl := by omega
    have hs9 := h8.set_last (k := m) (by omega) 231
    have hfill : (F ++ List.replicate (s.bl - F.length) 0).set m 231 = fillB F s.bl := by unfold fillB; rw [hm]; rfl
    rw [hfill] at hs9
    have HS9 := Lib.hid hs9
    have HM := Lib.hid hm
    clear hs9 hfill hm
    generalize (F ++ List.replicate (s.bl - F.length) 0).getD m 0 = y8 at hc8
    have HRUN := Lib.hid hrun
    have H8 := Lib.hid h8
    have K8 := Lib.hid k8
    have HL8 := Lib.hid hl8
    clear hrun h8 k8 hl8
    go_wp2_with (first
      | (at_builtin
         refine Lib.wpList_append_run wr rfl (.tmp 60) (.tmp 64) _ _ rfl _ _ rfl rfl _ _ HRUN.out ?_))
    have hw9 : Below w.heap.size w (w8.setCell ⟨g8, m, none⟩ (.int .u8 231)) := by
     have k1 := Kp.below hR.out.2.2 K8.out hR.out.2.2.size (fun b hb h => by have := (hR.out.1.lt h).1; omega)
     exact k1.setCell (p := ⟨g8, m, none⟩) (by have := (H8.out.lt (b := g8) rfl).1; show w.heap.size <= g8; omega) _
    have HW9 := Lib.hid hw9
    clear hw9 hc8 hf8
    generalize w8.setCell ⟨g8, m, none⟩ (.int .u8 231) = w9 at *
    have hlB : (fillB F s.bl).length = s.bl := fillB_length F s.bl (by omega)
    have hbB : ∀ x ∈ fillB F s.bl, ByteOk x := fillB_bd F s.bl HFB.out
    have hcb : s.bl <= c8 := by
     rcases HS9.out.2 with ⟨_, h0⟩ | ⟨g', cap, cur, hv, _, _, hnc, _⟩
     · omega
     · injection hv with _ _ e3
       subst e3
       rw [hlB] at hnc
       exact hnc
    obtain ⟨S, hS⟩ : ∃ S, sumS 0 ((fillB F s.bl).take 4 ++ [0, 0, 0, 0] ++ (fillB F s.bl).drop 8) = S := ⟨_, rfl⟩
    have hSb : U32 S := by
     rw [<- hS]
     refine sumS_bd _ _ ⟨by omega, by omega⟩ (fun x hx => ?_)
     simp only [List.mem_append, List.mem_cons, List.not_mem_nil, or_false] at hx
     rcases hx with (hx | hx) | hx
     · exact hbB x (List.mem_of_mem_take hx)
     · rcases hx with rfl | rfl | rfl | rfl <;> exact ⟨by omega, by omega⟩
     · exact hbB x (List.mem_of_mem_drop hx)
    have HSUM : Hid (∀ u, Below w9.heap.size w9 u -> Calls Tryz.prog 187 #[.slice (some ⟨g8, 0, none⟩) s.bl c8] u (Makes (.int .u32 S) u)) := fun u hu => by
     have hr := (HS9.out.below hu (Nat.le_refl _)).reads
     rw [hlB] at hr
     have := rsum_any u _ _ s.bl c8 _ hr (by omega) (by omega) hcb hbB
     rw [hS] at this
     exact this
    have HSB := Lib.hid hSb
    have HS := Lib.hid hS
    have hsl : ∀ u : World, (Instr.slice 36 (.slice (some ⟨g8, 0, none⟩) s.bl c8) (some (.int .i64 4)) none none).run Tryz.prog u = .ok (.slice (if c8 = 4 then some ⟨g8, 0, none⟩ else (some (⟨g8, 0, none⟩ : Addr)).map (·.add 4)) (s.bl - 4) (c8 - 4)) u := run_back_u8 (some ⟨g8, 0, none⟩) s.bl c8 4 (by omega)
    have e4 : (if c8 = 4 then some (⟨g8, 0, none⟩ : Addr) else (some (⟨g8, 0, none⟩ : Addr)).map (·.add 4)) = some ⟨g8, 4, none⟩ := by
     rw [if_neg (by omega), Option.map_some, add0]
    rw [e4] at hsl
    have hwS : IntKind.u64.wrap S = S := IntWalk.u64_in S (by have := hSb.1; have := hSb.2; omega)
    clear hbB hS hSb e4
    have HSUMa := Lib.hid (HSUM.out (w9.alloc (.cells #[.int .i64 4] 3)).drew ((Below.refl _ _).alloc (Nat.le_refl _) _).drew)
    have HSUMb := Lib.hid (HSUM.out w9.drew (Below.refl _ _).drew)
    have HB8 : Hid (8 <= (fillB F s.bl).length) := by unfold Hid; rw [hlB]; omega
    go_region_held3 (fun _ => True) (trivial)
      (first
        | (go_at_call 187
           with_reducible refine HSUMa.out.mono ?_
           rintro e w10 ⟨rfl, hb10⟩
           have HPA := Lib.hid (lits1 w9 w10 S HSB.out hb10)
           clear hb10)
        | (go_at_call 187
           with_reducible refine HSUMb.out.mono ?_
           rintro e w10 ⟨rfl, hb10⟩
           have HPB := Lib.hid (lits2 w9 w10 S HSB.out ((Below.refl _ w9).drew.trans hb10))
           have HPC := Lib.hid (lits3 w9 w10 S HSB.out ((Below.refl _ w9).drew.trans hb10))
           clear hb10)
        | (go_at_call 186
           with_reducible refine HPA.out.mono ?_
           rintro e w11 ⟨A11, c11, rfl, hrd, h911⟩
           obtain ⟨w12, hcp, hb12, hk12⟩ := run_copy_sum w11 _ g8 c8 _ (HS9.out.below h911 (Nat.le_refl _)) HB8.out _ c11 S _ hrd 3
           rw [hlB] at hcp
           have H12 := Lib.hid (And.intro hb12 (And.intro hk12 h911))
           clear h911 hrd hb12 hk12)
        | (go_at_call 186
           with_reducible refine HPB.out.mono ?_
           rintro e w11 ⟨A11, c11, rfl, hrd, h911⟩
           obtain ⟨w12, hcp, hb12, hk12⟩ := run_copy_sum w11 _ g8 c8 _ (HS9.out.below h911 (Nat.le_refl _)) HB8.out _ c11 S _ hrd 3
           rw [hlB] at hcp
           have H12 := Lib.hid (And.intro hb12 (And.intro hk12 h911))
           clear h911 hrd hb12 hk12)
        | (go_at_call 186
           with_reducible refine HPC.out.mono ?_
           rintro e w11 ⟨A11, c11, rfl, hrd, h911⟩
           obtain ⟨w12, hcp, hb12, hk12⟩ := run_copy_sum w11 _ g8 c8 _ (HS9.out.below h911 (Nat.le_refl _)) HB8.out _ c11 S _ hrd 3
           rw [hlB] at hcp
           have H12 := Lib.hid (And.intro hb12 (And.intro hk12 h911))
           clear h911 hrd hb12 hk12))
    all_goals
     clear hcp
     go_wp2
     go_ret2
     have he : encR seq its s.bl = sumB (fillB F s.bl) S := by unfold encR; rw [HF0.out, HS.out]
     rw [he]
     refine ⟨some ⟨g8, 0, none⟩, c8, rfl, H12.out.1.rebase (fun b hb => by have := (H12.out.1.lt hb).1; omega), ?_⟩
     have h1 := HW9.out.trans (H12.out.2.2.mono HW9.out.size)
     exact Kp.below h1 H12.out.2.1 h1.size (fun b hb e => by have := (HS9.out.lt (b := g8) rfl).1; omega)
end Go.Proofs.YtfabgbmbnmbjkaaGreatDoor

/- Pruned. -/
namespace Go.Proofs.YtfabgbmbnmbjkaaGreatDoor
open Go.RowKit
set_option maxRecDepth 20000
def headC (at_ many seq : Int) (n : Nat) : List Int := packS [4, 4, 4, 4, 8, 2] [1129009236, 0, at_, many, seq, n]
theorem headC_length (at_ many seq : Int) (n : Nat) : (headC at_ many seq n).length = 26 := by simp [headC, packS, beB_length, widthN]
def doneB (f : List Int) (bl : Nat) : List Int := sumB (fillB f bl) (sumS 0 (fillB f bl))
theorem doneB_length (f : List Int) (bl : Nat) (h : f.length <= bl) (hb : 8 <= bl) : (doneB f bl).length = bl := by
 have h2 := fillB_length f bl h
 unfold doneB
 rw [sumB_length _ _ (by omega), h2]
theorem doneB_bd (f : List Int) (bl : Nat) (h : ∀ x ∈ f, ByteOk x) : ∀ x ∈ doneB f bl, ByteOk x := sumB_bd _ _ (fillB_bd _ _ h)
theorem three (w : World) (t1 t2 t3 : TypeId) (c1 c2 c3 : Array Value) : Blk (((w.alloc (.cells c1 t1)).alloc (.cells c2 t2)).alloc (.cells c3 t3)).drew w.heap.size t1 c1 ∧ Blk (((w.alloc (.cells c1 t1)).alloc (.cells c2 t2)).alloc (.cells c3 t3)).drew (w.heap.size + 1) t2 c2 ∧
    Blk (((w.alloc (.cells c1 t1)).alloc (.cells c2 t2)).alloc (.cells c3 t3)).drew (w.heap.size + 1 + 1) t3 c3 ∧ Below w.heap.size w (((w.alloc (.cells c1 t1)).alloc (.cells c2 t2)).alloc (.cells c3 t3)).drew := by
 have h2 := Blk.new (w.alloc (.cells c1 t1)) t2 c2
 have h3 := Blk.new ((w.alloc (.cells c1 t1)).alloc (.cells c2 t2)) t3 c3
 rw [World.size_alloc] at h2
 rw [World.size_alloc, World.size_alloc] at h3
 exact ⟨(((Blk.new w t1 c1).alloc _).alloc _).drew, (h2.alloc _).drew, h3.drew, ((((Below.refl _ w).alloc (Nat.le_refl _) _).alloc (by simp) _).alloc (by simp; omega) _).drew⟩
theorem two (w : World) (t1 t2 : TypeId) (c1 c2 : Array Value) : Blk ((w.alloc (.cells c1 t1)).alloc (.cells c2 t2)).drew w.heap.size t1 c1 ∧ Blk ((w.alloc (.cells c1 t1)).alloc (.cells c2 t2)).drew (w.heap.size + 1) t2 c2 ∧ Below w.heap.size w ((w.alloc (.cells c1 t1)).alloc (.cells c2 t2)).drew := by
 have h2 := Blk.new (w.alloc (.cells c1 t1)) t2 c2
 rw [World.size_alloc] at h2
 exact ⟨((Blk.new w t1 c1).alloc _).drew, h2.drew, (((Below.refl _ w).alloc (Nat.le_refl _) _).alloc (by simp) _).drew⟩
theorem sum_one (u : World) (g : Nat) (A : Option Addr) (c n : Nat) (b : List Int) (B : Nat) (h : Blk u g 36 #[.slice A n c]) (hr : Reads u B 1 A n (nums .u8 b)) (hb : ∀ x ∈ b, ByteOk x) (hn : n <= 100000000) :
    Calls Tryz.prog 181 #[.slice (some ⟨g, 0, none⟩) 1 1] u (fun e w' => e = .returned (.int .u32 (sumS 0 b)) ∧ u = w') := by
 have hl : b.length = n := by have := hr.1; rw [nums_length] at this; omega
 have := sum_any u B (some ⟨g, 0, none⟩) 1 [b] (listsAt_blk h fun i hi => by
  match i, hi with
  | 0, _ => exact ⟨A, c, by simp [hl], by simpa [hl] using hr⟩) (by simpa using hb) (by simp) (by simp; omega)
 simpa using this
set_option maxHeartbeats 4000000 in
theorem block_nil (s : Sh) (hs : s.ok) (at_ many seq : Int) (h1 : 0 <= at_ ∧ at_ <= 65535) (h2 : 0 <= many ∧ many <= 65535) (hq : 0 <= seq ∧ seq <= 18446744073709551615) (w : World) :
    Calls Tryz.prog 144 #[shV s, .agg #[.int .i64 at_, .int .i64 many, .int .u64 seq], .slice none 0 0] w
      (fun e w' => ∃ A' c', e = .returned (.slice A' s.bl c') ∧ BRow w' w.heap.size A' c' (doneB (headC at_ many seq 0) s.bl) ∧ Below w.heap.size w w') := by
 have hbl := hs.blk
 unfold shV
 clear hs
 obtain ⟨q0, q1⟩ := hq
 have hwa : IntKind.u64.wrap at_ = at_ := IntWalk.u64_in at_ (by omega)
 have hwm : IntKind.u64.wrap many = many := IntWalk.u64_in many (by omega)
 go_enter Tryz.func144, Tryz.ntmps144
 go_wp2_with (fail)
 have hbs := (((Blk.new w 23 #[.int .i64 s.z, .int .i64 s.zb, .int .i64 s.bl, .int .i64 s.rs]).alloc (.cells #[.int .i64 at_, .int .i64 many, .int .u64 seq] 199)).alloc (.cells #[.int .i64 4, .int .i64 4, .int .i64 4, .int .i64 4, .int .i64 8, .int .i64 2] 3)).alloc (.cells #[.int .u64 1129009236, .int .u64 0, .int .u64 at_, .int .u64 many, .int .u64 seq, .int .u64 0] 40)
 have ha := (Blk.new ((w.alloc (.cells #[.int .i64 s.z, .int .i64 s.zb, .int .i64 s.bl, .int .i64 s.rs] 23)).alloc (.cells #[.int .i64 at_, .int .i64 many, .int .u64 seq] 199)) 3 #[.int .i64 4, .int .i64 4, .int .i64 4, .int .i64 4, .int .i64 8, .int .i64 2]).alloc (.cells #[.int .u64 1129009236, .int .u64 0, .int .u64 at_, .int .u64 many, .int .u64 seq, .int .u64 0] 40)
 have hb := Blk.new (((w.alloc (.cells #[.int .i64 s.z, .int .i64 s.zb, .int .i64 s.bl, .int .i64 s.rs] 23)).alloc (.cells #[.int .i64 at_, .int .i64 many, .int .u64 seq] 199)).alloc (.cells #[.int .i64 4, .int .i64 4, .int .i64 4, .int .i64 4, .int .i64 8, .int .i64 2] 3)) 40 #[.int .u64 1129009236, .int .u64 0, .int .u64 at_, .int .u64 many, .int .u64 seq, .int .u64 0]
 have hw0 : Below w.heap.size w ((((w.alloc (.cells #[.int .i64 s.z, .int .i64 s.zb, .int .i64 s.bl, .int .i64 s.rs] 23)).alloc (.cells #[.int .i64 at_, .int .i64 many, .int .u64 seq] 199)).alloc (.cells #[.int .i64 4, .int .i64 4, .int .i64 4, .int .i64 4, .int .i64 8, .int .i64 2] 3)).alloc (.cells #[.int .u64 1129009236, .int .u64 0, .int .u64 at_, .int .u64 many, .int .u64 seq, .int .u64 0] 40)) :=
  ((((Below.refl _ w).alloc (Nat.le_refl _) _).alloc (by simp) _).alloc (by simp; omega) _).alloc (by simp; omega) _
 simp only [World.size_alloc] at ha hb
 generalize (((w.alloc (.cells #[.int .i64 s.z, .int .i64 s.zb, .int .i64 s.bl, .int .i64 s.rs] 23)).alloc (.cells #[.int .i64 at_, .int .i64 many, .int .u64 seq] 199)).alloc (.cells #[.int .i64 4, .int .i64 4, .int .i64 4, .int .i64 4, .int .i64 8, .int .i64 2] 3)).alloc (.cells #[.int .u64 1129009236, .int .u64 0, .int .u64 at_, .int .u64 many, .int .u64 seq, .int .u64 0] 40) = w3 at *
 refine (pack_any w3 _ _ _ _ 6 6 [4, 4, 4, 4, 8, 2] [1129009236, 0, at_, many, seq, 0] (reads_lit ha rfl) (reads_lit hb rfl) (by simp) (by simp) (by simp) (by
  intro x hx
  simp only [List.mem_cons, List.not_mem_nil, or_false] at hx
  rcases hx with rfl | rfl | rfl | rfl | rfl | rfl <;> omega)).mono ?_
 rintro e w4 ⟨A5, c5, rfl, hr4, hb4⟩
 have e0 : packS [4, 4, 4, 4, 8, 2] [1129009236, 0, at_, many, seq, 0] = headC at_ many seq 0 := rfl
 rw [e0] at hr4 ⊢
 have HFB : Hid (∀ x ∈ headC at_ many seq 0, ByteOk x) := packS_bd _ _
 have hF := headC_length at_ many seq 0
 have hR0 : Hid (BRow w4 (w.heap.size + 1) A5 c5 (headC at_ many seq 0) ∧ Blk w4 w.heap.size 23 #[.int .i64 s.z, .int .i64 s.zb, .int .i64 s.bl, .int .i64 s.rs] ∧ Below w.heap.size w w4) :=
  ⟨hr4.rebase (fun b hb => by have := (hr4.lt hb).1; have := ha.lt; omega), hbs.below hb4 hbs.lt, hw0.trans (hb4.mono hw0.size)⟩
 obtain ⟨F, hF0⟩ : ∃ F, headC at_ many seq 0 = F := ⟨_, rfl⟩
 rw [hF0] at hR0 hF HFB ⊢
 have HF0 := Lib.hid hF0
 have hF1 : 26 <= F.length := by omega
 have hF2 : F.length <= 26 := by omega
 clear hF0 hF e0 hr4 hb4 ha hb hbs hw0 hwa hwm
 go_wp2_with (fail)
 go_loopw [7, 26] (fun o i wr => i = .int .i64 0 ∧ o = .slice A5 F.length c5 ∧ wr = w4) (fun _ _ _ => 0)
 case atStart => exact ⟨rfl, rfl, rfl⟩
 case round =>
  obtain ⟨rfl, rfl, rfl⟩ := hrel
  have hR := hR0
  clear hR0
  have hFb : F.length + 1 <= s.bl := by omega
  obtain ⟨A8, c8, w8, hrun, h8, k8, _⟩ := run_append_zeros_b wr (w.heap.size + 1) c5 (s.bl - F.length) A5 F 36 hR.out.1 (by omega) (by omega) (by have := hR.out.2.1.lt; omega)
  have hsub : (s.bl : Int) - F.length = ((s.bl - F.length : Nat) : Int) := by omega
  have hl8 : (F ++ List.replicate (s.bl - F.length) (0 : Int)).length = s.bl := by simp; omega
  rw [hl8] at hrun
  obtain ⟨m, hm⟩ : ∃ m, s.bl = m + 1 := ⟨s.bl - 1, by omega⟩
  have hm1 : (s.bl : Int) - 1 = (m : Int) := by omega
  obtain ⟨g8, rfl, hc8⟩ := h8.at_ (k := m) (by omega)
  have hf8 := h8.frozen m
  have hb8 : (m : Int) < s.bl := by omega
  have hs9 := h8.set_last (k := m) (by omega) 231
  have hfill : (F ++ List.replicate (s.bl - F.length) 0).set m 231 = fillB F s.bl := by unfold fillB; rw [hm]; rfl
  rw [hfill] at hs9
  have HS9 := Lib.hid hs9
  have HM := Lib.hid hm
  clear hs9 hfill hm
  generalize (F ++ List.replicate (s.bl - F.length) 0).getD m 0 = y8 at hc8
  have HRUN := Lib.hid hrun
  have H8 := Lib.hid h8
  have K8 := Lib.hid k8
  have HL8 := Lib.hid hl8
  clear hrun h8 k8 hl8
  have hb38 : Blk w8 w.heap.size 23 #[.int .i64 s.z, .int .i64 s.zb, .int .i64 s.bl, .int .i64 s.rs] := K8.out.blk hR.out.2.1 (fun h => by have := (hR.out.1.lt h).1; omega)
  have hz8 : w8.cell? ⟨w.heap.size, 2, none⟩ = some (.int .i64 s.bl) := hb38.cell 2
  have hz7 : wr.cell? ⟨w.heap.size, 2, none⟩ = some (.int .i64 s.bl) := hR.out.2.1.cell 2
  clear hb38
  go_wp2_with (first
    | (at_builtin
       refine Lib.wpList_append_run wr rfl (.tmp 49) (.tmp 54) _ _ rfl _ _ rfl rfl _ _ HRUN.out ?_))
  clear hz8 hz7
  have hw9 : Below w.heap.size w (w8.setCell ⟨g8, m, none⟩ (.int .u8 231)) := by
   have k1 := Kp.below hR.out.2.2 K8.out hR.out.2.2.size (fun b hb h => by have := (hR.out.1.lt h).1; omega)
   exact k1.setCell (p := ⟨g8, m, none⟩) (by have := (H8.out.lt (b := g8) rfl).1; show w.heap.size <= g8; omega) _
  have HW9 := Lib.hid hw9
  clear hw9 hc8 hf8
  generalize w8.setCell ⟨g8, m, none⟩ (.int .u8 231) = w9 at *
  have hlB : (fillB F s.bl).length = s.bl := fillB_length F s.bl (by omega)
  have hbB : ∀ x ∈ fillB F s.bl, ByteOk x := fillB_bd F s.bl HFB.out
  have hcb : s.bl <= c8 := by
   rcases HS9.out.2 with ⟨_, h0⟩ | ⟨g', cap, cur, hv, _, _, hnc, _⟩
   · omega
   · injection hv with _ _ e3
     subst e3
     rw [hlB] at hnc
     exact hnc
  obtain ⟨S, hS⟩ : ∃ S, sumS 0 (fillB F s.bl) = S := ⟨_, rfl⟩
  have hSb : U32 S := by
   rw [<- hS]
   exact sumS_bd _ _ ⟨by omega, by omega⟩ hbB
  have hrd9 : Reads w9 w9.heap.size 1 (some ⟨g8, 0, none⟩) s.bl (nums .u8 (fillB F s.bl)) := by
   have := HS9.out.reads
   rw [hlB] at this
   exact this
  have HSUM : Hid (∀ u g, Below w9.heap.size w9 u -> Blk u g 36 #[.slice (some ⟨g8, 0, none⟩) s.bl c8] -> Calls Tryz.prog 181 #[.slice (some ⟨g, 0, none⟩) 1 1] u (fun e w' => e = .returned (.int .u32 S) ∧ u = w')) := fun u g hu hg => by
   have := sum_one u g _ c8 s.bl (fillB F s.bl) _ hg (hrd9.below hu) hbB (by omega)
   rw [hS] at this
   exact this
  have HSB := Lib.hid hSb
  have HS := Lib.hid hS
  have hsl : ∀ u : World, (Instr.slice 36 (.slice (some ⟨g8, 0, none⟩) s.bl c8) (some (.int .i64 4)) none none).run Tryz.prog u = .ok (.slice (if c8 = 4 then some ⟨g8, 0, none⟩ else (some (⟨g8, 0, none⟩ : Addr)).map (·.add 4)) (s.bl - 4) (c8 - 4)) u := run_back_u8 (some ⟨g8, 0, none⟩) s.bl c8 4 (by omega)
  have e4 : (if c8 = 4 then some (⟨g8, 0, none⟩ : Addr) else (some (⟨g8, 0, none⟩ : Addr)).map (·.add 4)) = some ⟨g8, 4, none⟩ := by
   rw [if_neg (by omega), Option.map_some, add0]
  rw [e4] at hsl
  have hwS : IntKind.u64.wrap S = S := IntWalk.u64_in S (by have := hSb.1; have := hSb.2; omega)
  clear hbB hS hSb e4
  have HS1 := Lib.hid (HSUM.out _ _ (two w9 3 36 #[.int .i64 4] #[.slice (some ⟨g8, 0, none⟩) s.bl c8]).2.2 (two w9 3 36 #[.int .i64 4] #[.slice (some ⟨g8, 0, none⟩) s.bl c8]).2.1)
  have HS2 := Lib.hid (HSUM.out _ _ (two w9 36 3 #[.slice (some ⟨g8, 0, none⟩) s.bl c8] #[.int .i64 4]).2.2 (two w9 36 3 #[.slice (some ⟨g8, 0, none⟩) s.bl c8] #[.int .i64 4]).1)
  have HS3 := Lib.hid (HSUM.out (w9.alloc (.cells #[.slice (some ⟨g8, 0, none⟩) s.bl c8] 36)).drew w9.heap.size ((Below.refl _ _).alloc (Nat.le_refl _) _).drew (Blk.new w9 _ _).drew)
  have HP1 := Lib.hid (pack_sum w9 _ _ _ S HSB.out (three w9 3 36 40 #[.int .i64 4] #[.slice (some ⟨g8, 0, none⟩) s.bl c8] #[.int .u64 S]).1 (three w9 3 36 40 #[.int .i64 4] #[.slice (some ⟨g8, 0, none⟩) s.bl c8] #[.int .u64 S]).2.2.1 (three w9 3 36 40 #[.int .i64 4] #[.slice (some ⟨g8, 0, none⟩) s.bl c8] #[.int .u64 S]).2.2.2)
  have HP2 := Lib.hid (pack_sum w9 _ _ _ S HSB.out (three w9 36 3 40 #[.slice (some ⟨g8, 0, none⟩) s.bl c8] #[.int .i64 4] #[.int .u64 S]).2.1 (three w9 36 3 40 #[.slice (some ⟨g8, 0, none⟩) s.bl c8] #[.int .i64 4] #[.int .u64 S]).2.2.1 (three w9 36 3 40 #[.slice (some ⟨g8, 0, none⟩) s.bl c8] #[.int .i64 4] #[.int .u64 S]).2.2.2)
  have HP3 := Lib.hid (pack_sum w9 _ _ _ S HSB.out (three w9 36 40 3 #[.slice (some ⟨g8, 0, none⟩) s.bl c8] #[.int .u64 S] #[.int .i64 4]).2.2.1 (three w9 36 40 3 #[.slice (some ⟨g8, 0, none⟩) s.bl c8] #[.int .u64 S] #[.int .i64 4]).2.1 (three w9 36 40 3 #[.slice (some ⟨g8, 0, none⟩) s.bl c8] #[.int .u64 S] #[.int .i64 4]).2.2.2)
  have HB8 : Hid (8 <= (fillB F s.bl).length) := by unfold Hid; rw [hlB]; omega
  go_region_held3 (fun _ => True) (trivial)
    (first
      | (go_at_call 181
         with_reducible refine HS1.out.mono ?_
         rintro e w10 ⟨rfl, rfl⟩)
      | (go_at_call 181
         with_reducible refine HS2.out.mono ?_
         rintro e w10 ⟨rfl, rfl⟩)
      | (go_at_call 181
         with_reducible refine HS3.out.mono ?_
         rintro e w10 ⟨rfl, rfl⟩)
      | (go_at_call 186
         with_reducible refine HP1.out.mono ?_
         rintro e w11 ⟨A11, c11, rfl, hrd, h911⟩
         obtain ⟨w12, hcp, hb12, hk12⟩ := run_copy_sum w11 _ g8 c8 _ (HS9.out.below h911 (Nat.le_refl _)) HB8.out _ c11 S _ hrd 3
         rw [hlB] at hcp
         have H12 := Lib.hid (And.intro hb12 (And.intro hk12 h911))
         clear h911 hrd hb12 hk12)
      | (go_at_call 186
         with_reducible refine HP2.out.mono ?_
         rintro e w11 ⟨A11, c11, rfl, hrd, h911⟩
         obtain ⟨w12, hcp, hb12, hk12⟩ := run_copy_sum w11 _ g8 c8 _ (HS9.out.below h911 (Nat.le_refl _)) HB8.out _ c11 S _ hrd 3
         rw [hlB] at hcp
         have H12 := Lib.hid (And.intro hb12 (And.intro hk12 h911))
         clear h911 hrd hb12 hk12)
      | (go_at_call 186
         with_reducible refine HP3.out.mono ?_
         rintro e w11 ⟨A11, c11, rfl, hrd, h911⟩
         obtain ⟨w12, hcp, hb12, hk12⟩ := run_copy_sum w11 _ g8 c8 _ (HS9.out.below h911 (Nat.le_refl _)) HB8.out _ c11 S _ hrd 3
         rw [hlB] at hcp
         have H12 := Lib.hid (And.intro hb12 (And.intro hk12 h911))
         clear h911 hrd hb12 hk12))
  all_goals
   clear hcp
   go_wp2
   go_ret
   have he : doneB (headC at_ many seq 0) s.bl = sumB (fillB F s.bl) S := by unfold doneB; rw [HF0.out, HS.out]
   rw [he]
   refine ⟨some ⟨g8, 0, none⟩, c8, rfl, H12.out.1.rebase (fun b hb => by have := (H12.out.1.lt hb).1; omega), ?_⟩
   have h1 := HW9.out.trans (H12.out.2.2.mono HW9.out.size)
   exact Kp.below h1 H12.out.2.1 h1.size (fun b hb e => by have := (HS9.out.lt (b := g8) rfl).1; omega)
end Go.Proofs.YtfabgbmbnmbjkaaGreatDoor

/- Pruned. -/
namespace Go.Proofs.YtfabgbmbnmbjkaaGreatDoor
open Go.RowKit
set_option maxRecDepth 20000
def endsTo (l : List Int) : Nat -> Nat
  | 0 => 0
  | n + 1 => if l.getD n 0 = 0 then endsTo l n else n + 1
def endsN (l : List Int) : Nat := endsTo l l.length
theorem endsTo_le (l : List Int) (n : Nat) : endsTo l n <= n := by
 induction n with
 | zero => exact Nat.le_refl _
 | succ n ih =>
   unfold endsTo
   split
   · omega
   · exact Nat.le_refl _
theorem trimz_any (w : World) (B : Nat) (A : Option Addr) (c : Nat) (l : List Int) (h : Reads w B 1 A l.length (nums .u8 l)) (hc : l.length <= c) (hn : l.length <= 100000000) (hby : ∀ x ∈ l, ByteOk x) :
    Calls Tryz.prog 220 #[.slice A l.length c, .int .u8 0] w fun e w' => e = .returned (.slice A (endsN l) c) ∧ w = w' := by
 have HR := Lib.hid h
 have HBY := Lib.hid hby
 have hsl : ∀ (u : World) (n k : Nat), k <= c -> (Instr.slice 36 (.slice A n c) none (some (.int .i64 (k : Int))) none).run Tryz.prog u = .ok (.slice A k c) u := fun u n k hk => by
  have := run_front_u8 A n c k hk u
  rw [this]
  congr 2
  split
  · rfl
  · cases A with
    | none => rfl
    | some ad => simp [Addr.add]
 have HSL := Lib.hid hsl
 have HE : Hid (endsTo l l.length = endsN l) := rfl
 clear h hby hsl
 obtain ⟨N, hN⟩ : ∃ N, l.length = N := ⟨_, rfl⟩
 rw [hN] at HE hc hn ⊢
 have HN := Lib.hid hN
 clear hN
 go_enter Tryz.func220, Tryz.ntmps220
 go_wp2_with (fail)
 go_loop [0] (fun s => ∃ k : Nat, k <= N ∧ s = .slice A k c ∧ Hid (endsTo l k = endsN l)) (fun s => match s with | .slice _ n _ => n | _ => 0)
 case atStart => exact ⟨N, Nat.le_refl _, rfl, HE⟩
 case round =>
  obtain ⟨k, hk, rfl, he⟩ := hrel
  by_cases hlt : k = 0
  · subst hlt
    have he0 : endsN l = 0 := he.out.symm
    rw [he0]
    have hd : decide ((0 : Int) < (0 : Nat)) = false := by decide
    go_wp2
    go_ret
    exact ⟨rfl, rfl⟩
  · obtain ⟨m, rfl⟩ : ∃ m, k = m + 1 := ⟨k - 1, by omega⟩
    obtain ⟨ad, rfl, _, hcell⟩ := HR.out.num (show m < l.length by have := HN.out; omega)
    have hm1 : ((m + 1 : Nat) : Int) - 1 = (m : Int) := by omega
    have hm2 : (m : Int) < ((m + 1 : Nat) : Int) := by omega
    have hsl := fun u => HSL.out u (m + 1) m (by omega)
    by_cases hz : l.getD m 0 = 0
    · rw [hz] at hcell
      have HE2 : Hid (endsTo l m = endsN l) := by
       have := he.out
       unfold endsTo at this
       rw [if_pos hz] at this
       exact this
      clear he hz
      go_wp2
      go_round
      case rel => exact ⟨m, by omega, rfl, HE2⟩
      case measure => show m < m + 1; omega
    · have he0 : endsN l = m + 1 := by
       rw [<- he.out]
       unfold endsTo
       rw [if_neg hz]
      have hzf : (l.getD m 0 == 0) = false := by rw [beq_eq_false_iff_ne]; exact hz
      have HE0 := Lib.hid he0
      clear he hz he0
      generalize l.getD m 0 = y at *
      go_wp2
      go_ret
      exact ⟨by rw [HE0.out]; rfl, rfl⟩
theorem trim_any (w : World) (B : Nat) (A : Option Addr) (c : Nat) (l : List Int) (h : Reads w B 1 A l.length (nums .u8 l)) (hc : l.length <= c) (hn : l.length <= 100000000) (hby : ∀ x ∈ l, ByteOk x) :
    Calls Tryz.prog 210 #[.slice A l.length c, .string ⟨#[0]⟩] w fun e w' => e = .returned (.slice A (endsN l) c) ∧ w = w' := by
 have HT := Lib.hid (trimz_any w B A c l h hc hn hby)
 clear h hby
 by_cases h0 : l.length = 0
 · have he : endsN l = 0 := by unfold endsN; rw [h0]; rfl
   rw [he, h0]
   clear he HT
   go_enter Tryz.func210, Tryz.ntmps210
   go_wp2
   go_ret
   exact ⟨rfl, rfl⟩
 · have hz : ((l.length : Int) == 0) = false := by rw [beq_eq_false_iff_ne]; omega
   go_enter Tryz.func210, Tryz.ntmps210
   go_wp2_with (fail)
   refine HT.out.mono ?_
   rintro e w' ⟨rfl, rfl⟩
   go_wp2
   go_ret
   exact ⟨rfl, rfl⟩
theorem ends_any (w : World) (B : Nat) (A : Option Addr) (c : Nat) (l : List Int) (h : Reads w B 1 A l.length (nums .u8 l)) (hc : l.length <= c) (hn : l.length <= 100000000) (hby : ∀ x ∈ l, ByteOk x) :
    Calls Tryz.prog 182 #[.slice A l.length c] w fun e w' => e = .returned (.int .i64 (endsN l : Nat)) ∧ w = w' := by
 have HT := Lib.hid (trim_any w B A c l h hc hn hby)
 clear h hby
 go_enter Tryz.func182, Tryz.ntmps182
 go_wp2_with (fail)
 refine HT.out.mono ?_
 rintro e w' ⟨rfl, rfl⟩
 go_wp2
 go_ret
 exact ⟨rfl, rfl⟩
end Go.Proofs.YtfabgbmbnmbjkaaGreatDoor

