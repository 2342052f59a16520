/- Joined texts: By Cr Cr2 Wi Qa. -/
import Derived.Test.YtfabgbmbnmbjkaaGreatDoorRak
import Derived.WalkSpells
import Derived.Handy
import Derived.Deep.CutRange
/- Pruned. -/
namespace Go.Proofs.YtfabgbmbnmbjkaaGreatDoor
open Go.RowKit
set_option maxRecDepth 20000
def BRow (w : World) (base : Nat) (A : Option Addr) (c : Nat) (xs : List Int) : Prop := w.ownsRow base 5 1 (.slice A xs.length c) xs.length (nums .u8 xs)
theorem nums_app (k : IntKind) (l r : List Int) : nums k (l ++ r) = nums k l ++ nums k r := List.map_append ..
theorem BRow.nil (w : World) (base : Nat) : BRow w base none 0 [] := World.ownsRow_nil w base 5 1
section
variable {w w' : World} {base c : Nat} {A : Option Addr} {xs : List Int}
theorem BRow.reads (h : BRow w base A c xs) : Reads w w.heap.size 1 A xs.length (nums .u8 xs) := Reads.of_own h
theorem BRow.lt (h : BRow w base A c xs) {b : Nat} (hb : (Value.slice A xs.length c).ownBlock = some b) : base <= b ∧ b < w.heap.size := World.ownsRow.lt h b hb
theorem BRow.of_block (h : BRow w base A c xs) (hb : ∀ b, (Value.slice A xs.length c).ownBlock = some b -> w'.heap[b]? = w.heap[b]?) : BRow w' base A c xs := by
 refine ⟨h.1, ?_⟩
 rcases h.2 with hn | ⟨g, cap, cur, hv, hg, hh, rest⟩
 · exact .inl hn
 · exact .inr ⟨g, cap, cur, hv, hg, (hb g (by rw [hv]; rfl)).trans hh, rest⟩
theorem BRow.below {B : Nat} (h : BRow w base A c xs) (hb : Below B w w') (hB : w.heap.size <= B) : BRow w' base A c xs := h.of_block fun b he => hb.block b (Nat.lt_of_lt_of_le (h.lt he).2 hB)
theorem BRow.kp {S : Nat -> Prop} (h : BRow w base A c xs) (hk : Kp S w w') (hs : ∀ b, (Value.slice A xs.length c).ownBlock = some b -> ¬ S b) : BRow w' base A c xs := h.of_block fun b he => hk.block b (h.lt he).2 (hs b he)
theorem BRow.alloc (h : BRow w base A c xs) (o : Obj) : BRow (w.alloc o) base A c xs := World.ownsRow.alloc h o
theorem BRow.drew (h : BRow w base A c xs) : BRow w.drew base A c xs := h
theorem BRow.at_ (h : BRow w base A c xs) {k : Nat} (hk : k < xs.length) : ∃ g, A = some ⟨g, 0, none⟩ ∧ w.cell? ⟨g, k, none⟩ = some (.int .u8 (xs.getD k 0)) := by
 rcases h.2 with ⟨_, h0⟩ | ⟨g, cap, cur, hv, hg, hh, rest⟩
 · omega
 · injection hv with hA
   subst hA
   refine ⟨g, rfl, ?_⟩
   rw [World.ownsRow.cellAt h k (by omega), nums_get .u8 xs k hk]
theorem BRow.frozen {g : Nat} (h : BRow w base (some ⟨g, 0, none⟩) c xs) (k : Nat) : w.frozen? ⟨g, k, none⟩ = false := World.ownsRow.frozenAt h k
theorem BRow.rebase (h : BRow w base A c xs) {base' : Nat} (hb : ∀ b, (Value.slice A xs.length c).ownBlock = some b -> base' <= b) : BRow w base' A c xs := by
 refine ⟨h.1, ?_⟩
 rcases h.2 with hn | ⟨g, cap, cur, hv, hg, rest⟩
 · exact .inl hn
 · exact .inr ⟨g, cap, cur, hv, hb g (by rw [hv]; rfl), rest⟩
end
theorem wpList_append_u8 (w : World) {ops : Array Oper} {rest : List Oper} {o : Oper} {a : Act} {Q : Exit -> Act -> World -> Prop} (hgd : o.guard = none) (s x : Operand)
    (ho : o.op = .call { callee := .builtin .append, args := #[s, x], argTypes := #[36, 36] }) {base c : Nat} {A : Option Addr} (O : List Int) (hown : BRow w base A c O) {n : Nat} (hn : n = O.length) (hs : a.eval s = .slice A n c)
    {B m c2 : Nat} {A2 : Option Addr} (news : List Int) (hx : a.eval x = .slice A2 m c2) (hr : Reads w B 1 A2 m (nums .u8 news)) (hlen : O.length + m <= 100000000) (hbase : base <= w.heap.size)
    (h : ∀ A' c' w', BRow w' base A' c' (O ++ news) -> Kp (fun i => (Value.slice A O.length c).ownBlock = some i) w w' -> ((Value.slice A' (O ++ news).length c').ownBlock = (Value.slice A O.length c).ownBlock ∨ (Value.slice A' (O ++ news).length c').ownBlock = some w.heap.size) ->
      wpList Tryz.prog ops Q rest (a.put o.dst (.slice A' (O ++ news).length c')) w') :
    wpList Tryz.prog ops Q (o :: rest) a w := by
 subst hn
 obtain ⟨i0, hi0, hz0, hz1, hz2⟩ := info_parts u8_info
 have hm : m = news.length := by have := hr.1; rw [nums_length] at this; omega
 refine wpList_append_any _ hgd s x _ ho base 5 i0 _ 1 1 Tryz.underlying36 hi0 hz0 hz1 hz2 rfl (by omega) (.slice A O.length c) O.length (nums .u8 O) hs hown _ _ m c2 (nums .u8 news) hx hr (nums_one _ _) (by simp only [maxLen]; omega) (by omega) hbase ?_
 intro v' w' hown' hg hat
 obtain ⟨A', c', rfl⟩ := own_form hown'
 rw [<- nums_app, show O.length + m = (O ++ news).length by simp [hm]] at hown'
 rw [show O.length + m = (O ++ news).length by simp [hm]] at hat ⊢
 exact h A' c' w' hown' ⟨hg.os, hg.tape, hg.output, hg.size, fun i hi hn => hg.block i hi (fun e => hn e.symm)⟩ hat
theorem Reads.more_ {w : World} {B size n : Nat} {A : Option Addr} {xs : List Value} (h : Reads w B size A n xs) (hs : 0 < size) : Reads w w.heap.size size A n xs :=
 ⟨h.1, fun hn => by
  obtain ⟨ad, e, hb, hc⟩ := h.2 hn
  have hl : 0 < xs.length := by rw [h.1]; exact Nat.mul_pos hn hs
  have := World.block_lt_of_cell? _ _ (hc 0 xs[0] (List.getElem?_eq_getElem hl))
  rw [block_of_add] at this
  exact ⟨ad, e, this, hc⟩⟩
theorem reads_u8 (w : World) (x : Int) : Reads (w.alloc (.cells #[.int .u8 x] 5)) (w.heap.size + 1) 1 (some ⟨w.heap.size, 0, none⟩) 1 (nums .u8 [x]) := by
 have hb := Blk.new w 5 #[.int .u8 x]
 refine ⟨rfl, fun _ => ⟨_, rfl, Nat.lt_succ_self _, fun j u hu => ?_⟩⟩
 rw [show ((⟨w.heap.size, 0, none⟩ : Addr).add j) = ⟨w.heap.size, j, none⟩ by unfold Addr.add; split <;> simp_all, hb.cell, List.getElem?_toArray]
 exact hu
theorem wpList_append_byte (w : World) {ops : Array Oper} {rest : List Oper} {o : Oper} {a : Act} {Q : Exit -> Act -> World -> Prop} (hgd : o.guard = none) (s x : Operand)
    (ho : o.op = .call { callee := .builtin .append, args := #[s, x], argTypes := #[36, 36] }) {base c : Nat} {A : Option Addr} (O : List Int) (y : Int) (hown : BRow w base A c O) {n : Nat} (hn : n = O.length) (hs : a.eval s = .slice A n c)
    (hx : a.eval x = .slice (some ⟨w.heap.size, 0, none⟩) 1 1) (hlen : O.length <= 1000000) (hbase : base <= w.heap.size)
    (h : ∀ A' c' w', BRow w' base A' c' (O ++ [y]) -> Kp (fun i => (Value.slice A O.length c).ownBlock = some i) w w' ->
      wpList Tryz.prog ops Q rest (a.put o.dst (.slice A' (O ++ [y]).length c')) w') :
    wpList Tryz.prog ops Q (o :: rest) a (w.alloc (.cells #[.int .u8 y] 5)) := by
 refine wpList_append_u8 _ hgd s x ho O (hown.alloc _) hn hs [y] hx (reads_u8 w y) (by omega) (by simp; omega) ?_
 intro A' c' w' h1 h2 _
 exact h A' c' w' h1 (((Kp.refl _ w).alloc _).trans h2 (fun _ _ h => h))
theorem Reads.take_ {w : World} {B size n m : Nat} {A : Option Addr} {xs : List Value} (h : Reads w B size A n xs) (hm : m <= n) : Reads w B size A m (xs.take (m * size)) := by
 refine ⟨by rw [List.length_take, h.1, Nat.min_eq_left (Nat.mul_le_mul_right _ hm)], fun h0 => ?_⟩
 obtain ⟨ad, e, hb, hc⟩ := h.2 (by omega)
 refine ⟨ad, e, hb, fun j u hu => hc j u ?_⟩
 rw [List.getElem?_take] at hu
 split at hu
 · exact hu
 · cases hu
theorem nums_drop (k : IntKind) (l : List Int) (n : Nat) : (nums k l).drop n = nums k (l.drop n) := by simp [nums]
theorem nums_take (k : IntKind) (l : List Int) (n : Nat) : (nums k l).take n = nums k (l.take n) := by simp [nums]
set_option maxHeartbeats 400000 in
theorem run_cut_u8 (A : Option Addr) (n c lo m : Nat) (h : lo + m <= c) (u : World) :
    (Instr.slice 36 (.slice A n c) (some (.int .i64 (lo : Int))) (some (.int .i64 ((lo : Int) + m))) none).run Tryz.prog u = .ok (.slice (if c = lo then A else A.map (·.add lo)) m (c - lo)) u := by
 obtain ⟨i0, hi0, _, hz1, _⟩ := info_parts u8_info
 have hel : Tryz.prog.underlying 36 = some (.slice (Tryz.prog.elem 36)) := by kernel_rfl
 have hsz : (sizeOf (Tryz.prog.elem 36)).run Tryz.prog u = .ok 1 u := by
  have e : Tryz.prog.elem 36 = 5 := by kernel_rfl
  rw [e]
  simp [sizeOf, typeInfo, hi0, hz1]
 rw [run_slice_lh u _ A n c hel .i64 .i64 (lo : Int) ((lo : Int) + m) (by omega) (by omega) (by omega), hsz]
 have e1 : ((lo : Int) + m).toNat = lo + m := by omega
 simp only [Result.andThen, sliced, e1, Int.toNat_natCast, Nat.mul_one, Nat.add_sub_cancel_left]
theorem clone_any (w : World) (B : Nat) (A : Option Addr) (n c : Nat) (xs : List Int) (hr : Reads w B 1 A n (nums .u8 xs)) (hn : n <= 100000000) :
    Calls Tryz.prog 108 #[.slice A n c] w fun e w' => ∃ A' c', e = .returned (.slice A' n c') ∧ BRow w' w.heap.size A' c' xs ∧ Below w.heap.size w w' := by
 have hm : n = xs.length := by have := hr.1; rw [nums_length] at this; omega
 subst hm
 have HR := Lib.hid hr
 have hq : ∀ (w : World), (binOp .eql 36 (.slice A xs.length c) (.slice none 0 0)).run Tryz.prog w = .ok (.bool A.isNone) w := fun w => Lib.run_eql_slice_nil w _ 5 A xs.length c 0 0 Tryz.underlying36
 clear hr
 cases A with
 | none =>
   have h0 : xs = [] := by
    rcases Nat.eq_zero_or_pos xs.length with h0 | h0
    · exact List.eq_nil_of_length_eq_zero h0
    · obtain ⟨ad, h, _⟩ := HR.out.2 h0
      cases h
   subst h0
   simp only [Option.isNone, List.length_nil] at hq
   go_enter Tryz.func108, Tryz.ntmps108
   go_wp2
   go_ret
   exact ⟨none, 0, rfl, BRow.nil _ _, Below.refl _ _⟩
 | some ad =>
   simp only [Option.isNone] at hq
   have HOWN : Hid (BRow (w.alloc (.cells #[] 5)) w.heap.size (some ⟨w.heap.size, 0, none⟩) 0 []) := ⟨rfl, .inr ⟨w.heap.size, 0, #[], rfl, Nat.le_refl _, heap_alloc_new w _, Nat.le_refl _, Nat.zero_le _, rfl, rfl⟩⟩
   have HR1 : Hid (Reads (w.alloc (.cells #[] 5)) w.heap.size 1 (some ad) xs.length (nums .u8 xs)) := (HR.out.more_ (by omega)).alloc (Nat.le_refl _) _
   have HL : Hid (([] : List Int).length + xs.length <= 100000000) := by unfold Hid; simpa using hn
   have HB : Hid (w.heap.size <= (w.alloc (.cells #[] 5)).heap.size) := by unfold Hid; simp
   clear HR
   go_enter Tryz.func108, Tryz.ntmps108
   go_wp2_with (first
     | (at_builtin
        refine wpList_append_u8 _ rfl (.tmp 5) (.tmp 6) rfl [] HOWN.out rfl rfl xs rfl HR1.out HL.out HB.out ?_
        intro A1 c1 w1 hb1 hk1 _
        have H1 := Lib.hid hb1
        have H2 := Lib.hid hk1
        clear hb1 hk1))
   go_ret
   exact ⟨A1, c1, rfl, H1.out, Kp.below ((Below.refl _ w).alloc (Nat.le_refl _) _) H2.out (by simp) (fun b hb e => by simp [Value.ownBlock] at e; omega)⟩
end Go.Proofs.YtfabgbmbnmbjkaaGreatDoor

/- Pruned. -/
namespace Go.Proofs.YtfabgbmbnmbjkaaGreatDoor
open Go.RowKit
set_option maxRecDepth 20000
theorem getD_mem {α : Type} {l : List α} {k : Nat} {d : α} (h : k < l.length) : l.getD k d ∈ l := by
 rw [List.getD_eq_getElem?_getD, List.getElem?_eq_getElem h]
 exact List.getElem_mem h
def ByteOk (x : Int) : Prop := 0 <= x ∧ x <= 255
def U32 (x : Int) : Prop := 0 <= x ∧ x <= 4294967295
def bitS (c : Int) : Int := if c % 2 = 1 then bits .xor .u32 (c / 2) 3988292384 else c / 2
def bitsS : Nat -> Int -> Int
  | 0, c => c
  | n + 1, c => bitsS n (bitS c)
theorem bitsS_succ (n : Nat) (c : Int) : bitsS (n + 1) c = bitS (bitsS n c) := by
 induction n generalizing c with
 | zero => rfl
 | succ n ih => exact ih (bitS c)
theorem bitsS_add (m n : Nat) (c : Int) : bitsS m (bitsS n c) = bitsS (n + m) c := by
 induction m with
 | zero => rfl
 | succ m ih => rw [bitsS_succ, ih, <- Nat.add_assoc, bitsS_succ]
theorem u32_xor_bd (a b : Int) (ha : U32 a) (hb : U32 b) : U32 (bits .xor .u32 a b) := by
 obtain ⟨n, rfl⟩ := Int.eq_ofNat_of_zero_le ha.1
 obtain ⟨m, rfl⟩ := Int.eq_ofNat_of_zero_le hb.1
 have h1 := ha.2
 have h2 := hb.2
 rw [u32_xor_nat n m (by omega) (by omega)]
 have : n ^^^ m < 2 ^ 32 := Nat.xor_lt_two_pow (by omega) (by omega)
 exact ⟨by omega, by omega⟩
theorem u32_xor_zero (a : Int) (ha : U32 a) : bits .xor .u32 a 0 = a := by
 obtain ⟨n, rfl⟩ := Int.eq_ofNat_of_zero_le ha.1
 have h1 := ha.2
 have := u32_xor_nat n 0 (by omega) (by omega)
 rw [Nat.xor_zero] at this
 exact this
theorem u32_and_one (a : Int) (ha : U32 a) : bits .and .u32 a 1 = a % 2 := by
 obtain ⟨n, rfl⟩ := Int.eq_ofNat_of_zero_le ha.1
 have h1 := ha.2
 have := u32_and_nat n 1 (by omega) (by omega)
 rw [Nat.and_one_is_mod] at this
 exact this
theorem bitS_bd (y : Int) (hy : U32 y) : U32 (bitS y) := by
 unfold bitS
 split
 · exact u32_xor_bd _ _ ⟨by have := hy.1; omega, by have := hy.2; omega⟩ ⟨by omega, by omega⟩
 · exact ⟨by have := hy.1; omega, by have := hy.2; omega⟩
theorem bitsS_bd : ∀ (n : Nat) (y : Int), U32 y -> U32 (bitsS n y)
  | 0, _, h => h
  | n + 1, y, h => bitsS_bd n (bitS y) (bitS_bd y h)
theorem step_eq (y : Int) (hy : U32 y) : bits .xor .u32 (y / 2) (bits .and .u32 3988292384 (-bits .and .u32 y 1 % 4294967296)) = bitS y := by
 have h2 : U32 (y / 2) := ⟨by have := hy.1; omega, by have := hy.2; omega⟩
 rw [u32_and_one y hy]
 unfold bitS
 have hp : y % 2 = 0 ∨ y % 2 = 1 := by omega
 rcases hp with h | h
 · rw [h, if_neg (by decide)]
   have : bits .and .u32 3988292384 (-0 % 4294967296) = 0 := by kernel_rfl
   rw [this, u32_xor_zero _ h2]
 · rw [h, if_pos rfl]
   have : bits .and .u32 3988292384 (-1 % 4294967296) = 3988292384 := by kernel_rfl
   rw [this]
theorem half_any (c : Int) (hc : U32 c) (w : World) : Calls Tryz.prog 219 #[.int .u32 c] w fun e w' => e = .returned (.int .u32 (bitsS 4 c)) ∧ w = w' := by
 obtain ⟨h0, h1⟩ := hc
 go_enter Tryz.func219, Tryz.ntmps219
 go_wp2
 go_loop [0, 3] (fun x i => ∃ (k : Nat) (y : Int), k <= 4 ∧ 0 <= y ∧ y <= 4294967295 ∧ i = .int .i64 k ∧ x = .int .u32 y ∧ Hid (y = bitsS k c)) (fun _ i => 4 - (intOf i).toNat)
 case atStart => exact ⟨0, c, by omega, h0, h1, rfl, rfl, rfl⟩
 case round =>
  obtain ⟨k, y, hk, hy0, hy1, rfl, rfl, hy⟩ := hrel
  by_cases hlt : k < 4
  · have hb := bitS_bd y ⟨hy0, hy1⟩
    have HS := Lib.hid (step_eq y ⟨hy0, hy1⟩)
    go_wp2
    go_round
    case rel => exact ⟨k + 1, bitS y, by omega, hb.1, hb.2, by go_num, by rw [HS.out], by unfold Hid; rw [bitsS_succ, <- hy.out]⟩
    case measure => simp [intOf]; omega
  · obtain rfl : k = 4 := by omega
    go_wp2
    go_ret
    exact ⟨ret_int hy.out, rfl⟩
def notS (c : Int) : Int := bits .xor .u32 IntKind.u32.max c
theorem u32_max : IntKind.u32.max = 4294967295 := by kernel_rfl
theorem notS_bd (c : Int) (h : U32 c) : U32 (notS c) := u32_xor_bd _ _ (by rw [u32_max]; exact ⟨by omega, by omega⟩) h
def nextS (c b : Int) : Int := notS (bitsS 8 (bits .xor .u32 (notS c) b))
theorem nextA_bd (c b : Int) (hc : U32 c) (hb : ByteOk b) : U32 (bits .xor .u32 (notS c) b) := u32_xor_bd _ _ (notS_bd c hc) ⟨hb.1, by have := hb.2; omega⟩
theorem nextS_bd (c b : Int) (hc : U32 c) (hb : ByteOk b) : U32 (nextS c b) := notS_bd _ (bitsS_bd 8 _ (nextA_bd c b hc hb))
theorem next_any (c b : Int) (hc : U32 c) (hb : ByteOk b) (w : World) : Calls Tryz.prog 209 #[.int .u32 c, .int .u8 b] w fun e w' => e = .returned (.int .u32 (nextS c b)) ∧ w = w' := by
 have H1 := Lib.hid (nextA_bd c b hc hb)
 have H2 := Lib.hid (half_any _ H1.out)
 have H3 := Lib.hid (half_any _ (bitsS_bd 4 _ H1.out))
 have H4 : Hid (notS (bitsS 4 (bitsS 4 (bits .xor .u32 (notS c) b))) = nextS c b) := by unfold Hid nextS; rw [bitsS_add]
 unfold notS at H2 H3 H4
 obtain ⟨c0, c1⟩ := hc
 obtain ⟨b0, b1⟩ := hb
 go_enter Tryz.func209, Tryz.ntmps209
 go_wp2_with (fail)
 refine (H2.out _).mono ?_
 rintro e w' ⟨rfl, rfl⟩
 go_wp2_with (fail)
 refine (H3.out _).mono ?_
 rintro e w' ⟨rfl, rfl⟩
 go_wp2
 go_ret
 exact ⟨ret_int H4.out, rfl⟩
def sumS : Int -> List Int -> Int
  | c, [] => c
  | c, b :: r => sumS (nextS c b) r
theorem sumS_app (c : Int) (l r : List Int) : sumS c (l ++ r) = sumS (sumS c l) r := by
 induction l generalizing c with
 | nil => rfl
 | cons b l ih => exact ih (nextS c b)
theorem sumS_bd : ∀ (l : List Int) (c : Int), U32 c -> (∀ x ∈ l, ByteOk x) -> U32 (sumS c l)
  | [], _, h, _ => h
  | b :: r, c, h, hl => sumS_bd r (nextS c b) (nextS_bd c b h (hl b (by simp))) (fun x hx => hl x (by simp [hx]))
theorem sumS_take (c : Int) (l : List Int) (k : Nat) (h : k < l.length) : sumS c (l.take (k + 1)) = nextS (sumS c (l.take k)) (l.getD k 0) := by
 rw [List.take_succ_eq_append_getElem h, sumS_app, List.getD_eq_getElem?_getD, List.getElem?_eq_getElem h]
 rfl
end Go.Proofs.YtfabgbmbnmbjkaaGreatDoor

/- Pruned. -/
namespace Go.Proofs.YtfabgbmbnmbjkaaGreatDoor
open Go.RowKit
set_option maxRecDepth 20000
def ListsAt (w : World) (B : Nat) (A : Option Addr) (ls : List (List Int)) : Prop :=
 ∀ i, i < ls.length -> ∃ ad Ai ci, A = some ad ∧ w.cell? (ad.add i) = some (.slice Ai (ls.getD i []).length ci) ∧ Reads w B 1 Ai (ls.getD i []).length (nums .u8 (ls.getD i []))
theorem add0 (g i : Nat) : (⟨g, 0, none⟩ : Addr).add i = ⟨g, i, none⟩ := by unfold Addr.add; split <;> simp_all
theorem listsAt_blk {w : World} {B g : Nat} {t : TypeId} {cs : Array Value} {ls : List (List Int)} (hb : Blk w g t cs) (h : ∀ i, i < ls.length -> ∃ Ai ci, cs[i]? = some (.slice Ai (ls.getD i []).length ci) ∧ Reads w B 1 Ai (ls.getD i []).length (nums .u8 (ls.getD i []))) : ListsAt w B (some ⟨g, 0, none⟩) ls := fun i hi => by
 obtain ⟨Ai, ci, h1, h2⟩ := h i hi
 exact ⟨_, Ai, ci, rfl, by rw [add0, hb.cell]; exact h1, h2⟩
theorem flat_take (l : List (List Int)) (k : Nat) (h : k < l.length) : (l.take (k + 1)).flatten = (l.take k).flatten ++ l.getD k [] := by
 rw [List.take_succ_eq_append_getElem h, List.flatten_append, List.getD_eq_getElem?_getD, List.getElem?_eq_getElem h]
 simp
theorem sum_any (w : World) (B : Nat) (A : Option Addr) (cp : Nat) (ls : List (List Int)) (h : ListsAt w B A ls) (hby : ∀ l ∈ ls, ∀ x ∈ l, ByteOk x) (hn : ls.length <= 1000) (hl : ∀ l ∈ ls, l.length <= 100000000) :
    Calls Tryz.prog 181 #[.slice A ls.length cp] w fun e w' => e = .returned (.int .u32 (sumS 0 ls.flatten)) ∧ w = w' := by
 have HA := Lib.hid h
 have HB := Lib.hid hby
 have HL := Lib.hid hl
 clear h hby hl
 go_enter Tryz.func181, Tryz.ntmps181
 go_wp2_with (fail)
 go_loop [3, 10] (fun x i => ∃ (k : Nat) (c : Int), k <= ls.length ∧ i = .int .i64 k ∧ x = .int .u32 c ∧ Hid (c = sumS 0 (ls.take k).flatten ∧ U32 c)) (fun _ i => ls.length - (intOf i).toNat)
 case atStart => exact ⟨0, 0, Nat.zero_le _, rfl, rfl, rfl, by omega, by omega⟩
 case round =>
  obtain ⟨k, c, hk, rfl, rfl, hc⟩ := hrel
  by_cases hlt : k < ls.length
  · obtain ⟨ad, Ai, ci, rfl, hcell, hrd⟩ := HA.out k hlt
    have hmem : ls.getD k [] ∈ ls := getD_mem hlt
    have HBK := Lib.hid (HB.out _ hmem)
    have hln := HL.out _ hmem
    have HT := Lib.hid (flat_take ls k hlt)
    have HRD := Lib.hid hrd
    have HLT := Lib.hid hlt
    clear hmem hrd
    generalize ls.getD k [] = b at *
    go_wp2_with (fail)
    go_loop [3, 16] (fun x i => ∃ (j : Nat) (c2 : Int), j <= b.length ∧ i = .int .i64 j ∧ x = .int .u32 c2 ∧ Hid (c2 = sumS c (b.take j) ∧ U32 c2)) (fun _ i => b.length - (intOf i).toNat)
    case atStart => exact ⟨0, c, Nat.zero_le _, rfl, rfl, rfl, hc.out.2⟩
    case round =>
     obtain ⟨j, c2, hj, rfl, rfl, hc2⟩ := hrel
     by_cases hlt2 : j < b.length
     · obtain ⟨ai, rfl, _, hcj⟩ := HRD.out.num hlt2
       have HN := Lib.hid (next_any c2 (b.getD j 0) hc2.out.2 (HBK.out _ (getD_mem hlt2)))
       have HN2 : Hid (nextS c2 (b.getD j 0) = sumS c (b.take (j + 1)) ∧ U32 (nextS c2 (b.getD j 0))) := ⟨by rw [sumS_take c b j hlt2, <- hc2.out.1], nextS_bd _ _ hc2.out.2 (HBK.out _ (getD_mem hlt2))⟩
       generalize b.getD j 0 = y at *
       go_wp2_with (fail)
       refine (HN.out _).mono ?_
       rintro e w' ⟨rfl, rfl⟩
       go_wp2
       go_round
       case rel => exact ⟨j + 1, _, by omega, by go_num, rfl, HN2⟩
       case measure => simp [intOf]; omega
     · obtain rfl : j = b.length := by omega
       have HN2 : Hid (c2 = sumS 0 (ls.take (k + 1)).flatten ∧ U32 c2) := ⟨by rw [HT.out, sumS_app, <- hc.out.1, hc2.out.1, List.take_length], hc2.out.2⟩
       have hk1 := HLT.out
       clear hc2 HT
       go_wp2
       go_round
       case rel => exact ⟨k + 1, _, by omega, by go_num, rfl, HN2⟩
       case measure => simp [intOf]; omega
  · obtain rfl : k = ls.length := by omega
    have HC : Hid (c = sumS 0 ls.flatten) := by have := hc.out.1; rw [List.take_length] at this; exact this
    go_wp2
    go_ret
    exact ⟨ret_int HC.out, rfl⟩
end Go.Proofs.YtfabgbmbnmbjkaaGreatDoor

/- Pruned. -/
namespace Go.Proofs.YtfabgbmbnmbjkaaGreatDoor
open Go.RowKit
set_option maxRecDepth 20000
def widthN (n : Int) : Nat := if n = 1 then 1 else if n = 2 then 2 else if n = 4 then 4 else 8
theorem widthN_bd (n : Int) : 1 <= widthN n ∧ widthN n <= 8 := by
 unfold widthN
 split
 · omega
 · split
   · omega
   · split <;> omega
theorem width_any (n : Int) (w : World) : Calls Tryz.prog 212 #[.int .i64 n] w fun e w' => e = .returned (.int .i64 (widthN n : Nat)) ∧ w = w' := by
 unfold widthN
 by_cases h1 : n = 1
 · subst h1
   go_enter Tryz.func212, Tryz.ntmps212
   go_wp2
   go_ret
   exact ⟨rfl, rfl⟩
 · by_cases h2 : n = 2
   · subst h2
     go_enter Tryz.func212, Tryz.ntmps212
     go_wp2
     go_ret
     exact ⟨rfl, rfl⟩
   · by_cases h4 : n = 4
     · subst h4
       go_enter Tryz.func212, Tryz.ntmps212
       go_wp2
       go_ret
       exact ⟨rfl, rfl⟩
     · rw [if_neg h1, if_neg h2, if_neg h4]
       have e1 : (n == 1) = false := by simpa using h1
       have e2 : (n == 2) = false := by simpa using h2
       have e4 : (n == 4) = false := by simpa using h4
       clear h1 h2 h4
       go_enter Tryz.func212, Tryz.ntmps212
       go_wp2
       go_ret
       exact ⟨rfl, rfl⟩
def beB (w : Nat) (v : Int) : List Int := (List.range w).map (fun i => v / 2 ^ (8 * (w - 1 - i)) % 256)
theorem beB_length (w : Nat) (v : Int) : (beB w v).length = w := by simp [beB]
theorem beB_take (w : Nat) (v : Int) (i : Nat) (h : i < w) : (beB w v).take (i + 1) = (beB w v).take i ++ [v / 2 ^ (8 * (w - 1 - i)) % 256] := by
 rw [List.take_succ_eq_append_getElem (by rw [beB_length]; exact h)]
 simp [beB]
theorem beB_bd (w : Nat) (v : Int) : ∀ x ∈ beB w v, ByteOk x := by
 intro x hx
 obtain ⟨i, _, rfl⟩ := List.mem_map.1 hx
 exact ⟨Int.emod_nonneg _ (by decide), by have := Int.emod_lt_of_pos (v / 2 ^ (8 * (w - 1 - i))) (show (0 : Int) < 256 by decide); omega⟩
def packS (ws vs : List Int) : List Int := (List.zip ws vs).flatMap (fun p => beB (widthN p.1) p.2)
def packTo (ws vs : List Int) (k : Nat) : List Int := ((List.zip ws vs).take k).flatMap (fun p => beB (widthN p.1) p.2)
theorem packTo_all (ws vs : List Int) (k : Nat) (h : min ws.length vs.length <= k) : packTo ws vs k = packS ws vs := by
 unfold packTo packS
 rw [List.take_of_length_le (by simpa using h)]
theorem packTo_succ (ws vs : List Int) (k : Nat) (h1 : k < ws.length) (h2 : k < vs.length) : packTo ws vs (k + 1) = packTo ws vs k ++ beB (widthN (ws.getD k 0)) (vs.getD k 0) := by
 unfold packTo
 rw [List.take_succ_eq_append_getElem (by simp; omega), List.flatMap_append]
 simp [List.getD_eq_getElem?_getD, h1, h2]
theorem packTo_len (ws vs : List Int) : ∀ k, (packTo ws vs k).length <= 8 * k := by
 intro k
 induction k with
 | zero => simp [packTo]
 | succ k ih =>
   by_cases h : k < ws.length ∧ k < vs.length
   · rw [packTo_succ ws vs k h.1 h.2, List.length_append, beB_length]
     have := (widthN_bd (ws.getD k 0)).2
     omega
   · have e : packTo ws vs (k + 1) = packTo ws vs k := by
      rw [packTo_all _ _ _ (by omega), packTo_all _ _ _ (by omega)]
     rw [e]
     omega
theorem pack_any (w : World) (B1 B2 : Nat) (A1 A2 : Option Addr) (c1 c2 : Nat) (ws vs : List Int) (h1 : Reads w B1 1 A1 ws.length (nums .i64 ws)) (h2 : Reads w B2 1 A2 vs.length (nums .u64 vs)) (_hn : ws.length <= 1000) (hm : ws.length <= vs.length) (hmm : vs.length <= 1000) (hv : ∀ x ∈ vs, 0 <= x ∧ x <= 18446744073709551615) :
    Calls Tryz.prog 186 #[.slice A1 ws.length c1, .slice A2 vs.length c2] w fun e w' => ∃ A c, e = .returned (.slice A (packS ws vs).length c) ∧ BRow w' w.heap.size A c (packS ws vs) ∧ Below w.heap.size w w' := by
 have HR1 := Lib.hid (h1.more_ (by omega))
 have HR2 := Lib.hid (h2.more_ (by omega))
 have HV := Lib.hid hv
 have HL := Lib.hid (packTo_len ws vs)
 clear h1 h2 hv
 go_enter Tryz.func186, Tryz.ntmps186
 have hmin : min (ws.length : Int) vs.length = ws.length := by omega
 go_wp2_with (fail)
 go_loopw [5, 13] (fun o i wr => ∃ (k : Nat) (A : Option Addr) (c : Nat), k <= ws.length ∧ i = .int .i64 k ∧ o = .slice A (packTo ws vs k).length c ∧ Hid (BRow wr w.heap.size A c (packTo ws vs k) ∧ Below w.heap.size w wr)) (fun _ i _ => ws.length - (intOf i).toNat)
 case atStart => exact ⟨0, none, 0, Nat.zero_le _, rfl, rfl, BRow.nil _ _, Below.refl _ _⟩
 case round =>
  obtain ⟨k, A, c, hk, rfl, rfl, hR⟩ := hrel
  by_cases hlt : k < ws.length
  · obtain ⟨ad1, rfl, hb1, hc1⟩ := ((HR1.out).below hR.out.2).num hlt
    obtain ⟨ad2, rfl, hb2, hc2⟩ := ((HR2.out).below hR.out.2).num (show k < vs.length by omega)
    obtain ⟨_, e2, _, hc2w⟩ := HR2.out.num (show k < vs.length by omega)
    cases e2
    have HC2 := Lib.hid hc2w
    clear hc2w
    have HB2 : Hid ((ad2.add k).block < w.heap.size) := by unfold Hid; rw [block_of_add]; exact hb2
    have HS := Lib.hid (packTo_succ ws vs k hlt (by omega))
    have HV2 := Lib.hid (HV.out _ (getD_mem (d := 0) (show k < vs.length by omega)))
    have HLK := Lib.hid (HL.out k)
    have HW := Lib.hid (fun u => width_any (ws.getD k 0) u)
    have hwb := widthN_bd (ws.getD k 0)
    have hkv : k < vs.length := by omega
    clear hb1 hb2
    generalize ws.getD k 0 = wk at *
    generalize vs.getD k 0 = vk at *
    generalize widthN wk = W at *
    generalize packTo ws vs k = O at *
    go_wp2_with (fail)
    refine (HW.out _).mono ?_
    rintro e w' ⟨rfl, rfl⟩
    go_wp2_with (fail)
    go_loopw [5, 7] (fun o kk w2 => ∃ (j : Nat) (A : Option Addr) (c : Nat), j <= W ∧ kk = .int .i64 (8 * ((W : Int) - j)) ∧ o = .slice A (O ++ (beB W vk).take j).length c ∧ Hid (BRow w2 w.heap.size A c (O ++ (beB W vk).take j) ∧ Below w.heap.size w w2)) (fun _ i _ => (intOf i).toNat)
    case atStart => exact ⟨0, A, c, Nat.zero_le _, by simp, by simp, by simpa using hR.out.1, hR.out.2⟩
    case round =>
     obtain ⟨j, A3, c3, hj, rfl, rfl, hR3⟩ := hrel
     by_cases hlt2 : j < W
     · have HT := Lib.hid (beB_take W vk j hlt2)
       have hc2 := (hR3.out.2.cell HB2.out).trans HC2.out
       obtain ⟨q, hq⟩ : ∃ q : Nat, q = W - 1 - j := ⟨_, rfl⟩
       have hqb : (q : Int) <= 7 := by omega
       have hq8 : 8 * ((W : Int) - j) = 8 * (q : Int) + 8 := by omega
       have HOB : Hid ((O ++ (beB W vk).take j).length <= 1000000) := by have := HLK.out; unfold Hid; simp; omega
       have HBW : Hid (w.heap.size <= wr.heap.size) := hR3.out.2.size
       rw [hq8]
       rw [<- hq] at HT
       have HQ := Lib.hid hq
       have HR3 := Lib.hid hR3.out
       clear hq hq8 hR3
       obtain ⟨O3, hO3⟩ : ∃ O3, O ++ (beB W vk).take j = O3 := ⟨_, rfl⟩
       rw [hO3] at HR3 HOB ⊢
       have HO3 := Lib.hid hO3
       clear hO3
       go_wp2_with (first
         | (at_builtin
            refine wpList_append_byte wr rfl (.tmp 26) (.tmp 34) rfl O3 _ HR3.out.1 rfl rfl rfl HOB.out HBW.out ?_
            intro A4 c4 w4 h4 k4
            have H4 := Lib.hid h4
            have K4 := Lib.hid k4
            clear h4 k4))
       go_roundw
       case rel =>
        have e : O ++ (beB W vk).take (j + 1) = O3 ++ [vk / 2 ^ (8 * q) % 256] := by rw [HT.out, <- List.append_assoc, HO3.out]
        refine ⟨j + 1, A4, c4, hlt2, ?_, ?_, ?_⟩
        · have := HQ.out
          congr 1
          omega
        · rw [e]; simp
        · rw [e]
          exact ⟨H4.out, Kp.below HR3.out.2 K4.out HBW.out (fun b hb e => by have := (HR3.out.1.lt e).1; omega)⟩
       case measure => simp [intOf]; omega
     · obtain rfl : j = W := by omega
       have hR4 := hR3.out
       rw [List.take_of_length_le (by rw [beB_length]; exact Nat.le_refl _), <- HS.out] at hR4 ⊢
       have HR4 := Lib.hid hR4
       have e0 : 8 * ((j : Int) - j) = 0 := by omega
       rw [e0]
       clear hR3 hR4 HS e0
       go_wp2
       go_roundw
       case rel => exact ⟨k + 1, A3, c3, by omega, by go_num, rfl, HR4⟩
       case measure => simp [intOf]; omega
  · obtain rfl : k = ws.length := by omega
    have hR2 := hR.out
    rw [packTo_all ws vs ws.length (by omega)] at hR2 ⊢
    have HR3 := Lib.hid hR2
    clear hR hR2
    go_wp2
    go_ret
    exact ⟨A, c, rfl, HR3.out⟩
end Go.Proofs.YtfabgbmbnmbjkaaGreatDoor

/- Pruned. -/
namespace Go.Proofs.YtfabgbmbnmbjkaaGreatDoor
open Go.RowKit
set_option maxRecDepth 20000
theorem qnext_any (c b : Int) (hc : U32 c) (hb : ByteOk b) (w : World) : Calls Tryz.prog 193 #[.int .u32 c, .int .u8 b] w fun e w' => e = .returned (.int .u32 (nextS c b)) ∧ w = w' := by
 have HA := Lib.hid (nextA_bd c b hc hb)
 have H4 : Hid (notS (bitsS 8 (bits .xor .u32 (notS c) b)) = nextS c b) := rfl
 unfold notS at HA H4
 obtain ⟨c0, c1⟩ := hc
 obtain ⟨b0, b1⟩ := hb
 go_enter Tryz.func193, Tryz.ntmps193
 go_wp2_with (fail)
 go_loop [5, 6] (fun x i => ∃ (k : Nat) (y : Int), k <= 8 ∧ 0 <= y ∧ y <= 4294967295 ∧ i = .int .i64 k ∧ x = .int .u32 y ∧ Hid (y = bitsS k (bits .xor .u32 (bits .xor .u32 IntKind.u32.max c) b))) (fun _ i => 8 - (intOf i).toNat)
 case atStart => exact ⟨0, _, by omega, HA.out.1, HA.out.2, rfl, rfl, rfl⟩
 case round =>
  obtain ⟨k, y, hk, hy0, hy1, rfl, rfl, hy⟩ := hrel
  by_cases hlt : k < 8
  · have hbd := bitS_bd y ⟨hy0, hy1⟩
    have HY : Hid (bitS y = bitsS (k + 1) (bits .xor .u32 (bits .xor .u32 IntKind.u32.max c) b)) := by unfold Hid; rw [bitsS_succ, <- hy.out]
    clear hy HA H4
    by_cases ho : y % 2 = 1
    · have he : bits .xor .u32 (y / 2) 3988292384 = bitS y := by unfold bitS; rw [if_pos ho]
      have hob : (y % 2 == 1) = true := by simp [ho]
      have HE := Lib.hid he
      clear he ho
      go_wp2
      go_round
      case rel => exact ⟨k + 1, bitS y, by omega, hbd.1, hbd.2, by go_num, by rw [HE.out], HY⟩
      case measure => simp [intOf]; omega
    · have he : y / 2 = bitS y := by unfold bitS; rw [if_neg ho]
      have hob : (y % 2 == 1) = false := by simp [ho]
      have HE := Lib.hid he
      clear he ho
      go_wp2
      go_round
      case rel => exact ⟨k + 1, bitS y, by omega, hbd.1, hbd.2, by go_num, by rw [HE.out], HY⟩
      case measure => simp [intOf]; omega
  · obtain rfl : k = 8 := by omega
    go_wp2
    go_ret
    exact ⟨ret_int (by rw [<- H4.out, <- hy.out]), rfl⟩
theorem qsum_any (w : World) (B : Nat) (A : Option Addr) (c : Nat) (l : List Int) (h : Reads w B 1 A l.length (nums .u8 l)) (hby : ∀ x ∈ l, ByteOk x) (hl : l.length <= 100000000) :
    Calls Tryz.prog 152 #[.slice A l.length c] w fun e w' => e = .returned (.int .u32 (sumS 0 l)) ∧ w = w' := by
 have HR := Lib.hid h
 have HB := Lib.hid hby
 clear h hby
 go_enter Tryz.func152, Tryz.ntmps152
 go_wp2_with (fail)
 go_loop [3, 4] (fun x i => ∃ (k : Nat) (y : Int), k <= l.length ∧ i = .int .i64 k ∧ x = .int .u32 y ∧ Hid (y = sumS 0 (l.take k) ∧ U32 y)) (fun _ i => l.length - (intOf i).toNat)
 case atStart => exact ⟨0, 0, Nat.zero_le _, rfl, rfl, rfl, by omega, by omega⟩
 case round =>
  obtain ⟨k, y, hk, rfl, rfl, hy⟩ := hrel
  by_cases hlt : k < l.length
  · obtain ⟨ai, rfl, _, hcj⟩ := HR.out.num hlt
    have HN := Lib.hid (qnext_any y (l.getD k 0) hy.out.2 (HB.out _ (getD_mem hlt)))
    have HN2 : Hid (nextS y (l.getD k 0) = sumS 0 (l.take (k + 1)) ∧ U32 (nextS y (l.getD k 0))) := ⟨by rw [sumS_take 0 l k hlt, <- hy.out.1], nextS_bd _ _ hy.out.2 (HB.out _ (getD_mem hlt))⟩
    clear hy
    generalize l.getD k 0 = x at *
    go_wp2_with (fail)
    refine (HN.out _).mono ?_
    rintro e w' ⟨rfl, rfl⟩
    go_wp2
    go_round
    case rel => exact ⟨k + 1, _, by omega, by go_num, rfl, HN2⟩
    case measure => simp [intOf]; omega
  · obtain rfl : k = l.length := by omega
    go_wp2
    go_ret
    exact ⟨ret_int (by rw [hy.out.1, List.take_length]), rfl⟩
theorem qwidth_any (n : Int) (w : World) : Calls Tryz.prog 192 #[.int .i64 n] w fun e w' => e = .returned (.int .i64 (widthN n : Nat)) ∧ w = w' := by
 unfold widthN
 by_cases h1 : n = 1
 · subst h1
   go_enter Tryz.func192, Tryz.ntmps192
   go_wp2
   go_ret
   exact ⟨rfl, rfl⟩
 · by_cases h2 : n = 2
   · subst h2
     go_enter Tryz.func192, Tryz.ntmps192
     go_wp2
     go_ret
     exact ⟨rfl, rfl⟩
   · by_cases h4 : n = 4
     · subst h4
       go_enter Tryz.func192, Tryz.ntmps192
       go_wp2
       go_ret
       exact ⟨rfl, rfl⟩
     · rw [if_neg h1, if_neg h2, if_neg h4]
       have e1 : (n == 1) = false := by simpa using h1
       have e2 : (n == 2) = false := by simpa using h2
       have e4 : (n == 4) = false := by simpa using h4
       clear h1 h2 h4
       go_enter Tryz.func192, Tryz.ntmps192
       go_wp2
       go_ret
       exact ⟨rfl, rfl⟩
theorem qpack_any (w : World) (B1 B2 : Nat) (A1 A2 : Option Addr) (c1 c2 : Nat) (ws vs : List Int) (h1 : Reads w B1 1 A1 ws.length (nums .i64 ws)) (h2 : Reads w B2 1 A2 vs.length (nums .u64 vs)) (_hn : ws.length <= 1000) (hm : ws.length = vs.length) (hv : ∀ x ∈ vs, 0 <= x ∧ x <= 18446744073709551615) :
    Calls Tryz.prog 151 #[.slice A1 ws.length c1, .slice A2 vs.length c2] w fun e w' => ∃ A c, e = .returned (.slice A (packS ws vs).length c) ∧ BRow w' w.heap.size A c (packS ws vs) ∧ Below w.heap.size w w' := by
 have HR1 := Lib.hid (h1.more_ (by omega))
 have HR2 := Lib.hid (h2.more_ (by omega))
 have HV := Lib.hid hv
 have HL := Lib.hid (packTo_len ws vs)
 clear h1 h2 hv
 have HM := Lib.hid hm
 rw [<- hm]
 clear hm
 go_enter Tryz.func151, Tryz.ntmps151
 go_wp2_with (fail)
 go_loopw [5, 6] (fun o i wr => ∃ (k : Nat) (A : Option Addr) (c : Nat), k <= ws.length ∧ i = .int .i64 k ∧ o = .slice A (packTo ws vs k).length c ∧ Hid (BRow wr w.heap.size A c (packTo ws vs k) ∧ Below w.heap.size w wr)) (fun _ i _ => ws.length - (intOf i).toNat)
 case atStart => exact ⟨0, none, 0, Nat.zero_le _, rfl, rfl, BRow.nil _ _, Below.refl _ _⟩
 case round =>
  obtain ⟨k, A, c, hk, rfl, rfl, hR⟩ := hrel
  by_cases hlt : k < ws.length
  · have hkv : k < vs.length := by have := HM.out; omega
    obtain ⟨ad1, rfl, hb1, hc1⟩ := ((HR1.out).below hR.out.2).num hlt
    obtain ⟨ad2, rfl, hb2, hc2⟩ := ((HR2.out).below hR.out.2).num hkv
    obtain ⟨_, e2, _, hc2w⟩ := HR2.out.num hkv
    cases e2
    have HC2 := Lib.hid hc2w
    clear hc2w
    have HB2 : Hid ((ad2.add k).block < w.heap.size) := by unfold Hid; rw [block_of_add]; exact hb2
    have HS := Lib.hid (packTo_succ ws vs k hlt hkv)
    have HV2 := Lib.hid (HV.out _ (getD_mem (d := 0) hkv))
    have HLK := Lib.hid (HL.out k)
    have HW := Lib.hid (fun u => qwidth_any (ws.getD k 0) u)
    have hwb := widthN_bd (ws.getD k 0)
    clear hb1 hb2 hkv
    generalize ws.getD k 0 = wk at *
    generalize vs.getD k 0 = vk at *
    generalize widthN wk = W at *
    generalize packTo ws vs k = O at *
    go_wp2_with (fail)
    refine (HW.out _).mono ?_
    rintro e w' ⟨rfl, rfl⟩
    go_wp2_with (fail)
    go_loopw [5, 7] (fun o kk w2 => ∃ (j : Nat) (A : Option Addr) (c : Nat), j <= W ∧ kk = .int .i64 ((W : Int) - 1 - j) ∧ o = .slice A (O ++ (beB W vk).take j).length c ∧ Hid (BRow w2 w.heap.size A c (O ++ (beB W vk).take j) ∧ Below w.heap.size w w2)) (fun _ i _ => (intOf i + 1).toNat)
    case atStart => exact ⟨0, A, c, Nat.zero_le _, by simp, by simp, by simpa using hR.out.1, hR.out.2⟩
    case round =>
     obtain ⟨j, A3, c3, hj, rfl, rfl, hR3⟩ := hrel
     by_cases hlt2 : j < W
     · have HT := Lib.hid (beB_take W vk j hlt2)
       have hc2 := (hR3.out.2.cell HB2.out).trans HC2.out
       obtain ⟨q, hq⟩ : ∃ q : Nat, q = W - 1 - j := ⟨_, rfl⟩
       have hqb : (q : Int) <= 7 := by omega
       have hq8 : (W : Int) - 1 - j = (q : Int) := by omega
       have HOB : Hid ((O ++ (beB W vk).take j).length <= 1000000) := by have := HLK.out; unfold Hid; simp; omega
       have HBW : Hid (w.heap.size <= wr.heap.size) := hR3.out.2.size
       rw [hq8]
       rw [<- hq] at HT
       have HQ := Lib.hid hq
       have HR3 := Lib.hid hR3.out
       clear hq hq8 hR3
       obtain ⟨O3, hO3⟩ : ∃ O3, O ++ (beB W vk).take j = O3 := ⟨_, rfl⟩
       rw [hO3] at HR3 HOB ⊢
       have HO3 := Lib.hid hO3
       clear hO3
       go_wp2_with (first
         | (at_builtin
            refine wpList_append_byte wr rfl (.tmp 30) (.tmp 40) rfl O3 _ HR3.out.1 rfl rfl rfl HOB.out HBW.out ?_
            intro A4 c4 w4 h4 k4
            have H4 := Lib.hid h4
            have K4 := Lib.hid k4
            clear h4 k4))
       go_roundw
       case rel =>
        have e : O ++ (beB W vk).take (j + 1) = O3 ++ [vk / 2 ^ (8 * q) % 256] := by rw [HT.out, <- List.append_assoc, HO3.out]
        refine ⟨j + 1, A4, c4, hlt2, ?_, ?_, ?_⟩
        · have := HQ.out
          congr 1
          omega
        · rw [e]; simp
        · rw [e]
          exact ⟨H4.out, Kp.below HR3.out.2 K4.out HBW.out (fun b hb e => by have := (HR3.out.1.lt e).1; omega)⟩
       case measure => simp [intOf]
     · obtain rfl : j = W := by omega
       have hR4 := hR3.out
       rw [List.take_of_length_le (by rw [beB_length]; exact Nat.le_refl _), <- HS.out] at hR4 ⊢
       have HR4 := Lib.hid hR4
       have e0 : (j : Int) - 1 - j = -1 := by omega
       rw [e0]
       clear hR3 hR4 HS e0
       go_wp2
       go_roundw
       case rel => exact ⟨k + 1, A3, c3, by omega, by go_num, rfl, HR4⟩
       case measure => simp [intOf]; omega
  · obtain rfl : k = ws.length := by omega
    have hR2 := hR.out
    rw [packTo_all ws vs ws.length (by omega)] at hR2 ⊢
    have HR3 := Lib.hid hR2
    clear hR hR2
    go_wp2
    go_ret
    exact ⟨A, c, rfl, HR3.out⟩
end Go.Proofs.YtfabgbmbnmbjkaaGreatDoor

