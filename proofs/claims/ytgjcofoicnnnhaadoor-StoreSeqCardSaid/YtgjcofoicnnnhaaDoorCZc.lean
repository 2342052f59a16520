/- slices.Chunk over bytes: its iterator's contract. -/
import Derived.Test.YtgjcofoicnnnhaaDoorMb
import Derived.RangeFuncNested
import Derived.RangeFuncBound
import Derived.RangeFuncCalls
import Derived.RangeFuncLeaves
import Derived.RangeFuncWrites
import Derived.Shelf.Abstract
import Derived.Shelf.RegionOpen
import Derived.WalkKit
import Derived.OwnWalkIn
import Derived.TacticsInMore
import Derived.LoopNIn
import Derived.LoopIn
import Derived.Maps.AppendAt
namespace Go.Proofs.YtgjcofoicnnnhaaDoor
open Go.RowKit Go.Shelf
set_option maxRecDepth 20000
attribute [local go_sem] Oper.semAt_some

/-- What a round must keep: the two boxes. -/
def ChKp (B1 B2 : Nat) (W W' : World) : Prop := (∀ v, W.cell? ⟨B1, 0, none⟩ = some v → W'.cell? ⟨B1, 0, none⟩ = some v) ∧ (∀ v, W.cell? ⟨B2, 0, none⟩ = some v → W'.cell? ⟨B2, 0, none⟩ = some v)
theorem ChKp.trans {B1 B2 : Nat} {A B C : World} (h : ChKp B1 B2 A B) (k : ChKp B1 B2 B C) : ChKp B1 B2 A C := ⟨fun v hv => k.1 v (h.1 v hv), fun v hv => k.2 v (h.2 v hv)⟩
theorem ChKp.putObj {B1 B2 : Nat} (W : World) (l : Nat) (o o' : Obj) (h : W.heap[l]? = some o) (ho : o.isCells = false) : ChKp B1 B2 W (W.putObj l o') := by
  have key : ∀ B v, W.cell? ⟨B, 0, none⟩ = some v → (W.putObj l o').cell? ⟨B, 0, none⟩ = some v := fun B v hv =>
    cell_kept hv (grownBy_putObj' W l o') (fun r e => by cases e; exact ⟨o, h, ho⟩)
  exact ⟨key B1, key B2⟩
/-- A chunk. -/
def chV (A : Option Addr) (bl k : Nat) : Value := .slice (A.map (·.add (k * bl))) bl bl
theorem elem_u8c : Tryd.prog.underlying 35 = some (.slice (Tryd.prog.elem 35)) := by kernel_rfl
theorem size_u8 (u : World) : (sizeOf (Tryd.prog.elem 35)).run Tryd.prog u = .ok 1 u := by kernel_rfl
theorem run_from_u8 (A : Option Addr) (n c i : Nat) (h : i ≤ n) (u : World) :
    (Instr.slice 35 (.slice A n c) (some (.int .i64 (i : Int))) none none).run Tryd.prog u = .ok (.slice (if c = i then A else A.map (·.add (i * 1))) (n - i) (c - i)) u := by
  rw [run_slice_l u _ A n c elem_u8c .i64 (i : Int) (by omega) (by omega), size_u8]
  simp only [Result.andThen, sliced, Int.toNat_natCast]
theorem run_chunk_u8 (A : Option Addr) (n c i bl : Nat) (h : i + bl ≤ c) (hb : 1 ≤ bl) (u : World) :
    (Instr.slice 35 (.slice A n c) (some (.int .i64 (i : Int))) (some (.int .i64 ((i : Int) + bl))) (some (.int .i64 ((i : Int) + bl)))).run Tryd.prog u = .ok (.slice (A.map (·.add i)) bl bl) u := by
  rw [run_slice_lhm u _ A n c elem_u8c .i64 .i64 .i64 (i : Int) ((i : Int) + bl) ((i : Int) + bl) (by omega) (by omega) (by omega) (by omega), size_u8]
  have e : ((i : Int) + bl).toNat = i + bl := by omega
  have e2 : i + bl - i = bl := by omega
  have e3 : ¬ i + bl = i := by omega
  simp only [Result.andThen, sliced, Int.toNat_natCast, e, e2, if_neg e3, Nat.mul_one]

theorem fin_take_succ (cnt k : Nat) (h : k < cnt) : (List.finRange cnt).take (k + 1) = (List.finRange cnt).take k ++ [⟨k, h⟩] := by
  rw [List.take_succ_eq_append_getElem (by simpa using h)]
  simp
set_option maxRecDepth 100000 in
set_option maxHeartbeats 4000000 in
theorem chunk1_in (F : Fence) (n : Nat) (hf : F.fn 56) (hro : F.round = none) (hn : 1 ≤ n) (l B1 B2 : Nat) (A : Option Addr) (bl cnt c : Nat) (hbl : 1 ≤ bl) (hb2 : bl ≤ 65536) (hcnt : cnt * bl ≤ 100000000) (hc : cnt * bl ≤ c) (J Jx : List (Fin cnt) → World → Prop)
    (hY : ∀ pre (x : Fin cnt) W, J pre W → pre.length < cnt → YieldAt F (n - 1) Tryd.prog l #[chV A bl x.1] W fun e W' =>
      (e = .returned (.bool true) ∧ J (pre ++ [x]) W' ∧ ChKp B1 B2 W W') ∨ (e = .returned (.bool false) ∧ Jx (pre ++ [x]) W'))
    (W : World) (hJ : AbidesFrom W.heap.size J) (h1 : W.cell? ⟨B1, 0, none⟩ = some (.slice A (cnt * bl) c)) (h2 : W.cell? ⟨B2, 0, none⟩ = some (.int .i64 bl)) (h0 : J [] W) :
    CallsIn F n Tryd.prog 56 #[.func (.yield l) #[] #[], .pointer (some ⟨B1, 0, none⟩), .pointer (some ⟨B2, 0, none⟩)] W fun e W' => (∃ v, e = .returned v) ∧
      ((∃ xs, xs = List.finRange cnt ∧ J xs W') ∨ (∃ pre, True ∧ Jx pre W')) := by
  refine callsIn_of_wp Tryd.func56 rfl hf ?_ hro
  simp only [Tryd.ntmps56, List.size_toArray, List.length_cons, List.length_nil, Nat.reduceAdd, Nat.reduceSub, Array.replicate_succ, Array.replicate_zero, List.push_toArray, List.append_toArray, List.nil_append, List.cons_append]
  gi_wp2
  gi_loopw [4] (fun i wr => ∃ k : Nat, k ≤ cnt ∧ i = .int .i64 ((k * bl : Nat) : Int) ∧ J ((List.finRange cnt).take k) wr ∧ ChKp B1 B2 W wr) (fun i _ => cnt * bl - (intOf i).toNat)
  case atStart => exact ⟨0, Nat.zero_le _, by simp, by simpa using h0, fun _ h => h, fun _ h => h⟩
  case round =>
    obtain ⟨k, hk, rfl, hJs, hkp⟩ := hrel
    have g1 := hkp.1 _ h1
    have g2 := hkp.2 _ h2
    by_cases hlt : k < cnt
    · have hle : k * bl + bl ≤ cnt * bl := by
        have := Nat.mul_le_mul_right bl (show k + 1 ≤ cnt from hlt)
        rw [Nat.succ_mul] at this
        exact this
      have hs1 := run_from_u8 A (cnt * bl) c (k * bl) (by omega)
      have hs2 := run_chunk_u8 A (cnt * bl) c (k * bl) bl (by omega) hbl
      have hJd : J ((List.finRange cnt).take k) wr.drew := hJ _ wr wr.drew none hJs ⟨rfl, rfl, rfl, Nat.le_refl _, fun _ _ _ => rfl⟩ (fun r e => by cases e)
      obtain ⟨fn, tmps, assign, body, hy, hR⟩ := hY _ ⟨k, hlt⟩ wr.drew hJd (by simp; omega)
      unfold chV at hy
      dsimp only at hy
      obtain ⟨AK, hAK⟩ : ∃ AK, A.map (·.add (k * bl)) = AK := ⟨_, rfl⟩
      rw [hAK] at hs2 hy
      have hw1 : IntKind.i64.wrap (((k * bl : Nat) : Int) + bl) = ((k * bl : Nat) : Int) + bl := by rw [IntKind.wrap_i64]; omega
      have hmin : ¬ (((cnt * bl - k * bl : Nat) : Int) < bl) := by omega
      have hi0 : ((k * bl : Nat) : Int) < ((cnt * bl : Nat) : Int) := by omega
      have hnext : ((k * bl : Nat) : Int) + bl = (((k + 1) * bl : Nat) : Int) := by rw [Nat.succ_mul]; omega
      have HNX := Lib.hid hnext
      have HFT := Lib.hid (fin_take_succ cnt k hlt)
      have HLE := Lib.hid hle
      have HKP := Lib.hid hkp
      have HLT := Lib.hid hlt
      clear hAK hJd hnext hle hkp
      obtain ⟨A1, hA1⟩ : ∃ A1, (if c = k * bl then A else A.map (·.add (k * bl * 1))) = A1 := ⟨_, rfl⟩
      rw [hA1] at hs1
      clear hA1
      generalize k * bl = i0 at *
      generalize cnt * bl = tot at *
      gi_wp2
      gi_region
      all_goals
        gi_wp2
        refine hR.mono ?_
        rintro e W3 (⟨rfl, hJ3, hk3⟩ | ⟨rfl, hJx3⟩)
        · have g1' : W3.cell? ⟨B1, 0, none⟩ = some (.slice A tot c) := hk3.1 _ g1
          have g2' : W3.cell? ⟨B2, 0, none⟩ = some (.int .i64 bl) := hk3.2 _ g2
          have HK3 : Hid (ChKp B1 B2 W W3) := ⟨fun v hv => hk3.1 v (HKP.out.1 v hv), fun v hv => hk3.2 v (HKP.out.2 v hv)⟩
          have HJ3 := Lib.hid hJ3
          clear hk3 hJ3
          gi_wp2
          go_roundw
          case rel => exact ⟨k + 1, HLT.out, by rw [HNX.out], by rw [HFT.out]; exact HJ3.out, HK3.out⟩
          case measure => have := HLE.out; simp [intOf]; omega
        · gi_wp2
          refine bodyPost_ret (results_none rfl _ _ _) rfl ?_
          exact ⟨⟨_, rfl⟩, .inr ⟨_, True.intro, hJx3⟩⟩
    · obtain rfl : k = cnt := by omega
      gi_wp2
      go_end0
      rw [List.take_of_length_le (by simp)] at hJs
      exact ⟨⟨_, rfl⟩, .inl ⟨_, rfl, hJs⟩⟩
theorem chunk_in (F : Fence) (n : Nat) (hf : F.fn 34) (hro : F.round = none) (A : Option Addr) (len cap bl : Nat) (hbl : 1 ≤ bl) (w : World) :
    CallsIn F n Tryd.prog 34 #[.slice A len cap, .int .i64 bl] w fun e w' => e = .returned (.func (.func 56) #[] #[.pointer (some ⟨w.heap.size, 0, none⟩), .pointer (some ⟨w.heap.size + 1, 0, none⟩)]) ∧
      w' = (w.alloc (.cells #[.slice A len cap] 35)).alloc (.cells #[.int .i64 bl] 3) := by
  refine callsIn_of_wp Tryd.func34 rfl hf ?_ hro
  simp only [Tryd.ntmps34, List.size_toArray, List.length_cons, List.length_nil, Nat.reduceAdd, Nat.reduceSub, Array.replicate_succ, Array.replicate_zero, List.push_toArray, List.append_toArray, List.nil_append, List.cons_append]
  have h1 : ¬ (bl : Int) < 1 := by omega
  gi_wp2
  go_ret
  exact ⟨rfl, rfl⟩
theorem chunk_stops (F : Fence) (n : Nat) (hf : F.fn 56) (hro : F.round = none) (hn : 1 ≤ n) (B1 B2 : Nat) (A : Option Addr) (bl cnt c : Nat) (hbl : 1 ≤ bl) (hb2 : bl ≤ 65536) (hcnt : cnt * bl ≤ 100000000) (hc : cnt * bl ≤ c) (w : World)
    (h1 : w.cell? ⟨B1, 0, none⟩ = some (.slice A (cnt * bl) c)) (h2 : w.cell? ⟨B2, 0, none⟩ = some (.int .i64 bl)) :
    SeqStopsK F n Tryd.prog 56 #[.pointer (some ⟨B1, 0, none⟩), .pointer (some ⟨B2, 0, none⟩)] (fun x : Fin cnt => #[chV A bl x.1]) (ChKp B1 B2) (fun xs => xs = List.finRange cnt) (fun _ => True) cnt w := fun l J Jx W hW hJ _ hY h0 =>
  chunk1_in F n hf hro hn l B1 B2 A bl cnt c hbl hb2 hcnt hc J Jx hY W hJ (below_keep hW h1) (below_keep hW h2) h0
end Go.Proofs.YtgjcofoicnnnhaaDoor
