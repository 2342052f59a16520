/- Joined texts: Zc Zd. -/
import Derived.Test.YtfabgbmbnmbjkaaGreatDoorRap
import Derived.RangeFuncNested
import Derived.RangeFuncBound
import Derived.RangeFuncCalls
import Derived.RangeFuncLeaves
import Derived.RangeFuncWrites
import Derived.Shelf.Abstract
import Derived.Shelf.RegionOpen
import Derived.WalkKit
import Derived.OwnWalkIn
import Derived.TacticsInMore
import Derived.LoopNIn
import Derived.LoopIn
import Derived.Maps.AppendAt
import Derived.Test.YtfabgbmbnmbjkaaGreatDoorRal
/- Pruned. -/
namespace Go.Proofs.YtfabgbmbnmbjkaaGreatDoor
open Go.RowKit Go.Shelf
set_option maxRecDepth 20000
attribute [local go_sem] Oper.semAt_some
def ChKp (B1 B2 : Nat) (W W' : World) : Prop := (∀ v, W.cell? ⟨B1, 0, none⟩ = some v -> W'.cell? ⟨B1, 0, none⟩ = some v) ∧ (∀ v, W.cell? ⟨B2, 0, none⟩ = some v -> W'.cell? ⟨B2, 0, none⟩ = some v)
theorem ChKp.trans {B1 B2 : Nat} {A B C : World} (h : ChKp B1 B2 A B) (k : ChKp B1 B2 B C) : ChKp B1 B2 A C := ⟨fun v hv => k.1 v (h.1 v hv), fun v hv => k.2 v (h.2 v hv)⟩
theorem ChKp.putObj {B1 B2 : Nat} (W : World) (l : Nat) (o o' : Obj) (h : W.heap[l]? = some o) (ho : o.isCells = false) : ChKp B1 B2 W (W.putObj l o') := by
 have key : ∀ B v, W.cell? ⟨B, 0, none⟩ = some v -> (W.putObj l o').cell? ⟨B, 0, none⟩ = some v := fun B v hv =>
  cell_kept hv (grownBy_putObj' W l o') (fun r e => by cases e; exact ⟨o, h, ho⟩)
 exact ⟨key B1, key B2⟩
def chV (A : Option Addr) (bl k : Nat) : Value := .slice (A.map (·.add (k * bl))) bl bl
theorem elem_u8c : Tryz.prog.underlying 36 = some (.slice (Tryz.prog.elem 36)) := by kernel_rfl
theorem size_u8 (u : World) : (sizeOf (Tryz.prog.elem 36)).run Tryz.prog u = .ok 1 u := by kernel_rfl
theorem run_from_u8 (A : Option Addr) (n c i : Nat) (h : i <= n) (u : World) :
    (Instr.slice 36 (.slice A n c) (some (.int .i64 (i : Int))) none none).run Tryz.prog u = .ok (.slice (if c = i then A else A.map (·.add (i * 1))) (n - i) (c - i)) u := by
 rw [run_slice_l u _ A n c elem_u8c .i64 (i : Int) (by omega) (by omega), size_u8]
 simp only [Result.andThen, sliced, Int.toNat_natCast]
theorem run_chunk_u8 (A : Option Addr) (n c i bl : Nat) (h : i + bl <= c) (hb : 1 <= bl) (u : World) :
    (Instr.slice 36 (.slice A n c) (some (.int .i64 (i : Int))) (some (.int .i64 ((i : Int) + bl))) (some (.int .i64 ((i : Int) + bl)))).run Tryz.prog u = .ok (.slice (A.map (·.add i)) bl bl) u := by
 rw [run_slice_lhm u _ A n c elem_u8c .i64 .i64 .i64 (i : Int) ((i : Int) + bl) ((i : Int) + bl) (by omega) (by omega) (by omega) (by omega), size_u8]
 have e : ((i : Int) + bl).toNat = i + bl := by omega
 have e2 : i + bl - i = bl := by omega
 have e3 : ¬ i + bl = i := by omega
 simp only [Result.andThen, sliced, Int.toNat_natCast, e, e2, if_neg e3, Nat.mul_one]
theorem fin_take_succ (cnt k : Nat) (h : k < cnt) : (List.finRange cnt).take (k + 1) = (List.finRange cnt).take k ++ [⟨k, h⟩] := by
 rw [List.take_succ_eq_append_getElem (by simpa using h)]
 simp
set_option maxRecDepth 100000 in
set_option maxHeartbeats 4000000 in
theorem chunk1_in (F : Fence) (n : Nat) (hf : F.fn 194) (hro : F.round = none) (hn : 1 <= n) (l B1 B2 : Nat) (A : Option Addr) (bl cnt c : Nat) (hbl : 1 <= bl) (hb2 : bl <= 65536) (hcnt : cnt * bl <= 100000000) (hc : cnt * bl <= c) (J Jx : List (Fin cnt) -> World -> Prop)
    (hY : ∀ pre (x : Fin cnt) W, J pre W -> pre.length < cnt -> YieldAt F (n - 1) Tryz.prog l #[chV A bl x.1] W fun e W' =>
      (e = .returned (.bool true) ∧ J (pre ++ [x]) W' ∧ ChKp B1 B2 W W') ∨ (e = .returned (.bool false) ∧ Jx (pre ++ [x]) W'))
    (W : World) (hJ : AbidesFrom W.heap.size J) (h1 : W.cell? ⟨B1, 0, none⟩ = some (.slice A (cnt * bl) c)) (h2 : W.cell? ⟨B2, 0, none⟩ = some (.int .i64 bl)) (h0 : J [] W) :
    CallsIn F n Tryz.prog 194 #[.func (.yield l) #[] #[], .pointer (some ⟨B1, 0, none⟩), .pointer (some ⟨B2, 0, none⟩)] W fun e W' => (∃ v, e = .returned v) ∧
      ((∃ xs, xs = List.finRange cnt ∧ J xs W') ∨ (∃ pre, True ∧ Jx pre W')) := by
 refine callsIn_of_wp Tryz.func194 rfl hf ?_ hro
 simp only [Tryz.ntmps194, List.size_toArray, List.length_cons, List.length_nil, Nat.reduceAdd, Nat.reduceSub, Array.replicate_succ, Array.replicate_zero, List.push_toArray, List.append_toArray, List.nil_append, List.cons_append]
 gi_wp2
 gi_loopw [4] (fun i wr => ∃ k : Nat, k <= cnt ∧ i = .int .i64 ((k * bl : Nat) : Int) ∧ J ((List.finRange cnt).take k) wr ∧ ChKp B1 B2 W wr) (fun i _ => cnt * bl - (intOf i).toNat)
 case atStart => exact ⟨0, Nat.zero_le _, by simp, by simpa using h0, fun _ h => h, fun _ h => h⟩
 case round =>
  obtain ⟨k, hk, rfl, hJs, hkp⟩ := hrel
  have g1 := hkp.1 _ h1
  have g2 := hkp.2 _ h2
  by_cases hlt : k < cnt
  · have hle : k * bl + bl <= cnt * bl := by
     have := Nat.mul_le_mul_right bl (show k + 1 <= cnt from hlt)
     rw [Nat.succ_mul] at this
     exact this
    have hs1 := run_from_u8 A (cnt * bl) c (k * bl) (by omega)
    have hs2 := run_chunk_u8 A (cnt * bl) c (k * bl) bl (by omega) hbl
    have hJd : J ((List.finRange cnt).take k) wr.drew := hJ _ wr wr.drew none hJs ⟨rfl, rfl, rfl, Nat.le_refl _, fun _ _ _ => rfl⟩ (fun r e => by cases e)
    obtain ⟨fn, tmps, assign, body, hy, hR⟩ := hY _ ⟨k, hlt⟩ wr.drew hJd (by simp; omega)
    unfold chV at hy
    dsimp only at hy
    obtain ⟨AK, hAK⟩ : ∃ AK, A.map (·.add (k * bl)) = AK := ⟨_, rfl⟩
    rw [hAK] at hs2 hy
    have hw1 : IntKind.i64.wrap (((k * bl : Nat) : Int) + bl) = ((k * bl : Nat) : Int) + bl := by rw [IntKind.wrap_i64]; omega
    have hmin : ¬ (((cnt * bl - k * bl : Nat) : Int) < bl) := by omega
    have hi0 : ((k * bl : Nat) : Int) < ((cnt * bl : Nat) : Int) := by omega
    have hnext : ((k * bl : Nat) : Int) + bl = (((k + 1) * bl : Nat) : Int) := by rw [Nat.succ_mul]; omega
    have HNX := Lib.hid hnext
    have HFT := Lib.hid (fin_take_succ cnt k hlt)
    have HLE := Lib.hid hle
    have HKP := Lib.hid hkp
    have HLT := Lib.hid hlt
    clear hAK hJd hnext hle hkp
    obtain ⟨A1, hA1⟩ : ∃ A1, (if c = k * bl then A else A.map (·.add (k * bl * 1))) = A1 := ⟨_, rfl⟩
    rw [hA1] at hs1
    clear hA1
    generalize k * bl = i0 at *
    generalize cnt * bl = tot at *
    gi_wp2
    gi_region
    all_goals
     gi_wp2
     refine hR.mono ?_
     rintro e W3 (⟨rfl, hJ3, hk3⟩ | ⟨rfl, hJx3⟩)
     · have g1' : W3.cell? ⟨B1, 0, none⟩ = some (.slice A tot c) := hk3.1 _ g1
       have g2' : W3.cell? ⟨B2, 0, none⟩ = some (.int .i64 bl) := hk3.2 _ g2
       have HK3 : Hid (ChKp B1 B2 W W3) := ⟨fun v hv => hk3.1 v (HKP.out.1 v hv), fun v hv => hk3.2 v (HKP.out.2 v hv)⟩
       have HJ3 := Lib.hid hJ3
       clear hk3 hJ3
       gi_wp2
       go_roundw
       case rel => exact ⟨k + 1, HLT.out, by rw [HNX.out], by rw [HFT.out]; exact HJ3.out, HK3.out⟩
       case measure => have := HLE.out; simp [intOf]; omega
     · gi_wp2
       refine bodyPost_ret (results_none rfl _ _ _) rfl ?_
       exact ⟨⟨_, rfl⟩, .inr ⟨_, True.intro, hJx3⟩⟩
  · obtain rfl : k = cnt := by omega
    gi_wp2
    go_end0
    rw [List.take_of_length_le (by simp)] at hJs
    exact ⟨⟨_, rfl⟩, .inl ⟨_, rfl, hJs⟩⟩
theorem chunk_in (F : Fence) (n : Nat) (hf : F.fn 157) (hro : F.round = none) (A : Option Addr) (len cap bl : Nat) (hbl : 1 <= bl) (w : World) :
    CallsIn F n Tryz.prog 157 #[.slice A len cap, .int .i64 bl] w fun e w' => e = .returned (.func (.func 194) #[] #[.pointer (some ⟨w.heap.size, 0, none⟩), .pointer (some ⟨w.heap.size + 1, 0, none⟩)]) ∧
      w' = (w.alloc (.cells #[.slice A len cap] 36)).alloc (.cells #[.int .i64 bl] 3) := by
 refine callsIn_of_wp Tryz.func157 rfl hf ?_ hro
 simp only [Tryz.ntmps157, List.size_toArray, List.length_cons, List.length_nil, Nat.reduceAdd, Nat.reduceSub, Array.replicate_succ, Array.replicate_zero, List.push_toArray, List.append_toArray, List.nil_append, List.cons_append]
 have h1 : ¬ (bl : Int) < 1 := by omega
 gi_wp2
 go_ret
 exact ⟨rfl, rfl⟩
theorem chunk_stops (F : Fence) (n : Nat) (hf : F.fn 194) (hro : F.round = none) (hn : 1 <= n) (B1 B2 : Nat) (A : Option Addr) (bl cnt c : Nat) (hbl : 1 <= bl) (hb2 : bl <= 65536) (hcnt : cnt * bl <= 100000000) (hc : cnt * bl <= c) (w : World)
    (h1 : w.cell? ⟨B1, 0, none⟩ = some (.slice A (cnt * bl) c)) (h2 : w.cell? ⟨B2, 0, none⟩ = some (.int .i64 bl)) :
    SeqStopsK F n Tryz.prog 194 #[.pointer (some ⟨B1, 0, none⟩), .pointer (some ⟨B2, 0, none⟩)] (fun x : Fin cnt => #[chV A bl x.1]) (ChKp B1 B2) (fun xs => xs = List.finRange cnt) (fun _ => True) cnt w := fun l J Jx W hW hJ _ hY h0 =>
 chunk1_in F n hf hro hn l B1 B2 A bl cnt c hbl hb2 hcnt hc J Jx hY W hJ (below_keep hW h1) (below_keep hW h2) h0
end Go.Proofs.YtfabgbmbnmbjkaaGreatDoor

/- Pruned. -/
namespace Go.Proofs.YtfabgbmbnmbjkaaGreatDoor
open Go.RowKit Go.Shelf
set_option maxRecDepth 20000
attribute [local go_sem] Oper.semAt_some
theorem wpList_append_runz {P : Program} {w w' : World} {ops : Array Oper} {rest : List Oper} {o : Oper} {a : Act} {Q : Exit -> Act -> World -> Prop} (hgd : o.guard = none) (s x : Operand) (t : TypeId)
    (ho : o.op = .call { callee := .builtin .append, args := #[s, x], argTypes := #[t, t] }) {v vx v' : Value} (hs : a.eval s = v) (hx : a.eval x = vx)
    (hrun : (Builtin.append_ #[t, t] o.type #[v, vx]).run P w = .ok v' w') (h : wpList P ops Q rest (a.put o.dst v') w') : wpList P ops Q (o :: rest) a w :=
 wpList_plain hgd fun _ hK => by
  unfold Oper.wp execOp
  simp only [ho, resolve, invoke, builtin, Sem.run_bind, Sem.run_pure, Result.andThen_ok, List.map_toArray, List.map_cons, List.map_nil, hs, hx, hrun]
  exact hK _ _ h
theorem stepIn_append_run {F : Fence} {n : Nat} {P : Program} {w w' : World} {ops : Array Oper} {o : Oper} {a : Act} {K : Act -> World -> Prop} {Q : Exit -> Act -> World -> Prop} {E : Prop} (hgd : o.guard = none) (s x : Operand) (t : TypeId)
    (ho : o.op = .call { callee := .builtin .append, args := #[s, x], argTypes := #[t, t] }) {v vx v' : Value} (hs : a.eval s = v) (hx : a.eval x = vx)
    (hrun : (Builtin.append_ #[t, t] o.type #[v, vx]).run P w = .ok v' w') (h : K (a.put o.dst v') w') : if Region.wanted o (yielded ops a.tmps) = true then Oper.wpIn F n P o a w K Q else E := by
 have hw : Region.wanted o (yielded ops a.tmps) = true := by simp [Region.wanted, hgd]
 rw [if_pos hw]
 unfold Oper.wpIn
 refine ⟨by simp [Oper.about, ho, resolve, Target.leads, Sem.run_pure], ?_⟩
 rw [Oper.semAt_plain F _ _ (by rw [ho]; intro c hc'; cases hc')]
 simp [execOp, ho, resolve, invoke, builtin, hs, hx, hrun, Result.andThen]
 exact h
def DataB (w : World) (A : Option Addr) (b : List Int) : Prop := ∃ g cs, A = some ⟨g, 0, none⟩ ∧ Blk w g 5 cs ∧ ∀ j, j < b.length -> cs[j]? = some (.int .u8 (b.getD j 0))
def BlocksB (w : World) (A : Option Addr) (bs : List (List Int)) : Prop := 0 < bs.length -> ∃ g cs, A = some ⟨g, 0, none⟩ ∧ Blk w g 36 cs ∧ ∀ j, j < bs.length -> ∃ Aj cj, cs[j]? = some (.slice Aj (bs.getD j []).length cj) ∧ DataB w Aj (bs.getD j [])
def Tk (w w' : World) : Prop := ∀ g cs, (Blk w g 5 cs -> Blk w' g 5 cs) ∧ (Blk w g 36 cs -> Blk w' g 36 cs)
theorem Tk.below {w w' : World} (h : Below w.heap.size w w') : Tk w w' := fun _ _ => ⟨fun hb => hb.below h hb.lt, fun hb => hb.below h hb.lt⟩
theorem Tk.trans {a b c : World} (h : Tk a b) (k : Tk b c) : Tk a c := fun g cs => ⟨fun hb => (k g cs).1 ((h g cs).1 hb), fun hb => (k g cs).2 ((h g cs).2 hb)⟩
theorem DataB.tk {w w' : World} {A : Option Addr} {b : List Int} (h : DataB w A b) (k : Tk w w') : DataB w' A b := by
 obtain ⟨g, cs, e, hb, hc⟩ := h
 exact ⟨g, cs, e, (k g cs).1 hb, hc⟩
theorem BlocksB.tk {w w' : World} {A : Option Addr} {bs : List (List Int)} (h : BlocksB w A bs) (k : Tk w w') : BlocksB w' A bs := fun h0 => by
 obtain ⟨g, cs, e, hb, hc⟩ := h h0
 refine ⟨g, cs, e, (k g cs).2 hb, fun j hj => ?_⟩
 obtain ⟨Aj, cj, e1, h1⟩ := hc j hj
 exact ⟨Aj, cj, e1, h1.tk k⟩
structure Zq where
  a : Option Addr
  c : Nat
def zq0 : Zq := ⟨none, 0⟩
def zqC (q : Zq) (p : Part) : List Value := [.slice q.a p.bs.length q.c, .int .i64 p.du]
def zqCs (Q : List Zq) (P : List Part) : List Value := (Q.zip P).flatMap (fun x => zqC x.1 x.2)
def ZRow (w : World) (base : Nat) (A : Option Addr) (c : Nat) (Q : List Zq) (P : List Part) : Prop := w.ownsRow base 167 2 (.slice A P.length c) P.length (zqCs Q P)
structure ZOut (w W : World) (P : List Part) (k : Nat) (A : Option Addr) (c : Nat) (Q : List Zq) : Prop where
  row : ZRow W w.heap.size A c Q (P.take k)
  len : Q.length = k
  bl : ∀ j, j < k -> BlocksB W (Q.getD j zq0).a (P.getD j pt0).bs
  low : Below w.heap.size w W
def DsOk (w W : World) (ds : List Deferred) : Prop := ∃ rs : List Nat, ds = rs.map (fun r => ({ target := .collected r, args := #[] } : Deferred)) ∧ rs.Nodup ∧ ∀ r ∈ rs, w.heap.size <= r ∧ W.heap[r]? = some (.deferred (some []))
structure ZIn (wr W : World) (n1 bz B1 : Nat) (du : Int) (sv : Value) (bl : Nat) (C : List (List Int)) : Prop where
  is : ∃ (A : Option Addr) (c : Nat) (O : List (Option Addr × Nat)), O.length = C.length ∧ Blk W bz 167 #[.slice A C.length c, .int .i64 du] ∧
    W.ownsRow n1 36 1 (.slice A C.length c) C.length (O.map fun q => Value.slice q.1 bl q.2) ∧ ∀ j, j < C.length -> BRow W n1 (O.getD j (none, 0)).1 (O.getD j (none, 0)).2 (C.getD j []) ∧ (C.getD j []).length = bl
  low : Below wr.heap.size wr W
  sz : n1 <= W.heap.size
  b1 : W.cell? ⟨B1, 0, none⟩ = some sv
  b2 : W.cell? ⟨B1 + 1, 0, none⟩ = some (.int .i64 bl)
theorem grown_cells {W W' : World} {row : Option Nat} (hg : W.grownBy W' row) (hr : ∀ r, row = some r -> ∃ o : Obj, W.heap[r]? = some o ∧ o.isCells = false) {g : Nat} {cs : Array Value} {t : TypeId} {f : Nat × Nat} (h : W.heap[g]? = some (.cells cs t f)) : W'.heap[g]? = some (.cells cs t f) := by
 refine (hg.block g (Array.getElem?_eq_some_iff.1 h).1 (fun e => ?_)).trans h
 obtain ⟨o, ho, hc⟩ := hr g e.symm
 rw [h] at ho
 obtain rfl := Option.some.inj ho
 cases hc
theorem grown_own {W W' : World} {row : Option Nat} (hg : W.grownBy W' row) (hr : ∀ r, row = some r -> ∃ o : Obj, W.heap[r]? = some o ∧ o.isCells = false) {base : Nat} {e : TypeId} {size n : Nat} {v : Value} {xs : List Value} (h : W.ownsRow base e size v n xs) : W'.ownsRow base e size v n xs := by
 refine ⟨h.1, ?_⟩
 rcases h.2 with hn | ⟨g, cap, cur, hv, hb, hh, rest⟩
 · exact .inl hn
 · exact .inr ⟨g, cap, cur, hv, hb, grown_cells hg hr hh, rest⟩
theorem ZIn.grown {wr W W' : World} {n1 bz B1 : Nat} {du : Int} {sv : Value} {bl : Nat} {C : List (List Int)} {row : Option Nat} (h : ZIn wr W n1 bz B1 du sv bl C) (hg : W.grownBy W' row) (hr : ∀ r, row = some r -> wr.heap.size <= r ∧ ∃ o : Obj, W.heap[r]? = some o ∧ o.isCells = false) : ZIn wr W' n1 bz B1 du sv bl C := by
 have hr' : ∀ r, row = some r -> ∃ o : Obj, W.heap[r]? = some o ∧ o.isCells = false := fun r e => (hr r e).2
 obtain ⟨A, c, O, h1, h2, h3, h4⟩ := h.is
 exact ⟨⟨A, c, O, h1, grown_cells hg hr' h2, grown_own hg hr' h3, fun j hj => ⟨grown_own hg hr' (h4 j hj).1, (h4 j hj).2⟩⟩, h.low.grown hg h.low.size (fun k e => (hr k e).1), Nat.le_trans h.sz hg.size, cell_kept h.b1 hg hr', cell_kept h.b2 hg hr'⟩
theorem DevV.chunk {X : Nat -> Prop} {w : World} {d p : Nat} {V : Nat -> Value} {cs : Array Value} {s : Sh} {P : List Part} (hv : DevV X w d p V cs s P) {z : Nat} (hz : z < P.length) {A0 : Option Addr} {c0 : Nat} (hA0 : V z = .slice A0 (P.getD z pt0).by.length c0) {k : Nat} (hk : k < (P.getD z pt0).bs.length) :
    Reads w w.heap.size 1 (A0.map (·.add (k * s.bl))) s.bl (nums .u8 ((P.getD z pt0).bs.getD k [])) := by
 have hfit := hv.fit z hz
 have hcut := flatten_cut k hfit.len hk
 have hby := hfit.bylen
 have hblm := hv.ok.blk
 have hin : (k + 1) * s.bl <= (P.getD z pt0).by.length := by rw [hby]; exact Nat.mul_le_mul_right _ hk
 have hon := hv.own z hz
 rw [hA0] at hon
 have hnc : (P.getD z pt0).by.length <= c0 := by
  rcases hon.2 with ⟨_, h0⟩ | ⟨g, cap, cur, hv2, _, _, hnc, _⟩
  · rw [h0, Nat.add_mul] at hin; omega
  · injection hv2 with _ _ h3; omega
 have hrd : Reads w w.heap.size 1 A0 (P.getD z pt0).by.length (nums .u8 (P.getD z pt0).by) := Reads.of_own hon
 have h1 := hrd.cut (k := k * s.bl) (cap := c0) (by rw [Nat.add_mul] at hin; omega) hnc
 simp only [Nat.mul_one] at h1
 have h2 := h1.take_ (m := s.bl) (by rw [Nat.add_mul] at hin; omega)
 rw [Nat.mul_one, nums_drop, nums_take, if_neg (by rw [Nat.add_mul] at hin; omega)] at h2
 rw [<- hcut]
 exact h2
theorem DevV.cap {X : Nat -> Prop} {w : World} {d p : Nat} {V : Nat -> Value} {cs : Array Value} {s : Sh} {P : List Part} (hv : DevV X w d p V cs s P) {z : Nat} (hz : z < P.length) {A0 : Option Addr} {c0 : Nat} (hA0 : V z = .slice A0 (P.getD z pt0).by.length c0) : (P.getD z pt0).by.length <= c0 := by
 have hon := hv.own z hz
 rw [hA0] at hon
 rcases hon.2 with ⟨_, h0⟩ | ⟨g, cap, cur, hv2, _, _, hnc, _⟩
 · omega
 · injection hv2 with _ _ h3; omega
theorem addz (g j : Nat) : (⟨g, 0, none⟩ : Addr).add j = ⟨g, j, none⟩ := by unfold Addr.add; split <;> simp_all
theorem sl_info : (Tryz.prog.info? 36).map (fun i => (i.zero, i.size, i.bytes)) = some (some (.slice none 0 0), 1, 24) := by kernel_rfl
theorem getD_snoc {α : Type} (l : List α) (x d : α) (j : Nat) (h : j < l.length + 1) : (l ++ [x]).getD j d = if j < l.length then l.getD j d else x := by
 rw [List.getD_eq_getElem?_getD, List.getD_eq_getElem?_getD]
 split
 · rename_i hj
   rw [List.getElem?_append_left hj]
 · have : j = l.length := by omega
   subst this
   simp
theorem zin_step {wr W w5 : World} {n1 bz B1 B : Nat} {du : Int} {sv : Value} {bl : Nat} {C : List (List Int)} {A : Option Addr} {c : Nat} {O : List (Option Addr × Nat)} (hO : O.length = C.length) (hbz : Blk W bz 167 #[.slice A C.length c, .int .i64 du])
    (hrow : W.ownsRow n1 36 1 (.slice A C.length c) C.length (O.map fun q => Value.slice q.1 bl q.2)) (hbr : ∀ j, j < C.length -> BRow W n1 (O.getD j (none, 0)).1 (O.getD j (none, 0)).2 (C.getD j []) ∧ (C.getD j []).length = bl)
    (low : Below wr.heap.size wr W) (hsz : n1 <= W.heap.size) (b1 : W.cell? ⟨B1, 0, none⟩ = some sv) (b2 : W.cell? ⟨B1 + 1, 0, none⟩ = some (.int .i64 bl)) {A5 : Option Addr} {c5 : Nat} {b : List Int} (hb : BRow w5 W.heap.size A5 c5 b) (hbl : b.length = bl) (h5 : Below W.heap.size W w5)
    (hC : C.length <= 100000) (hz : wr.heap.size <= bz) (hlt : bz < B1 ∧ B1 + 1 < n1) (_hwn : wr.heap.size <= n1) :
    ∃ A7 c7 w7, (Builtin.append_ #[51, 51] 51 #[.slice A C.length c, .slice (some ⟨w5.heap.size, 0, none⟩) 1 1]).run Tryz.prog (w5.alloc (.cells #[.slice A5 bl c5] 36)) = .ok (.slice A7 (C.length + 1) c7) w7 ∧
      w7.cell? ⟨bz, 0, none⟩ = some (.slice A C.length c) ∧ (∀ i, w7.frozen? ⟨bz, i, none⟩ = false) ∧
      ZIn wr (w7.setCell ⟨bz, 0, none⟩ (.slice A7 (C.length + 1) c7)) n1 bz B1 du sv bl (C ++ [b]) ∧ ChKp B1 (B1 + 1) W (w7.setCell ⟨bz, 0, none⟩ (.slice A7 (C.length + 1) c7)) ∧ KeepsFrom B W (w7.setCell ⟨bz, 0, none⟩ (.slice A7 (C.length + 1) c7)) := by
 obtain ⟨i0, hi0, hz0, hz1, hz2⟩ := info_parts sl_info
 have h6 : Below W.heap.size W (w5.alloc (.cells #[.slice A5 bl c5] 36)) := h5.alloc h5.size _
 have hsrc := Blk.new w5 36 #[.slice A5 bl c5]
 have hr : Reads (w5.alloc (.cells #[.slice A5 bl c5] 36)) (w5.alloc (.cells #[.slice A5 bl c5] 36)).heap.size 1 (some ⟨w5.heap.size, 0, none⟩) 1 [.slice A5 bl c5] := ⟨rfl, fun _ => ⟨_, rfl, hsrc.lt, fun j v hj => by
  rw [addz, hsrc.cell, List.getElem?_toArray]
  exact hj⟩⟩
 have hown6 := ownsRow_of_block hrow (fun g he => h6.block g (World.ownsRow.lt hrow g he).2)
 obtain ⟨v', w7, hrun, hown7, hg, hor⟩ := run_append_any (P := Tryz.prog) (w := w5.alloc (.cells #[.slice A5 bl c5] 36)) n1 51 51 36 i0 _ 1 24 Tryz.underlying51 hi0 hz0 hz1 hz2 rfl (by omega) (.slice A C.length c) C.length _ hown6 _ _ 1 1 [.slice A5 bl c5] hr (fun v hv => by
  obtain rfl := List.mem_singleton.1 hv
  rfl) (by simp only [maxLen]; omega) (by omega) (Nat.le_trans hsz h6.size)
 obtain ⟨A7, c7, rfl⟩ := own_form hown7
 have k67 : Kp (fun g => (Value.slice A C.length c).ownBlock = some g) (w5.alloc (.cells #[.slice A5 bl c5] 36)) w7 := ⟨hg.os, hg.tape, hg.output, hg.size, fun g hg' hn => hg.block g hg' (fun e => hn e.symm)⟩
 have hol : ∀ g, (Value.slice A C.length c).ownBlock = some g -> n1 <= g ∧ g < W.heap.size := fun g he => World.ownsRow.lt hrow g he
 have kW7 : Kp (fun g => (Value.slice A C.length c).ownBlock = some g) W w7 := (Kp.of_below h6).trans k67 (fun _ _ h => h)
 have hbz7 : Blk w7 bz 167 #[.slice A C.length c, .int .i64 du] := kW7.blk hbz (fun e => by have := hol bz e; omega)
 have kW8 : Kp (fun g => (Value.slice A C.length c).ownBlock = some g ∨ g = bz) W (w7.setCell ⟨bz, 0, none⟩ (.slice A7 (C.length + 1) c7)) := (kW7.mono (fun _ _ h => .inl h)).setCell (p := ⟨bz, 0, none⟩) (.inl (.inr rfl)) _
 have cellk : ∀ q v, (q = B1 ∨ q = B1 + 1) -> W.cell? ⟨q, 0, none⟩ = some v -> (w7.setCell ⟨bz, 0, none⟩ (.slice A7 (C.length + 1) c7)).cell? ⟨q, 0, none⟩ = some v := fun q v hq hv =>
  kW8.cell hv (fun e => by
   rcases e with e | e
   · have := hol q e; omega
   · have : q = bz := e
     omega)
 refine ⟨A7, c7, w7, hrun, hbz7.cell 0, fun i => hbz7.frozen i, ⟨⟨A7, c7, O ++ [(A5, c5)], by simp [hO], ?_, ?_, fun j hj => ?_⟩, ?_, ?_, cellk _ _ (.inl rfl) b1, cellk _ _ (.inr rfl) b2⟩, ⟨fun v => cellk _ v (.inl rfl), fun v => cellk _ v (.inr rfl)⟩, ⟨kW8.size, fun k o _ hk ho => ?_⟩⟩
 · have := hbz7.set_ 0 (.slice A7 (C.length + 1) c7)
   rw [List.length_append]
   simpa using this
 · have h8 := ownsRow_of_block (w' := w7.setCell ⟨bz, 0, none⟩ (.slice A7 (C.length + 1) c7)) hown7 (fun g he => Below.heap_setCell w7 _ _ g (fun e => by
    have e' : g = bz := e
    have := (World.ownsRow.lt hown7 g he).1
    omega))
   rw [List.length_append, List.map_append]
   exact h8
 · rw [List.length_append] at hj
   rw [getD_snoc _ _ _ _ (by simp at hj; omega), getD_snoc _ _ _ _ (by simp at hj; omega), hO]
   split
   · rename_i hj'
     obtain ⟨h1, h2⟩ := hbr j hj'
     refine ⟨h1.kp kW8 (fun g he e => ?_), h2⟩
     rcases e with e | e
     · have h3 : w5.heap.size = w5.heap.size := rfl
       rcases hrow.2 with ⟨hn, _⟩ | ⟨g', cap, cur, hv, _, hh, _⟩
       · rw [hn] at e; cases e
       · rw [hv] at e
         obtain rfl := Option.some.inj e
         rcases h1.2 with ⟨hn, _⟩ | ⟨g2, cap2, cur2, hv2, _, hh2, _⟩
         · rw [hn] at he; cases he
         · rw [hv2] at he
           obtain rfl := Option.some.inj he
           rw [hh] at hh2
           cases hh2
     · have := (h1.lt he).1
       omega
   · refine ⟨?_, hbl⟩
     have h7 : BRow w7 W.heap.size A5 c5 b := (hb.alloc (.cells #[.slice A5 bl c5] 36)).kp k67 (fun g he e => by have := (hb.lt he).1; have := hol g e; omega)
     exact (h7.of_block (w' := w7.setCell ⟨bz, 0, none⟩ (.slice A7 (C.length + 1) c7)) (fun g he => Below.heap_setCell w7 _ _ g (fun e => by
      have e' : g = bz := e
      have := (h7.lt he).1
      omega))).rebase (fun g he => by have := (h7.lt (b := g) he).1; omega)
 · exact Kp.below low kW8 low.size (fun g hg' e => by
    rcases e with e | e
    · have := hol g e; omega
    · omega)
 · exact Nat.le_trans hsz kW8.size
 · refine (kW8.block k (Array.getElem?_eq_some_iff.1 hk).1 (fun e => ?_)).trans hk
   rcases e with e | e
   · rcases hrow.2 with ⟨hn, _⟩ | ⟨g', cap, cur, hv, _, hh, _⟩
     · rw [hn] at e; cases e
     · rw [hv] at e
       obtain rfl := Option.some.inj e
       rw [hh] at hk
       obtain rfl := Option.some.inj hk
       cases ho
   · have e' : k = bz := e
     subst e'
     have hh : W.heap[k]? = some (.cells _ _ (0, 0)) := hbz
     rw [hh] at hk
     obtain rfl := Option.some.inj hk
     cases ho
theorem own_blkz {W : World} {base : Nat} {e : TypeId} {size n c : Nat} {A : Option Addr} {xs : List Value} (h : W.ownsRow base e size (.slice A n c) n xs) (h0 : 0 < n) : ∃ g cs, A = some ⟨g, 0, none⟩ ∧ base <= g ∧ Blk W g e cs ∧ ∀ j, j < n * size -> cs[j]? = xs[j]? := by
 rcases h.2 with ⟨hn, h1⟩ | ⟨g, cap, cur, hv, hb, hh, _⟩
 · omega
 · injection hv with e1
   subst e1
   have hB : Blk W g e cur := hh
   refine ⟨g, cur, rfl, hb, hB, fun j hj => ?_⟩
   rw [<- hB.cell j]
   exact World.ownsRow.cellAt h j hj
theorem ZIn.blocks {wr W : World} {n1 bz B1 : Nat} {du : Int} {sv : Value} {bl : Nat} {C : List (List Int)} (h : ZIn wr W n1 bz B1 du sv bl C) (hbl : 0 < bl) : ∃ A c, Blk W bz 167 #[.slice A C.length c, .int .i64 du] ∧ BlocksB W A C := by
 obtain ⟨A, c, O, hO, hz, hrow, hbr⟩ := h.is
 refine ⟨A, c, hz, fun h0 => ?_⟩
 obtain ⟨g, cs, e, _, hB, hc⟩ := own_blkz hrow h0
 refine ⟨g, cs, e, hB, fun j hj => ?_⟩
 obtain ⟨h1, h2⟩ := hbr j hj
 refine ⟨(O.getD j (none, 0)).1, (O.getD j (none, 0)).2, ?_, ?_⟩
 · rw [hc j (by omega), h2, List.getElem?_map, List.getElem?_eq_getElem (by omega), List.getD_eq_getElem?_getD, List.getElem?_eq_getElem (by omega)]
   rfl
 · obtain ⟨g2, cs2, e2, _, hB2, hc2⟩ := own_blkz h1 (by omega)
   exact ⟨g2, cs2, e2, hB2, fun i hi => by rw [hc2 i (by omega), nums_get .u8 _ i hi]⟩
theorem zone_info : (Tryz.prog.info? 167).map (fun i => (i.zero, i.size, i.bytes)) = some (some (.agg #[.slice none 0 0, .int .i64 0]), 2, 32) := by kernel_rfl
theorem zqCs_snoc (Q : List Zq) (q : Zq) (P : List Part) (p : Part) (h : Q.length = P.length) : zqCs (Q ++ [q]) (P ++ [p]) = zqCs Q P ++ zqC q p := by
 unfold zqCs
 rw [List.zip_append h, List.flatMap_append]
 simp
theorem zout_step {w wr W : World} {P : List Part} {k : Nat} {A : Option Addr} {c : Nat} {Q : List Zq} (h : ZOut w wr P k A c Q) (hk : k < P.length) (hP : P.length <= 256) (hlow : Below wr.heap.size wr W) {A9 : Option Addr} {c9 : Nat} (hb : BlocksB W A9 (P.getD k pt0).bs) :
    ∃ A7 c7 w8, (Builtin.append_ #[134, 134] 134 #[.slice A k c, .slice (some ⟨W.heap.size, 0, none⟩) 1 1]).run Tryz.prog (W.alloc (.cells #[.slice A9 (P.getD k pt0).bs.length c9, .int .i64 (P.getD k pt0).du] 167)) = .ok (.slice A7 (k + 1) c7) w8 ∧
      ZOut w w8 P (k + 1) A7 c7 (Q ++ [⟨A9, c9⟩]) ∧ ∀ (r : Nat) (o : Obj), W.heap[r]? = some o -> o.isCells = false -> w8.heap[r]? = some o := by
 obtain ⟨i0, hi0, hz0, hz1, hz2⟩ := info_parts zone_info
 have hln : (P.take k).length = k := by rw [List.length_take]; omega
 have h6 : Below wr.heap.size wr (W.alloc (.cells #[.slice A9 (P.getD k pt0).bs.length c9, .int .i64 (P.getD k pt0).du] 167)) := hlow.alloc hlow.size _
 have hsrc := Blk.new W 167 #[.slice A9 (P.getD k pt0).bs.length c9, .int .i64 (P.getD k pt0).du]
 have hr : Reads (W.alloc (.cells #[.slice A9 (P.getD k pt0).bs.length c9, .int .i64 (P.getD k pt0).du] 167)) (W.alloc (.cells #[.slice A9 (P.getD k pt0).bs.length c9, .int .i64 (P.getD k pt0).du] 167)).heap.size 2 (some ⟨W.heap.size, 0, none⟩) 1 (zqC ⟨A9, c9⟩ (P.getD k pt0)) := ⟨rfl, fun _ => ⟨_, rfl, hsrc.lt, fun j v hj => by
  rw [addz, hsrc.cell, List.getElem?_toArray]
  exact hj⟩⟩
 have hrow := h.row
 unfold ZRow at hrow
 rw [hln] at hrow
 have hown6 := ownsRow_of_block hrow (fun g he => h6.block g (World.ownsRow.lt hrow g he).2)
 obtain ⟨v', w8, hrun, hown8, hg, hor⟩ := run_append_any (P := Tryz.prog) (w := W.alloc (.cells #[.slice A9 (P.getD k pt0).bs.length c9, .int .i64 (P.getD k pt0).du] 167)) w.heap.size 134 134 167 i0 _ 2 32 Tryz.underlying134 hi0 hz0 hz1 hz2 rfl (by omega) (.slice A k c) k _ hown6 _ _ 1 1 _ hr (fun v hv => by
  unfold zqC at hv
  simp only [List.mem_cons, List.not_mem_nil, or_false] at hv
  rcases hv with rfl | rfl <;> rfl) (by simp only [maxLen]; omega) (by omega) (by have h1 := h.low.size; have h2 := h6.size; omega)
 obtain ⟨A7, c7, rfl⟩ := own_form hown8
 have k68 : Kp (fun g => (Value.slice A k c).ownBlock = some g) (W.alloc (.cells #[.slice A9 (P.getD k pt0).bs.length c9, .int .i64 (P.getD k pt0).du] 167)) w8 := ⟨hg.os, hg.tape, hg.output, hg.size, fun g hg' hn => hg.block g hg' (fun e => hn e.symm)⟩
 have hW6 : Below W.heap.size W (W.alloc (.cells #[.slice A9 (P.getD k pt0).bs.length c9, .int .i64 (P.getD k pt0).du] 167)) := (Below.refl _ _).alloc (Nat.le_refl _) _
 have kW8 : Kp (fun g => (Value.slice A k c).ownBlock = some g) W w8 := (Kp.of_below hW6).trans k68 (fun _ _ h => h)
 have hol : ∀ g, (Value.slice A k c).ownBlock = some g -> w.heap.size <= g ∧ ∃ cur, W.heap[g]? = some (.cells cur 167 (0, 0)) := fun g he => by
  refine ⟨(World.ownsRow.lt hrow g he).1, ?_⟩
  have hlt := (World.ownsRow.lt hrow g he).2
  rcases hrow.2 with ⟨hn, _⟩ | ⟨g', cap, cur, hv, _, hh, _⟩
  · rw [hn] at he; cases he
  · rw [hv] at he
    obtain rfl := Option.some.inj he
    exact ⟨cur, (hlow.block g' hlt).trans hh⟩
 have hTk : Tk W w8 := fun g cs => ⟨fun hb' => kW8.blk hb' (fun e => by
     obtain ⟨_, cur, hc⟩ := hol g e
     have hb2 : W.heap[g]? = some (.cells cs 5 (0, 0)) := hb'
     rw [hc] at hb2
     cases hb2), fun hb' => kW8.blk hb' (fun e => by
     obtain ⟨_, cur, hc⟩ := hol g e
     have hb2 : W.heap[g]? = some (.cells cs 36 (0, 0)) := hb'
     rw [hc] at hb2
     cases hb2)⟩
 have htk : P.take (k + 1) = P.take k ++ [P.getD k pt0] := by
  rw [List.take_succ_eq_append_getElem hk, List.getD_eq_getElem?_getD, List.getElem?_eq_getElem hk]
  rfl
 refine ⟨A7, c7, w8, hrun, ⟨?_, by simp [h.len], fun j hj => ?_, Kp.below (h.low.trans (hlow.mono h.low.size)) kW8 (Nat.le_trans h.low.size hlow.size) (fun g hg' e => by have := (hol g e).1; omega)⟩, fun r o hr' ho => ?_⟩
 · unfold ZRow
   rw [htk, zqCs_snoc _ _ _ _ (by rw [h.len, hln]), List.length_append, hln]
   exact hown8
 · rw [getD_snoc _ _ _ _ (by rw [h.len]; exact hj), h.len]
   split
   · rename_i hj'
     exact ((h.bl j hj').tk (Tk.below hlow)).tk hTk
   · have : j = k := by omega
     subst this
     exact hb.tk hTk
 · refine (kW8.block r (Array.getElem?_eq_some_iff.1 hr').1 (fun e => ?_)).trans hr'
   obtain ⟨_, cur, hc⟩ := hol r e
   rw [hc] at hr'
   obtain rfl := Option.some.inj hr'
   cases ho
theorem DsOk.step {w wr W w8 : World} {ds : List Deferred} (h : DsOk w wr ds) (hw : w.heap.size <= wr.heap.size) (hlow : Below wr.heap.size wr W) {D : Nat} (hD : wr.heap.size <= D) (hK : W.heap[D]? = some (.deferred (some []))) (hk : ∀ (r : Nat) (o : Obj), W.heap[r]? = some o -> o.isCells = false -> w8.heap[r]? = some o) :
    DsOk w w8 ({ target := .collected D, args := #[] } :: ds) := by
 obtain ⟨rs, rfl, hn, hr⟩ := h
 have hlt : ∀ r ∈ rs, r < wr.heap.size := fun r hr' => (Array.getElem?_eq_some_iff.1 (hr r hr').2).1
 refine ⟨D :: rs, rfl, List.nodup_cons.2 ⟨fun hm => by have := hlt D hm; omega, hn⟩, fun r hr' => ?_⟩
 rcases List.mem_cons.1 hr' with rfl | hm
 · exact ⟨by omega, hk _ _ hK rfl⟩
 · exact ⟨(hr r hm).1, hk _ _ ((hlow.block r (hlt r hm)).trans (hr r hm).2) rfl⟩
theorem leaves_ds {F : Fence} {n : Nat} {P : Program} {fn : Func} {tmps : Array Value} {R : Ending -> World -> Prop} (rs : List Nat) (W : World) (hn : rs.Nodup) (hr : ∀ r ∈ rs, W.heap[r]? = some (.deferred (some []))) (h : ∀ W', Kp (fun b => b ∈ rs) W W' -> LeavesIn F n P fn tmps R [] .returning W') :
    LeavesInM F n P fn tmps R (rs.map (fun r => ({ target := .collected r, args := #[] } : Deferred))) .returning W := by
 induction rs generalizing W with
 | nil => exact h W (Kp.refl _ _)
 | cons r rs ih =>
   have hn' := List.nodup_cons.1 hn
   have hg := grownBy_putObj' W r (.deferred none)
   refine ⟨by simp, .inl ⟨r, W.putObj r (.deferred none), rfl, run_takeDeferred (hr r (List.mem_cons_self ..)), ih _ hn'.2 (fun q hq => (World.putObj_heap_other (fun e => hn'.1 (by rw [e] at hq; exact hq))).trans (hr q (List.mem_cons_of_mem _ hq))) (fun W' hk => h W' ?_)⟩⟩
   have h1 : Kp (fun b => b ∈ r :: rs) W (W.putObj r (.deferred none)) := ⟨hg.os, hg.tape, hg.output, hg.size, fun b hb hn2 => hg.block b hb (fun e => hn2 (by obtain rfl := Option.some.inj e; exact List.mem_cons_self ..))⟩
   exact h1.trans hk (fun b _ hb => List.mem_cons_of_mem _ hb)
theorem ZOut.turn {w W W' : World} {S : Nat -> Prop} {P : List Part} {k : Nat} {A : Option Addr} {c : Nat} {Q : List Zq} (h : ZOut w W P k A c Q) (hk : Kp S W W') (hs : ∀ b, S b -> w.heap.size <= b ∧ ∃ o : Obj, W.heap[b]? = some o ∧ o.isCells = false) : ZOut w W' P k A c Q := by
 have key : ∀ (g : Nat) (cs : Array Value) (t : TypeId) (f : Nat × Nat), W.heap[g]? = some (.cells cs t f) -> ¬ S g := fun g cs t f hg hS => by
  obtain ⟨_, o, ho, hc⟩ := hs g hS
  rw [hg] at ho
  obtain rfl := Option.some.inj ho
  cases hc
 refine ⟨ownsRow_of_block h.row (fun b he => hk.block b (World.ownsRow.lt h.row b he).2 (fun hS => ?_)), h.len, fun j hj => (h.bl j hj).tk (fun g cs => ⟨fun hb => hk.blk hb (key g cs _ _ hb), fun hb => hk.blk hb (key g cs _ _ hb)⟩), Kp.below h.low hk h.low.size (fun b hb hS => by have := (hs b hS).1; omega)⟩
 rcases h.row.2 with ⟨hn, _⟩ | ⟨g, cap, cur, hv, _, hh, _⟩
 · rw [hn] at he; cases he
 · rw [hv] at he
   obtain rfl := Option.some.inj he
   exact key g cur _ _ hh hS
theorem fin_map (bs : List (List Int)) : (List.finRange bs.length).map (fun x : Fin bs.length => bs.getD x.1 []) = bs := by
 apply List.ext_getElem
 · simp
 · intro i h1 h2
   simp [List.getD_eq_getElem?_getD]
set_option maxHeartbeats 4000000 in
theorem zones_any (X : Nat -> Prop) (w : World) (d : Nat) (s : Sh) (P : List Part) (h : DevIs X w d s P) :
    Calls Tryz.prog 106 #[.pointer (some ⟨d, 0, none⟩)] w (fun e w' => ∃ A c Q, e = .returned (.slice A P.length c) ∧ ZOut w w' P P.length A c Q) := by
 refine (callsIn_wide (n := 3)).1 ?_
 obtain ⟨p, V, cs, hv⟩ := h
 have HV := Lib.hid hv
 have t4 := hv.t4
 have hlen : P.length <= 256 := by have := hv.sz; have := hv.ok.facts; omega
 have h0 : Hid (ZOut w w P 0 none 0 []) := ⟨World.ownsRow_nil _ _ _ _, rfl, fun j hj => by omega, Below.refl _ _⟩
 have hd0 : Hid (DsOk w w []) := ⟨[], rfl, List.nodup_nil, fun r hr => by cases hr⟩
 clear hv
 refine callsIn_of_wp_marks Tryz.func106 rfl trivial ?_ rfl
 simp only [Tryz.ntmps106, List.size_toArray, List.length_cons, List.length_nil, Nat.reduceAdd, Nat.reduceSub, Array.replicate_succ, Array.replicate_zero, List.push_toArray, List.append_toArray, List.nil_append, List.cons_append]
 refine wpIn_wide.2 ?_
 go_wp2
 refine wp_loop (fun a W => ∃ (k : Nat) (A : Option Addr) (c : Nat) (Q : List Zq) (ds : List Deferred) (u5 u6 u7 u13 u14 u15 u16 u17 u18 u19 u20 u21 u22 u23 u24 u25 u26 u27 u28 u29 u30 u31 u32 u33 u34 u35 u36 u37 u38 u39 u40 u41 : Value), k <= P.length ∧ u13 = .int .i64 k ∧ a = { tmps := #[.pointer (some ⟨d, 0, none⟩), undef, .slice none 0 0, .slice A k c, undef, u5, u6, u7, .pointer (some ⟨d, 0, none⟩), .pointer (some ⟨d, 0, none⟩), .pointer (some ⟨d, 4, none⟩), .slice (some ⟨p, 0, none⟩) P.length P.length, .int .i64 P.length, u13, u14, u15, u16, u17, u18, u19, u20, u21, u22, u23, u24, u25, u26, u27, u28, u29, u30, u31, u32, u33, u34, u35, u36, u37, u38, u39, u40, u41], defers := ds } ∧ Hid (ZOut w W P k A c Q ∧ DsOk w W ds)) (fun a _ => P.length - (intOf (a.tmps.getD 13 undef)).toNat) ?start ?round
 case start => exact ⟨0, none, 0, [], [], _, _, _, _, _, _, _, _, _, _, _, _, _, _, _, _, _, _, _, _, _, _, _, _, _, _, _, _, _, _, _, _, Nat.zero_le _, rfl, rfl, h0.out, hd0.out⟩
 case round =>
  intro a wr hinv
  obtain ⟨k, A, c, Q, ds, u5, u6, u7, u13, u14, u15, u16, u17, u18, u19, u20, u21, u22, u23, u24, u25, u26, u27, u28, u29, u30, u31, u32, u33, u34, u35, u36, u37, u38, u39, u40, u41, hk, rfl, rfl, hrel⟩ := hinv
  clear h0 hd0
  by_cases hlt : k < P.length
  · have hvw := HV.out.below (hrel.out.1.low)
    have r0 := hvw.r0 hlt
    have r1 := hvw.r1 hlt
    obtain ⟨A0, c0, hV0⟩ := hvw.vform hlt
    rw [hV0] at r0
    have q2 := hvw.t2
    have hbk := hvw.ok.blk
    have HVW := Lib.hid hvw
    have HV0 := Lib.hid hV0
    have hby := (hvw.fit k hlt).bylen
    have HBY := Lib.hid hby
    have hbm := (hvw.fit k hlt).bymax hvw.ok
    have hcap := hvw.cap hlt hV0
    have HLT := Lib.hid hlt
    have HREL := Lib.hid hrel.out
    clear hvw hV0 hby hrel
    obtain ⟨pt, hpt⟩ : ∃ pt, P.getD k pt0 = pt := ⟨_, rfl⟩
    have HPT := Lib.hid hpt
    rw [hpt] at r0 r1 HBY hbm hcap
    clear hpt
    generalize pt.by.length = tot at *
    have hz1 : ((wr.alloc (.cells #[.slice A0 tot c0, .int .i64 pt.du] 127)).alloc (.cells #[.slice none 0 0, .int .i64 pt.du] 167)).heap.size = wr.heap.size + 2 := by simp
    have hp1 := (Blk.new wr 127 #[.slice A0 tot c0, .int .i64 pt.du]).alloc (.cells #[.slice none 0 0, .int .i64 pt.du] 167)
    have hp2 := Blk.new (wr.alloc (.cells #[.slice A0 tot c0, .int .i64 pt.du] 127)) 167 #[.slice none 0 0, .int .i64 pt.du]
    rw [World.size_alloc] at hp2
    have hbz : Below wr.heap.size wr ((wr.alloc (.cells #[.slice A0 tot c0, .int .i64 pt.du] 127)).alloc (.cells #[.slice none 0 0, .int .i64 pt.du] 167)) := ((Below.refl _ _).alloc (Nat.le_refl _) _).alloc (by simp) _
    have HZ1 := Lib.hid (And.intro hz1 (And.intro hp1 (And.intro hp2 hbz)))
    have HCH := Lib.hid (fun u => callsIn_wide.1 (chunk_in Fence.wide 2 trivial rfl A0 tot c0 s.bl (by omega) u))
    clear hz1 hp1 hp2 hbz
    go_wp2_with (fail)
    generalize (wr.alloc (.cells #[.slice A0 tot c0, .int .i64 pt.du] 127)).alloc (.cells #[.slice none 0 0, .int .i64 pt.du] 167) = wz at *
    have ks : wz.cell? ⟨wr.heap.size, 0, none⟩ = some (.slice A0 tot c0) ∧ wz.cell? ⟨d, 2, none⟩ = some (.int .i64 s.bl) := ⟨HZ1.out.2.1.cell 0, below_keep HZ1.out.2.2.2 q2⟩
    go_region_held3 (fun u => u.cell? ⟨wr.heap.size, 0, none⟩ = some (.slice A0 tot c0) ∧ u.cell? ⟨d, 2, none⟩ = some (.int .i64 s.bl))
      (first | exact ks | exact ks2)
      (first
        | (go_at_call 157
           with_reducible refine (HCH.out _).mono ?_
           rintro e w7 ⟨rfl, hw7⟩
           have hb7 : Below wz.heap.size wz w7 := by rw [hw7]; exact ((Below.refl _ wz).drew.alloc (Nat.le_refl _) _).alloc (by simp) _
           have g1 : w7.cell? ⟨wz.heap.size, 0, none⟩ = some (.slice A0 tot c0) := by rw [hw7]; exact ((Blk.new wz.drew 36 #[.slice A0 tot c0]).alloc _).cell 0
           have g2 : w7.cell? ⟨wz.heap.size + 1, 0, none⟩ = some (.int .i64 s.bl) := by
            have hh := Blk.new (wz.drew.alloc (.cells #[.slice A0 tot c0] 36)) 3 #[.int .i64 s.bl]
            rw [World.size_alloc] at hh
            rw [hw7]; exact hh.cell 0
           have ks2 : w7.cell? ⟨wr.heap.size, 0, none⟩ = some (.slice A0 tot c0) ∧ w7.cell? ⟨d, 2, none⟩ = some (.int .i64 s.bl) := ⟨below_keep hb7 ks.1, below_keep hb7 ks.2⟩
           have H7 := Lib.hid (And.intro hb7 (And.intro g1 g2))
           have HS7 : Hid (w7.heap.size = wz.heap.size + 2) := by rw [hw7]; unfold Hid; rw [World.size_alloc, World.size_alloc]; rfl
           clear hw7 hb7 g1 g2))
    all_goals
     clear ks ks2
     go_wp2_with (fail)
     have g1 := H7.out.2.1
     rw [HBY.out] at g1 hbm hcap
     have HLOW7 : Hid (Below wr.heap.size wr w7) := HZ1.out.2.2.2.trans (H7.out.1.mono HZ1.out.2.2.2.size)
     have hI0 : ZIn wr w7 w7.heap.size (wr.heap.size + 1) wz.heap.size pt.du (.slice A0 (pt.bs.length * s.bl) c0) s.bl [] :=
      ⟨⟨none, 0, [], rfl, HZ1.out.2.2.1.below H7.out.1 HZ1.out.2.2.1.lt, World.ownsRow_nil _ _ _ _, fun j hj => by simp at hj⟩, HLOW7.out, Nat.le_refl _, g1, H7.out.2.2⟩
     refine (wpIn_wide (n := 3)).1 ?_
     refine wpIn_rangeFunc_ownG (F := Fence.wide) (n := 3) rfl (by omega) (gf := 194) (lb := #[.pointer (some ⟨wz.heap.size, 0, none⟩), .pointer (some ⟨wz.heap.size + 1, 0, none⟩)]) rfl trivial (enters_of Tryz.func194 (by kernel_rfl) rfl)
       (chunk_stops Fence.wide 2 trivial rfl (by omega) wz.heap.size (wz.heap.size + 1) A0 s.bl pt.bs.length c0 (by omega) (by omega) (by omega) hcap w7 g1 H7.out.2.2) (fun h k => h.trans k) (fun W l o o' _ h ho _ => ChKp.putObj W l o o' h ho) (Below.refl _ _) (fun _ => rfl)
       (fun pre W => ZIn wr W w7.heap.size (wr.heap.size + 1) wz.heap.size pt.du (.slice A0 (pt.bs.length * s.bl) c0) s.bl (pre.map (fun x : Fin pt.bs.length => pt.bs.getD x.1 [])))
       (fun _ _ _ => False)
       (fun s0 W W' row hs hg hr => hs.grown hg (fun r e => ⟨Nat.le_trans HLOW7.out.size (hr r e).1, (hr r e).2⟩))
       (fun _ _ _ _ _ hs _ _ => hs) hI0 ?a1 ?assign ?body ?done ?stop
     case assign =>
      intro l x W K hK
      gi_wp2
      exact hK
     case body =>
      rintro l pre x W hI hlen
      obtain ⟨A, c, O, hO, hbz, hrow, hbr⟩ := hI.is
      have HI := Lib.hid hI
      have HRD : Hid (∀ u, Below W.heap.size W u -> Reads u u.heap.size 1 (A0.map (·.add (x.1 * s.bl))) s.bl (nums .u8 (pt.bs.getD x.1 []))) := fun u hu => by
       have h1 := (HVW.out.below (HI.out.low.trans (hu.mono HI.out.low.size))).chunk HLT.out HV0.out (k := x.1) (by rw [HPT.out]; exact x.2)
       rw [HPT.out] at h1
       exact h1
      have HCL : Hid (∀ u, Below W.heap.size W u -> CallsIn (Fence.wide.inRound l) 0 Tryz.prog 108 #[.slice (A0.map (·.add (x.1 * s.bl))) s.bl s.bl] u (fun e w' => ∃ A' c', e = .returned (.slice A' s.bl c') ∧ BRow w' u.heap.size A' c' (pt.bs.getD x.1 []) ∧ Below u.heap.size u w')) :=
       fun u hu => CallsIn.inRound l (callsIn_wide.2 (clone_any u u.heap.size _ s.bl s.bl _ (HRD.out u hu) (by omega)))
      simp only [List.length_map] at hO hbz hrow hbr
      have z0 : W.cell? ⟨wr.heap.size + 1, 0, none⟩ = some (.slice A pre.length c) := hbz.cell 0
      have zf : ∀ i, W.frozen? ⟨wr.heap.size + 1, i, none⟩ = false := fun i => hbz.frozen i
      have HB := Lib.hid (And.intro hO (And.intro hbz (And.intro hrow hbr)))
      clear hO hbz hrow hbr hI
      unfold chV
      have HST : Hid (∀ w5 A5 c5, BRow w5 W.heap.size A5 c5 (pt.bs.getD x.1 []) -> Below W.heap.size W w5 -> ∃ A7 c7 w8, (Builtin.append_ #[51, 51] 51 #[.slice A pre.length c, .slice (some ⟨w5.heap.size, 0, none⟩) 1 1]).run Tryz.prog (w5.alloc (.cells #[.slice A5 s.bl c5] 36)) = .ok (.slice A7 (pre.length + 1) c7) w8 ∧
          w8.cell? ⟨wr.heap.size + 1, 0, none⟩ = some (.slice A pre.length c) ∧ (∀ i, w8.frozen? ⟨wr.heap.size + 1, i, none⟩ = false) ∧
          ZIn wr (w8.setCell ⟨wr.heap.size + 1, 0, none⟩ (.slice A7 (pre.length + 1) c7)) w7.heap.size (wr.heap.size + 1) wz.heap.size pt.du (.slice A0 (pt.bs.length * s.bl) c0) s.bl ((pre ++ [x]).map (fun x : Fin pt.bs.length => pt.bs.getD x.1 [])) ∧
          ChKp wz.heap.size (wz.heap.size + 1) W (w8.setCell ⟨wr.heap.size + 1, 0, none⟩ (.slice A7 (pre.length + 1) c7)) ∧ KeepsFrom w7.heap.size W (w8.setCell ⟨wr.heap.size + 1, 0, none⟩ (.slice A7 (pre.length + 1) c7))) := fun w5 A5 c5 h1 h2 => by
       have hlm : (pre.map (fun x : Fin pt.bs.length => pt.bs.getD x.1 [])).length = pre.length := List.length_map _
       have hbs : (pt.bs.getD x.1 []).length = s.bl := by
        have h3 := (HVW.out.fit k HLT.out).len
        rw [HPT.out] at h3
        exact h3 _ (getD_mem x.2)
       have h4 := zin_step (wr := wr) (B := w7.heap.size) (C := pre.map (fun x : Fin pt.bs.length => pt.bs.getD x.1 [])) (by rw [hlm]; exact HB.out.1) (by rw [hlm]; exact HB.out.2.1) (by rw [hlm]; exact HB.out.2.2.1) (by rw [hlm]; exact HB.out.2.2.2) HI.out.low HI.out.sz HI.out.b1 HI.out.b2 h1 hbs h2 (by
           rw [hlm]
           have h5 := (HVW.out.fit k HLT.out).fit
           rw [HPT.out] at h5
           have h6 := HVW.out.ok.facts
           omega) (by omega) (by have h7 := HZ1.out.1; have h8 : w7.heap.size = wz.heap.size + 2 := HS7.out; omega) (by have h7 := HZ1.out.1; have h8 : w7.heap.size = wz.heap.size + 2 := HS7.out; omega)
       rw [hlm] at h4
       rw [List.map_append]
       exact h4
      gi_wp2
      refine wpIn_region_any (by kernel_rfl) ?_
      try (change wpAnyIn _ _ _ _ _ _ _ _ _ (World.drew _))
      refine wpAnyIn_ready (rs := [0, 2]) (by kernel_rfl) (by simp) ?_
      refine AllReadyIn.cons rfl (fun K hK => ?_) ?_
      · go_simp
        refine hK _ _ ?_
        clear hK K
        refine wpAnyIn_ready (rs := [1, 2]) (by kernel_rfl) (by simp) ?_
        refine AllReadyIn.cons rfl (fun K hK => ?_) ?_
        · go_simp
          refine hK _ _ ?_
          clear hK K
          refine wpAnyIn_ready (rs := [2]) (by kernel_rfl) (by simp) ?_
          refine AllReadyIn.cons rfl (fun K hK => ?_) ?_
          · go_simp
            refine hK _ _ ?_
            clear hK K
            refine wpAnyIn_ready (rs := [3]) (by kernel_rfl) (by simp) ?_
            refine AllReadyIn.cons rfl (fun K hK => ?_) ?_
            · go_simp
              gi_wp2_with (first
                | (refine ⟨trivial, ?_⟩
                   gi_at_call 108
                   refine (HCL.out _ ((Below.refl _ W).drew)).mono ?_
                   rintro e w5 ⟨A5, c5, rfl, hb5, hl5⟩
                   obtain ⟨A7, c7, w8, hap, z8, zf8, hend⟩ := HST.out w5 A5 c5 hb5 ((Below.refl _ W).drew.trans hl5)
                   have z5 : w5.cell? ⟨wr.heap.size + 1, 0, none⟩ = some (.slice A pre.length c) := below_keep hl5 z0
                   have z6 : (w5.alloc (.cells #[.slice A5 s.bl c5] 36)).cell? ⟨wr.heap.size + 1, 0, none⟩ = some (.slice A pre.length c) := below_keep ((Below.refl _ w5).alloc (Nat.le_refl _) _) z5
                   have HE := Lib.hid hend
                   clear hb5 hl5 hend))
              refine wpAnyIn_ready (rs := [4]) (by kernel_rfl) (by simp) ?_
              refine AllReadyIn.cons rfl (fun K hK => ?_) ?_
              · go_simp
                refine hK _ _ ?_
                clear hK K
                refine wpAnyIn_ready (rs := [5]) (by kernel_rfl) (by simp) ?_
                refine AllReadyIn.cons rfl (fun K hK => ?_) ?_
                · refine stepIn_append_run rfl (.tmp 30) (.tmp 33) _ rfl rfl rfl hap ?_
                  refine hK _ _ ?_
                  clear hK K
                  refine wpAnyIn_ready (rs := [6]) (by kernel_rfl) (by simp) ?_
                  refine AllReadyIn.cons rfl (fun K hK => ?_) ?_
                  · go_simp
                    refine hK _ _ ?_
                    clear hK K
                    refine wpAnyIn_ready (rs := [7]) (by kernel_rfl) (by simp) ?_
                    refine AllReadyIn.cons rfl (fun K hK => ?_) ?_
                    · go_simp
                      refine hK _ _ ?_
                      clear hK K
                      refine wpAnyIn_done (by kernel_rfl) ?_ _
                      exact ⟨HE.out.2.2, HE.out.2.1, HE.out.1⟩
                    exact AllReadyIn.nil
                  exact AllReadyIn.nil
                exact AllReadyIn.nil
              exact AllReadyIn.nil
            exact AllReadyIn.nil
          exact AllReadyIn.nil
        refine AllReadyIn.cons rfl (fun K hK => ?_) ?_
        · go_simp
          refine hK _ _ ?_
          clear hK K
          refine wpAnyIn_ready (rs := [1, 3]) (by kernel_rfl) (by simp) ?_
          refine AllReadyIn.cons rfl (fun K hK => ?_) ?_
          · go_simp
            refine hK _ _ ?_
            clear hK K
            refine wpAnyIn_ready (rs := [3]) (by kernel_rfl) (by simp) ?_
            refine AllReadyIn.cons rfl (fun K hK => ?_) ?_
            · go_simp
              gi_wp2_with (first
                | (refine ⟨trivial, ?_⟩
                   gi_at_call 108
                   refine (HCL.out _ ((Below.refl _ W).drew)).mono ?_
                   rintro e w5 ⟨A5, c5, rfl, hb5, hl5⟩
                   obtain ⟨A7, c7, w8, hap, z8, zf8, hend⟩ := HST.out w5 A5 c5 hb5 ((Below.refl _ W).drew.trans hl5)
                   have z5 : w5.cell? ⟨wr.heap.size + 1, 0, none⟩ = some (.slice A pre.length c) := below_keep hl5 z0
                   have z6 : (w5.alloc (.cells #[.slice A5 s.bl c5] 36)).cell? ⟨wr.heap.size + 1, 0, none⟩ = some (.slice A pre.length c) := below_keep ((Below.refl _ w5).alloc (Nat.le_refl _) _) z5
                   have HE := Lib.hid hend
                   clear hb5 hl5 hend))
              refine wpAnyIn_ready (rs := [4]) (by kernel_rfl) (by simp) ?_
              refine AllReadyIn.cons rfl (fun K hK => ?_) ?_
              · go_simp
                refine hK _ _ ?_
                clear hK K
                refine wpAnyIn_ready (rs := [5]) (by kernel_rfl) (by simp) ?_
                refine AllReadyIn.cons rfl (fun K hK => ?_) ?_
                · refine stepIn_append_run rfl (.tmp 30) (.tmp 33) _ rfl rfl rfl hap ?_
                  refine hK _ _ ?_
                  clear hK K
                  refine wpAnyIn_ready (rs := [6]) (by kernel_rfl) (by simp) ?_
                  refine AllReadyIn.cons rfl (fun K hK => ?_) ?_
                  · go_simp
                    refine hK _ _ ?_
                    clear hK K
                    refine wpAnyIn_ready (rs := [7]) (by kernel_rfl) (by simp) ?_
                    refine AllReadyIn.cons rfl (fun K hK => ?_) ?_
                    · go_simp
                      refine hK _ _ ?_
                      clear hK K
                      refine wpAnyIn_done (by kernel_rfl) ?_ _
                      exact ⟨HE.out.2.2, HE.out.2.1, HE.out.1⟩
                    exact AllReadyIn.nil
                  exact AllReadyIn.nil
                exact AllReadyIn.nil
              exact AllReadyIn.nil
            exact AllReadyIn.nil
          refine AllReadyIn.cons rfl (fun K hK => ?_) ?_
          · go_simp
            gi_wp2_with (first
              | (refine ⟨trivial, ?_⟩
                 gi_at_call 108
                 refine (HCL.out _ ((Below.refl _ W).drew)).mono ?_
                 rintro e w5 ⟨A5, c5, rfl, hb5, hl5⟩
                 obtain ⟨A7, c7, w8, hap, z8, zf8, hend⟩ := HST.out w5 A5 c5 hb5 ((Below.refl _ W).drew.trans hl5)
                 have z5 : w5.cell? ⟨wr.heap.size + 1, 0, none⟩ = some (.slice A pre.length c) := below_keep hl5 z0
                 have z6 : (w5.alloc (.cells #[.slice A5 s.bl c5] 36)).cell? ⟨wr.heap.size + 1, 0, none⟩ = some (.slice A pre.length c) := below_keep ((Below.refl _ w5).alloc (Nat.le_refl _) _) z5
                 have HE := Lib.hid hend
                 clear hb5 hl5 hend))
            refine wpAnyIn_ready (rs := [1, 4]) (by kernel_rfl) (by simp) ?_
            refine AllReadyIn.cons rfl (fun K hK => ?_) ?_
            · go_simp
              refine hK _ _ ?_
              clear hK K
              refine wpAnyIn_ready (rs := [4]) (by kernel_rfl) (by simp) ?_
              refine AllReadyIn.cons rfl (fun K hK => ?_) ?_
              · go_simp
                refine hK _ _ ?_
                clear hK K
                refine wpAnyIn_ready (rs := [5]) (by kernel_rfl) (by simp) ?_
                refine AllReadyIn.cons rfl (fun K hK => ?_) ?_
                · refine stepIn_append_run rfl (.tmp 30) (.tmp 33) _ rfl rfl rfl hap ?_
                  refine hK _ _ ?_
                  clear hK K
                  refine wpAnyIn_ready (rs := [6]) (by kernel_rfl) (by simp) ?_
                  refine AllReadyIn.cons rfl (fun K hK => ?_) ?_
                  · go_simp
                    refine hK _ _ ?_
                    clear hK K
                    refine wpAnyIn_ready (rs := [7]) (by kernel_rfl) (by simp) ?_
                    refine AllReadyIn.cons rfl (fun K hK => ?_) ?_
                    · go_simp
                      refine hK _ _ ?_
                      clear hK K
                      refine wpAnyIn_done (by kernel_rfl) ?_ _
                      exact ⟨HE.out.2.2, HE.out.2.1, HE.out.1⟩
                    exact AllReadyIn.nil
                  exact AllReadyIn.nil
                exact AllReadyIn.nil
              exact AllReadyIn.nil
            refine AllReadyIn.cons rfl (fun K hK => ?_) ?_
            · go_simp
              refine hK _ _ ?_
              clear hK K
              refine wpAnyIn_ready (rs := [1]) (by kernel_rfl) (by simp) ?_
              refine AllReadyIn.cons rfl (fun K hK => ?_) ?_
              · go_simp
                refine hK _ _ ?_
                clear hK K
                refine wpAnyIn_ready (rs := [5]) (by kernel_rfl) (by simp) ?_
                refine AllReadyIn.cons rfl (fun K hK => ?_) ?_
                · refine stepIn_append_run rfl (.tmp 30) (.tmp 33) _ rfl rfl rfl hap ?_
                  refine hK _ _ ?_
                  clear hK K
                  refine wpAnyIn_ready (rs := [6]) (by kernel_rfl) (by simp) ?_
                  refine AllReadyIn.cons rfl (fun K hK => ?_) ?_
                  · go_simp
                    refine hK _ _ ?_
                    clear hK K
                    refine wpAnyIn_ready (rs := [7]) (by kernel_rfl) (by simp) ?_
                    refine AllReadyIn.cons rfl (fun K hK => ?_) ?_
                    · go_simp
                      refine hK _ _ ?_
                      clear hK K
                      refine wpAnyIn_done (by kernel_rfl) ?_ _
                      exact ⟨HE.out.2.2, HE.out.2.1, HE.out.1⟩
                    exact AllReadyIn.nil
                  exact AllReadyIn.nil
                exact AllReadyIn.nil
              exact AllReadyIn.nil
            exact AllReadyIn.nil
          exact AllReadyIn.nil
        exact AllReadyIn.nil
      refine AllReadyIn.cons rfl (fun K hK => ?_) ?_
      · go_simp
        refine hK _ _ ?_
        clear hK K
        refine wpAnyIn_ready (rs := [0, 3]) (by kernel_rfl) (by simp) ?_
        refine AllReadyIn.cons rfl (fun K hK => ?_) ?_
        · go_simp
          refine hK _ _ ?_
          clear hK K
          refine wpAnyIn_ready (rs := [1, 3]) (by kernel_rfl) (by simp) ?_
          refine AllReadyIn.cons rfl (fun K hK => ?_) ?_
          · go_simp
            refine hK _ _ ?_
            clear hK K
            refine wpAnyIn_ready (rs := [3]) (by kernel_rfl) (by simp) ?_
            refine AllReadyIn.cons rfl (fun K hK => ?_) ?_
            · go_simp
              gi_wp2_with (first
                | (refine ⟨trivial, ?_⟩
                   gi_at_call 108
                   refine (HCL.out _ ((Below.refl _ W).drew)).mono ?_
                   rintro e w5 ⟨A5, c5, rfl, hb5, hl5⟩
                   obtain ⟨A7, c7, w8, hap, z8, zf8, hend⟩ := HST.out w5 A5 c5 hb5 ((Below.refl _ W).drew.trans hl5)
                   have z5 : w5.cell? ⟨wr.heap.size + 1, 0, none⟩ = some (.slice A pre.length c) := below_keep hl5 z0
                   have z6 : (w5.alloc (.cells #[.slice A5 s.bl c5] 36)).cell? ⟨wr.heap.size + 1, 0, none⟩ = some (.slice A pre.length c) := below_keep ((Below.refl _ w5).alloc (Nat.le_refl _) _) z5
                   have HE := Lib.hid hend
                   clear hb5 hl5 hend))
              refine wpAnyIn_ready (rs := [4]) (by kernel_rfl) (by simp) ?_
              refine AllReadyIn.cons rfl (fun K hK => ?_) ?_
              · go_simp
                refine hK _ _ ?_
                clear hK K
                refine wpAnyIn_ready (rs := [5]) (by kernel_rfl) (by simp) ?_
                refine AllReadyIn.cons rfl (fun K hK => ?_) ?_
                · refine stepIn_append_run rfl (.tmp 30) (.tmp 33) _ rfl rfl rfl hap ?_
                  refine hK _ _ ?_
                  clear hK K
                  refine wpAnyIn_ready (rs := [6]) (by kernel_rfl) (by simp) ?_
                  refine AllReadyIn.cons rfl (fun K hK => ?_) ?_
                  · go_simp
                    refine hK _ _ ?_
                    clear hK K
                    refine wpAnyIn_ready (rs := [7]) (by kernel_rfl) (by simp) ?_
                    refine AllReadyIn.cons rfl (fun K hK => ?_) ?_
                    · go_simp
                      refine hK _ _ ?_
                      clear hK K
                      refine wpAnyIn_done (by kernel_rfl) ?_ _
                      exact ⟨HE.out.2.2, HE.out.2.1, HE.out.1⟩
                    exact AllReadyIn.nil
                  exact AllReadyIn.nil
                exact AllReadyIn.nil
              exact AllReadyIn.nil
            exact AllReadyIn.nil
          refine AllReadyIn.cons rfl (fun K hK => ?_) ?_
          · go_simp
            gi_wp2_with (first
              | (refine ⟨trivial, ?_⟩
                 gi_at_call 108
                 refine (HCL.out _ ((Below.refl _ W).drew)).mono ?_
                 rintro e w5 ⟨A5, c5, rfl, hb5, hl5⟩
                 obtain ⟨A7, c7, w8, hap, z8, zf8, hend⟩ := HST.out w5 A5 c5 hb5 ((Below.refl _ W).drew.trans hl5)
                 have z5 : w5.cell? ⟨wr.heap.size + 1, 0, none⟩ = some (.slice A pre.length c) := below_keep hl5 z0
                 have z6 : (w5.alloc (.cells #[.slice A5 s.bl c5] 36)).cell? ⟨wr.heap.size + 1, 0, none⟩ = some (.slice A pre.length c) := below_keep ((Below.refl _ w5).alloc (Nat.le_refl _) _) z5
                 have HE := Lib.hid hend
                 clear hb5 hl5 hend))
            refine wpAnyIn_ready (rs := [1, 4]) (by kernel_rfl) (by simp) ?_
            refine AllReadyIn.cons rfl (fun K hK => ?_) ?_
            · go_simp
              refine hK _ _ ?_
              clear hK K
              refine wpAnyIn_ready (rs := [4]) (by kernel_rfl) (by simp) ?_
              refine AllReadyIn.cons rfl (fun K hK => ?_) ?_
              · go_simp
                refine hK _ _ ?_
                clear hK K
                refine wpAnyIn_ready (rs := [5]) (by kernel_rfl) (by simp) ?_
                refine AllReadyIn.cons rfl (fun K hK => ?_) ?_
                · refine stepIn_append_run rfl (.tmp 30) (.tmp 33) _ rfl rfl rfl hap ?_
                  refine hK _ _ ?_
                  clear hK K
                  refine wpAnyIn_ready (rs := [6]) (by kernel_rfl) (by simp) ?_
                  refine AllReadyIn.cons rfl (fun K hK => ?_) ?_
                  · go_simp
                    refine hK _ _ ?_
                    clear hK K
                    refine wpAnyIn_ready (rs := [7]) (by kernel_rfl) (by simp) ?_
                    refine AllReadyIn.cons rfl (fun K hK => ?_) ?_
                    · go_simp
                      refine hK _ _ ?_
                      clear hK K
                      refine wpAnyIn_done (by kernel_rfl) ?_ _
                      exact ⟨HE.out.2.2, HE.out.2.1, HE.out.1⟩
                    exact AllReadyIn.nil
                  exact AllReadyIn.nil
                exact AllReadyIn.nil
              exact AllReadyIn.nil
            refine AllReadyIn.cons rfl (fun K hK => ?_) ?_
            · go_simp
              refine hK _ _ ?_
              clear hK K
              refine wpAnyIn_ready (rs := [1]) (by kernel_rfl) (by simp) ?_
              refine AllReadyIn.cons rfl (fun K hK => ?_) ?_
              · go_simp
                refine hK _ _ ?_
                clear hK K
                refine wpAnyIn_ready (rs := [5]) (by kernel_rfl) (by simp) ?_
                refine AllReadyIn.cons rfl (fun K hK => ?_) ?_
                · refine stepIn_append_run rfl (.tmp 30) (.tmp 33) _ rfl rfl rfl hap ?_
                  refine hK _ _ ?_
                  clear hK K
                  refine wpAnyIn_ready (rs := [6]) (by kernel_rfl) (by simp) ?_
                  refine AllReadyIn.cons rfl (fun K hK => ?_) ?_
                  · go_simp
                    refine hK _ _ ?_
                    clear hK K
                    refine wpAnyIn_ready (rs := [7]) (by kernel_rfl) (by simp) ?_
                    refine AllReadyIn.cons rfl (fun K hK => ?_) ?_
                    · go_simp
                      refine hK _ _ ?_
                      clear hK K
                      refine wpAnyIn_done (by kernel_rfl) ?_ _
                      exact ⟨HE.out.2.2, HE.out.2.1, HE.out.1⟩
                    exact AllReadyIn.nil
                  exact AllReadyIn.nil
                exact AllReadyIn.nil
              exact AllReadyIn.nil
            exact AllReadyIn.nil
          exact AllReadyIn.nil
        refine AllReadyIn.cons rfl (fun K hK => ?_) ?_
        · go_simp
          gi_wp2_with (first
            | (refine ⟨trivial, ?_⟩
               gi_at_call 108
               refine (HCL.out _ ((Below.refl _ W).drew)).mono ?_
               rintro e w5 ⟨A5, c5, rfl, hb5, hl5⟩
               obtain ⟨A7, c7, w8, hap, z8, zf8, hend⟩ := HST.out w5 A5 c5 hb5 ((Below.refl _ W).drew.trans hl5)
               have z5 : w5.cell? ⟨wr.heap.size + 1, 0, none⟩ = some (.slice A pre.length c) := below_keep hl5 z0
               have z6 : (w5.alloc (.cells #[.slice A5 s.bl c5] 36)).cell? ⟨wr.heap.size + 1, 0, none⟩ = some (.slice A pre.length c) := below_keep ((Below.refl _ w5).alloc (Nat.le_refl _) _) z5
               have HE := Lib.hid hend
               clear hb5 hl5 hend))
          refine wpAnyIn_ready (rs := [0, 4]) (by kernel_rfl) (by simp) ?_
          refine AllReadyIn.cons rfl (fun K hK => ?_) ?_
          · go_simp
            refine hK _ _ ?_
            clear hK K
            refine wpAnyIn_ready (rs := [1, 4]) (by kernel_rfl) (by simp) ?_
            refine AllReadyIn.cons rfl (fun K hK => ?_) ?_
            · go_simp
              refine hK _ _ ?_
              clear hK K
              refine wpAnyIn_ready (rs := [4]) (by kernel_rfl) (by simp) ?_
              refine AllReadyIn.cons rfl (fun K hK => ?_) ?_
              · go_simp
                refine hK _ _ ?_
                clear hK K
                refine wpAnyIn_ready (rs := [5]) (by kernel_rfl) (by simp) ?_
                refine AllReadyIn.cons rfl (fun K hK => ?_) ?_
                · refine stepIn_append_run rfl (.tmp 30) (.tmp 33) _ rfl rfl rfl hap ?_
                  refine hK _ _ ?_
                  clear hK K
                  refine wpAnyIn_ready (rs := [6]) (by kernel_rfl) (by simp) ?_
                  refine AllReadyIn.cons rfl (fun K hK => ?_) ?_
                  · go_simp
                    refine hK _ _ ?_
                    clear hK K
                    refine wpAnyIn_ready (rs := [7]) (by kernel_rfl) (by simp) ?_
                    refine AllReadyIn.cons rfl (fun K hK => ?_) ?_
                    · go_simp
                      refine hK _ _ ?_
                      clear hK K
                      refine wpAnyIn_done (by kernel_rfl) ?_ _
                      exact ⟨HE.out.2.2, HE.out.2.1, HE.out.1⟩
                    exact AllReadyIn.nil
                  exact AllReadyIn.nil
                exact AllReadyIn.nil
              exact AllReadyIn.nil
            refine AllReadyIn.cons rfl (fun K hK => ?_) ?_
            · go_simp
              refine hK _ _ ?_
              clear hK K
              refine wpAnyIn_ready (rs := [1]) (by kernel_rfl) (by simp) ?_
              refine AllReadyIn.cons rfl (fun K hK => ?_) ?_
              · go_simp
                refine hK _ _ ?_
                clear hK K
                refine wpAnyIn_ready (rs := [5]) (by kernel_rfl) (by simp) ?_
                refine AllReadyIn.cons rfl (fun K hK => ?_) ?_
                · refine stepIn_append_run rfl (.tmp 30) (.tmp 33) _ rfl rfl rfl hap ?_
                  refine hK _ _ ?_
                  clear hK K
                  refine wpAnyIn_ready (rs := [6]) (by kernel_rfl) (by simp) ?_
                  refine AllReadyIn.cons rfl (fun K hK => ?_) ?_
                  · go_simp
                    refine hK _ _ ?_
                    clear hK K
                    refine wpAnyIn_ready (rs := [7]) (by kernel_rfl) (by simp) ?_
                    refine AllReadyIn.cons rfl (fun K hK => ?_) ?_
                    · go_simp
                      refine hK _ _ ?_
                      clear hK K
                      refine wpAnyIn_done (by kernel_rfl) ?_ _
                      exact ⟨HE.out.2.2, HE.out.2.1, HE.out.1⟩
                    exact AllReadyIn.nil
                  exact AllReadyIn.nil
                exact AllReadyIn.nil
              exact AllReadyIn.nil
            exact AllReadyIn.nil
          refine AllReadyIn.cons rfl (fun K hK => ?_) ?_
          · go_simp
            refine hK _ _ ?_
            clear hK K
            refine wpAnyIn_ready (rs := [0]) (by kernel_rfl) (by simp) ?_
            refine AllReadyIn.cons rfl (fun K hK => ?_) ?_
            · go_simp
              refine hK _ _ ?_
              clear hK K
              refine wpAnyIn_ready (rs := [1]) (by kernel_rfl) (by simp) ?_
              refine AllReadyIn.cons rfl (fun K hK => ?_) ?_
              · go_simp
                refine hK _ _ ?_
                clear hK K
                refine wpAnyIn_ready (rs := [5]) (by kernel_rfl) (by simp) ?_
                refine AllReadyIn.cons rfl (fun K hK => ?_) ?_
                · refine stepIn_append_run rfl (.tmp 30) (.tmp 33) _ rfl rfl rfl hap ?_
                  refine hK _ _ ?_
                  clear hK K
                  refine wpAnyIn_ready (rs := [6]) (by kernel_rfl) (by simp) ?_
                  refine AllReadyIn.cons rfl (fun K hK => ?_) ?_
                  · go_simp
                    refine hK _ _ ?_
                    clear hK K
                    refine wpAnyIn_ready (rs := [7]) (by kernel_rfl) (by simp) ?_
                    refine AllReadyIn.cons rfl (fun K hK => ?_) ?_
                    · go_simp
                      refine hK _ _ ?_
                      clear hK K
                      refine wpAnyIn_done (by kernel_rfl) ?_ _
                      exact ⟨HE.out.2.2, HE.out.2.1, HE.out.1⟩
                    exact AllReadyIn.nil
                  exact AllReadyIn.nil
                exact AllReadyIn.nil
              exact AllReadyIn.nil
            exact AllReadyIn.nil
          exact AllReadyIn.nil
        exact AllReadyIn.nil
      exact AllReadyIn.nil
     case done =>
      rintro D ys W hD rfl hI hK
      rw [fin_map] at hI
      obtain ⟨A9, c9, hz9, hb9⟩ := hI.blocks (by omega)
      have HB9 : Hid (BlocksB W A9 (P.getD k pt0).bs) := by rw [HPT.out]; exact hb9
      obtain ⟨A7, c7, w8, hap, hzo, hkeep⟩ := zout_step (c9 := c9) HREL.out.1 HLT.out hlen hI.low HB9.out
      have HDS := Lib.hid (HREL.out.2.step HREL.out.1.low.size hI.low (Nat.le_trans HLOW7.out.size hD) hK hkeep)
      have HZO := Lib.hid hzo
      rw [HPT.out] at hap
      have y0 : W.cell? ⟨wr.heap.size + 1, 0, none⟩ = some (.slice A9 pt.bs.length c9) := hz9.cell 0
      have y1 : W.cell? ⟨wr.heap.size + 1, 1, none⟩ = some (.int .i64 pt.du) := hz9.cell 1
      clear hI hz9 hb9 hzo hkeep hK hD
      go_wp2_with (at_builtin; refine wpList_append_runz rfl (.tmp 36) (.tmp 38) _ rfl rfl rfl hap ?_)
      have HLT2 : Hid (k < P.length) := HLT.out
      refine ⟨⟨k + 1, A7, c7, Q ++ [⟨A9, c9⟩], _, _, _, _, _, _, _, _, _, _, _, _, _, _, _, _, _, _, _, _, _, _, _, _, _, _, _, _, _, _, _, _, _, HLT2.out, by go_num, rfl, HZO.out, HDS.out⟩, ?_⟩
      have := HLT2.out
      simp [intOf]
      omega
     case stop =>
      rintro D c pre W _ _ h _
      exact h.elim
  · obtain rfl : k = P.length := by omega
    have HREL := Lib.hid hrel.out
    clear hrel
    go_wp2
    obtain ⟨rs, rfl, hn, hr⟩ := HREL.out.2
    refine leaves_ds rs wr hn (fun r h => (hr r h).2) (fun W' hk => ?_)
    refine ⟨_, results_tmp rfl _ _ _, A, c, Q, rfl, HREL.out.1.turn hk (fun b hb => ⟨(hr b hb).1, _, (hr b hb).2, rfl⟩)⟩
end Go.Proofs.YtfabgbmbnmbjkaaGreatDoor

