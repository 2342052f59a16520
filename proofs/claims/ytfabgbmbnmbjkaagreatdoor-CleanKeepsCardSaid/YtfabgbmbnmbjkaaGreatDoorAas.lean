/- Joined texts: Zc Zd. -/
import Derived.Test.YtfabgbmbnmbjkaaGreatDoorAap
import Derived.RangeFuncNested
import Derived.RangeFuncBound
import Derived.RangeFuncCalls
import Derived.RangeFuncLeaves
import Derived.RangeFuncWrites
import Derived.Shelf.Abstract
import Derived.Shelf.RegionOpen
import Derived.WalkKit
import Derived.OwnWalkIn
import Derived.TacticsInMore
import Derived.LoopNIn
import Derived.LoopIn
import Derived.Maps.AppendAt
import Derived.Test.YtfabgbmbnmbjkaaGreatDoorAal
/- Pruned. -/
namespace Go.Proofs.YtfabgbmbnmbjkaaGreatDoor
open Go.RowKit Go.Shelf
set_option maxRecDepth 20000
attribute [local go_sem] Oper.semAt_some
def ChKp (B1 B2 : Nat) (W W' : World) : Prop := (∀ v, W.cell? ⟨B1, 0, none⟩ = some v -> W'.cell? ⟨B1, 0, none⟩ = some v) ∧ (∀ v, W.cell? ⟨B2, 0, none⟩ = some v -> W'.cell? ⟨B2, 0, none⟩ = some v)
theorem ChKp.trans {B1 B2 : Nat} {A B C : World} (h : ChKp B1 B2 A B) (k : ChKp B1 B2 B C) : ChKp B1 B2 A C := ⟨fun v hv => k.1 v (h.1 v hv), fun v hv => k.2 v (h.2 v hv)⟩
theorem ChKp.putObj {B1 B2 : Nat} (W : World) (l : Nat) (o o' : Obj) (h : W.heap[l]? = some o) (ho : o.isCells = false) : ChKp B1 B2 W (W.putObj l o') := by
 have key : ∀ B v, W.cell? ⟨B, 0, none⟩ = some v -> (W.putObj l o').cell? ⟨B, 0, none⟩ = some v := fun B v hv =>
  cell_kept hv (grownBy_putObj' W l o') (fun r e => by cases e; exact ⟨o, h, ho⟩)
 exact ⟨key B1, key B2⟩
theorem fin_take_succ (cnt k : Nat) (h : k < cnt) : (List.finRange cnt).take (k + 1) = (List.finRange cnt).take k ++ [⟨k, h⟩] := by
 rw [List.take_succ_eq_append_getElem (by simpa using h)]
 simp
end Go.Proofs.YtfabgbmbnmbjkaaGreatDoor

/- Pruned. -/
namespace Go.Proofs.YtfabgbmbnmbjkaaGreatDoor
open Go.RowKit Go.Shelf
set_option maxRecDepth 20000
attribute [local go_sem] Oper.semAt_some
theorem wpList_append_runz {P : Program} {w w' : World} {ops : Array Oper} {rest : List Oper} {o : Oper} {a : Act} {Q : Exit -> Act -> World -> Prop} (hgd : o.guard = none) (s x : Operand) (t : TypeId)
    (ho : o.op = .call { callee := .builtin .append, args := #[s, x], argTypes := #[t, t] }) {v vx v' : Value} (hs : a.eval s = v) (hx : a.eval x = vx)
    (hrun : (Builtin.append_ #[t, t] o.type #[v, vx]).run P w = .ok v' w') (h : wpList P ops Q rest (a.put o.dst v') w') : wpList P ops Q (o :: rest) a w :=
 wpList_plain hgd fun _ hK => by
  unfold Oper.wp execOp
  simp only [ho, resolve, invoke, builtin, Sem.run_bind, Sem.run_pure, Result.andThen_ok, List.map_toArray, List.map_cons, List.map_nil, hs, hx, hrun]
  exact hK _ _ h
theorem stepIn_append_run {F : Fence} {n : Nat} {P : Program} {w w' : World} {ops : Array Oper} {o : Oper} {a : Act} {K : Act -> World -> Prop} {Q : Exit -> Act -> World -> Prop} {E : Prop} (hgd : o.guard = none) (s x : Operand) (t : TypeId)
    (ho : o.op = .call { callee := .builtin .append, args := #[s, x], argTypes := #[t, t] }) {v vx v' : Value} (hs : a.eval s = v) (hx : a.eval x = vx)
    (hrun : (Builtin.append_ #[t, t] o.type #[v, vx]).run P w = .ok v' w') (h : K (a.put o.dst v') w') : if Region.wanted o (yielded ops a.tmps) = true then Oper.wpIn F n P o a w K Q else E := by
 have hw : Region.wanted o (yielded ops a.tmps) = true := by simp [Region.wanted, hgd]
 rw [if_pos hw]
 unfold Oper.wpIn
 refine ⟨by simp [Oper.about, ho, resolve, Target.leads, Sem.run_pure], ?_⟩
 rw [Oper.semAt_plain F _ _ (by rw [ho]; intro c hc'; cases hc')]
 simp [execOp, ho, resolve, invoke, builtin, hs, hx, hrun, Result.andThen]
 exact h
def DataB (w : World) (A : Option Addr) (b : List Int) : Prop := ∃ g cs, A = some ⟨g, 0, none⟩ ∧ Blk w g 5 cs ∧ ∀ j, j < b.length -> cs[j]? = some (.int .u8 (b.getD j 0))
def BlocksB (w : World) (A : Option Addr) (bs : List (List Int)) : Prop := 0 < bs.length -> ∃ g cs, A = some ⟨g, 0, none⟩ ∧ Blk w g 36 cs ∧ ∀ j, j < bs.length -> ∃ Aj cj, cs[j]? = some (.slice Aj (bs.getD j []).length cj) ∧ DataB w Aj (bs.getD j [])
def Tk (w w' : World) : Prop := ∀ g cs, (Blk w g 5 cs -> Blk w' g 5 cs) ∧ (Blk w g 36 cs -> Blk w' g 36 cs)
theorem DataB.tk {w w' : World} {A : Option Addr} {b : List Int} (h : DataB w A b) (k : Tk w w') : DataB w' A b := by
 obtain ⟨g, cs, e, hb, hc⟩ := h
 exact ⟨g, cs, e, (k g cs).1 hb, hc⟩
theorem BlocksB.tk {w w' : World} {A : Option Addr} {bs : List (List Int)} (h : BlocksB w A bs) (k : Tk w w') : BlocksB w' A bs := fun h0 => by
 obtain ⟨g, cs, e, hb, hc⟩ := h h0
 refine ⟨g, cs, e, (k g cs).2 hb, fun j hj => ?_⟩
 obtain ⟨Aj, cj, e1, h1⟩ := hc j hj
 exact ⟨Aj, cj, e1, h1.tk k⟩
structure Zq where
  a : Option Addr
  c : Nat
def zq0 : Zq := ⟨none, 0⟩
def zqC (q : Zq) (p : Part) : List Value := [.slice q.a p.bs.length q.c, .int .i64 p.du]
def zqCs (Q : List Zq) (P : List Part) : List Value := (Q.zip P).flatMap (fun x => zqC x.1 x.2)
def ZRow (w : World) (base : Nat) (A : Option Addr) (c : Nat) (Q : List Zq) (P : List Part) : Prop := w.ownsRow base 167 2 (.slice A P.length c) P.length (zqCs Q P)
structure ZOut (w W : World) (P : List Part) (k : Nat) (A : Option Addr) (c : Nat) (Q : List Zq) : Prop where
  row : ZRow W w.heap.size A c Q (P.take k)
  len : Q.length = k
  bl : ∀ j, j < k -> BlocksB W (Q.getD j zq0).a (P.getD j pt0).bs
  low : Below w.heap.size w W
theorem addz (g j : Nat) : (⟨g, 0, none⟩ : Addr).add j = ⟨g, j, none⟩ := by unfold Addr.add; split <;> simp_all
theorem sl_info : (Tryz.prog.info? 36).map (fun i => (i.zero, i.size, i.bytes)) = some (some (.slice none 0 0), 1, 24) := by kernel_rfl
theorem getD_snoc {α : Type} (l : List α) (x d : α) (j : Nat) (h : j < l.length + 1) : (l ++ [x]).getD j d = if j < l.length then l.getD j d else x := by
 rw [List.getD_eq_getElem?_getD, List.getD_eq_getElem?_getD]
 split
 · rename_i hj
   rw [List.getElem?_append_left hj]
 · have : j = l.length := by omega
   subst this
   simp
theorem own_blkz {W : World} {base : Nat} {e : TypeId} {size n c : Nat} {A : Option Addr} {xs : List Value} (h : W.ownsRow base e size (.slice A n c) n xs) (h0 : 0 < n) : ∃ g cs, A = some ⟨g, 0, none⟩ ∧ base <= g ∧ Blk W g e cs ∧ ∀ j, j < n * size -> cs[j]? = xs[j]? := by
 rcases h.2 with ⟨hn, h1⟩ | ⟨g, cap, cur, hv, hb, hh, _⟩
 · omega
 · injection hv with e1
   subst e1
   have hB : Blk W g e cur := hh
   refine ⟨g, cur, rfl, hb, hB, fun j hj => ?_⟩
   rw [<- hB.cell j]
   exact World.ownsRow.cellAt h j hj
theorem zone_info : (Tryz.prog.info? 167).map (fun i => (i.zero, i.size, i.bytes)) = some (some (.agg #[.slice none 0 0, .int .i64 0]), 2, 32) := by kernel_rfl
theorem leaves_ds {F : Fence} {n : Nat} {P : Program} {fn : Func} {tmps : Array Value} {R : Ending -> World -> Prop} (rs : List Nat) (W : World) (hn : rs.Nodup) (hr : ∀ r ∈ rs, W.heap[r]? = some (.deferred (some []))) (h : ∀ W', Kp (fun b => b ∈ rs) W W' -> LeavesIn F n P fn tmps R [] .returning W') :
    LeavesInM F n P fn tmps R (rs.map (fun r => ({ target := .collected r, args := #[] } : Deferred))) .returning W := by
 induction rs generalizing W with
 | nil => exact h W (Kp.refl _ _)
 | cons r rs ih =>
   have hn' := List.nodup_cons.1 hn
   have hg := grownBy_putObj' W r (.deferred none)
   refine ⟨by simp, .inl ⟨r, W.putObj r (.deferred none), rfl, run_takeDeferred (hr r (List.mem_cons_self ..)), ih _ hn'.2 (fun q hq => (World.putObj_heap_other (fun e => hn'.1 (by rw [e] at hq; exact hq))).trans (hr q (List.mem_cons_of_mem _ hq))) (fun W' hk => h W' ?_)⟩⟩
   have h1 : Kp (fun b => b ∈ r :: rs) W (W.putObj r (.deferred none)) := ⟨hg.os, hg.tape, hg.output, hg.size, fun b hb hn2 => hg.block b hb (fun e => hn2 (by obtain rfl := Option.some.inj e; exact List.mem_cons_self ..))⟩
   exact h1.trans hk (fun b _ hb => List.mem_cons_of_mem _ hb)
theorem ZOut.turn {w W W' : World} {S : Nat -> Prop} {P : List Part} {k : Nat} {A : Option Addr} {c : Nat} {Q : List Zq} (h : ZOut w W P k A c Q) (hk : Kp S W W') (hs : ∀ b, S b -> w.heap.size <= b ∧ ∃ o : Obj, W.heap[b]? = some o ∧ o.isCells = false) : ZOut w W' P k A c Q := by
 have key : ∀ (g : Nat) (cs : Array Value) (t : TypeId) (f : Nat × Nat), W.heap[g]? = some (.cells cs t f) -> ¬ S g := fun g cs t f hg hS => by
  obtain ⟨_, o, ho, hc⟩ := hs g hS
  rw [hg] at ho
  obtain rfl := Option.some.inj ho
  cases hc
 refine ⟨ownsRow_of_block h.row (fun b he => hk.block b (World.ownsRow.lt h.row b he).2 (fun hS => ?_)), h.len, fun j hj => (h.bl j hj).tk (fun g cs => ⟨fun hb => hk.blk hb (key g cs _ _ hb), fun hb => hk.blk hb (key g cs _ _ hb)⟩), Kp.below h.low hk h.low.size (fun b hb hS => by have := (hs b hS).1; omega)⟩
 rcases h.row.2 with ⟨hn, _⟩ | ⟨g, cap, cur, hv, _, hh, _⟩
 · rw [hn] at he; cases he
 · rw [hv] at he
   obtain rfl := Option.some.inj he
   exact key g cur _ _ hh hS
end Go.Proofs.YtfabgbmbnmbjkaaGreatDoor

