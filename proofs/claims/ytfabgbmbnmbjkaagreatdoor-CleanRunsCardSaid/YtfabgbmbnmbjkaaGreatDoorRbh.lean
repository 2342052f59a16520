/- Joined texts: Qn Qo Qp Qr Qs Qt. -/
import Derived.Test.YtfabgbmbnmbjkaaGreatDoorRbb
import Derived.Test.YtfabgbmbnmbjkaaGreatDoorRbg
import Derived.Test.YtfabgbmbnmbjkaaGreatDoorRai
import Derived.Test.YtfabgbmbnmbjkaaGreatDoorRag
import Derived.Test.YtfabgbmbnmbjkaaGreatDoorRax
import Derived.Test.YtfabgbmbnmbjkaaGreatDoorRbd
import Derived.StillTailTactics
import Derived.Deep.DeepCutAuto
import Derived.BigQuiet
import Derived.Deep.LoopGhost
/- Pruned. -/
namespace Go.Proofs.YtfabgbmbnmbjkaaGreatDoor
open Go.RowKit
set_option maxRecDepth 20000
structure QF where
  r : Nat
  d : Nat
  l : Nat
  g : Nat
  b : Nat
  cap : Nat
  ex : List Value
  mm : Nat
  e : Nat
def QF.T (Q : QF) (i : Nat) : Prop := i = Q.r ∨ i = Q.l ∨ i = Q.b ∨ i = Q.mm ∨ i = Q.e
def endsL (sh : Sh) (m : StM) : List Int := (List.range sh.z).map (fun i : Nat => lastM m i)
theorem endsL_length (sh : Sh) (m : StM) : (endsL sh m).length = sh.z := by simp [endsL]
theorem endsL_get (sh : Sh) (m : StM) (i : Nat) (h : i < sh.z) : (endsL sh m).getD i 0 = lastM m i := by
 rw [List.getD_eq_getElem?_getD]
 unfold endsL
 rw [List.getElem?_map, List.getElem?_range h]
 rfl
structure RMY (Y : Nat -> Prop) (w : World) (g : Nat) (M : List Pl) : Prop where
  rm : RM w g M
  y : Y g
  row : ∀ A c b, w.cell? ⟨g, 0, none⟩ = some (.slice A M.length c) -> (Value.slice A M.length c).ownBlock = some b -> Y b
structure QSto (Y : Nat -> Prop) (w : World) (Q : QF) (sh : Sh) (n : Nat) (m : StM) : Prop where
  top : Blk w Q.r 99 #[.pointer (some ⟨Q.d, 0, none⟩), .pointer (some ⟨Q.g, 0, none⟩), .pointer (some ⟨Q.mm, 0, none⟩), .int .u64 m.seq, .slice (some ⟨Q.e, 0, none⟩) sh.z sh.z, .int .i64 m.sl]
  dev : QDev (fun i => Y i ∧ i ≠ Q.b) w Q.d Q.l sh m.P
  seg : RefIs w Q.g Q.b Q.cap Q.ex m.G sh.z sh.zb sh.bl sh.rs
  mp : ∃ M, Twin m.L M ∧ RMY Y w Q.mm M
  ends : Blk w Q.e 40 (nums .u64 (endsL sh m)).toArray
  yr : Y Q.r
  yg : Y Q.g
  yb : Y Q.b
  ye : Y Q.e
  nw : ∀ b, w.heap.size <= b -> Y b
  len : m.L.length <= n ∧ n <= 900000
  sq : 0 <= m.seq ∧ m.seq <= 9000000000000000000 + n
theorem RMY.move {Y Y' : Nat -> Prop} {w w' : World} {g : Nat} {M : List Pl} (h : RMY Y w g M) (hk : ∀ i, i < w.heap.size -> Y i -> Y' i ∧ w'.heap[i]? = w.heap[i]?) : RMY Y' w' g M := by
 have hlt := h.rm.lt
 obtain ⟨A, c, h1, h2⟩ := h.rm
 have hc := h1.cell 0
 have hg := hk g hlt h.y
 have h1' : Blk w' g 165 #[.slice A M.length c] := hg.2.trans h1
 refine ⟨⟨A, c, h1', ownsRow_of_block h2 (fun b e => (hk b (World.ownsRow.lt h2 b e).2 (h.row A c b hc e)).2)⟩, hg.1, fun A' c' b e1 e2 => ?_⟩
 have e := h1'.cell 0
 rw [e1] at e
 have e3 : Value.slice A' M.length c' = .slice A M.length c := Option.some.inj e
 rw [e3] at e2
 exact (hk b (World.ownsRow.lt h2 b e2).2 (h.row A c b hc e2)).1
theorem QSto.move {Y Y' : Nat -> Prop} {w w' : World} {Q : QF} {sh : Sh} {n : Nat} {m : StM} (h : QSto Y w Q sh n m) (hk : ∀ i, i < w.heap.size -> Y i -> Y' i ∧ w'.heap[i]? = w.heap[i]?) (hn : ∀ b, w'.heap.size <= b -> Y' b) (hs : w.heap.size <= w'.heap.size) : QSto Y' w' Q sh n m := by
 obtain ⟨M, hM, hmp⟩ := h.mp
 refine ⟨(hk _ h.top.lt h.yr).2.trans h.top, h.dev.move (fun i hi hy => ⟨⟨(hk i hi hy.1).1, hy.2⟩, (hk i hi hy.1).2⟩) (fun b hb => ⟨hn b hb, fun e => ?_⟩), ⟨(hk _ h.seg.top.lt h.yg).2.trans h.seg.top, (hk _ h.seg.row.lt h.yb).2.trans h.seg.row⟩, ⟨M, hM, hmp.move hk⟩,
   (hk _ h.ends.lt h.ye).2.trans h.ends, (hk _ h.top.lt h.yr).1, (hk _ h.seg.top.lt h.yg).1, (hk _ h.seg.row.lt h.yb).1, (hk _ h.ends.lt h.ye).1, hn, h.len, h.sq⟩
 have := h.seg.row.lt
 omega
section
variable {Y Y' S : Nat -> Prop} {w w' : World} {Q : QF} {sh : Sh} {n n' : Nat} {m : StM}
theorem QSto.below (h : QSto Y w Q sh n m) (hb : Below w.heap.size w w') : QSto Y w' Q sh n m := h.move (fun i hi hy => ⟨hy, hb.block i hi⟩) (fun b hb' => h.nw b (Nat.le_trans hb.size hb')) hb.size
theorem QSto.drew (h : QSto Y w Q sh n m) : QSto Y w.drew Q sh n m := h.below (Below.refl _ _).drew
theorem QSto.alloc (h : QSto Y w Q sh n m) (o : Obj) : QSto Y (w.alloc o) Q sh n m := h.below ((Below.refl _ _).alloc (Nat.le_refl _) o)
theorem QSto.mono (h : QSto Y w Q sh n m) (hn : n <= n') (hm : n' <= 900000) : QSto Y w Q sh n' m := ⟨h.top, h.dev, h.seg, h.mp, h.ends, h.yr, h.yg, h.yb, h.ye, h.nw, ⟨Nat.le_trans h.len.1 hn, hm⟩, ⟨h.sq.1, Int.le_trans h.sq.2 (by omega)⟩⟩
theorem QSto.c0 (h : QSto Y w Q sh n m) : w.cell? ⟨Q.r, 0, none⟩ = some (.pointer (some ⟨Q.d, 0, none⟩)) := h.top.cell 0
theorem QSto.c1 (h : QSto Y w Q sh n m) : w.cell? ⟨Q.r, 1, none⟩ = some (.pointer (some ⟨Q.g, 0, none⟩)) := h.top.cell 1
theorem QSto.c2 (h : QSto Y w Q sh n m) : w.cell? ⟨Q.r, 2, none⟩ = some (.pointer (some ⟨Q.mm, 0, none⟩)) := h.top.cell 2
theorem QSto.c3 (h : QSto Y w Q sh n m) : w.cell? ⟨Q.r, 3, none⟩ = some (.int .u64 m.seq) := h.top.cell 3
theorem QSto.c4 (h : QSto Y w Q sh n m) : w.cell? ⟨Q.r, 4, none⟩ = some (.slice (some ⟨Q.e, 0, none⟩) sh.z sh.z) := h.top.cell 4
theorem QSto.c5 (h : QSto Y w Q sh n m) : w.cell? ⟨Q.r, 5, none⟩ = some (.int .i64 m.sl) := h.top.cell 5
theorem QSto.fz (h : QSto Y w Q sh n m) (i : Nat) : w.frozen? ⟨Q.r, i, none⟩ = false := h.top.frozen i
theorem QSto.en (h : QSto Y w Q sh n m) {i : Nat} (hi : i < sh.z) : w.cell? ⟨Q.e, i, none⟩ = some (.int .u64 (lastM m i)) := by
 rw [h.ends.cell, List.getElem?_toArray, nums_get .u64 _ i (by rw [endsL_length]; exact hi), endsL_get _ _ _ hi]
theorem QSto.ef (h : QSto Y w Q sh n m) (i : Nat) : w.frozen? ⟨Q.e, i, none⟩ = false := h.ends.frozen i
theorem QSto.gl (h : QSto Y w Q sh n m) (hg : m.G.length = sh.z) : m.G.length <= 65535 := by have := h.dev.ok.facts; omega
theorem QSto.dist (h : QSto Y w Q sh n m) : Q.r ≠ Q.l ∧ Q.r ≠ Q.b ∧ Q.r ≠ Q.mm ∧ Q.r ≠ Q.e ∧ Q.l ≠ Q.b ∧ Q.l ≠ Q.mm ∧ Q.l ≠ Q.e ∧ Q.b ≠ Q.mm ∧ Q.b ≠ Q.e ∧ Q.mm ≠ Q.e ∧ Q.r ≠ Q.d ∧ Q.r ≠ Q.g ∧ Q.g ≠ Q.l ∧ Q.g ≠ Q.b ∧ Q.g ≠ Q.mm ∧ Q.g ≠ Q.e ∧ Q.d ≠ Q.l ∧ Q.d ≠ Q.b ∧ Q.d ≠ Q.mm ∧ Q.d ≠ Q.e := by
 obtain ⟨cl, hl, _⟩ := h.dev.is
 obtain ⟨M, _, hm⟩ := h.mp
 obtain ⟨A, c, hmm, _⟩ := hm.rm
 have t := h.top
 have g := h.seg.top
 have b := h.seg.row
 have e := h.ends
 have d := h.dev.top
 exact ⟨t.ne_ hl (by decide), t.ne_ b (by decide), t.ne_ hmm (by decide), t.ne_ e (by decide), hl.ne_ b (by decide), hl.ne_ hmm (by decide), hl.ne_ e (by decide), b.ne_ hmm (by decide), b.ne_ e (by decide), hmm.ne_ e (by decide), t.ne_ d (by decide), t.ne_ g (by decide), g.ne_ hl (by decide), g.ne_ b (by decide), g.ne_ hmm (by decide), g.ne_ e (by decide), d.ne_ hl (by decide), d.ne_ b (by decide), d.ne_ hmm (by decide), d.ne_ e (by decide)⟩
theorem RMY.kp {g : Nat} {M : List Pl} (h : RMY Y w g M) {x : Nat} {t : TypeId} {cs : Array Value} (hx : Blk w x t cs) (ht : t ≠ 55) (hg : g ≠ x) (hk : Kp (fun b => b = x) w w') : RMY Y w' g M := by
 obtain ⟨A, c, h1, h2⟩ := h.rm
 have hc := h1.cell 0
 have hne : ∀ b, (Value.slice A M.length c).ownBlock = some b -> b ≠ x := fun b e e2 => own_blk_ne h2 hx (fun e => ht e.symm) (by rw [e, e2])
 have h1' := hk.blk h1 hg
 refine ⟨⟨A, c, h1', ownsRow_of_block h2 (fun b e => hk.block b (World.ownsRow.lt h2 b e).2 (hne b e))⟩, h.y, fun A' c' b e1 e2 => ?_⟩
 have e := h1'.cell 0
 rw [e1] at e
 have e3 : Value.slice A' M.length c' = .slice A M.length c := Option.some.inj e
 rw [e3] at e2
 exact h.row A c b hc e2
theorem QSto.onDev (h : QSto Y w Q sh n m) {P' : List Part} (hk : Kp (fun b => b = Q.l) w w') (hd : QDev (fun i => Y i ∧ i ≠ Q.b) w' Q.d Q.l sh P') : QSto Y w' Q sh n { m with P := P' } := by
 obtain ⟨d1, d2, d3, d4, d5, d6, d7, d8, d9, d10, d11, d12, d13, d14, d15, d16, d17, d18, d19, d20⟩ := h.dist
 obtain ⟨cl, hl, _⟩ := h.dev.is
 obtain ⟨M, hM, hmp⟩ := h.mp
 exact ⟨hk.blk h.top d1, hd, h.seg.kp hk d13 (fun e => d5 e.symm), ⟨M, hM, hmp.kp hl (by decide) (fun e => d6 e.symm) hk⟩, hk.blk h.ends (fun e => d7 e.symm), h.yr, h.yg, h.yb, h.ye, fun b hb => h.nw b (Nat.le_trans hk.size hb), h.len, h.sq⟩
theorem QDev.kp {d l : Nat} {P : List Part} (h : QDev Y w d l sh P) {x : Nat} (hx : ¬ Y x) (hk : Kp (fun b => b = x) w w') : QDev Y w' d l sh P :=
 h.move (fun g hg hy => ⟨hy, hk.block g hg (fun e => hx (e ▸ hy))⟩) (fun b hb => h.nw b (Nat.le_trans hk.size hb))
theorem QDev.kpt {d l : Nat} {P : List Part} (h : QDev Y w d l sh P) {x : Nat} {t : TypeId} {cs : Array Value} (hx : Blk w x t cs) (h1 : t ≠ 5) (h2 : t ≠ 36) (h3 : t ≠ 167) (h4 : t ≠ 136) (hk : Kp (fun b => b = x) w w') : QDev Y w' d l sh P := by
 obtain ⟨cs0, hb, hsz, hc⟩ := h.is
 refine ⟨hk.blk h.top (h.top.ne_ hx (fun e => h4 e.symm)), ⟨cs0, hk.blk hb (hb.ne_ hx (fun e => h3 e.symm)), hsz, fun i hi => ?_⟩, h.yd, h.yl, fun b hb => h.nw b (Nat.le_trans hk.size hb), h.sz, h.ok, h.fit⟩
 obtain ⟨Ai, ci, e1, e2, e3⟩ := hc i hi
 refine ⟨Ai, ci, e1, e2, fun h0 => ?_⟩
 obtain ⟨g, cs, e, hy, hB, hcc⟩ := e3 h0
 refine ⟨g, cs, e, hy, hk.blk hB (hB.ne_ hx (fun e => h2 e.symm)), fun j hj => ?_⟩
 obtain ⟨Aj, cj, e4, hd⟩ := hcc j hj
 exact ⟨Aj, cj, e4, hd.kpt hk (fun g cs hB e => by subst e; exact hB.ne_ hx (fun e => h1 e.symm) rfl)⟩
theorem QSto.onSeg (h : QSto Y w Q sh n m) {G' : List Int} (hk : Kp (fun b => b = Q.b) w w') (hs : RefIs w' Q.g Q.b Q.cap Q.ex G' sh.z sh.zb sh.bl sh.rs) (op : Int) : QSto Y w' Q sh n { m with G := G', op := op } := by
 obtain ⟨d1, d2, d3, d4, d5, d6, d7, d8, d9, d10, d11, d12, d13, d14, d15, d16, d17, d18, d19, d20⟩ := h.dist
 obtain ⟨M, hM, hmp⟩ := h.mp
 exact ⟨hk.blk h.top d2, h.dev.kp (fun e => e.2 rfl) hk, hs, ⟨M, hM, hmp.kp h.seg.row (by decide) (fun e => d8 e.symm) hk⟩, hk.blk h.ends (fun e => d9 e.symm), h.yr, h.yg, h.yb, h.ye, fun b hb => h.nw b (Nat.le_trans hk.size hb), h.len, h.sq⟩
theorem QSto.onMap (h : QSto Y w Q sh n m) {L' M' : List Pl} (hk : Kp (fun b => b = Q.mm) w w') (hr : RMb w' w.heap.size Q.mm M') (ht : Twin L' M') (hn : n <= n') (hl : L'.length <= n' ∧ n' <= 900000) : QSto Y w' Q sh n' { m with L := L' } := by
 obtain ⟨d1, d2, d3, d4, d5, d6, d7, d8, d9, d10, d11, d12, d13, d14, d15, d16, d17, d18, d19, d20⟩ := h.dist
 obtain ⟨M, hM, hmp⟩ := h.mp
 have hy := hmp.y
 obtain ⟨A0, c0, hm0, _⟩ := hmp.rm
 obtain ⟨A, c, h1, h2⟩ := hr
 refine ⟨hk.blk h.top d3, h.dev.kpt hm0 (by decide) (by decide) (by decide) (by decide) hk, h.seg.kp hk d15 (fun e => d8 e), ⟨M', ht, ⟨⟨A, c, h1, own_less h2 (Nat.zero_le _)⟩, hy, fun A' c' b e1 e2 => ?_⟩⟩, hk.blk h.ends (fun e => d10 e.symm), h.yr, h.yg, h.yb, h.ye, fun b hb => h.nw b (Nat.le_trans hk.size hb), hl, ⟨h.sq.1, Int.le_trans h.sq.2 (by omega)⟩⟩
 have e := h1.cell 0
 rw [e1] at e
 have e3 : Value.slice A' M'.length c' = .slice A M'.length c := Option.some.inj e
 rw [e3] at e2
 exact h.nw b (World.ownsRow.lt h2 b e2).1
theorem QSto.onTop (h : QSto Y w Q sh n m) {seq op sl : Int} (hk : Kp (fun b => b = Q.r) w w')
    (ht : Blk w' Q.r 99 #[.pointer (some ⟨Q.d, 0, none⟩), .pointer (some ⟨Q.g, 0, none⟩), .pointer (some ⟨Q.mm, 0, none⟩), .int .u64 seq, .slice (some ⟨Q.e, 0, none⟩) sh.z sh.z, .int .i64 sl])
    (hn : n <= n') (hm : n' <= 900000) (hq : 0 <= seq ∧ seq <= 9000000000000000000 + n') : QSto Y w' Q sh n' { m with seq := seq, sl := sl, op := op } := by
 obtain ⟨d1, d2, d3, d4, d5, d6, d7, d8, d9, d10, d11, d12, d13, d14, d15, d16, d17, d18, d19, d20⟩ := h.dist
 obtain ⟨M, hM, hmp⟩ := h.mp
 exact ⟨ht, h.dev.kpt h.top (by decide) (by decide) (by decide) (by decide) hk, h.seg.kp hk (fun e => d12 e.symm) (fun e => d2 e.symm), ⟨M, hM, hmp.kp h.top (by decide) (fun e => d3 e.symm) hk⟩, hk.blk h.ends (fun e => d4 e.symm), h.yr, h.yg, h.yb, h.ye, fun b hb => h.nw b (Nat.le_trans hk.size hb), ⟨Nat.le_trans h.len.1 hn, hm⟩, hq⟩
theorem QSto.onLast (h : QSto Y w Q sh n m) {la' : Int -> Option Int} {z : Nat} (hz : z < sh.z) {v : Int} (hv : ∀ y : Int, 0 <= y -> (la' y).getD 0 = if y = z then v else lastM m y) : QSto Y (w.setCell ⟨Q.e, z, none⟩ (.int .u64 v)) Q sh n { m with la := la' } := by
 have hk : Kp (fun b => b = Q.e) w (w.setCell ⟨Q.e, z, none⟩ (.int .u64 v)) := (Kp.refl (fun b => b = Q.e) w).setCell (p := ⟨Q.e, z, none⟩) (.inl rfl) _
 obtain ⟨d1, d2, d3, d4, d5, d6, d7, d8, d9, d10, d11, d12, d13, d14, d15, d16, d17, d18, d19, d20⟩ := h.dist
 obtain ⟨M, hM, hmp⟩ := h.mp
 have he := h.ends.set_ z (.int .u64 v)
 have e : (nums .u64 (endsL sh m)).toArray.setIfInBounds z (.int .u64 v) = (nums .u64 (endsL sh { m with la := la' })).toArray := by
  simp only [List.setIfInBounds_toArray]
  congr 1
  have e1 : (nums .u64 (endsL sh m)).set z (.int .u64 v) = nums .u64 ((endsL sh m).set z v) := by simp [nums, List.map_set]
  rw [e1]
  congr 1
  refine List.ext_getElem? fun i => ?_
  rw [List.getElem?_set, endsL_length]
  by_cases hi : i < sh.z
  · have hg : ∀ m' : StM, (endsL sh m')[i]? = some (lastM m' i) := fun m' => by
     unfold endsL
     rw [List.getElem?_map, List.getElem?_range hi]
     rfl
    rw [hg, hg]
    have hvi := hv i (by omega)
    by_cases hzi : z = i
    · subst hzi
      rw [if_pos rfl, if_pos hz]
      rw [if_pos rfl] at hvi
      exact congrArg some hvi.symm
    · rw [if_neg hzi]
      rw [if_neg (by omega)] at hvi
      exact congrArg some hvi.symm
  · have hn0 : ∀ m' : StM, (endsL sh m')[i]? = none := fun m' => List.getElem?_eq_none (by rw [endsL_length]; omega)
    rw [hn0, hn0, if_neg (by omega)]
 rw [e] at he
 exact ⟨hk.blk h.top d4, h.dev.kpt h.ends (by decide) (by decide) (by decide) (by decide) hk, h.seg.kp hk d16 (fun e => d9 e), ⟨M, hM, hmp.kp h.ends (by decide) (fun e => d10 e) hk⟩, he, h.yr, h.yg, h.yb, h.ye, fun b hb => h.nw b (Nat.le_trans hk.size hb), h.len, h.sq⟩
end
end Go.Proofs.YtfabgbmbnmbjkaaGreatDoor

/- Pruned. -/
namespace Go.Proofs.YtfabgbmbnmbjkaaGreatDoor
open Go.RowKit
set_option maxRecDepth 20000
section
variable (Y : Nat -> Prop) (w : World) (Q : QF) (sh : Sh) (n : Nat) (m : StM)
theorem QF.T_l {Q : QF} : Q.T Q.l := .inr (.inl rfl)
theorem qsflush_any (h : QSto Y w Q sh n m) : Calls Tryz.prog 72 #[.pointer (some ⟨Q.r, 0, none⟩)] w (fun e w' => e = .returned (.tuple #[]) ∧ QSto Y w' Q sh n (flushM m) ∧ Kp Q.T w w') := by
 have HF := Lib.hid (qflush_any _ w Q.d Q.l sh m.P h.dev)
 have c0 := h.c0
 have H := Lib.hid h
 clear h
 go_enter Tryz.func72, Tryz.ntmps72
 go_wp2_with (fail)
 refine HF.out.mono ?_
 rintro e w1 ⟨rfl, hd, hk⟩
 have H1 := Lib.hid (And.intro (H.out.onDev hk hd) (hk.mono (S' := Q.T) (fun b _ e => by rw [e]; exact QF.T_l)))
 clear hd hk c0 HF
 go_wp2
 go_end0
 exact ⟨rfl, H1.out⟩
theorem qslow_any (h : QSto Y w Q sh n m) (hg : m.G.length = sh.z) : Calls Tryz.prog 77 #[.pointer (some ⟨Q.r, 0, none⟩)] w (Makes (.bool (decide (frees m.G <= sh.rs))) w) := by
 have HF := Lib.hid (reflow_any _ _ _ _ _ _ _ _ _ w (h.gl hg) h.seg)
 have c1 := h.c1
 clear h hg
 generalize decide (frees m.G <= sh.rs) = b at *
 go_enter Tryz.func77, Tryz.ntmps77
 go_wp2_with (fail)
 refine HF.out.mono ?_
 rintro e w1 ⟨rfl, hb⟩
 have HB := Lib.hid hb
 clear hb c1 HF
 go_wp2
 go_ret
 exact ⟨rfl, HB.out⟩
theorem qslast_any (z : Int) (hz : z < 0 ∨ sh.z <= z -> lastM m z = 0) (h : QSto Y w Q sh n m) : Calls Tryz.prog 69 #[.pointer (some ⟨Q.r, 0, none⟩), .int .i64 z] w (fun e w' => e = .returned (.int .u64 (lastM m z)) ∧ w = w') := by
 have c4 := h.c4
 by_cases hin : 0 <= z ∧ z < sh.z
 · obtain ⟨k, rfl⟩ := Int.eq_ofNat_of_zero_le hin.1
   have ec := h.en (i := k) (by omega)
   have h1 : (k : Int) < sh.z := hin.2
   clear h hz hin
   generalize lastM m k = v at *
   go_enter Tryz.func69, Tryz.ntmps69
   go_wp2
   go_ret
   exact ⟨rfl, rfl⟩
 · have hv := hz (by omega)
   rw [hv]
   clear h hz hv
   by_cases h0 : z < 0
   · go_enter Tryz.func69, Tryz.ntmps69
     go_wp2
     go_ret
     exact ⟨rfl, rfl⟩
   · have h1 : (sh.z : Int) <= z := by omega
     clear hin
     go_enter Tryz.func69, Tryz.ntmps69
     go_wp2
     go_ret
     exact ⟨rfl, rfl⟩
theorem qsget_any (nm : Int × Int) (hg : Good sh m) (h : QSto Y w Q sh n m) :
    Calls Tryz.prog 17 #[.pointer (some ⟨Q.r, 0, none⟩), .int .u32 nm.1, .int .u64 nm.2] w (Got sh m nm w) := by
 obtain ⟨M, hM, hmp⟩ := h.mp
 have hml : M.length <= 1000000 := by have := hM.perm.length_eq; have := h.len; omega
 have HG := rget_any w Q.mm M nm.1 nm.2 (hg.uq.perm hM.perm.symm) hml hmp.rm
 rw [<- atOf_perm hg.uq hM.perm.symm] at HG
 have c2 := h.c2
 have H := Lib.hid h
 cases ha : atOf m.L nm with
 | none =>
   have HD : Hid (dataM m nm = none) := by unfold Hid dataM; rw [ha]; rfl
   have ha' : atOf m.L (nm.1, nm.2) = none := ha
   rw [ha'] at HG
   have HG := Lib.hid HG
   clear h ha ha' hg hM hmp hml
   go_enter Tryz.func17, Tryz.ntmps17
   go_wp2_with (fail)
   refine HG.out.mono ?_
   rintro e w1 ⟨rfl, hb1⟩
   have HB := Lib.hid hb1
   clear hb1 c2
   unfold addrV
   simp only [Option.getD_none, Option.isSome_none]
   go_wp2
   go_ret2
   exact ⟨fun _ => rfl, fun b hb => (by rw [HD.out] at hb; cases hb), HB.out.alloc HB.out.size _⟩
 | some a =>
   obtain ⟨p, hp, rfl, rfl⟩ := (atOf_some hg.uq).1 ha
   obtain ⟨a1, a2, a3, a4⟩ := hg.at_ p hp
   obtain ⟨z, hz⟩ := Int.eq_ofNat_of_zero_le a1
   obtain ⟨k, hk⟩ := Int.eq_ofNat_of_zero_le a3
   have hpa : p.a = ((z : Int), (k : Int)) := by unfold Pl.a; rw [hz, hk]
   have HD : Hid (dataM m p.n = some ((m.P.getD z pt0).bs.getD k [])) := by unfold Hid dataM; rw [ha, hpa]; rfl
   have ha' : atOf m.L (p.n.1, p.n.2) = some p.a := ha
   rw [ha', hpa] at HG
   have HG := Lib.hid HG
   have hpl := hg.pl
   rw [hz, hk] at a4
   have hk4 : k < (m.P.getD z pt0).bs.length := by simpa using a4
   have hlen : ((m.P.getD z pt0).bs.getD k []).length = sh.bl := (h.dev.fit z (by omega)).len _ (getD_mem hk4)
   have HLN := Lib.hid hlen
   have HR := Lib.hid (fun u (hu : QSto Y u Q sh n m) => qread_any _ u Q.d Q.l sh m.P z k (by omega) hk4 hu.dev)
   clear h ha ha' hg hp a1 a2 a3 a4 hz hk hpa hpl hk4 hM hmp hml
   generalize (m.P.getD z pt0).bs.getD k [] = bb at *
   rw [hlen] at HR
   clear hlen
   go_enter Tryz.func17, Tryz.ntmps17
   go_wp2_with (fail)
   refine HG.out.mono ?_
   rintro e w1 ⟨rfl, hb1⟩
   have HB := Lib.hid (hb1.alloc hb1.size (.cells #[.int .i64 z, .int .i64 k] 53))
   have hnb := Blk.new w1 53 #[.int .i64 z, .int .i64 k]
   have HNB := Lib.hid hnb
   clear hb1 c2 hnb
   unfold addrV
   simp only [Option.getD_some, Option.isSome_some]
   go_upto_region 4 with (fail)
   generalize w1.alloc (.cells #[.int .i64 z, .int .i64 k] 53) = w2 at *
   generalize w1.heap.size = b8 at *
   have HST := Lib.hid (H.out.below HB.out)
   have ks : w2.cell? ⟨Q.r, 0, none⟩ = some (.pointer (some ⟨Q.d, 0, none⟩)) ∧ w2.cell? ⟨b8, 0, none⟩ = some (.int .i64 z) ∧ w2.cell? ⟨b8, 1, none⟩ = some (.int .i64 k) := ⟨HST.out.c0, HNB.out.cell 0, HNB.out.cell 1⟩
   have HR2 := Lib.hid (HR.out _ HST.out.drew)
   have HS := Lib.hid HB.out.size
   go_region_held3 (fun u => u.cell? ⟨Q.r, 0, none⟩ = some (.pointer (some ⟨Q.d, 0, none⟩)) ∧ u.cell? ⟨b8, 0, none⟩ = some (.int .i64 z) ∧ u.cell? ⟨b8, 1, none⟩ = some (.int .i64 k))
     (first | exact ks | exact ks2)
     (first
       | (go_at_call 51
          with_reducible refine HR2.out.mono ?_
          rintro e w3 ⟨A, c, rfl, hrow, hb3⟩
          have ks2 : w3.cell? ⟨Q.r, 0, none⟩ = some (.pointer (some ⟨Q.d, 0, none⟩)) ∧ w3.cell? ⟨b8, 0, none⟩ = some (.int .i64 z) ∧ w3.cell? ⟨b8, 1, none⟩ = some (.int .i64 k) := ⟨below_keep hb3 ks.1, below_keep hb3 ks.2.1, below_keep hb3 ks.2.2⟩
          have H3 := Lib.hid (And.intro hrow (HB.out.drew.trans (hb3.mono HS.out)))
          clear hrow hb3))
   all_goals
    clear ks ks2
    go_wp2
    go_ret2
    refine ⟨fun hn => (by rw [HD.out] at hn; cases hn), fun b hb => ?_, H3.out.2⟩
    rw [HD.out] at hb
    obtain rfl := Option.some.inj hb
    exact ⟨A, c, rfl, H3.out.1.base HS.out, HLN.out⟩
end
end Go.Proofs.YtfabgbmbnmbjkaaGreatDoor

/- Pruned. -/
namespace Go.Proofs.YtfabgbmbnmbjkaaGreatDoor
open Go.RowKit
set_option maxRecDepth 20000
theorem OwnPl.rlt {w : World} {base c : Nat} {A : Option Addr} {L : List Pl} (h : OwnPl w base A c L) : ∀ r, A = some ⟨r, 0, none⟩ -> r < w.heap.size := fun r e => by
 subst e
 exact (World.ownsRow.lt h r rfl).2
def QMarked (Y : Nat -> Prop) (Q : QF) (sh : Sh) (n : Nat) (m : StM) (w : World) (e : Ending) (w' : World) : Prop :=
 e = .returned (.int .i64 (markM sh m).1) ∧ QSto Y w' Q sh n (markM sh m).2 ∧ Kp Q.T w w'
set_option maxHeartbeats 2000000 in
theorem qsmark_any (Y : Nat -> Prop) (w : World) (Q : QF) (sh : Sh) (n : Nat) (m : StM) (hi : Inv sh m) (hnm : ∀ p ∈ m.L, NameOk p.n) (hl5 : m.L.length <= 100000) (h : QSto Y w Q sh n m) :
    Calls Tryz.prog 73 #[.pointer (some ⟨Q.r, 0, none⟩)] w (QMarked Y Q sh n m w) := by
 obtain ⟨M, hM, hmp⟩ := h.mp
 obtain rfl := twin_rise hi.g.uq hM
 have hml : (riseL m.L).length = m.L.length := riseL_length hi.g.uq
 have hl9 := h.len
 have hpk := hi.places hnm (fun z hz => (h.dev.fit z (by rw [h.dev.sz]; exact hz)).fit)
 have HA := Lib.hid (rall_any w.drew Q.mm (riseL m.L) (by omega) (hmp.rm.below (Below.refl _ _).drew))
 have hs := hi.s
 unfold SlOk at hs
 obtain ⟨z, hz⟩ : ∃ z : Nat, (1 - m.sl).toNat = z := ⟨_, rfl⟩
 have hz2 : z < 2 := by omega
 have hwr : IntKind.i64.wrap (1 - m.sl) = (z : Int) := by rcases hs with e | e <;> (rw [e] at hz ⊢; subst hz; decide)
 have hwe : 1 - m.sl = (z : Int) := by omega
 have hsq : 0 <= m.seq ∧ m.seq <= 18446744073709551615 := by have := h.sq; omega
 obtain ⟨ee, hee⟩ : ∃ ee : Int, (if manyC (riseL m.L).length (roomC sh.bl) <= sh.zb then (0 : Int) else 140) = ee := ⟨_, rfl⟩
 obtain ⟨PP, hPP⟩ : ∃ PP, (if manyC (riseL m.L).length (roomC sh.bl) <= sh.zb then saveL m.P z (encC sh.bl m.seq (riseL m.L)) else m.P) = PP := ⟨_, rfl⟩
 have HS := Lib.hid (fun u A c (hu : QSto Y u Q sh n m) (ho : OwnPl u w.heap.size A c (riseL m.L)) (hl : (riseL m.L).length <= 100000) => qsave_any _ u Q.d Q.l sh m.P z hz2 m.seq hsq (riseL m.L) A c ho.row ho.rlt hpk hl hu.dev)
 unfold QSaved at HS
 rw [hee, hPP] at HS
 have HEE := Lib.hid hee
 have HPP := Lib.hid hPP
 have H := Lib.hid h
 have ks : w.cell? ⟨Q.r, 0, none⟩ = some (.pointer (some ⟨Q.d, 0, none⟩)) ∧ w.cell? ⟨Q.r, 2, none⟩ = some (.pointer (some ⟨Q.mm, 0, none⟩)) ∧ w.cell? ⟨Q.r, 3, none⟩ = some (.int .u64 m.seq) ∧ w.cell? ⟨Q.r, 5, none⟩ = some (.int .i64 m.sl) := ⟨h.c0, h.c2, h.c3, h.c5⟩
 have HL := Lib.hid (show (riseL m.L).length <= 100000 by omega)
 have HML := Lib.hid hml
 have HWE := Lib.hid hwe
 have HZ := Lib.hid hz
 have HRL := Lib.hid h.top.lt
 have HRD : Hid (Q.r ≠ Q.l) := h.dist.1
 have hsl0 : 0 <= m.sl := by omega
 have hsl1 : m.sl <= 1 := by omega
 have hm0 : (markB sh m ∧ markM sh m = (0, { m with P := saveL m.P (1 - m.sl).toNat (markE sh m), sl := 1 - m.sl })) ∨ (¬ markB sh m ∧ markM sh m = (140, m)) := by
  unfold markM
  by_cases hb : markB sh m
  · exact .inl ⟨hb, if_pos hb⟩
  · exact .inr ⟨hb, if_neg hb⟩
 have HM0 := Lib.hid hm0
 clear h hM hmp hpk hi hs hz hwe hm0 hml hl9 hl5 hnm hsq hee hPP
 go_enter Tryz.func73, Tryz.ntmps73
 go_wp2_with (fail)
 go_region_held3 (fun u => u.cell? ⟨Q.r, 0, none⟩ = some (.pointer (some ⟨Q.d, 0, none⟩)) ∧ u.cell? ⟨Q.r, 2, none⟩ = some (.pointer (some ⟨Q.mm, 0, none⟩)) ∧ u.cell? ⟨Q.r, 3, none⟩ = some (.int .u64 m.seq) ∧ u.cell? ⟨Q.r, 5, none⟩ = some (.int .i64 m.sl))
   (first | exact ks | exact ks2 | exact ks3)
   (first
     | (go_at_call 104
        with_reducible refine HA.out.mono ?_
        rintro e w2 ⟨A, c, rfl, ho, hb⟩
        have ks2 : w2.cell? ⟨Q.r, 0, none⟩ = some (.pointer (some ⟨Q.d, 0, none⟩)) ∧ w2.cell? ⟨Q.r, 2, none⟩ = some (.pointer (some ⟨Q.mm, 0, none⟩)) ∧ w2.cell? ⟨Q.r, 3, none⟩ = some (.int .u64 m.seq) ∧ w2.cell? ⟨Q.r, 5, none⟩ = some (.int .i64 m.sl) := ⟨below_keep hb ks.1, below_keep hb ks.2.1, below_keep hb ks.2.2.1, below_keep hb ks.2.2.2⟩
        have HB2 := Lib.hid (And.intro (show Below w.heap.size w w2 from (Below.refl w.heap.size w).drew.trans hb) ho)
        clear hb ho)
     | (go_at_call 45
        refine (HS.out _ _ _ (H.out.below HB2.out.1) HB2.out.2 HL.out).mono ?_
        rintro e w3 ⟨rfl, hd3, hk3⟩
        have ks3 : w3.cell? ⟨Q.r, 0, none⟩ = some (.pointer (some ⟨Q.d, 0, none⟩)) ∧ w3.cell? ⟨Q.r, 2, none⟩ = some (.pointer (some ⟨Q.mm, 0, none⟩)) ∧ w3.cell? ⟨Q.r, 3, none⟩ = some (.int .u64 m.seq) ∧ w3.cell? ⟨Q.r, 5, none⟩ = some (.int .i64 m.sl) := ⟨hk3.cell ks2.1 HRD.out, hk3.cell ks2.2.1 HRD.out, hk3.cell ks2.2.2.1 HRD.out, hk3.cell ks2.2.2.2 HRD.out⟩
        have HB3 := Lib.hid (And.intro hd3 hk3)
        clear hd3 hk3))
 all_goals
  have hq3 := (H.out.below HB2.out.1).onDev HB3.out.2 HB3.out.1
  have hf := hq3.fz 5
  have c5 := hq3.c5
  have HQ3 := Lib.hid (And.intro hq3 ((Kp.of_below (S := Q.T) HB2.out.1).trans (HB3.out.2.mono (S' := Q.T) (fun b _ e => by rw [e]; exact QF.T_l)) (fun _ _ h => h)))
  clear ks ks2 ks3 hq3
  rcases HM0.out with ⟨hb, hm⟩ | ⟨hb, hm⟩
  · have hb' : manyC (riseL m.L).length (roomC sh.bl) <= sh.zb := by rw [HML.out]; exact hb
    have HM := Lib.hid hm
    have h1 := HEE.out
    have h2 := HPP.out
    rw [if_pos hb'] at h1 h2
    subst h1 h2
    have HE : Hid (encC sh.bl m.seq (riseL m.L) = markE sh m) := rfl
    clear hm hb hb' HM0
    go_wp2
    go_ret
    unfold QMarked
    rw [HM.out]
    have ht := HQ3.out.1.top.set_ 5 (.int .i64 z)
    have hk := (Kp.refl (fun b => b = Q.r) w3).setCell (p := ⟨Q.r, 5, none⟩) (.inl rfl) (.int .i64 z)
    have ho := HQ3.out.1.onTop (seq := m.seq) (op := m.op) (sl := (z : Int)) hk (by simpa using ht) (Nat.le_refl _) HQ3.out.1.len.2 HQ3.out.1.sq
    refine ⟨rfl, ?_, HQ3.out.2.trans (hk.mono (S' := Q.T) (fun b _ e => by rw [e]; exact .inl rfl)) (fun _ _ h => h)⟩
    rw [HZ.out, HWE.out]
    exact ho
  · have hb' : ¬ manyC (riseL m.L).length (roomC sh.bl) <= sh.zb := by rw [HML.out]; exact hb
    have HM := Lib.hid hm
    have h1 := HEE.out
    have h2 := HPP.out
    rw [if_neg hb'] at h1 h2
    subst h1 h2
    clear hm hb hb' HM0
    go_wp2
    go_ret
    unfold QMarked
    rw [HM.out]
    exact ⟨rfl, HQ3.out⟩
def QCleared (Y : Nat -> Prop) (Q : QF) (sh : Sh) (n : Nat) (m : StM) (z : Int) (w : World) (e : Ending) (w' : World) : Prop :=
 e = .returned (.bool (clearM m z).1) ∧ QSto Y w' Q sh n (clearM m z).2 ∧ Kp Q.T w w'
theorem QF.T_b {Q : QF} : Q.T Q.b := .inr (.inr (.inl rfl))
theorem QF.T_e {Q : QF} : Q.T Q.e := .inr (.inr (.inr (.inr rfl)))
theorem QF.T_m {Q : QF} : Q.T Q.mm := .inr (.inr (.inr (.inl rfl)))
set_option maxHeartbeats 2000000 in
theorem qsclear_any (Y : Nat -> Prop) (w : World) (Q : QF) (sh : Sh) (n : Nat) (m : StM) (z : Int) (hg : Good sh m) (h : QSto Y w Q sh n m) :
    Calls Tryz.prog 74 #[.pointer (some ⟨Q.r, 0, none⟩), .int .i64 z] w (QCleared Y Q sh n m z w) := by
 obtain ⟨M, hM, hmp⟩ := h.mp
 have hml : M.length <= 1000000 := by have := hM.perm.length_eq; have := h.len; omega
 have HS := Lib.hid (refstate_any _ _ _ _ _ _ _ _ _ z w h.seg)
 have c1 := h.c1
 have H := Lib.hid h
 by_cases hst : stateAt m.G z = 3
 · obtain ⟨hz0, hz1⟩ := stateAt_in (G := m.G) (z := z) (by rw [hst]; decide)
   obtain ⟨k, rfl⟩ := Int.eq_ofNat_of_zero_le hz0
   have hkz : k < sh.z := by have := hg.gl; omega
   rw [hst] at HS
   have HI := Lib.hid (rin_any w Q.mm M k (hg.uq.perm hM.perm.symm) hml hmp.rm)
   have c2 := h.c2
   have hpo : (ofZ k M).Perm (ofZ k m.L) := hM.perm.filter _
   by_cases hL : ofZ k m.L = []
   · have hcb : clearB m k := ⟨hst, hL⟩
     have HC : Hid (clearM m k = (true, clearS m k)) := by unfold Hid clearM; rw [if_pos hcb]
     have HP : Hid (∀ S : List Pl, S.Perm (ofZ k M) -> S = []) := fun S hS => List.perm_nil.1 (by have := hS.trans hpo; rw [hL] at this; exact this)
     have HK := Lib.hid (And.intro hkz (And.intro hst hg))
     have hki : (k : Int) < sh.z := by omega
     clear hcb hL hpo hz0 hz1 hst hM hmp hml hg h hkz
     go_enter Tryz.func74, Tryz.ntmps74
     go_wp2_with (fail)
     refine HS.out.mono ?_
     rintro e w1 ⟨rfl, rfl⟩
     go_wp2_with (fail)
     refine HI.out.mono ?_
     rintro e w2 ⟨A, c, S, rfl, _, hS, _, hb⟩
     obtain rfl := HP.out S hS
     have H2 := Lib.hid (H.out.below hb)
     have HB2 := Lib.hid hb
     have c0 := H2.out.c0
     clear hS hb c1 c2 HS HI HP
     go_wp2_with (fail)
     refine (qreset_any _ w2 Q.d Q.l sh m.P k (by rw [H2.out.dev.sz]; exact HK.out.1) H2.out.dev).mono ?_
     rintro e w3 ⟨rfl, hd3, hk3⟩
     have H3 := Lib.hid (H2.out.onDev hk3 hd3)
     have HB3 := Lib.hid ((Kp.of_below (S := Q.T) HB2.out).trans (hk3.mono (S' := Q.T) (fun b _ e => by rw [e]; exact QF.T_l)) (fun _ _ h => h))
     have c1 := H3.out.c1
     clear hd3 hk3 c0
     go_wp2_with (fail)
     refine (refclear_any _ _ _ _ _ _ _ _ _ k w3 H3.out.seg).mono ?_
     rintro e w4 ⟨h4, _, hk4⟩
     obtain ⟨rfl, hs4⟩ := h4 HK.out.2.1
     have H4 := Lib.hid (H3.out.onSeg hk4 hs4 m.op)
     have HB4 := Lib.hid (HB3.out.trans (hk4.mono (S' := Q.T) (fun b _ e => by rw [e]; exact QF.T_b)) (fun _ _ h => h))
     have c4 := H4.out.c4
     have ef := H4.out.ef k
     have en := H4.out.en (i := k) HK.out.1
     generalize lastM _ _ = lv at en
     clear hs4 hk4 c1
     go_wp2
     go_ret
     unfold QCleared
     rw [HC.out]
     have h5 := H4.out.onLast (la' := fun y => if y = k then none else m.la y) (z := k) HK.out.1 (v := 0) (fun y _ => by
      show ((if y = k then none else m.la y).getD 0 : Int) = if y = k then 0 else (m.la y).getD 0
      split <;> rfl)
     refine ⟨rfl, ?_, HB4.out.setCell (p := ⟨Q.e, k, none⟩) (.inl QF.T_e) _⟩
     exact h5
   · have hcb : ¬ clearB m k := fun e => hL e.2
     have HC : Hid (clearM m k = (false, m)) := by unfold Hid clearM; rw [if_neg hcb]
     have HP : Hid (∀ S : List Pl, S.Perm (ofZ k M) -> (0 : Int) < S.length) := fun S hS => by
      have h1 := (hS.trans hpo).length_eq
      have h2 : 0 < (ofZ k m.L).length := List.length_pos_iff.2 hL
      omega
     clear hcb hL hpo hz0 hz1 hst hM hmp hml hg h hkz
     go_enter Tryz.func74, Tryz.ntmps74
     go_wp2_with (fail)
     refine HS.out.mono ?_
     rintro e w1 ⟨rfl, rfl⟩
     go_wp2_with (fail)
     refine HI.out.mono ?_
     rintro e w2 ⟨A, c, S, rfl, _, hS, _, hb⟩
     have hp := HP.out S hS
     have HB2 := Lib.hid hb
     clear hS hb c1 c2 HS HI HP
     go_wp2
     go_ret
     unfold QCleared
     rw [HC.out]
     exact ⟨rfl, H.out.below HB2.out, Kp.of_below HB2.out⟩
 · have hcb : ¬ clearB m z := fun e => hst e.1
   have HC : Hid (clearM m z = (false, m)) := by unfold Hid clearM; rw [if_neg hcb]
   have hne : (stateAt m.G z == 3) = false := by rw [beq_eq_false_iff_ne]; exact hst
   clear hcb hM hmp hml hg h
   generalize stateAt m.G z = st at *
   go_enter Tryz.func74, Tryz.ntmps74
   go_wp2_with (fail)
   refine HS.out.mono ?_
   rintro e w1 ⟨rfl, rfl⟩
   clear HS
   go_wp2
   go_ret
   unfold QCleared
   rw [HC.out]
   exact ⟨rfl, H.out, Kp.refl _ _⟩
end Go.Proofs.YtfabgbmbnmbjkaaGreatDoor

/- Pruned. -/
namespace Go.Proofs.YtfabgbmbnmbjkaaGreatDoor
open Go.RowKit
set_option maxRecDepth 20000
theorem listTo_single (l : List Int) (s o : Int) (h : ∀ i : Nat, i < l.length -> (l.getD i 0 = s ↔ (i : Int) = o)) (k : Nat) (hk : k <= l.length) : listTo l s k = if 0 <= o ∧ o < k then [o] else [] := by
 induction k with
 | zero => rw [if_neg (by omega)]; rfl
 | succ k ih =>
   rw [listTo_succ, ih (by omega)]
   by_cases e : (k : Int) = o
   · rw [if_pos ((h k (by omega)).2 e), if_neg (by omega), if_pos (by omega), e]
     rfl
   · rw [if_neg (fun h' => e ((h k (by omega)).1 h'))]
     by_cases ho : 0 <= o ∧ o < k
     · rw [if_pos ho, if_pos (by omega)]
     · rw [if_neg ho, if_neg (by omega)]
theorem Inv.opens {sh : Sh} {m : StM} (hg : Good sh m) (hw : Wk sh m) : listTo m.G 2 m.G.length = if 0 <= m.op then [m.op] else [] := by
 have h0 := listTo_single m.G 2 m.op (fun i hi => by
  have hs : stateAt m.G i = m.G.getD i 0 := by unfold stateAt; rw [if_pos (by omega)]; simp
  constructor
  · intro e
    exact (hw.open_ i (hs.trans e)).symm
  · intro e
    rw [<- hs, e]
    exact hg.op (by omega)) m.G.length (Nat.le_refl _)
 rw [h0]
 by_cases ho : 0 <= m.op
 · have := stateAt_in (G := m.G) (z := m.op) (by rw [hg.op ho]; decide)
   rw [if_pos ho, if_pos (by omega)]
 · rw [if_neg ho, if_neg (by omega)]
def QOpened (Y : Nat -> Prop) (Q : QF) (sh : Sh) (n : Nat) (m : StM) (w : World) (e : Ending) (w' : World) : Prop :=
 ∃ z : Int, ∃ b : Bool, e = .returned (.tuple #[.int .i64 z, .bool b]) ∧ Kp Q.T w w' ∧
   ((0 <= m.op ∧ z = m.op ∧ b = true ∧ QSto Y w' Q sh n m) ∨
    (m.op < 0 ∧ placeI 1 m.G 0 = -1 ∧ b = false ∧ QSto Y w' Q sh n m) ∨
    (m.op < 0 ∧ placeI 1 m.G 0 ≠ -1 ∧ z = placeI 1 m.G 0 ∧ b = true ∧ QSto Y w' Q sh n { m with G := turnL m.G (placeI 1 m.G 0) 2, op := placeI 1 m.G 0 }))
set_option maxHeartbeats 2000000 in
theorem qsopen_any (Y : Nat -> Prop) (w : World) (Q : QF) (sh : Sh) (n : Nat) (m : StM) (hg : Good sh m) (hw : Wk sh m) (h : QSto Y w Q sh n m) :
    Calls Tryz.prog 127 #[.pointer (some ⟨Q.r, 0, none⟩)] w (QOpened Y Q sh n m w) := by
 have hL := reflist_any _ _ _ _ _ _ _ _ _ 2 w (h.gl hg.gl) h.seg
 rw [Inv.opens hg hw] at hL
 have c1 := h.c1
 have H := Lib.hid h
 have HLN := Lib.hid (h.gl hg.gl)
 clear h hg hw
 by_cases ho : 0 <= m.op
 · rw [if_pos ho] at hL
   have HL := Lib.hid hL
   have HO := Lib.hid ho
   clear hL ho
   unfold Lists at HL
   simp only [List.length_singleton] at HL
   go_enter Tryz.func127, Tryz.ntmps127
   go_wp2_with (fail)
   refine HL.out.mono ?_
   rintro e w1 ⟨A, c, rfl, hr, hb, _⟩
   obtain ⟨ad, rfl, _, hc⟩ := hr.2 (by omega)
   have x0 := hc 0 _ (by rfl)
   rw [show ad.add 0 = ad by obtain ⟨b, o, x⟩ := ad; unfold Addr.add; split <;> simp_all] at x0
   have HB := Lib.hid hb
   clear hr hb hc HL c1
   go_wp2
   go_ret2
   exact ⟨m.op, true, rfl, Kp.of_below HB.out, .inl ⟨HO.out, rfl, rfl, H.out.below HB.out⟩⟩
 · rw [if_neg ho] at hL
   have HL := Lib.hid hL
   have HO : Hid (m.op < 0) := by unfold Hid; omega
   clear hL ho
   unfold Lists at HL
   simp only [List.length_nil] at HL
   go_enter Tryz.func127, Tryz.ntmps127
   go_wp2_with (fail)
   refine HL.out.mono ?_
   rintro e w1 ⟨A, c, rfl, hr, hb, _⟩
   have H1 := Lib.hid (H.out.below hb)
   have HB := Lib.hid hb
   have c1' := H1.out.c1
   clear hr hb HL c1
   go_wp2_with (fail)
   refine (reftake_any _ _ _ _ _ _ _ _ _ w1 H1.out.seg HLN.out).mono ?_
   rintro e w2 ⟨h1, h2, hk⟩
   have HK := Lib.hid ((Kp.of_below (S := Q.T) HB.out).trans (hk.mono (S' := Q.T) (fun b _ e => by rw [e]; exact QF.T_b)) (fun _ _ h => h))
   by_cases hp : placeI 1 m.G 0 = -1
   · obtain ⟨rfl, hs⟩ := h2 hp
     have H2 := Lib.hid (H1.out.onSeg hk hs m.op)
     have HP := Lib.hid hp
     clear h1 h2 hs hk hp c1'
     go_wp2
     go_ret2
     exact ⟨0, false, rfl, HK.out, .inr (.inl ⟨HO.out, HP.out, rfl, H2.out⟩)⟩
   · obtain ⟨rfl, hs⟩ := h1 hp
     have H2 := Lib.hid (H1.out.onSeg hk hs (placeI 1 m.G 0))
     have HP := Lib.hid hp
     clear h1 h2 hs hk hp c1'
     have HV : Hid (placeI 1 m.G 0 = placeI 1 m.G 0) := rfl
     generalize hpz : placeI 1 m.G 0 = pz
     have HZ := Lib.hid hpz
     clear hpz
     go_wp2
     go_ret2
     exact ⟨pz, true, rfl, HK.out, .inr (.inr ⟨HO.out, HP.out, HZ.out.symm, rfl, H2.out⟩)⟩
set_option maxHeartbeats 2000000 in
theorem qsmany_any (Y X : Nat -> Prop) (w : World) (Q : QF) (sh : Sh) (n : Nat) (m : StM) (A : Option Addr) (c : Nat) (l : List Pv) (hl : l.length <= 100000) (hp : PutsAt X w A l) (hlf : 1 <= leftM sh m) (hlf2 : leftM sh m <= 4096) (h : QSto Y w Q sh n m) :
    Calls Tryz.prog 130 #[.pointer (some ⟨Q.r, 0, none⟩), .slice A l.length c, .int .i64 (leftM sh m)] w (fun e w' => e = .returned (.int .i64 (batchM sh m l : Nat)) ∧ w = w') := by
 have HRM := Lib.hid (qroom_any sh h.dev.ok)
 have hrm : roomN sh.bl <= 4096 := by have := h.dev.ok.blk; unfold roomN; omega
 obtain ⟨most, hmo⟩ : ∃ most, min l.length (roomN sh.bl) = most := ⟨_, rfl⟩
 obtain ⟨room, hro⟩ : ∃ room, leftM sh m = room := ⟨_, rfl⟩
 have HBM : Hid (batchM sh m l = batchF (room - 1) (l.take most) 0) := by unfold Hid batchM; rw [hro, hmo]
 rw [hro] at hlf hlf2 ⊢
 have c0 := h.c0
 have d2 := h.dev.t2
 have HP := Lib.hid hp
 have hmo1 : most <= l.length := by omega
 have hmo2 : most <= roomN sh.bl := by omega
 have hmo3 : most = l.length ∨ most = roomN sh.bl := by omega
 generalize roomN sh.bl = rn at *
 clear h hp hro hmo
 go_enter Tryz.func130, Tryz.ntmps130
 go_wp2_with (fail)
 go_loop [7, 8] (fun d i => ∃ k : Nat, k <= most ∧ i = .int .i64 k ∧ d = .int .i64 (dataN (l.take k) : Nat) ∧ Hid ((dataN (l.take k) : Nat) <= room - 1) ∧ Hid (batchF (room - 1) (l.take most) 0 = k + batchF (room - 1) ((l.take most).drop k) (dataN (l.take k) : Nat))) (fun _ i => most - (intOf i).toNat)
 case atStart => exact ⟨0, Nat.zero_le _, rfl, by simp [dataN], by simp [Hid, dataN]; omega, by simp [Hid, dataN]⟩
 case round =>
  obtain ⟨k, hk, rfl, rfl, hdl, hf⟩ := hrel
  have hdl2 := hdl.out
  have hd4 : dataN (l.take k) <= 4096 := by omega
  by_cases hlt : k < most
  · have hkl : k < l.length := by omega
    have hkr : k < rn := by omega
    obtain ⟨ad, Ad, cd, rfl, hat⟩ := HP.out k hkl
    have p2 := hat.c2
    have hgd : (l.take most).getD k pv0 = l.getD k pv0 := by simp [List.getD_eq_getElem?_getD, hlt]
    have hbd := batchF_drop (room - 1) (l.take most) k (dataN (l.take k) : Nat) (by simp; omega)
    rw [hgd] at hbd
    have hds := dataN_succ l k hkl
    have HBD := Lib.hid hbd
    have HDS := Lib.hid hds
    have HLT := Lib.hid hlt
    clear hbd hds hat hgd hmo1 hmo2 hmo3 hlt hk
    generalize l.getD k pv0 = x at *
    generalize dataN (l.take k) = dn at *
    obtain ⟨xt, xb, xd, xda⟩ := x
    simp only at p2
    cases xd with
    | true =>
      have h1 : dataN (l.take (k + 1)) = dn := by rw [HDS.out]; simp
      have h2 : batchF (room - 1) (l.take most) 0 = (k + 1 : Nat) + batchF (room - 1) ((l.take most).drop (k + 1)) dn := by rw [hf.out, HBD.out]; simp; omega
      have H12 := Lib.hid (And.intro h1 h2)
      clear h1 h2 hf HBD HDS
      go_wp2_with (first
        | (go_at_call 175
           refine (HRM.out _).mono ?_
           rintro e w' ⟨rfl, rfl⟩))
      go_round
      case rel => exact ⟨k + 1, HLT.out, by go_num, by rw [H12.out.1], by rw [H12.out.1]; exact hdl, by rw [H12.out.1]; exact H12.out.2⟩
      case measure => have := HLT.out; simp [intOf]; omega
    | false =>
      by_cases hr : room < (dn : Int) + 2
      · have h2 : batchF (room - 1) (l.take most) 0 = k := by
         rw [hf.out, HBD.out]
         have : (dn : Int) = room - 1 := by omega
         simp [this]
        have H2 := Lib.hid h2
        clear h2 hf HBD HDS
        go_wp2_with (first
          | (go_at_call 175
             refine (HRM.out _).mono ?_
             rintro e w' ⟨rfl, rfl⟩))
        go_ret
        exact ⟨by rw [HBM.out, H2.out]; rfl, rfl⟩
      · have h1 : dataN (l.take (k + 1)) = dn + 1 := by rw [HDS.out]; simp
        have h2 : batchF (room - 1) (l.take most) 0 = (k + 1 : Nat) + batchF (room - 1) ((l.take most).drop (k + 1)) ((dn + 1 : Nat) : Int) := by
         rw [hf.out, HBD.out]
         have : ¬ (dn : Int) = room - 1 := by omega
         simp [this]
         omega
        have H12 := Lib.hid (And.intro h1 (And.intro h2 (show ((dn + 1 : Nat) : Int) <= room - 1 by omega)))
        clear h1 h2 hf HBD HDS
        go_wp2_with (first
          | (go_at_call 175
             refine (HRM.out _).mono ?_
             rintro e w' ⟨rfl, rfl⟩))
        go_round
        case rel => exact ⟨k + 1, HLT.out, by go_num, by rw [H12.out.1]; go_num, by rw [H12.out.1]; exact H12.out.2.2, by rw [H12.out.1]; exact H12.out.2.1⟩
        case measure => have := HLT.out; simp [intOf]; omega
  · have hk1 : k = most := by omega
    have h2 : batchF (room - 1) (l.take most) 0 = most := by
     rw [hf.out, hk1, List.drop_eq_nil_of_le (by rw [List.length_take]; omega)]
     rfl
    have H2 := Lib.hid h2
    clear h2 hf hlt
    subst hk1
    by_cases hkl : k < l.length
    · have hkr : ¬ k < rn := by omega
      clear hmo1 hmo2 hmo3
      go_wp2_with (first
        | (go_at_call 175
           refine (HRM.out _).mono ?_
           rintro e w' ⟨rfl, rfl⟩))
      go_ret
      exact ⟨by rw [HBM.out, H2.out]; rfl, rfl⟩
    · clear hmo1 hmo2 hmo3
      go_wp2
      go_ret
      exact ⟨by rw [HBM.out, H2.out]; rfl, rfl⟩
end Go.Proofs.YtfabgbmbnmbjkaaGreatDoor

/- Pruned. -/
namespace Go.Proofs.YtfabgbmbnmbjkaaGreatDoor
open Go.RowKit
set_option maxRecDepth 20000
theorem irow_app {w6 : World} {base c5 k : Nat} {A5 : Option Addr} {O : List It} (h : IRow w6 base A5 c5 O) (hk : O.length = k) (q : It) (hlen : k <= 1000000) (hbase : base <= w6.heap.size) :
    ∃ A7 c7 w7, (Builtin.append_ #[188, 188] 188 #[.slice A5 k c5, .slice (some ⟨w6.heap.size, 0, none⟩) 1 1]).run Tryz.prog (w6.alloc (.cells #[.int .u32 q.t, .int .u64 q.b, .int .u8 q.k, .int .u32 q.s, .int .u16 q.e] 192)) = .ok (.slice A7 (k + 1) c7) w7 ∧
      IRow w7 base A7 c7 (O ++ [q]) ∧ Kp (fun b => (Value.slice A5 O.length c5).ownBlock = some b) w6 w7 := by
 subst hk
 obtain ⟨i0, hi0, hz0, hz1, hz2⟩ := info_parts it_info
 have hsrc := Blk.new w6 192 #[.int .u32 q.t, .int .u64 q.b, .int .u8 q.k, .int .u32 q.s, .int .u16 q.e]
 have hr : Reads (w6.alloc (.cells #[.int .u32 q.t, .int .u64 q.b, .int .u8 q.k, .int .u32 q.s, .int .u16 q.e] 192)) (w6.alloc (.cells #[.int .u32 q.t, .int .u64 q.b, .int .u8 q.k, .int .u32 q.s, .int .u16 q.e] 192)).heap.size 5 (some ⟨w6.heap.size, 0, none⟩) 1 (itC q) := ⟨rfl, fun _ => ⟨_, rfl, hsrc.lt, fun j v hv => by
  rw [add0, hsrc.cell, List.getElem?_toArray]
  exact hv⟩⟩
 have hown6 := World.ownsRow.alloc h (.cells #[.int .u32 q.t, .int .u64 q.b, .int .u8 q.k, .int .u32 q.s, .int .u16 q.e] 192)
 obtain ⟨v', w7, hrun, hown7, hg, hor⟩ := run_append_any (P := Tryz.prog) (w := w6.alloc (.cells #[.int .u32 q.t, .int .u64 q.b, .int .u8 q.k, .int .u32 q.s, .int .u16 q.e] 192)) base 188 188 192 i0 _ 5 32 Tryz.underlying188 hi0 hz0 hz1 hz2 rfl (by omega) (.slice A5 O.length c5) O.length _ hown6 _ _ 1 1 (itC q) hr (fun v hv => by
  simp only [itC, List.mem_cons, List.not_mem_nil, or_false] at hv
  rcases hv with rfl | rfl | rfl | rfl | rfl <;> rfl) (by simp only [maxLen]; omega) (by omega) (by simp; omega)
 obtain ⟨A7, c7, rfl⟩ := own_form hown7
 refine ⟨A7, c7, w7, hrun, ?_, ((Kp.refl (fun g => (Value.slice A5 O.length c5).ownBlock = some g) w6).alloc _).trans ⟨hg.os, hg.tape, hg.output, hg.size, fun g hg' hne => hg.block g hg' (fun e => hne e.symm)⟩ (fun _ _ h => h)⟩
 unfold IRow
 rw [List.length_append]
 have e : itCs (O ++ [q]) = itCs O ++ itC q := by simp [itCs]
 rw [e]
 exact hown7
theorem cell_far_ {w : World} {p q : Addr} {v : Value} (h : ¬ q.block = p.block) : (w.setCell p v).cell? q = w.cell? q := World.cell?_setCell_other _ _ _ _ (fun e => h (by rw [e]))
structure RcI (w wr : World) (sq : Int) (k : Nat) (A5 : Option Addr) (c5 : Nat) (O : List It) : Prop where
  low : Below w.heap.size w wr
  rcd : Blk wr w.heap.size 190 #[.int .u64 sq, .slice A5 k c5]
  row : IRow wr (w.heap.size + 1) A5 c5 O
theorem RcI.below {w wr w5 : World} {sq : Int} {k c5 : Nat} {A5 : Option Addr} {O : List It} (h : RcI w wr sq k A5 c5 O) (hb : Below wr.heap.size wr w5) : RcI w w5 sq k A5 c5 O := ⟨h.low.trans (hb.mono h.low.size), h.rcd.below hb h.rcd.lt, h.row.below hb (Nat.le_refl _)⟩
theorem RcI.app {w w6 : World} {sq : Int} {k c5 : Nat} {A5 : Option Addr} {O : List It} (h : RcI w w6 sq k A5 c5 O) (hk : O.length = k) (q : It) (hlen : k <= 1000000) :
    ∃ A7 c7 w7, (Builtin.append_ #[188, 188] 188 #[.slice A5 k c5, .slice (some ⟨w6.heap.size, 0, none⟩) 1 1]).run Tryz.prog (w6.alloc (.cells #[.int .u32 q.t, .int .u64 q.b, .int .u8 q.k, .int .u32 q.s, .int .u16 q.e] 192)) = .ok (.slice A7 (k + 1) c7) w7 ∧
      (∀ i, w7.frozen? ⟨w.heap.size, i, none⟩ = false) ∧ w7.cell? ⟨w.heap.size, 1, none⟩ = some (.slice A5 k c5) ∧ RcI w (w7.setCell ⟨w.heap.size, 1, none⟩ (.slice A7 (k + 1) c7)) sq (k + 1) A7 c7 (O ++ [q]) := by
 obtain ⟨A7, c7, w7, hrun, h7, k7⟩ := irow_app h.row hk q hlen h.rcd.lt
 have hrb7 := k7.blk h.rcd (fun e => by have := (h.row.lt e).1; omega)
 have hw7 : Below w.heap.size w w7 := Kp.below h.low k7 h.low.size (fun b hb e => by have := (h.row.lt e).1; omega)
 refine ⟨A7, c7, w7, hrun, fun i => hrb7.frozen i, hrb7.cell 1, ⟨hw7.setCell (p := ⟨w.heap.size, 1, none⟩) (Nat.le_refl _) _, ?_, ownsRow_of_block h7 (fun b he => Below.heap_setCell w7 _ _ b (by have := (h7.lt he).1; show b ≠ w.heap.size; omega))⟩⟩
 have := hrb7.set_ 1 (.slice A7 (k + 1) c7)
 simpa using this
set_option maxHeartbeats 4000000 in
theorem qsrecord_any (Y X : Nat -> Prop) (w : World) (Q : QF) (sh : Sh) (n : Nat) (m : StM) (z : Nat) (A : Option Addr) (c : Nat) (l : List Pv) (hw : WriteOk sh m l z) (hp : PutsAt X w A l) (hX : ∀ b, Q.T b -> ¬ X b) (hn : n + l.length <= 900000) (h : QSto Y w Q sh n m) :
    Calls Tryz.prog 131 #[.pointer (some ⟨Q.r, 0, none⟩), .int .i64 z, .slice A l.length c] w (fun e w' => e = .returned (.tuple #[]) ∧ QSto Y w' Q sh (n + l.length) (l.foldl stepW (headW sh m l)) ∧ Kp Q.T w w') := by
 have hok := h.dev.ok
 have hbl := hok.blk
 have hfc := hok.facts
 have hl1 : l.length <= 4096 := by have := hw.nr; unfold roomN at this; omega
 have c3 := h.c3
 have hq0 : 0 <= m.seq := h.sq.1
 have hq1 : m.seq <= 9000000000001000000 := by have := h.sq.2; have := h.len; omega
 have H := Lib.hid h
 have HW := Lib.hid hw
 have HP := Lib.hid hp
 have HN := Lib.hid hn
 have HX := Lib.hid hX
 have HOK := Lib.hid hok
 have HLZ : Hid (0 < l.length) := hw.n0
 have HSZ : Hid (m.P.length = sh.z) := h.dev.sz
 have hzz : z < sh.z := hw.zl
 have hz9 : sh.z <= 256 := by omega
 have hb9 : sh.bl <= 4096 := by omega
 clear h hw hp hn hok hX hfc
 obtain ⟨sq, hsq⟩ : ∃ sq, m.seq = sq := ⟨_, rfl⟩
 rw [hsq] at c3 hq0 hq1
 have HSQ := Lib.hid hsq
 clear hsq
 have hr0 : Hid (RcI w (w.alloc (.cells #[.int .u64 (sq + 1), .slice none 0 0] 190)) (sq + 1) 0 none 0 ((l.take 0).map itemM)) := ⟨(Below.refl _ _).alloc (Nat.le_refl _) _, Blk.new w _ _, World.ownsRow_nil _ _ _ _⟩
 go_enter Tryz.func131, Tryz.ntmps131
 go_wp2_with (fail)
 go_loopw [7] (fun i wr => ∃ (k : Nat) (A5 : Option Addr) (c5 : Nat), k <= l.length ∧ i = .int .i64 k ∧ Hid (RcI w wr (sq + 1) k A5 c5 ((l.take k).map itemM))) (fun i _ => l.length - (intOf i).toNat)
 case atStart => exact ⟨0, none, 0, Nat.zero_le _, rfl, hr0⟩
 case round =>
  obtain ⟨k, A5, c5, hk, rfl, hr⟩ := hrel
  clear hr0 c3
  by_cases hlt : k < l.length
  · have hpw := HP.out.below hr.out.low
    obtain ⟨ad, Ad, cd, rfl, hat⟩ := hpw k hlt
    have p0 := hat.c0
    have p1 := hat.c1
    have HAT := Lib.hid hat
    have HPV := Lib.hid (HW.out.pv _ (getD_mem (d := pv0) hlt))
    have HDA := Lib.hid (HW.out.da _ (getD_mem (d := pv0) hlt))
    have HTK : Hid ((l.take (k + 1)).map itemM = (l.take k).map itemM ++ [itemM (l.getD k pv0)]) := by
     unfold Hid
     rw [List.take_succ_eq_append_getElem hlt, List.map_append, List.getD_eq_getElem?_getD, List.getElem?_eq_getElem hlt]
     rfl
    have HLT := Lib.hid hlt
    have hki : (k : Int) < l.length := by omega
    have hOl : ((l.take k).map itemM).length = k := by simp; omega
    clear hpw hat
    generalize l.getD k pv0 = p at *
    obtain ⟨O, hO⟩ : ∃ O, (l.take k).map itemM = O := ⟨_, rfl⟩
    rw [hO] at hr hOl HTK
    have HOL := Lib.hid hOl
    clear hO hOl hlt hk
    have hxb : (ad.add (k * 4)).block < wr.heap.size := World.block_lt_of_cell? _ _ p0
    go_upto_region 4 with (fail)
    go_region_held3 (fun u => u.cell? (ad.add (k * 4)) = some (.int .u32 p.t) ∧ u.cell? ⟨(ad.add (k * 4)).block, (ad.add (k * 4)).off + 1, none⟩ = some (.int .u64 p.b))
      (first | exact ⟨p0, p1⟩ | go_keep)
      (fail)
    have hB5 : Blk ((wr.alloc (.cells #[.int .u32 p.t, .int .u64 p.b, .int .u8 2, .int .u32 0, .int .u16 0] 192)).drew) wr.heap.size 192 #[.int .u32 p.t, .int .u64 p.b, .int .u8 2, .int .u32 0, .int .u16 0] := (Blk.new wr _ _).drew
    have hb5 : Below wr.heap.size wr ((wr.alloc (.cells #[.int .u32 p.t, .int .u64 p.b, .int .u8 2, .int .u32 0, .int .u16 0] 192)).drew) := ((Below.refl _ _).alloc (Nat.le_refl _) _).drew
    generalize (wr.alloc (.cells #[.int .u32 p.t, .int .u64 p.b, .int .u8 2, .int .u32 0, .int .u16 0] 192)).drew = w5 at *
    have hR5 := hr.out.below hb5
    have hat5 := HAT.out.kp (Kp.of_below (S := fun _ => False) hb5) (fun _ e => e.elim)
    have p2 := hat5.c2
    have p3 := hat5.c3
    have x2 : w5.cell? ⟨wr.heap.size, 2, none⟩ = some (.int .u8 2) := hB5.cell 2
    have xf : ∀ i, w5.frozen? ⟨wr.heap.size, i, none⟩ = false := fun i => hB5.frozen i
    have hxne : ¬ (ad.add (k * 4)).block = wr.heap.size := by omega
    have hxlt : wr.heap.size < w5.heap.size := hB5.lt
    have hwlt : w.heap.size < wr.heap.size := hr.out.rcd.lt
    clear p0 p1
    cases hd : p.d with
    | true =>
      have hq : itemM p = ⟨p.t, p.b, 2, 0, 0⟩ := by unfold itemM; rw [if_pos hd]
      obtain ⟨A7, c7, w7, hap, f7, c17, hR7⟩ := hR5.app HOL.out ⟨p.t, p.b, 2, 0, 0⟩ (by omega)
      have HAP := Lib.hid hap
      have HR7 : Hid (RcI w (w7.setCell ⟨w.heap.size, 1, none⟩ (.slice A7 (k + 1) c7)) (sq + 1) (k + 1) A7 c7 ((l.take (k + 1)).map itemM)) := by rw [HTK.out, hq]; exact hR7
      have y0 : w5.cell? ⟨wr.heap.size, 0, none⟩ = some (.int .u32 p.t) := hB5.cell 0
      have y1 : w5.cell? ⟨wr.heap.size, 1, none⟩ = some (.int .u64 p.b) := hB5.cell 1
      have y3 : w5.cell? ⟨wr.heap.size, 3, none⟩ = some (.int .u32 0) := hB5.cell 3
      have y4 : w5.cell? ⟨wr.heap.size, 4, none⟩ = some (.int .u16 0) := hB5.cell 4
      have r1 : w5.cell? ⟨w.heap.size, 1, none⟩ = some (.slice A5 k c5) := hR5.rcd.cell 1
      rw [hd] at p2
      clear hq hap hR7 hR5 hB5 hat5 hd
      go_wp2_with (first
        | (at_builtin
           refine wpList_append_runz rfl (.tmp 60) (.tmp 62) _ rfl rfl rfl HAP.out ?_))
      go_roundw
      case rel => exact ⟨k + 1, A7, c7, HLT.out, by go_num, HR7⟩
      case measure => have := HLT.out; simp [intOf]; omega
    | false =>
      have hdl := HDA.out hd
      have he4 : endsN p.da <= 4096 := Nat.le_trans (endsN_le p.da) (by omega)
      have hq : itemM p = ⟨p.t, p.b, 1, sumS 0 p.da, (endsN p.da : Nat)⟩ := by unfold itemM; rw [if_neg (by rw [hd]; decide)]
      have HSM := Lib.hid (fun u (hu : Below wr.heap.size wr u) => qsum_any u _ Ad cd p.da (HAT.out.rd.below hu) HPV.out.by_ HPV.out.len)
      have HEN := Lib.hid (fun u (hu : Below wr.heap.size wr u) => qends_any u _ Ad cd p.da (HAT.out.rd.below hu) HPV.out.len)
      have hw16 : IntKind.u16.wrap ((endsN p.da : Nat) : Int) = (endsN p.da : Nat) := by rw [IntKind.wrap_u16]; omega
      have hb6 : Below wr.heap.size wr (w5.setCell ⟨wr.heap.size, 2, none⟩ (.int .u8 1)) := hb5.setCell (p := ⟨wr.heap.size, 2, none⟩) (Nat.le_refl _) _
      have HB6 := Lib.hid (HSM.out _ hb6)
      have hB6 := hB5.set_ 2 (.int .u8 1)
      simp only [List.setIfInBounds_toArray, List.set_cons_succ, List.set_cons_zero] at hB6
      rw [hd] at p2
      have HQ := Lib.hid hq
      have HBB6 := Lib.hid (And.intro hb6 hB6)
      have HR5 := Lib.hid hR5
      have HBL5 := Lib.hid hb5
      clear hq hB5 hat5 hd hb6 hB6 HSM hdl hR5 hb5
      go_upto_region 7 with (fail)
      have p36 : (w5.setCell ⟨wr.heap.size, 2, none⟩ (.int .u8 1)).cell? ⟨(ad.add (k * 4)).block, (ad.add (k * 4)).off + 3, none⟩ = some (.slice Ad p.da.length cd) := (cell_far_ (by exact hxne)).trans p3
      have hs6 : wr.heap.size < (w5.setCell ⟨wr.heap.size, 2, none⟩ (.int .u8 1)).heap.size := by simpa [World.setCell] using hxlt
      clear p2 p3 x2 xf hxlt
      generalize w5.setCell ⟨wr.heap.size, 2, none⟩ (.int .u8 1) = w6 at *
      have x3 : w6.cell? ⟨wr.heap.size, 3, none⟩ = some (.int .u32 0) := HBB6.out.2.cell 3
      have xf : ∀ i, w6.frozen? ⟨wr.heap.size, i, none⟩ = false := fun i => HBB6.out.2.frozen i
      generalize sumS 0 p.da = sm at *
      generalize endsN p.da = en at *
      go_wp2_with (fail)
      refine HB6.out.mono ?_
      rintro e w' ⟨rfl, rfl⟩
      have hb7 : Below wr.heap.size wr (w6.setCell ⟨wr.heap.size, 3, none⟩ (.int .u32 sm)) := HBB6.out.1.setCell (p := ⟨wr.heap.size, 3, none⟩) (Nat.le_refl _) _
      have hB7 := HBB6.out.2.set_ 3 (.int .u32 sm)
      simp only [List.setIfInBounds_toArray, List.set_cons_succ, List.set_cons_zero] at hB7
      have HE7 := Lib.hid (HEN.out _ hb7)
      have HBB7 := Lib.hid (And.intro hb7 hB7)
      clear hb7 hB7 HB6 HEN
      go_upto_region 8 with (fail)
      have p37 : (w6.setCell ⟨wr.heap.size, 3, none⟩ (.int .u32 sm)).cell? ⟨(ad.add (k * 4)).block, (ad.add (k * 4)).off + 3, none⟩ = some (.slice Ad p.da.length cd) := (cell_far_ (by exact hxne)).trans p36
      have hs7 : wr.heap.size < (w6.setCell ⟨wr.heap.size, 3, none⟩ (.int .u32 sm)).heap.size := by simpa [World.setCell] using hs6
      clear p36 x3 xf hs6
      generalize w6.setCell ⟨wr.heap.size, 3, none⟩ (.int .u32 sm) = w7 at *
      have x4 : w7.cell? ⟨wr.heap.size, 4, none⟩ = some (.int .u16 0) := HBB7.out.2.cell 4
      have xf : ∀ i, w7.frozen? ⟨wr.heap.size, i, none⟩ = false := fun i => HBB7.out.2.frozen i
      go_wp2_with (fail)
      refine HE7.out.mono ?_
      rintro e w' ⟨rfl, rfl⟩
      have hb8 : Below wr.heap.size wr (w7.setCell ⟨wr.heap.size, 4, none⟩ (.int .u16 en)) := HBB7.out.1.setCell (p := ⟨wr.heap.size, 4, none⟩) (Nat.le_refl _) _
      have hB8 := HBB7.out.2.set_ 4 (.int .u16 en)
      simp only [List.setIfInBounds_toArray, List.set_cons_succ, List.set_cons_zero] at hB8
      have hR8 := hr.out.below hb8
      have HBB8 := Lib.hid (And.intro hb8 hB8)
      clear hb8 hB8 HE7
      go_upto_region 9 with (fail)
      have hs8 : wr.heap.size < (w7.setCell ⟨wr.heap.size, 4, none⟩ (.int .u16 en)).heap.size := by simpa [World.setCell] using hs7
      clear p37 x4 xf hs7
      generalize w7.setCell ⟨wr.heap.size, 4, none⟩ (.int .u16 en) = w8 at *
      obtain ⟨A9, c9, w9, hap, f9, c19, hR9⟩ := hR8.app HOL.out ⟨p.t, p.b, 1, sm, en⟩ (by omega)
      have HAP := Lib.hid hap
      have HR9 : Hid (RcI w (w9.setCell ⟨w.heap.size, 1, none⟩ (.slice A9 (k + 1) c9)) (sq + 1) (k + 1) A9 c9 ((l.take (k + 1)).map itemM)) := by rw [HTK.out, HQ.out]; exact hR9
      have y0 : w8.cell? ⟨wr.heap.size, 0, none⟩ = some (.int .u32 p.t) := HBB8.out.2.cell 0
      have y1 : w8.cell? ⟨wr.heap.size, 1, none⟩ = some (.int .u64 p.b) := HBB8.out.2.cell 1
      have y2 : w8.cell? ⟨wr.heap.size, 2, none⟩ = some (.int .u8 1) := HBB8.out.2.cell 2
      have y3 : w8.cell? ⟨wr.heap.size, 3, none⟩ = some (.int .u32 sm) := HBB8.out.2.cell 3
      have y4 : w8.cell? ⟨wr.heap.size, 4, none⟩ = some (.int .u16 en) := HBB8.out.2.cell 4
      have r1 : w8.cell? ⟨w.heap.size, 1, none⟩ = some (.slice A5 k c5) := hR8.rcd.cell 1
      clear hap hR9 hR8
      go_wp2_with (first
        | (at_builtin
           refine wpList_append_runz rfl (.tmp 60) (.tmp 62) _ rfl rfl rfl HAP.out ?_))
      go_roundw
      case rel => exact ⟨k + 1, A9, c9, HLT.out, by go_num, HR9⟩
      case measure => have := HLT.out; simp [intOf]; omega
  · obtain rfl : k = l.length := by omega
    have hR := hr.out
    rw [List.take_of_length_le (Nat.le_refl _)] at hR
    have hlen : (l.map itemM).length = l.length := by simp
    have hits : ∀ i ∈ l.map itemM, ItOk i := by
     intro i hi
     obtain ⟨p, hp, rfl⟩ := List.mem_map.1 hi
     exact itemM_ok p (HW.out.pv p hp) (fun hd => by have := HW.out.da p hp hd; omega)
    have HENC := Lib.hid (qencode_any sh HOK.out (sq + 1) (by omega) (l.map itemM) A5 c5 wr.drew ((hR.row.its).below (Below.refl _ _).drew) hits (by rw [hlen]; exact HLZ.out) (by rw [hlen]; exact HW.out.nr))
    rw [hlen] at HENC
    have hrec : recB sh m l = encR (sq + 1) (l.map itemM) sh.bl := by unfold recB; rw [HSQ.out]
    have hEL : (encR (sq + 1) (l.map itemM) sh.bl).length = sh.bl := encR_length _ _ _ (by rw [hlen]; exact HW.out.nr) hbl.1
    have HEB := Lib.hid (encR_bd (sq + 1) (l.map itemM) sh.bl)
    rw [<- hrec] at HENC hEL HEB
    have HEL := Lib.hid hEL
    have HRI := Lib.hid hR
    have hq0' := H.out.below hR.low
    have ks : wr.cell? ⟨w.heap.size, 0, none⟩ = some (.int .u64 (sq + 1)) ∧ wr.cell? ⟨w.heap.size, 1, none⟩ = some (.slice A5 l.length c5) ∧ wr.cell? ⟨Q.r, 0, none⟩ = some (.pointer (some ⟨Q.d, 0, none⟩)) ∧ wr.cell? ⟨Q.d, 2, none⟩ = some (.int .i64 sh.bl) := ⟨hR.rcd.cell 0, hR.rcd.cell 1, hq0'.c0, hq0'.dev.t2⟩
    have HQ0 := Lib.hid hq0'
    clear hrec hEL hits hlen hR hr hq0' hk hlt
    generalize hbb : recB sh m l = bb at *
    have HBB := Lib.hid hbb
    clear hbb
    go_upto_region 10 with (fail)
    go_region_held3 (fun u => u.cell? ⟨w.heap.size, 0, none⟩ = some (.int .u64 (sq + 1)) ∧ u.cell? ⟨w.heap.size, 1, none⟩ = some (.slice A5 l.length c5) ∧ u.cell? ⟨Q.r, 0, none⟩ = some (.pointer (some ⟨Q.d, 0, none⟩)) ∧ u.cell? ⟨Q.d, 2, none⟩ = some (.int .i64 sh.bl))
      (first | exact ks | exact ks2)
      (first
        | (go_at_call 177
           with_reducible refine HENC.out.mono ?_
           rintro e w4 ⟨A4, c4, rfl, hr4, hb4⟩
           have ks2 : w4.cell? ⟨w.heap.size, 0, none⟩ = some (.int .u64 (sq + 1)) ∧ w4.cell? ⟨w.heap.size, 1, none⟩ = some (.slice A5 l.length c5) ∧ w4.cell? ⟨Q.r, 0, none⟩ = some (.pointer (some ⟨Q.d, 0, none⟩)) ∧ w4.cell? ⟨Q.d, 2, none⟩ = some (.int .i64 sh.bl) := ⟨below_keep hb4 ks.1, below_keep hb4 ks.2.1, below_keep hb4 ks.2.2.1, below_keep hb4 ks.2.2.2⟩
           have H4 := Lib.hid (And.intro hr4 (show Below wr.heap.size wr w4 from (Below.refl wr.heap.size wr).drew.trans hb4))
           clear hr4 hb4))
    all_goals
     have hq4 := HQ0.out.below H4.out.2
     have c04 := hq4.c0
     have hrd : Reads w4 w4.heap.size 1 A4 bb.length (nums .u8 bb) := H4.out.1.reads
     have HAP := Lib.hid (qappend_any _ w4 Q.d Q.l sh m.P z (by rw [HSZ.out]; exact hzz) hq4.dev _ A4 c4 bb HEL.out HEB.out (by have := HW.out.fit; omega) hrd)
     rw [HEL.out] at HAP
     have HQ4 := Lib.hid hq4
     have HL4 : Hid (Below w.heap.size w w4) := HRI.out.low.trans (H4.out.2.mono HRI.out.low.size)
     clear ks ks2 hq4 hrd HQ0 H4 HENC HRI
     generalize (m.P.getD z pt0).bs.length = pl0 at *
     go_upto_region 11 with (fail)
     go_wp2_with (fail)
     refine HAP.out.mono ?_
     rintro e w5 ⟨rfl, hd5, hk5⟩
     have H5 := Lib.hid (And.intro (HQ4.out.onDev hk5 hd5) ((Kp.of_below (S := Q.T) HL4.out).trans (hk5.mono (S' := Q.T) (fun b _ e => by rw [e]; exact QF.T_l)) (fun _ _ h => h)))
     have c3 : w5.cell? ⟨Q.r, 3, none⟩ = some (.int .u64 sq) := by rw [<- HSQ.out]; exact H5.out.1.c3
     have fr := H5.out.1.fz 3
     clear hd5 hk5 c04 HAP HQ4
     go_upto_region 12 with (fail)
     go_upto_region 13 with (fail)
     have ht6 := H5.out.1.top.set_ 3 (.int .u64 (sq + 1))
     have hk6 := (Kp.refl (fun b => b = Q.r) w5).setCell (p := ⟨Q.r, 3, none⟩) (.inl rfl) (.int .u64 (sq + 1))
     have hq6 := H5.out.1.onTop (seq := sq + 1) (op := m.op) (sl := m.sl) (n' := n + l.length) hk6 (by simpa using ht6) (by omega) HN.out (by have := H.out.sq; have := HSQ.out; have := HLZ.out; omega)
     have H6 := Lib.hid (And.intro hq6 (H5.out.2.trans (hk6.mono (S' := Q.T) (fun b _ e => by rw [e]; exact .inl rfl)) (fun _ _ h => h)))
     have hze : ¬ Q.e = Q.r := fun e => H5.out.1.dist.2.2.2.1 e.symm
     clear ht6 hk6 hq6 c3 fr
     generalize w5.setCell ⟨Q.r, 3, none⟩ (.int .u64 (sq + 1)) = w6 at *
     have ks6 : w6.cell? ⟨Q.r, 3, none⟩ = some (.int .u64 (sq + 1)) ∧ w6.cell? ⟨Q.r, 4, none⟩ = some (.slice (some ⟨Q.e, 0, none⟩) sh.z sh.z) := ⟨H6.out.1.c3, H6.out.1.c4⟩
     have ks7 : (w6.drew.setCell ⟨Q.e, z, none⟩ (.int .u64 (sq + 1))).cell? ⟨Q.r, 3, none⟩ = some (.int .u64 (sq + 1)) ∧ (w6.drew.setCell ⟨Q.e, z, none⟩ (.int .u64 (sq + 1))).cell? ⟨Q.r, 4, none⟩ = some (.slice (some ⟨Q.e, 0, none⟩) sh.z sh.z) := ⟨(cell_far_ (fun e => hze e.symm)).trans ks6.1, (cell_far_ (fun e => hze e.symm)).trans ks6.2⟩
     have ef := H6.out.1.ef z
     have en := H6.out.1.en (i := z) hzz
     generalize lastM _ _ = lv at en
     have hzi : (z : Int) < sh.z := by omega
     go_region_held3 (fun u => u.cell? ⟨Q.r, 3, none⟩ = some (.int .u64 (sq + 1)) ∧ u.cell? ⟨Q.r, 4, none⟩ = some (.slice (some ⟨Q.e, 0, none⟩) sh.z sh.z))
       (first | exact ks6 | exact ks7)
       (fail)
     have hq7 := H6.out.1.drew.onLast (la' := fun y => if y = m.op then some (m.seq + 1) else m.la y) (z := z) hzz (v := sq + 1) (fun y _ => by
      show ((if y = m.op then some (m.seq + 1) else m.la y).getD 0 : Int) = if y = z then sq + 1 else (m.la y).getD 0
      rw [HW.out.op, HSQ.out]
      split <;> rfl)
     have hk7 := (H6.out.2.drewN 1).setCell (p := ⟨Q.e, z, none⟩) (.inl QF.T_e) (.int .u64 (sq + 1))
     have hhd : headW sh m l = { m with seq := sq + 1, P := appP m.P z bb, la := fun y => if y = m.op then some (m.seq + 1) else m.la y } := by
      unfold headW
      rw [HBB.out, HW.out.op, HSQ.out]
      rfl
     have HL7 : Hid (QSto Y (w6.drew.setCell ⟨Q.e, z, none⟩ (.int .u64 (sq + 1))) Q sh (n + l.length) ((l.take 0).foldl stepW (headW sh m l)) ∧ (headW sh m l).L.length <= n ∧ Kp Q.T w (w6.drew.setCell ⟨Q.e, z, none⟩ (.int .u64 (sq + 1))) ∧ PutsAt X (w6.drew.setCell ⟨Q.e, z, none⟩ (.int .u64 (sq + 1))) A l) := ⟨by
      rw [hhd]
      exact hq7, H.out.len.1, hk7, HP.out.kp hk7 HX.out⟩
     clear ks6 ks7 ef en hq7 hk7 H6 hhd hzi hze
     go_wp2_with (fail)
     change Code.wp _ _ _ _ (w6.drew.setCell ⟨Q.e, z, none⟩ (.int .u64 (sq + 1)))
     generalize w6.drew.setCell ⟨Q.e, z, none⟩ (.int .u64 (sq + 1)) = w7 at *
     go_loopw [11] (fun i wr => ∃ k : Nat, k <= l.length ∧ i = .int .i64 k ∧ Hid (QSto Y wr Q sh (n + l.length) ((l.take k).foldl stepW (headW sh m l)) ∧ ((l.take k).foldl stepW (headW sh m l)).L.length <= n + k ∧ Kp Q.T w wr ∧ PutsAt X wr A l)) (fun i _ => l.length - (intOf i).toNat)
     case atStart => exact ⟨0, Nat.zero_le _, rfl, HL7⟩
     case round =>
      obtain ⟨k, hk, rfl, hr⟩ := hrel
      clear HL7
      by_cases hlt : k < l.length
      · obtain ⟨ad, Ad, cd, rfl, hat⟩ := hr.out.2.2.2 k hlt
        have p0 := hat.c0
        have p1 := hat.c1
        have p2 := hat.c2
        have p3 := hat.c3
        have HAT := Lib.hid hat
        have HPV := Lib.hid (HW.out.pv _ (getD_mem (d := pv0) hlt))
        have HDA := Lib.hid (HW.out.da _ (getD_mem (d := pv0) hlt))
        have HTK := Lib.hid (foldW_take l (headW sh m l) k hlt)
        have hMo := (foldW_op (l.take k) (headW sh m l)).1
        have hMl := foldW_len l (headW sh m l) z HW.out.op (by have e : (appP m.P m.op.toNat (recB sh m l)).length = m.P.length := appP_length _ _ _; show z < (appP m.P m.op.toNat (recB sh m l)).length; rw [e, HSZ.out]; exact hzz) k hk
        have HLT := Lib.hid hlt
        have HML := Lib.hid hMl
        have hMop : ((l.take k).foldl stepW (headW sh m l)).op = z := hMo.trans HW.out.op
        have HMO := Lib.hid hMop
        have HDN := Lib.hid (dataN_succ l k hlt)
        have hki : (k : Int) < l.length := by omega
        have c2 := hr.out.1.c2
        have c0 := hr.out.1.c0
        have hxm : ¬ (ad.add (k * 4)).block = Q.mm := fun e => HX.out _ QF.T_m (e ▸ hat.x)
        have hxl : ¬ (ad.add (k * 4)).block = Q.l := fun e => HX.out _ QF.T_l (e ▸ hat.x)
        clear hat hMo hMl hMop hlt hk
        generalize l.getD k pv0 = p at *
        generalize (l.take k).foldl stepW (headW sh m l) = M at *
        obtain ⟨pt, pbl, pd, pda⟩ := p
        simp only at p0 p1 p2 p3 HAT
        cases pd with
        | true =>
          obtain ⟨M9, hM9, hmp9⟩ := hr.out.1.mp
          have hml9 : M9.length <= 1000000 := by have := hM9.perm.length_eq; have := hr.out.1.len; omega
          obtain ⟨b0, hb0⟩ : ∃ b0, decide ((cut M9 (pt, pbl)).length < M9.length) = b0 := ⟨_, rfl⟩
          have hdr := rdropb_any wr.drew Q.mm M9 pt pbl hml9 (hmp9.rm.below (Below.refl _ _).drew)
          rw [hb0] at hdr
          have HDR := Lib.hid hdr
          have HTW := Lib.hid (hM9.step ⟨true, ⟨pt, pbl, 0, 0⟩⟩)
          have hrm : ¬ Q.r = Q.mm := hr.out.1.dist.2.2.1
          clear hb0 hdr hmp9 hM9 hml9
          go_upto_region 18 with (fail)
          go_region_held3 (fun u => u.cell? ⟨Q.r, 2, none⟩ = some (.pointer (some ⟨Q.mm, 0, none⟩)) ∧ u.cell? (ad.add (k * 4)) = some (.int .u32 pt) ∧ u.cell? ⟨(ad.add (k * 4)).block, (ad.add (k * 4)).off + 1, none⟩ = some (.int .u64 pbl))
            (first | exact ⟨c2, p0, p1⟩ | exact ks8)
            (first
              | (go_at_call 178
                 refine HDR.out.mono ?_
                 rintro e w8 ⟨rfl, hr8, hk8⟩
                 have ks8 : w8.cell? ⟨Q.r, 2, none⟩ = some (.pointer (some ⟨Q.mm, 0, none⟩)) ∧ w8.cell? (ad.add (k * 4)) = some (.int .u32 pt) ∧ w8.cell? ⟨(ad.add (k * 4)).block, (ad.add (k * 4)).off + 1, none⟩ = some (.int .u64 pbl) := ⟨hk8.cell (w := wr.drew) c2 hrm, hk8.cell (w := wr.drew) p0 hxm, hk8.cell (w := wr.drew) p1 hxm⟩
                 have H8 := Lib.hid (And.intro hr8 hk8)
                 clear hr8 hk8))
          all_goals
           have hq8 := hr.out.1.drew.onMap H8.out.2 H8.out.1 HTW.out (Nat.le_refl _) ⟨by
            have h1 : (cut M.L (pt, pbl)).length <= M.L.length := cut_length _ _
            have h2 := hr.out.1.len.1
            show (cut M.L (pt, pbl)).length <= n + l.length
            omega, HN.out⟩
           have hkt : Kp Q.T wr.drew w8 := H8.out.2.mono (S' := Q.T) (fun b _ e => by rw [e]; exact QF.T_m)
           have he : stepW M ⟨pt, pbl, true, pda⟩ = { M with L := cut M.L (pt, pbl) } := if_pos rfl
           rw [he] at HTK
           have HN9 : Hid (QSto Y w8 Q sh (n + l.length) ((l.take (k + 1)).foldl stepW (headW sh m l)) ∧ ((l.take (k + 1)).foldl stepW (headW sh m l)).L.length <= n + (k + 1) ∧ Kp Q.T w w8 ∧ PutsAt X w8 (some ad) l) := ⟨by rw [HTK.out]; exact hq8, by
            rw [HTK.out]
            have h1 : (cut M.L (pt, pbl)).length <= M.L.length := cut_length _ _
            have h2 := hr.out.2.1
            show (cut M.L (pt, pbl)).length <= n + (k + 1)
            omega, (hr.out.2.2.1.drewN 1).trans hkt (fun _ _ h => h), (hr.out.2.2.2.below (Below.refl _ wr).drew).kp hkt HX.out⟩
           clear ks8 p0 p1 p2 p3 c2 c0 hq8 hkt HTK H8 HDR hr
           go_wp2
           go_roundw
           case rel => exact ⟨k + 1, HLT.out, by go_num, HN9⟩
           case measure => have := HLT.out; simp [intOf]; omega
        | false =>
          have hzP : z < M.P.length := by have := HML.out.2; have h2 : (headW sh m l).P.length = m.P.length := appP_length _ _ _; have h3 := HSZ.out; omega
          have hdl : pda.length = sh.bl := HDA.out rfl
          have hrm : (M.P.getD z pt0).bs.length < sh.zb := by
           have h1 := HML.out.1
           have h2 : ((headW sh m l).P.getD z pt0).bs.length = (m.P.getD z pt0).bs.length + 1 := by
            have e : (headW sh m l).P = appP m.P z (recB sh m l) := by unfold headW; rw [HW.out.op]; rfl
            rw [e, appP_same _ _ _ (by have := HSZ.out; omega)]
            simp
           have h3 := HW.out.fit
           have h4 : dataN (l.take (k + 1)) <= dataN l := List.Sublist.countP_le (List.take_sublist _ _)
           have h5 := HDN.out
           simp at h5
           omega
          have hzb4 : sh.zb <= 4096 := by have := HOK.out.facts; omega
          have HA : Hid (∀ (Y' : Nat -> Prop) u, QSto Y' u Q sh (n + l.length) M -> Below wr.heap.size wr u -> Calls Tryz.prog 95 #[.pointer (some ⟨Q.d, 0, none⟩), .int .i64 z, .slice Ad pda.length cd] u
              (fun e w' => e = .returned (.tuple #[.agg #[.int .i64 z, .int .i64 ((M.P.getD z pt0).bs.length : Nat)], .int .i64 0]) ∧ QDev (fun i => Y' i ∧ i ≠ Q.b) w' Q.d Q.l sh (appP M.P z pda) ∧ Kp (fun b => b = Q.l) u w')) := fun Y' u hu hb =>
           qappend_any _ u Q.d Q.l sh M.P z hzP hu.dev _ Ad cd pda hdl HPV.out.by_ hrm (HAT.out.rd.below hb)
          obtain ⟨kk, hkk⟩ : ∃ kk, (M.P.getD z pt0).bs.length = kk := ⟨_, rfl⟩
          rw [hkk] at HA hrm
          have HKK := Lib.hid hkk
          have hkm : kk <= 4096 := by omega
          have HA1 := Lib.hid (HA.out _ _ hr.out.1.drew (Below.refl _ _).drew)
          have hal : Below wr.heap.size wr (wr.alloc (.cells #[.int .i64 0, .int .i64 0] 53)) := (Below.refl _ wr).alloc (Nat.le_refl _) _
          have hq2 : QSto (fun b => Y b ∧ b ≠ wr.heap.size) (wr.alloc (.cells #[.int .i64 0, .int .i64 0] 53)) Q sh (n + l.length) M := hr.out.1.move (fun i hi hy => ⟨⟨hy, by omega⟩, Below.heap_alloc wr _ i hi⟩) (fun b hb => ⟨hr.out.1.nw b (by simp at hb; omega), by simp at hb; omega⟩) (by simp)
          have HA2 := Lib.hid (HA.out _ _ hq2.drew hal.drew)
          have HQ2 := Lib.hid hq2
          clear hq2
          have HBX := Lib.hid (Blk.new wr 53 #[.int .i64 0, .int .i64 0])
          have hrl : ¬ Q.r = Q.l := hr.out.1.dist.1
          have hrlt : Q.r < wr.heap.size := hr.out.1.top.lt
          have hllt : Q.l < wr.heap.size := hr.out.1.dev.llt
          have hxlt : (ad.add (k * 4)).block < wr.heap.size := World.block_lt_of_cell? _ _ p0
          have ha0 := below_keep hal c0
          have ha3 := below_keep hal p3
          have HAL := Lib.hid hal
          clear hkk hzP hdl hrm HA hal hzb4
          go_upto_region 19 with (fail)
          go_cut [12] (fun s12 wx => ∃ b9 : Nat, s12 = .pointer (some ⟨b9, 0, none⟩) ∧ Hid (QSto Y wx Q sh (n + l.length) { M with P := appP M.P z pda } ∧ Blk wx b9 53 #[.int .i64 z, .int .i64 kk] ∧ Kp Q.T wr wx))
          case first =>
           go_region_held3 (fun u => u.cell? ⟨Q.r, 0, none⟩ = some (.pointer (some ⟨Q.d, 0, none⟩)) ∧ u.cell? ⟨(ad.add (k * 4)).block, (ad.add (k * 4)).off + 3, none⟩ = some (.slice Ad pda.length cd))
             (first | exact ⟨c0, p3⟩ | exact ⟨ha0, ha3⟩ | exact ks8 | exact ks9 | go_keep)
             (first
               | (go_at_call 95
                  with_reducible refine HA1.out.mono ?_
                  rintro e w8 ⟨rfl, hd8, hk8⟩
                  have ks8 : w8.cell? ⟨Q.r, 0, none⟩ = some (.pointer (some ⟨Q.d, 0, none⟩)) ∧ w8.cell? ⟨(ad.add (k * 4)).block, (ad.add (k * 4)).off + 3, none⟩ = some (.slice Ad pda.length cd) := ⟨hk8.cell (w := wr.drew) c0 hrl, hk8.cell (w := wr.drew) p3 hxl⟩
                  have H8 : Hid (QSto Y (w8.alloc (.cells #[.int .i64 z, .int .i64 kk] 53)) Q sh (n + l.length) { M with P := appP M.P z pda } ∧ Blk (w8.alloc (.cells #[.int .i64 z, .int .i64 kk] 53)) w8.heap.size 53 #[.int .i64 z, .int .i64 kk] ∧ Kp Q.T wr (w8.alloc (.cells #[.int .i64 z, .int .i64 kk] 53))) := ⟨(hr.out.1.drew.onDev hk8 hd8).alloc _, Blk.new w8 _ _, (((Kp.refl Q.T wr).drewN 1).trans (hk8.mono (S' := Q.T) (fun b _ e => by rw [e]; exact QF.T_l)) (fun _ _ h => h)).alloc _⟩
                  clear hd8 hk8)
               | (go_at_call 95
                  with_reducible refine HA2.out.mono ?_
                  rintro e w8 ⟨rfl, hd8, hk8⟩
                  have hbx8 := hk8.blk HBX.out.drew (fun e => by omega)
                  have ks8 : w8.cell? ⟨Q.r, 0, none⟩ = some (.pointer (some ⟨Q.d, 0, none⟩)) ∧ w8.cell? ⟨(ad.add (k * 4)).block, (ad.add (k * 4)).off + 3, none⟩ = some (.slice Ad pda.length cd) := ⟨hk8.cell (w := (wr.alloc (.cells #[.int .i64 0, .int .i64 0] 53)).drew) ha0 hrl, hk8.cell (w := (wr.alloc (.cells #[.int .i64 0, .int .i64 0] 53)).drew) ha3 hxl⟩
                  have hbx9 := (hbx8.set_ 0 (.int .i64 z)).set_ 1 (.int .i64 kk)
                  simp only [List.setIfInBounds_toArray, List.set_cons_succ, List.set_cons_zero] at hbx9
                  have v0 : w8.cell? ⟨wr.heap.size, 0, none⟩ = some (.int .i64 0) := hbx8.cell 0
                  have v1 : w8.cell? ⟨wr.heap.size, 1, none⟩ = some (.int .i64 0) := hbx8.cell 1
                  have vf : ∀ i, w8.frozen? ⟨wr.heap.size, i, none⟩ = false := fun i => hbx8.frozen i
                  have hn1 : ¬ Q.r = wr.heap.size := by omega
                  have hn2 : ¬ (ad.add (k * 4)).block = wr.heap.size := by omega
                  have ks9 : ((w8.setCell ⟨wr.heap.size, 0, none⟩ (.int .i64 z)).setCell ⟨wr.heap.size, 1, none⟩ (.int .i64 kk)).cell? ⟨Q.r, 0, none⟩ = some (.pointer (some ⟨Q.d, 0, none⟩)) ∧ ((w8.setCell ⟨wr.heap.size, 0, none⟩ (.int .i64 z)).setCell ⟨wr.heap.size, 1, none⟩ (.int .i64 kk)).cell? ⟨(ad.add (k * 4)).block, (ad.add (k * 4)).off + 3, none⟩ = some (.slice Ad pda.length cd) := ⟨(cell_far_ hn1).trans ((cell_far_ hn1).trans ks8.1), (cell_far_ hn2).trans ((cell_far_ hn2).trans ks8.2)⟩
                  have hq8 := HQ2.out.drew.onDev hk8 hd8
                  have hk9 : Kp (fun b => b = wr.heap.size) w8 ((w8.setCell ⟨wr.heap.size, 0, none⟩ (.int .i64 z)).setCell ⟨wr.heap.size, 1, none⟩ (.int .i64 kk)) := ((Kp.refl (fun b => b = wr.heap.size) w8).setCell (p := ⟨wr.heap.size, 0, none⟩) (.inl rfl) _).setCell (p := ⟨wr.heap.size, 1, none⟩) (.inl rfl) _
                  have H8 : Hid (QSto Y ((w8.setCell ⟨wr.heap.size, 0, none⟩ (.int .i64 z)).setCell ⟨wr.heap.size, 1, none⟩ (.int .i64 kk)) Q sh (n + l.length) { M with P := appP M.P z pda } ∧ Blk ((w8.setCell ⟨wr.heap.size, 0, none⟩ (.int .i64 z)).setCell ⟨wr.heap.size, 1, none⟩ (.int .i64 kk)) wr.heap.size 53 #[.int .i64 z, .int .i64 kk] ∧ Kp Q.T wr ((w8.setCell ⟨wr.heap.size, 0, none⟩ (.int .i64 z)).setCell ⟨wr.heap.size, 1, none⟩ (.int .i64 kk))) :=
                   ⟨hq8.move (fun i hi hy => ⟨hy.1, hk9.block i hi hy.2⟩) (fun b hb => (hq8.nw b (Nat.le_trans hk9.size hb)).1) hk9.size, hbx9, (((Kp.of_below (S := Q.T) HAL.out.drew).trans (hk8.mono (S' := Q.T) (fun b _ e => by rw [e]; exact QF.T_l)) (fun _ _ h => h)).setCell (p := ⟨wr.heap.size, 0, none⟩) (.inr (Nat.le_refl _)) _).setCell (p := ⟨wr.heap.size, 1, none⟩) (.inr (Nat.le_refl _)) _⟩
                  clear hd8 hk8 hbx8 hbx9 hk9 hq8))
           all_goals
            go_wp2_with (fail)
            go_meet
            exact ⟨_, rfl, H8⟩
          case rest =>
           obtain ⟨b9, rfl, H9⟩ := hcut
           obtain ⟨M9, hM9, hmp9⟩ := H9.out.1.mp
           have hml9 : M9.length <= 1000000 := by have := hM9.perm.length_eq; have := H9.out.1.len; omega
           have HDR := Lib.hid (rputb_any wc.drew Q.mm M9 ⟨pt, pbl, z, kk⟩ hml9 (hmp9.rm.below (Below.refl _ _).drew))
           have HTW := Lib.hid (hM9.step ⟨false, ⟨pt, pbl, z, kk⟩⟩)
           have hrm : ¬ Q.r = Q.mm := H9.out.1.dist.2.2.1
           have hbm : ¬ b9 = Q.mm := by
            obtain ⟨Am, cm, hm, _⟩ := hmp9.rm
            exact H9.out.2.1.ne_ hm (by decide)
           have hpw := hr.out.2.2.2.kp H9.out.2.2 HX.out
           have hat9 := HAT.out.kp H9.out.2.2 HX.out
           have ks9 : wc.cell? ⟨Q.r, 2, none⟩ = some (.pointer (some ⟨Q.mm, 0, none⟩)) ∧ wc.cell? (ad.add (k * 4)) = some (.int .u32 pt) ∧ wc.cell? ⟨(ad.add (k * 4)).block, (ad.add (k * 4)).off + 1, none⟩ = some (.int .u64 pbl) ∧ wc.cell? ⟨b9, 0, none⟩ = some (.int .i64 z) ∧ wc.cell? ⟨b9, 1, none⟩ = some (.int .i64 kk) := ⟨H9.out.1.c2, hat9.c0, hat9.c1, H9.out.2.1.cell 0, H9.out.2.1.cell 1⟩
           have HPW := Lib.hid hpw
           have HKW := Lib.hid (hr.out.2.2.1.trans H9.out.2.2 (fun _ _ h => h))
           have HLN := Lib.hid hr.out.2.1
           clear hmp9 hM9 hml9 hpw hat9 p0 p1 p2 p3 c0 c2 ha0 ha3 HA1 HA2 HQ2 HBX HAL hr
           go_upto_region 20 with (fail)
           go_region_held3 (fun u => u.cell? ⟨Q.r, 2, none⟩ = some (.pointer (some ⟨Q.mm, 0, none⟩)) ∧ u.cell? (ad.add (k * 4)) = some (.int .u32 pt) ∧ u.cell? ⟨(ad.add (k * 4)).block, (ad.add (k * 4)).off + 1, none⟩ = some (.int .u64 pbl) ∧ u.cell? ⟨b9, 0, none⟩ = some (.int .i64 z) ∧ u.cell? ⟨b9, 1, none⟩ = some (.int .i64 kk))
             (first | exact ks9 | exact ks10)
             (first
               | (go_at_call 99
                  refine HDR.out.mono ?_
                  rintro e w10 ⟨rfl, hr10, hk10⟩
                  have ks10 : w10.cell? ⟨Q.r, 2, none⟩ = some (.pointer (some ⟨Q.mm, 0, none⟩)) ∧ w10.cell? (ad.add (k * 4)) = some (.int .u32 pt) ∧ w10.cell? ⟨(ad.add (k * 4)).block, (ad.add (k * 4)).off + 1, none⟩ = some (.int .u64 pbl) ∧ w10.cell? ⟨b9, 0, none⟩ = some (.int .i64 z) ∧ w10.cell? ⟨b9, 1, none⟩ = some (.int .i64 kk) := ⟨hk10.cell (w := wc.drew) ks9.1 hrm, hk10.cell (w := wc.drew) ks9.2.1 hxm, hk10.cell (w := wc.drew) ks9.2.2.1 hxm, hk10.cell (w := wc.drew) ks9.2.2.2.1 hbm, hk10.cell (w := wc.drew) ks9.2.2.2.2 hbm⟩
                  have H10 := Lib.hid (And.intro hr10 hk10)
                  clear hr10 hk10))
           all_goals
            have hLl : (⟨pt, pbl, z, kk⟩ :: free (cut M.L (pt, pbl)) ((z : Int), (kk : Int)) : List Pl).length <= n + (k + 1) := by
             have h1 := free_length (cut M.L (pt, pbl)) ((z : Int), (kk : Int))
             have h2 := cut_length M.L (pt, pbl)
             have h3 := HLN.out
             simp only [List.length_cons]
             omega
            have hq10 := H9.out.1.drew.onMap H10.out.2 H10.out.1 HTW.out (Nat.le_refl _) ⟨by
             have := HLT.out
             show (⟨pt, pbl, z, kk⟩ :: free (cut M.L (pt, pbl)) ((z : Int), (kk : Int)) : List Pl).length <= n + l.length
             omega, HN.out⟩
            have hkt : Kp Q.T wc.drew w10 := H10.out.2.mono (S' := Q.T) (fun b _ e => by rw [e]; exact QF.T_m)
            have he : stepW M ⟨pt, pbl, false, pda⟩ = { M with P := appP M.P z pda, L := ⟨pt, pbl, z, kk⟩ :: free (cut M.L (pt, pbl)) (z, kk) } := by
             unfold stepW plM
             rw [if_neg Bool.false_ne_true, HMO.out]
             simp only [Int.toNat_natCast, HKK.out]
             rfl
            rw [he] at HTK
            have HN11 : Hid (QSto Y w10 Q sh (n + l.length) ((l.take (k + 1)).foldl stepW (headW sh m l)) ∧ ((l.take (k + 1)).foldl stepW (headW sh m l)).L.length <= n + (k + 1) ∧ Kp Q.T w w10 ∧ PutsAt X w10 (some ad) l) := ⟨by rw [HTK.out]; exact hq10, by rw [HTK.out]; exact hLl, (HKW.out.drewN 1).trans hkt (fun _ _ h => h), (HPW.out.below (Below.refl _ wc).drew).kp hkt HX.out⟩
            clear ks9 ks10 hq10 hkt HTK H9 H10 HDR HAT he hLl
            go_wp2
            go_roundw
            case rel => exact ⟨k + 1, HLT.out, by go_num, HN11⟩
            case measure => have := HLT.out; simp [intOf]; omega
      · obtain rfl : k = l.length := by omega
        have hr1 := hr.out
        rw [List.take_length] at hr1
        have HR1 := Lib.hid hr1
        clear hr1 hr
        go_wp2
        go_end0
        exact ⟨rfl, HR1.out.1, HR1.out.2.2.1⟩
end Go.Proofs.YtfabgbmbnmbjkaaGreatDoor

/- Pruned. -/
namespace Go.Proofs.YtfabgbmbnmbjkaaGreatDoor
open Go.RowKit
set_option maxRecDepth 20000
theorem needM_bd (l : List Pv) : 1 <= needM l ∧ needM l <= 2 := by unfold needM; split <;> omega
theorem ready_fill {sh : Sh} {m : StM} {need : Int} (h : 0 <= m.op ∧ leftM sh m < need) : readyM sh m need = readyM sh (fillM m) need := by
 have h1 : ready1 sh m need = fillM m := if_pos h
 have h2 : ready1 sh (fillM m) need = fillM m := if_neg (fun e => by have : (0 : Int) <= -1 := e.1; omega)
 unfold readyM
 rw [h1, h2]
theorem putL_fill {sh : Sh} {m : StM} {l : List Pv} (f : Nat) (h : 0 <= m.op ∧ leftM sh m < needM l) (hl : 0 < l.length) (hf : l.length <= f) : putL sh f m l = putL sh f (fillM m) l := by
 cases f with
 | zero => omega
 | succ f =>
   have h0 : ¬ l.length = 0 := by omega
   simp only [putL, if_neg h0, ready_fill h]
theorem ready_open {sh : Sh} {m : StM} {need : Int} (h : 0 <= m.op) (h2 : need <= leftM sh m) : readyM sh m need = (true, m) := by
 have h1 : ready1 sh m need = m := if_neg (fun e => by omega)
 unfold readyM
 rw [h1]
 exact if_pos h
theorem ready_none {sh : Sh} {m : StM} {need : Int} (h : m.op < 0) (h2 : placeI 1 m.G 0 = -1) : readyM sh m need = (false, m) := by
 have h1 : ready1 sh m need = m := if_neg (fun e => by omega)
 unfold readyM
 rw [h1]
 simp only
 rw [if_neg (by omega), if_pos h2]
theorem ready_take {sh : Sh} {m : StM} {need : Int} (h : m.op < 0) (h2 : placeI 1 m.G 0 ≠ -1) : readyM sh m need = (true, { m with G := turnL m.G (placeI 1 m.G 0) 2, op := placeI 1 m.G 0 }) := by
 have h1 : ready1 sh m need = m := if_neg (fun e => by omega)
 unfold readyM
 rw [h1]
 simp only
 rw [if_neg (by omega), if_neg h2]
structure QPut (Y X : Nat -> Prop) (w wr : World) (Q : QF) (sh : Sh) (N : Nat) (r : Int × StM) (A : Option Addr) (c : Nat) (l : List Pv) (m : StM) (n : Nat) : Prop where
  st : QSto Y wr Q sh n m
  kp : Kp Q.T w wr
  pa : PutsAt X wr A l
  cap : l.length <= c
  good : Good sh m
  wk : Wk sh m
  opn : Opn m
  pv : ∀ p ∈ l, PvOk p
  da : ∀ p ∈ l, p.d = false -> p.da.length = sh.bl
  nn : n + l.length <= N
  eq : r = putL sh l.length m l
def putG (l : List Pv) (m : StM) : Nat := 2 * l.length + (if 0 <= m.op then 1 else 0)
theorem open_key {Y : Nat -> Prop} {w' : World} {Q : QF} {sh : Sh} {n : Nat} {m : StM} {need z : Int} {b : Bool} (hg : Good sh m) (hzb : need <= sh.zb)
    (h : (0 <= m.op ∧ z = m.op ∧ b = true ∧ QSto Y w' Q sh n m) ∨ (m.op < 0 ∧ placeI 1 m.G 0 = -1 ∧ b = false ∧ QSto Y w' Q sh n m) ∨ (m.op < 0 ∧ placeI 1 m.G 0 ≠ -1 ∧ z = placeI 1 m.G 0 ∧ b = true ∧ QSto Y w' Q sh n { m with G := turnL m.G (placeI 1 m.G 0) 2, op := placeI 1 m.G 0 })) :
    (∃ (m1 : StM) (k : Nat), z = k ∧ b = true ∧ QSto Y w' Q sh n m1 ∧ m1.op = k ∧ k < sh.z ∧ stateAt m1.G k = 2 ∧ ((leftM sh m1 < need ∧ m1 = m) ∨ (need <= leftM sh m1 ∧ readyM sh m need = (true, m1)))) ∨ (b = false ∧ readyM sh m need = (false, m) ∧ QSto Y w' Q sh n m) := by
 rcases h with ⟨h1, rfl, h3, h4⟩ | ⟨h1, h2, h3, h4⟩ | ⟨h1, h2, rfl, h3, h4⟩
 · obtain ⟨k, hk⟩ := Int.eq_ofNat_of_zero_le h1
   have hst := hg.op h1
   have hin := stateAt_in (G := m.G) (z := m.op) (by rw [hst]; decide)
   have hgl := hg.gl
   refine .inl ⟨m, k, hk, h3, h4, hk, by omega, by rw [<- hk]; exact hst, ?_⟩
   by_cases hl : leftM sh m < need
   · exact .inl ⟨hl, rfl⟩
   · exact .inr ⟨by omega, ready_open h1 (by omega)⟩
 · exact .inr ⟨h3, ready_none h1 h2, h4⟩
 · have hr : readyM sh m need = (true, { m with G := turnL m.G (placeI 1 m.G 0) 2, op := placeI 1 m.G 0 }) := ready_take h1 h2
   obtain ⟨g1, _⟩ := ready_good (need := need) hg
   rw [hr] at g1
   have hroom := ready_room (need := need) hg hzb (by rw [hr])
   rw [hr] at hroom
   have hpl : 0 <= placeI 1 m.G 0 := hroom.1
   obtain ⟨k, hk⟩ := Int.eq_ofNat_of_zero_le hpl
   have hst := g1.op (show 0 <= placeI 1 m.G 0 from hpl)
   have hst' : stateAt (turnL m.G (placeI 1 m.G 0) 2) (placeI 1 m.G 0) = 2 := hst
   have hin := stateAt_in (G := turnL m.G (placeI 1 m.G 0) 2) (z := placeI 1 m.G 0) (by rw [hst']; decide)
   have hgl : (turnL m.G (placeI 1 m.G 0) 2).length = sh.z := g1.gl
   exact .inl ⟨_, k, hk, h3, h4, hk, by omega, by rw [<- hk]; exact hst', .inr ⟨hroom.2, hr⟩⟩
set_option maxHeartbeats 8000000 in
theorem qsput_any (Y X : Nat -> Prop) (w : World) (Q : QF) (sh : Sh) (n : Nat) (m : StM) (A : Option Addr) (c : Nat) (l : List Pv) (hl : l.length <= 100000) (hc : l.length <= c) (hp : PutsAt X w A l) (hX : ∀ b, Q.T b -> ¬ X b) (hv : ∀ p ∈ l, PvOk p) (hi : Inv sh m) (hn : n + l.length <= 900000) (h : QSto Y w Q sh n m) :
    Calls Tryz.prog 71 #[.pointer (some ⟨Q.r, 0, none⟩), .slice A l.length c] w (fun e w' => e = .returned (.int .i64 (putM sh m l).1) ∧ QSto Y w' Q sh (n + l.length) (putM sh m l).2 ∧ Kp Q.T w w') := by
 have hok := h.dev.ok
 have hfc := hok.facts
 have c0 := h.c0
 have d2 := h.dev.t2
 have H := Lib.hid h
 have HP := Lib.hid hp
 have HV := Lib.hid hv
 have HI := Lib.hid hi
 have HN := Lib.hid hn
 have HC := Lib.hid hc
 have HOK := Lib.hid hok
 have HX := Lib.hid hX
 have hzb4 : sh.zb <= 4096 := by omega
 have hzb8 : 8 <= sh.zb := by omega
 have hbl4 : sh.bl <= 4096 := by omega
 clear h hp hv hi hn hc hok hX hfc
 go_enter Tryz.func71, Tryz.ntmps71
 go_wp2_with (fail)
 go_loopw [5] (fun i wr => ∃ k q : Nat, k <= l.length ∧ i = .int .i64 k ∧ wr = w.drewN q ∧ Hid (∀ j, j < k -> (l.getD j pv0).d = true ∨ (l.getD j pv0).da.length = sh.bl)) (fun i _ => l.length - (intOf i).toNat)
 case atStart => exact ⟨0, 0, Nat.zero_le _, rfl, rfl, fun j hj => by omega⟩
 case round =>
  obtain ⟨k, q, hk, rfl, rfl, hr⟩ := hrel
  by_cases hlt : k < l.length
  · obtain ⟨ad, Ad, cd, rfl, hat⟩ := HP.out k hlt
    have p2 := hat.c2
    have p3 := hat.c3
    have HDA : Hid ((l.getD k pv0).d = false -> (l.getD k pv0).da.length ≠ sh.bl -> argOk sh l = false) := argOk_false hlt
    have HNX : Hid (((l.getD k pv0).d = true ∨ (l.getD k pv0).da.length = sh.bl) -> ∀ j, j < k + 1 -> (l.getD j pv0).d = true ∨ (l.getD j pv0).da.length = sh.bl) := fun h j hj => by
     rcases Nat.lt_or_ge j k with h' | h'
     · exact hr.out j h'
     · rw [show j = k by omega]; exact h
    have HLT := Lib.hid hlt
    have hki : (k : Int) < l.length := by omega
    have hpl := (HV.out _ (getD_mem (d := pv0) hlt)).len
    clear hat hr hlt hk
    generalize l.getD k pv0 = p at *
    obtain ⟨pt, pbl, pd, pda⟩ := p
    simp only at p2 p3 HDA HNX hpl
    have u2 : (w.drewN q).cell? ⟨(ad.add (k * 4)).block, (ad.add (k * 4)).off + 2, none⟩ = some (.bool pd) := p2
    have u3 : (w.drewN q).cell? ⟨(ad.add (k * 4)).block, (ad.add (k * 4)).off + 3, none⟩ = some (.slice Ad pda.length cd) := p3
    have u0 : (w.drewN q).cell? ⟨Q.r, 0, none⟩ = some (.pointer (some ⟨Q.d, 0, none⟩)) := c0
    have ud : (w.drewN q).cell? ⟨Q.d, 2, none⟩ = some (.int .i64 sh.bl) := d2
    generalize hu : w.drewN q = u at *
    have HU := Lib.hid hu
    clear hu
    cases pd with
    | true =>
      go_upto_region 4 with (fail)
      go_quiet (fail)
      all_goals
       have HN6 := Lib.hid (HNX.out (.inl rfl))
       clear u2 u3 u0 ud HDA HNX p2 p3
       go_wp2
       go_roundw
       case rel => exact ⟨k + 1, q + nq, HLT.out, by go_num, by rw [<- HU.out]; simp, HN6⟩
       case measure => have := HLT.out; simp [intOf]; omega
    | false =>
      by_cases hle : pda.length = sh.bl
      · have hle' : ((pda.length : Int) != sh.bl) = false := by simp [hle]
        have HLE := Lib.hid hle
        clear hle
        go_upto_region 4 with (fail)
        go_quiet (fail)
        all_goals
         have HN6 := Lib.hid (HNX.out (.inr HLE.out))
         clear u2 u3 u0 ud HDA HNX p2 p3 hle'
         go_wp2
         go_roundw
         case rel => exact ⟨k + 1, q + nq, HLT.out, by go_num, by rw [<- HU.out]; simp, HN6⟩
         case measure => have := HLT.out; simp [intOf]; omega
      · have hle' : ((pda.length : Int) != sh.bl) = true := by simp; omega
        have HAF := Lib.hid (HDA.out rfl hle)
        clear hle
        go_upto_region 4 with (fail)
        go_quiet (fail)
        all_goals
         clear u2 u3 u0 ud HDA HNX p2 p3 hle'
         go_wp2
         go_ret
         unfold putM
         rw [HAF.out, if_neg Bool.false_ne_true, <- HU.out]
         have hbx : Below w.heap.size w ((w.drewN q).drewN nq) := ⟨rfl, rfl, rfl, Nat.le_refl _, fun _ _ => rfl⟩
         exact ⟨rfl, (H.out.below hbx).mono (by omega) HN.out, Kp.of_below hbx⟩
  · obtain rfl : k = l.length := by omega
    have HDA : Hid (∀ p ∈ l, p.d = false -> p.da.length = sh.bl) := fun p hp hd => by
     obtain ⟨j, hj, rfl⟩ := List.getElem_of_mem hp
     have := hr.out j hj
     rw [List.getD_eq_getElem?_getD, List.getElem?_eq_getElem hj] at this
     simp only [Option.getD_some] at this
     rcases this with h | h
     · rw [h] at hd; cases hd
     · exact h
    have HPM : Hid (putM sh m l = putL sh l.length m l) := by unfold Hid putM; rw [if_pos (argOk_true hr.out)]
    have hbq : Below w.heap.size w (w.drewN q) := ⟨rfl, rfl, rfl, Nat.le_refl _, fun _ _ => rfl⟩
    have H0 : Hid (QPut Y X w (w.drewN q) Q sh (n + l.length) (putL sh l.length m l) A c l m n) := ⟨H.out.below hbq, Kp.of_below hbq, HP.out.below hbq, HC.out, HI.out.g, HI.out.w, HI.out.o, HV.out, HDA.out, Nat.le_refl _, rfl⟩
    clear hr HDA HP HV HI hbq c0 d2 hk
    generalize w.drewN q = w1 at *
    go_wp2_with (fail)
    go_loopg [1] (putG l m) (fun j i wr => ∃ (l' : List Pv) (A' : Option Addr) (c' : Nat) (m' : StM) (n' : Nat), i = .slice A' l'.length c' ∧ l'.length <= l.length ∧ Hid (j = putG l' m') ∧ Hid (QPut Y X w wr Q sh (n + l.length) (putL sh l.length m l) A' c' l' m' n'))
    case atStart => exact ⟨l, A, c, m, n, rfl, Nat.le_refl _, rfl, H0⟩
    case round =>
     obtain ⟨l', A', c', m', n', rfl, hle, hj, hr⟩ := hrel
     clear H0
     by_cases hl' : 0 < l'.length
     · have HL' := Lib.hid hl'
       have HLE := Lib.hid hle
       have HOP := Lib.hid (qsopen_any Y wr Q sh n' m' hr.out.good hr.out.wk hr.out.st)
       go_wp2_with (fail)
       refine HOP.out.mono ?_
       rintro e w5 ⟨zz, bb, rfl, hk5, h5⟩
       have hnd := needM_bd l'
       have hkey := open_key (need := needM l') hr.out.good (by omega) h5
       have HK5 := Lib.hid hk5
       clear h5 hk5 HOP
       rcases hkey with ⟨m1, z, rfl, rfl, hq5, hop, hz, hst, hcase⟩ | ⟨rfl, hre, hq5⟩
       · have hzP : z < m1.P.length := by have := hq5.dev.sz; omega
         have hlm : leftM sh m1 = (sh.zb : Int) - ((m1.P.getD z pt0).bs.length : Nat) := by unfold leftM; rw [hop]; rfl
         have hfit := (hq5.dev.fit z hzP).fit
         have HAT := Lib.hid (qat_any _ w5 Q.d Q.l sh m1.P z hzP hq5.dev)
         have hpa5 := hr.out.pa.kp HK5.out HX.out
         have c05 := hq5.c0
         have HQ5 := Lib.hid (And.intro hq5 hpa5)
         have HM1 := Lib.hid (And.intro hop (And.intro hst (And.intro hzP hcase)))
         have HLM := Lib.hid hlm
         have hz9 : z <= 256 := by have := HOK.out.facts; omega
         have hcase2 : leftM sh m1 < needM l' ∨ needM l' <= leftM sh m1 := by omega
         rw [hlm] at hcase2
         generalize (m1.P.getD z pt0).bs.length = ln at *
         generalize (m1.P.getD z pt0).du = du at *
         have hln : ln <= 4096 := by omega
         clear hq5 hpa5 hop hst hzP hcase hlm hfit
         go_wp2_with (fail)
         refine HAT.out.mono ?_
         rintro e w6 ⟨rfl, hb6⟩
         have hq6 := HQ5.out.1.below hb6
         have hpa6 := HQ5.out.2.below hb6
         have c06 := hq6.c0
         have d16 := hq6.dev.t1
         obtain ⟨ad, Ad, cd, rfl, hat⟩ := hpa6 0 hl'
         have p2 := hat.c2
         simp only [Addr.add, Nat.zero_mul, if_true] at p2
         have hne : needM l' = if (l'.getD 0 pv0).d then 1 else 2 := rfl
         have HQ6 := Lib.hid (And.intro hq6 (And.intro hpa6 (HK5.out.trans (Kp.of_below hb6) (fun _ _ h => h))))
         generalize (l'.getD 0 pv0).d = d0 at *
         clear hq6 hpa6 hat HAT HQ5 HK5 c05 hb6
         generalize hnd9 : needM l' = nd at *
         have HND := Lib.hid hnd9
         clear hnd9
         go_upto_if 74 with (fail)
         go_cut [11] (fun s11 wx => s11 = .int .i64 nd ∧ w6 = wx)
         case first =>
          cases d0 with
          | true =>
            rw [if_pos rfl] at hne
            subst hne
            go_wp2_with (fail)
            go_meet
            exact ⟨rfl, rfl⟩
          | false =>
            rw [if_neg Bool.false_ne_true] at hne
            subst hne
            go_wp2_with (fail)
            go_meet
            exact ⟨rfl, rfl⟩
         case rest =>
         obtain ⟨rfl, rfl⟩ := hcut
         clear hne p2
         rcases hcase2 with hlt | hge
         · have hm1 : m1 = m' := by
            rcases HM1.out.2.2.2 with ⟨_, e⟩ | ⟨e, _⟩
            · exact e
            · have := HLM.out; omega
           subst hm1
           have hlt2 : leftM sh m1 < needM l' := by
            rw [HND.out]
            rcases HM1.out.2.2.2 with ⟨e, _⟩ | ⟨e, _⟩
            · exact e
            · have := HLM.out; exfalso; omega
           have hop0 : 0 <= m1.op := by rw [HM1.out.1]; omega
           have hPF := hr.out.eq.trans (putL_fill (sh := sh) l'.length ⟨hop0, hlt2⟩ hl' (Nat.le_refl _))
           have hWF := hr.out.wk.fill hr.out.good hop0 hr.out.opn
           have hGF := hr.out.good.fill hop0
           have HPF := Lib.hid (And.intro hPF (And.intro hWF hGF))
           have HJ : Hid (putG l' (fillM m1) < putG l' m1) := by
            unfold Hid putG
            rw [if_pos hop0, show (fillM m1).op = -1 from rfl, if_neg (by omega)]
            omega
           have c16 := HQ6.out.1.c1
           clear hlt2 hop0 hPF hWF hGF
           go_wp2_with (fail)
           refine (reffill_any _ _ _ _ _ _ _ _ _ z w6 HQ6.out.1.seg).mono ?_
           rintro e w7 ⟨h7, _, hk7⟩
           obtain ⟨rfl, hs7⟩ := h7 HM1.out.2.1
           have hq7 := HQ6.out.1.onSeg hk7 hs7 (-1)
           have hkt : Kp Q.T w6 w7 := hk7.mono (S' := Q.T) (fun b _ e => by rw [e]; exact QF.T_b)
           have hfm : fillM m1 = { m1 with G := turnL m1.G z 3, op := -1 } := by unfold fillM; rw [HM1.out.1]
           have HNX : Hid (QPut Y X w w7 Q sh (n + l.length) (putL sh l.length m l) (some ad) c' l' (fillM m1) n') := ⟨by rw [hfm]; exact hq7, (hr.out.kp.trans HQ6.out.2.2 (fun _ _ h => h)).trans hkt (fun _ _ h => h), HQ6.out.2.1.kp hkt HX.out, hr.out.cap, HPF.out.2.2, HPF.out.2.1.1, HPF.out.2.1.2, hr.out.pv, hr.out.da, hr.out.nn, HPF.out.1⟩
           clear h7 hs7 hk7 hq7 hkt hfm c16
           go_wp2
           go_roundg (putG l' (fillM m1))
           case measure => have h1 := HJ.out; have h2 := hj.out; omega
           case rel => exact ⟨l', some ad, c', fillM m1, n', rfl, HLE.out, rfl, HNX⟩
         · have hre : needM l' <= leftM sh m1 ∧ readyM sh m' (needM l') = (true, m1) := by
            rw [HND.out]
            rcases HM1.out.2.2.2 with ⟨e, _⟩ | e
            · have := HLM.out; exfalso; omega
            · exact e
           obtain ⟨z2, k, m2, hm2, hbk, hz2, hg2, hk1, hk2, hwo, hgw, heq⟩ := putL_true sh HOK.out m' l' hl' hr.out.good (by rw [hre.2]) hr.out.pv hr.out.da
           rw [hre.2] at hm2
           obtain rfl : m1 = m2 := hm2
           obtain rfl : z2 = z := by have := HM1.out.1; rw [hz2] at this; exact Int.ofNat.inj this
           have hwr := (hr.out.wk.ready (need := needM l') hr.out.good hr.out.opn).1
           rw [hre.2] at hwr
           have hww := Wk.write (sh := sh) (m := m1) (l'.take k) hwr hg2 (by rw [hz2]; omega)
           have HWW := Lib.hid (And.intro hww (And.intro hgw (hr.out.eq.trans heq)))
           have HWO := Lib.hid hwo
           have hlk : (l'.take k).length = k := by simp; omega
           have hld : (l'.drop k).length = l'.length - k := by simp
           have HLK := Lib.hid (And.intro hlk (And.intro hld (And.intro hk1 hk2)))
           have hlf1 : 1 <= leftM sh m1 := by have := hre.1; have := needM_bd l'; omega
           have hlf2 : leftM sh m1 <= 4096 := by rw [HLM.out]; omega
           have hmn := qsmany_any Y X w6 Q sh n' m1 (some ad) c' l' (by omega) HQ6.out.2.1 hlf1 hlf2 HQ6.out.1
           rw [hbk, HLM.out] at hmn
           have hrc := qsrecord_any Y X w6 Q sh n' m1 z2 (if c' = 0 then some ad else (some ad).map (·.add 0)) c' (l'.take k) hwo (HQ6.out.2.1.front k c' hk2 hr.out.cap) HX.out (by rw [hlk]; have := hr.out.nn; have := HN.out; omega) HQ6.out.1
           rw [hlk] at hrc
           have HMN := Lib.hid hmn
           have HRC := Lib.hid hrc
           have hs1 := run_front_put (some ad) l'.length c' k (by have := hr.out.cap; omega)
           have hs2 := run_back_put (some ad) l'.length c' k hk2
           have HPB := Lib.hid (fun u (hu : PutsAt X u (some ad) l') => hu.back k c' hr.out.cap)
           have hfo := foldW_op (l'.take k) (headW sh m1 (l'.take k))
           have HFO : Hid (((l'.take k).foldl stepW (headW sh m1 (l'.take k))).op = z2 ∧ stateAt ((l'.take k).foldl stepW (headW sh m1 (l'.take k))).G z2 = 2) := ⟨hfo.1.trans hz2, by rw [hfo.2.1]; exact HM1.out.2.1⟩
           have HWM : Hid (writeM sh m1 (l'.take k) = if leftM sh ((l'.take k).foldl stepW (headW sh m1 (l'.take k))) = 0 then fillM ((l'.take k).foldl stepW (headW sh m1 (l'.take k))) else ((l'.take k).foldl stepW (headW sh m1 (l'.take k)))) := rfl
           have HJ : Hid (∀ m9 : StM, putG (l'.drop k) m9 < putG l' m') := fun m9 => by
            unfold putG
            rw [hld]
            split <;> split <;> omega
           have hk9 : k <= 100000 := by omega
           have HR := Lib.hid hr.out
           generalize (l'.take k).foldl stepW (headW sh m1 (l'.take k)) = m3 at *
           generalize (if c' = 0 then some ad else (some ad).map (·.add 0)) = A1 at *
           generalize (if c' = k then some ad else (some ad).map (·.add (k * 4))) = A2 at *
           clear hre hbk hz2 hg2 hwo hgw heq hwr hww hlf1 hlf2 hmn hrc hfo hlk hld hk1 hk2 hr
           go_wp2_with (fail)
           refine HMN.out.mono ?_
           rintro e w' ⟨rfl, rfl⟩
           clear HMN
           go_wp2_with (fail)
           refine HRC.out.mono ?_
           rintro e w7 ⟨rfl, hq7, hk7⟩
           have H7 := Lib.hid (And.intro hq7 (And.intro ((HR.out.kp.trans HQ6.out.2.2 (fun _ _ h => h)).trans hk7 (fun _ _ h => h)) (HPB.out _ (HQ6.out.2.1.kp hk7 HX.out))))
           have hsz7 : z2 < m3.P.length := by have := hq7.dev.sz; have := HM1.out.2.2.1; have := HQ6.out.1.dev.sz; omega
           have hlm7 : leftM sh m3 = (sh.zb : Int) - ((m3.P.getD z2 pt0).bs.length : Nat) := by unfold leftM; rw [HFO.out.1]; rfl
           have hft7 := (hq7.dev.fit z2 hsz7).fit
           have HAT7 := Lib.hid (qat_any _ w7 Q.d Q.l sh m3.P z2 hsz7 hq7.dev)
           have c07 := hq7.c0
           have HLM7 := Lib.hid hlm7
           generalize (m3.P.getD z2 pt0).bs.length = l7 at *
           generalize (m3.P.getD z2 pt0).du = du7 at *
           clear hq7 hk7 HRC HPB HQ6 hsz7 hlm7 c06 d16
           go_wp2_with (fail)
           refine HAT7.out.mono ?_
           rintro e w8 ⟨rfl, hb8⟩
           have hq8 := H7.out.1.below hb8
           have c08 := hq8.c0
           have d18 := hq8.dev.t1
           have c18 := hq8.c1
           have H8 := Lib.hid (And.intro hq8 (And.intro (H7.out.2.1.trans (Kp.of_below hb8) (fun _ _ h => h)) (H7.out.2.2.below hb8)))
           clear hq8 hb8 HAT7 H7 c07
           have hNX : ∀ w9 : World, QSto Y w9 Q sh (n' + k) (writeM sh m1 (l'.take k)) -> Kp Q.T w w9 -> PutsAt X w9 A2 (l'.drop k) -> QPut Y X w w9 Q sh (n + l.length) (putL sh l.length m l) A2 (c' - k) (l'.drop k) (writeM sh m1 (l'.take k)) (n' + k) := fun w9 h1 h2 h3 => by
            have hh := HR.out.cap
            have hn := HR.out.nn
            have hk := HLK.out
            exact ⟨h1, h2, h3, by rw [hk.2.1]; omega, HWW.out.2.1, HWW.out.1.1, HWW.out.1.2, fun p hp => HR.out.pv p (List.mem_of_mem_drop hp), fun p hp => HR.out.da p (List.mem_of_mem_drop hp), by rw [hk.2.1]; omega, HWW.out.2.2⟩
           have HNX := Lib.hid hNX
           clear hNX
           have HLL := Lib.hid (show l'.length - k <= l.length by have := HLE.out; omega)
           by_cases hfull : l7 = sh.zb
           · have hwm := HWM.out
             rw [HLM7.out, if_pos (by omega)] at hwm
             have HW2 := Lib.hid hwm
             have hfb : ((l7 : Int) == sh.zb) = true := by simp [hfull]
             clear hwm hfull
             go_wp2_with (fail)
             refine (reffill_any _ _ _ _ _ _ _ _ _ z2 w8 H8.out.1.seg).mono ?_
             rintro e w9 ⟨h9, _, hk9⟩
             obtain ⟨rfl, hs9⟩ := h9 HFO.out.2
             have hq9 := H8.out.1.onSeg hk9 hs9 (-1)
             have hkt : Kp Q.T w8 w9 := hk9.mono (S' := Q.T) (fun b _ e => by rw [e]; exact QF.T_b)
             have hfm : fillM m3 = { m3 with G := turnL m3.G z2 3, op := -1 } := by unfold fillM; rw [HFO.out.1]
             have H9 : Hid (QPut Y X w w9 Q sh (n + l.length) (putL sh l.length m l) A2 (c' - k) (l'.drop k) (writeM sh m1 (l'.take k)) (n' + k)) := HNX.out w9 (by rw [HW2.out, hfm]; exact hq9) (H8.out.2.1.trans hkt (fun _ _ h => h)) (H8.out.2.2.kp hkt HX.out)
             clear h9 hs9 hk9 hq9 hkt hfm
             go_wp2
             go_roundg (putG (l'.drop k) (writeM sh m1 (l'.take k)))
             case measure => have h1 := HJ.out (writeM sh m1 (l'.take k)); have h2 := hj.out; omega
             case rel => exact ⟨l'.drop k, A2, c' - k, _, _, by rw [HLK.out.2.1], by rw [HLK.out.2.1]; exact HLL.out, rfl, H9⟩
           · have hwm := HWM.out
             rw [HLM7.out, if_neg (by omega)] at hwm
             have HW2 := Lib.hid hwm
             have hfb : ((l7 : Int) == sh.zb) = false := by rw [beq_eq_false_iff_ne]; omega
             have H9 : Hid (QPut Y X w w8 Q sh (n + l.length) (putL sh l.length m l) A2 (c' - k) (l'.drop k) (writeM sh m1 (l'.take k)) (n' + k)) := HNX.out w8 (by rw [HW2.out]; exact H8.out.1) H8.out.2.1 H8.out.2.2
             clear hwm hfull
             go_wp2
             go_roundg (putG (l'.drop k) (writeM sh m1 (l'.take k)))
             case measure => have h1 := HJ.out (writeM sh m1 (l'.take k)); have h2 := hj.out; omega
             case rel => exact ⟨l'.drop k, A2, c' - k, _, _, by rw [HLK.out.2.1], by rw [HLK.out.2.1]; exact HLL.out, rfl, H9⟩
       · have HE : Hid (putL sh l.length m l = (160, m')) := hr.out.eq.trans (by rw [putL_false sh m' l' hl' (by rw [hre]), hre])
         have HQ5 := Lib.hid hq5
         clear hre hq5
         go_wp2
         go_ret
         rw [HPM.out, HE.out]
         exact ⟨rfl, HQ5.out.mono (by have := hr.out.nn; omega) HN.out, hr.out.kp.trans HK5.out (fun _ _ h => h)⟩
     · obtain rfl : l' = [] := List.eq_nil_of_length_eq_zero (by omega)
       have HE : Hid (putL sh l.length m l = (0, m')) := hr.out.eq.trans (putL_nil sh _ m')
       go_wp2
       go_ret
       rw [HPM.out, HE.out]
       exact ⟨rfl, hr.out.st.mono (by have := hr.out.nn; simp at this; omega) HN.out, hr.out.kp⟩
end Go.Proofs.YtfabgbmbnmbjkaaGreatDoor

