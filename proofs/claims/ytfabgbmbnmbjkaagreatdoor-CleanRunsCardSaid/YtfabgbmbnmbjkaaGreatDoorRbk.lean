/- Joined texts: So1 Sl12 Sl13 Sl15 So2. -/
import Derived.Test.YtfabgbmbnmbjkaaGreatDoorRaa
import Derived.Test.YtfabgbmbnmbjkaaGreatDoorRax
import Derived.ChangeArms
import Derived.ChangeSlices
import Derived.Deep.Slices
import Derived.WideShapes
import Derived.BigQuiet
/- Pruned. -/
namespace Go.Proofs.YtfabgbmbnmbjkaaGreatDoor
open Go.ChangeShapes Go.WideShapes Go.ChangeAt Go.RowKit
set_option maxRecDepth 20000
theorem wfo_i64 {n : Int} (h : (Lit.int .i64 n).wf = true) : -9223372036854775808 <= n ∧ n <= 9223372036854775807 := by
 simpa [Lit.wf, IntKind.min, IntKind.max, IntKind.signed, IntKind.bits] using h
theorem wfo_u32 {n : Int} (h : (Lit.int .u32 n).wf = true) : 0 <= n ∧ n <= 4294967295 := by
 simpa [Lit.wf, IntKind.min, IntKind.max, IntKind.signed, IntKind.bits] using h
theorem wfo_u64 {n : Int} (h : (Lit.int .u64 n).wf = true) : 0 <= n ∧ n <= 18446744073709551615 := by
 simpa [Lit.wf, IntKind.min, IntKind.max, IntKind.signed, IntKind.bits] using h
theorem wfo_u8 {n : Int} (h : (Lit.int .u8 n).wf = true) : 0 <= n ∧ n <= 255 := by
 simpa [Lit.wf, IntKind.min, IntKind.max, IntKind.signed, IntKind.bits] using h
structure PvIn (p : Pv) : Prop where
  n : NameOk p.n
  by_ : ∀ x ∈ p.da, ByteOk x
theorem PvIn.ok {p : Pv} (h : PvIn p) (hl : p.da.length <= 100000000) : PvOk p := ⟨h.n, h.by_, hl⟩
instance : Inhabited Pv := ⟨pv0⟩
theorem put_cellsOf : Tryz.prog.cellsOf 42 = 4 ∧ Tryz.prog.cellsOf 4 = 1 ∧ Tryz.prog.cellsOf 39 = 1 ∧ Tryz.prog.cellsOf 40 = 1 ∧ Tryz.prog.cellsOf 36 = 1 ∧ Tryz.prog.cellsOf 5 = 1 := by
 refine ⟨?_, ?_, ?_, ?_, ?_, ?_⟩ <;> kernel_rfl
section
variable {H : Type} {enc : TypeId × Value -> H} {w : World} {base : Nat} {sp : Nat -> Bool} {held : Bool}
theorem bytes_trod {n : Nat} {cs : List Value} {x : DataW H × List MemPlace} (h : DataW.trod enc Tryz.prog w base sp held n 36 cs = some x) :
    ∃ A c l, cs = [.slice A (List.length l) c] ∧ Reads w w.heap.size 1 A l.length (nums .u8 l) ∧ l.length <= c ∧ ∀ x ∈ l, ByteOk x := by
 rcases Go.ChangeShapes.open_ints Tryz.underlying36 Tryz.underlying5 put_cellsOf.2.2.2.2.2 h with ⟨hcs, _⟩ | ⟨a, len, cap, zs, hcs, _, hl, hm, hz, _, hx, hwf⟩
 · exact ⟨none, 0, [], hcs, Reads.none_, Nat.zero_le _, fun x hx => by cases hx⟩
 · have hlz : len <= zs.length := by rw [hz]; split <;> omega
   have hlen : (zs.take len).length = len := by rw [List.length_take]; omega
   refine ⟨some a, cap, zs.take len, by rw [hcs, hlen], ⟨by rw [nums_length, Nat.mul_one], fun hn => ?_⟩, by rw [hlen]; exact hl, fun x hx' => wfo_u8 (hwf x (List.mem_of_mem_take hx'))⟩
   rw [hlen] at hn
   have hc0 := hx 0 (by omega)
   refine ⟨a, rfl, by have := World.block_lt_of_cell? w _ hc0; rw [block_of_add] at this; exact this, fun j u hu => ?_⟩
   have hj : j < len := by
    have := (List.getElem?_eq_some_iff.mp hu).1
    rw [nums_length, hlen] at this
    exact this
   rw [nums_get .u8 _ j (by rw [hlen]; exact hj)] at hu
   injection hu with hu
   rw [hx j (by omega), <- hu]
   simp [List.getD_eq_getElem?_getD, hj]
theorem put_cells {n : Nat} {cs : List Value} {x : DataW H × List MemPlace} (h : DataW.trod enc Tryz.prog w base sp held n 42 cs = some x) :
    ∃ (p : Pv) (A : Option Addr) (c : Nat), cs = [.int .u32 p.t, .int .u64 p.b, .bool p.d, .slice A p.da.length c] ∧ PvIn p ∧ Reads w w.heap.size 1 A p.da.length (nums .u8 p.da) ∧ p.da.length <= c := by
 obtain ⟨k4, kb, ku, kv, ks, _⟩ := put_cellsOf
 obtain ⟨xs, n1, rfl, rfl, hl, hxl, hf⟩ := DataW.trod_struct Tryz.underlying42 h
 rw [k4] at hl
 match cs, hl with
 | [v0, v1, v2, v3], _ =>
   match xs, hxl with
   | [y0, y1, y2, y3], _ =>
     have g0 := hf 0 _ rfl
     have g1 := hf 1 _ rfl
     have g2 := hf 2 _ rfl
     have g3 := hf 3 _ rfl
     simp [kb, ku, kv, ks] at g0 g1 g2 g3
     obtain ⟨t, e0, _, wt⟩ := DataW.trod_int Tryz.underlying39 g0
     obtain ⟨bl, e1, _, wb⟩ := DataW.trod_int Tryz.underlying40 g1
     obtain ⟨b, e2, _⟩ := DataW.trod_bool Tryz.underlying4 g2
     obtain ⟨A, c, l, e3, hr, hc, hb⟩ := bytes_trod g3
     simp only [List.cons.injEq, and_true] at e0 e1 e2 e3
     exact ⟨⟨t, bl, b, l⟩, A, c, by rw [e0, e1, e2, e3], ⟨⟨wfo_u32 wt, wfo_u64 wb⟩, hb⟩, hr, hc⟩
theorem puts_trod {n : Nat} {cs : List Value} {x : DataW H × List MemPlace} (h : DataW.trod enc Tryz.prog w base sp held n 32 cs = some x) :
    ∃ A c l, cs = [.slice A (List.length l) c] ∧ PutsAt (fun b => b < w.heap.size) w A l ∧ l.length <= c ∧ ∀ p ∈ l, PvIn p := by
 rcases Deep.open_slice Tryz.underlying32 h with ⟨hcs, _⟩ | ⟨a, len, cap, m, n, D, Pq, hcs, _, hl, hm, hmm, _, hx⟩
 · exact ⟨none, 0, [], hcs, fun i hi => by simp at hi, Nat.zero_le _, fun p hp => by cases hp⟩
 · have hlm : len <= m := by rw [hmm]; split <;> omega
   have hV : ∀ i, i < len -> ∃ p : Pv, (∃ Ad cd, PutAt (fun b => b < w.heap.size) w (a.add (i * 4)) p Ad cd) ∧ PvIn p := by
    intro i hi
    obtain ⟨cs', h1, h2⟩ := hx i (by omega)
    rw [put_cellsOf.1] at h1
    obtain ⟨_, hlen, hcell⟩ := World.cells?_some h1
    obtain ⟨p, Ad, cd, rfl, hk, hr, hc⟩ := put_cells h2
    have c0 : w.cell? (a.add (i * 4)) = some (.int .u32 p.t) := hcell 0 (by omega)
    have hb := World.block_lt_of_cell? w _ c0
    refine ⟨p, ⟨Ad, cd, hb, c0, ?_, ?_, ?_, hr, fun ad e h0 => ?_, hc⟩, hk⟩
    · exact hcell 1 (by omega)
    · exact hcell 2 (by omega)
    · exact hcell 3 (by omega)
    · obtain ⟨ad', e', hb', _⟩ := hr.2 h0
      obtain rfl := Option.some.inj (e.symm.trans e')
      exact hb'
   obtain ⟨f, hf⟩ := Deep.choose_lt hV
   have hlen : ((List.range len).map f).length = len := by simp
   have hget : ∀ i, i < len -> ((List.range len).map f).getD i pv0 = f i := fun i hi => by simp [List.getD_eq_getElem?_getD, hi]
   refine ⟨some a, cap, (List.range len).map f, by rw [hcs, hlen], fun i hi => ?_, by rw [hlen]; exact hl, fun p hp => ?_⟩
   · rw [hlen] at hi
     rw [hget i hi]
     obtain ⟨Ad, cd, h⟩ := (hf i hi).1
     exact ⟨a, Ad, cd, rfl, h⟩
   · obtain ⟨i, hi, rfl⟩ := List.mem_map.1 hp
     exact (hf i (List.mem_range.1 hi)).2
end
end Go.Proofs.YtfabgbmbnmbjkaaGreatDoor

/- Pruned. -/
namespace Go.Proofs.YtfabgbmbnmbjkaaGreatDoor
open Go.RowKit
set_option maxRecDepth 20000
theorem blockM_ok {bl : Nat} (hbl : bl <= 65536) {p : Pv} (h : PvOk p) : PvOk (blockM bl p) := by
 unfold blockM
 split
 · exact h
 · refine ⟨h.n, fun x hx => ?_, ?_⟩
   · rcases List.mem_append.1 hx with hx | hx
     · exact h.by_ x (List.mem_of_mem_take hx)
     · have := List.eq_of_mem_replicate hx
       subst this
       unfold ByteOk
       omega
   · have := cutB_length bl p.da (min bl p.da.length) (by omega) (by omega)
     show (cutB bl p.da (min bl p.da.length)).length <= _
     omega
theorem PRow.cap {w : World} {base c : Nat} {A : Option Addr} {O : List Pc} (h : PRow w base A c O) : O.length <= c := by
 rcases h.2 with ⟨hv, h0⟩ | ⟨g, cap, cur, hv, hg, hh, hnc, hcm, hcs, ht⟩
 · omega
 · injection hv with e1 e2 e3
   omega
end Go.Proofs.YtfabgbmbnmbjkaaGreatDoor

/- Pruned. -/
namespace Go.Proofs.YtfabgbmbnmbjkaaGreatDoor
open Go.RowKit
set_option maxRecDepth 20000
structure OwB (w : World) (s : Nat) (wr : World) (A : Option Addr) (c : Nat) (O : List Pc) : Prop where
  row : PRow wr w.heap.size A c O
  br : ∀ q ∈ O, ∃ ys, ys.length = q.p.da.length ∧ BRow wr w.heap.size q.a q.c ys
  nd : ∀ q ∈ O, ∀ b, (Value.slice q.a q.p.da.length q.c).ownBlock = some b -> (Value.slice A O.length c).ownBlock ≠ some b
  lt : ∀ q ∈ O, ∀ b, (Value.slice q.a q.p.da.length q.c).ownBlock = some b -> b < s
theorem OwB.at_ {w wr : World} {s : Nat} {A : Option Addr} {c : Nat} {O : List Pc} (h : OwB w s wr A c O) {i : Nat} (hi : i < O.length) : ∃ r, A = some ⟨r, 0, none⟩ ∧ w.heap.size <= r ∧ r < wr.heap.size ∧ wr.cell? ⟨r, i * 4 + 3, none⟩ = some (.slice (O.getD i pc0).a (O.getD i pc0).p.da.length (O.getD i pc0).c) := by
 rcases h.row.2 with ⟨_, h0⟩ | ⟨g, cap, cur, hv, hg, hh, hnc, hcm, hcs, ht⟩
 · omega
 · injection hv with e1 e2 e3
   subst e1
   refine ⟨g, rfl, hg, (h.row.lt (b := g) rfl).2, ?_⟩
   exact (World.ownsRow.cellAt h.row (i * 4 + 3) (by omega)).trans (pcCs_get O i hi).2.2.2
end Go.Proofs.YtfabgbmbnmbjkaaGreatDoor

/- Pruned. -/
namespace Go.Proofs.YtfabgbmbnmbjkaaGreatDoor
open Go.RowKit
set_option maxRecDepth 20000
def Out (w : World) (Y : Nat -> Prop) (b : Nat) : Prop := b < w.heap.size ∧ ¬ Y b
def More (w wn : World) (Y : Nat -> Prop) (b : Nat) : Prop := Y b ∨ (w.heap.size <= b ∧ b < wn.heap.size)
section
variable {Ya Yb : Nat -> Prop} {w wr wn : World} {Fa Fb : StF} {sh : Sh} {na nb n' : Nat} {ma mb m' : StM} {A : Option Addr} {L : List Pv}
end
end Go.Proofs.YtfabgbmbnmbjkaaGreatDoor

/- Pruned. -/
namespace Go.Proofs.YtfabgbmbnmbjkaaGreatDoor
open Go.ChangeShapes Go.WideShapes Go.ChangeAt Go.RowKit
set_option maxRecDepth 20000
structure Opv where
  k : Int
  l : List Pv
  z : Int
def op0 : Opv := ⟨0, [], 0⟩
instance : Inhabited Opv := ⟨op0⟩
structure SOpAt (X : Nat -> Prop) (w : World) (a : Addr) (o : Opv) (Ad : Option Addr) (cd : Nat) : Prop where
  x : X a.block
  c0 : w.cell? a = some (.int .u8 o.k)
  c1 : w.cell? ⟨a.block, a.off + 1, none⟩ = some (.slice Ad o.l.length cd)
  c2 : w.cell? ⟨a.block, a.off + 2, none⟩ = some (.int .i64 o.z)
  pa : PutsAt X w Ad o.l
  cap : o.l.length <= cd
structure OpIn (o : Opv) : Prop where
  k : 0 <= o.k ∧ o.k <= 255
  l : ∀ p ∈ o.l, PvIn p
  z : -9223372036854775808 <= o.z ∧ o.z <= 9223372036854775807
def SOpsAt (X : Nat -> Prop) (w : World) (A : Option Addr) (l : List Opv) : Prop := ∀ i, i < l.length -> ∃ ad Ad cd, A = some ad ∧ SOpAt X w (ad.add (i * 3)) (l.getD i op0) Ad cd
section
variable {X X' S : Nat -> Prop} {w w' : World} {a : Addr} {o : Opv} {Ad A : Option Addr} {cd : Nat} {l : List Opv}
theorem SOpAt.kp (h : SOpAt X w a o Ad cd) (hk : Kp S w w') (hs : ∀ b, S b -> ¬ X b) : SOpAt X w' a o Ad cd := by
 have nx : ∀ b, X b -> ¬ S b := fun b hx hs' => hs b hs' hx
 exact ⟨h.x, hk.cell h.c0 (nx _ h.x), hk.cell h.c1 (nx _ h.x), hk.cell h.c2 (nx _ h.x), h.pa.kp hk hs, h.cap⟩
theorem SOpsAt.kp (h : SOpsAt X w A l) (hk : Kp S w w') (hs : ∀ b, S b -> ¬ X b) : SOpsAt X w' A l := fun i hi => by
 obtain ⟨ad, Ad, cd, e, hp⟩ := h i hi
 exact ⟨ad, Ad, cd, e, hp.kp hk hs⟩
theorem SOpsAt.below (h : SOpsAt X w A l) (hb : Below w.heap.size w w') : SOpsAt X w' A l := h.kp (S := fun _ => False) (Kp.of_below hb) (fun _ e => e.elim)
end
theorem sop_cellsOf : Tryz.prog.cellsOf 34 = 3 ∧ Tryz.prog.cellsOf 5 = 1 ∧ Tryz.prog.cellsOf 32 = 1 ∧ Tryz.prog.cellsOf 3 = 1 := by
 refine ⟨?_, ?_, ?_, ?_⟩ <;> kernel_rfl
section
variable {H : Type} {enc : TypeId × Value -> H} {w : World} {base : Nat} {sp : Nat -> Bool} {held : Bool}
theorem sop_cells {n : Nat} {cs : List Value} {x : DataW H × List MemPlace} (h : DataW.trod enc Tryz.prog w base sp held n 34 cs = some x) :
    ∃ (o : Opv) (A : Option Addr) (c : Nat), cs = [.int .u8 o.k, .slice A o.l.length c, .int .i64 o.z] ∧ OpIn o ∧ PutsAt (fun b => b < w.heap.size) w A o.l ∧ o.l.length <= c := by
 obtain ⟨k3, ku, ks, ki⟩ := sop_cellsOf
 obtain ⟨xs, n1, rfl, rfl, hl, hxl, hf⟩ := DataW.trod_struct Tryz.underlying34 h
 rw [k3] at hl
 match cs, hl with
 | [v0, v1, v2], _ =>
   match xs, hxl with
   | [y0, y1, y2], _ =>
     have g0 := hf 0 _ rfl
     have g1 := hf 1 _ rfl
     have g2 := hf 2 _ rfl
     simp [ku, ks, ki] at g0 g1 g2
     obtain ⟨k, e0, _, wk⟩ := DataW.trod_int Tryz.underlying5 g0
     obtain ⟨A, c, l, e1, hp, hc, hi⟩ := puts_trod g1
     obtain ⟨z, e2, _, wz⟩ := DataW.trod_int Tryz.underlying3 g2
     simp only [List.cons.injEq, and_true] at e0 e1 e2
     exact ⟨⟨k, l, z⟩, A, c, by rw [e0, e1, e2], ⟨wfo_u8 wk, hi, wfo_i64 wz⟩, hp, hc⟩
theorem sopen_oplist {b0 : Nat} {v : Value} {d : DataW H} {ps : List MemPlace} (hval : Value.okWide Tryz.prog w .any b0 24 v) (h : DataW.Trod enc Tryz.prog w base sp held 24 v d ps) :
    ∃ A c l, v = .slice A (List.length l) c ∧ SOpsAt (fun b => b < w.heap.size) w A l ∧ l.length <= c ∧ ∀ o ∈ l, OpIn o := by
 obtain ⟨A, len, cap, rfl⟩ := okWide_slice Tryz.underlying24 hval
 obtain ⟨fuel, hf⟩ := h
 rcases Deep.open_slice Tryz.underlying24 hf with ⟨hcs, _⟩ | ⟨a, len', cap', m, n, D, Pq, hcs, _, hl, hm, hmm, _, hx⟩
 · simp only [Value.cells, List.cons.injEq, and_true] at hcs
   exact ⟨none, 0, [], hcs, fun i hi => by simp at hi, Nat.zero_le _, fun p hp => by cases hp⟩
 · simp only [Value.cells, List.cons.injEq, and_true] at hcs
   injection hcs with h1 h2 h3
   subst h1 h2 h3
   have hlm : len <= m := by rw [hmm]; split <;> omega
   have hV : ∀ i, i < len -> ∃ o : Opv, (∃ Ad cd, SOpAt (fun b => b < w.heap.size) w (a.add (i * 3)) o Ad cd) ∧ OpIn o := by
    intro i hi
    obtain ⟨cs', h1, h2⟩ := hx i (by omega)
    rw [sop_cellsOf.1] at h1
    obtain ⟨_, hlen, hcell⟩ := World.cells?_some h1
    obtain ⟨o, Ad, cd, rfl, hk, hp, hc⟩ := sop_cells h2
    have c0 : w.cell? (a.add (i * 3)) = some (.int .u8 o.k) := hcell 0 (by omega)
    refine ⟨o, ⟨Ad, cd, World.block_lt_of_cell? w _ c0, c0, ?_, ?_, hp, hc⟩, hk⟩
    · exact hcell 1 (by omega)
    · exact hcell 2 (by omega)
   obtain ⟨f, hf⟩ := Deep.choose_lt hV
   have hlen : ((List.range len).map f).length = len := by simp
   have hget : ∀ i, i < len -> ((List.range len).map f).getD i op0 = f i := fun i hi => by simp [List.getD_eq_getElem?_getD, hi]
   refine ⟨some a, cap, (List.range len).map f, by rw [hlen], fun i hi => ?_, by rw [hlen]; exact hl, fun p hp => ?_⟩
   · rw [hlen] at hi
     rw [hget i hi]
     obtain ⟨Ad, cd, h⟩ := (hf i hi).1
     exact ⟨a, Ad, cd, rfl, h⟩
   · obtain ⟨i, hi, rfl⟩ := List.mem_map.1 hp
     exact (hf i (List.mem_range.1 hi)).2
end
def heavy1M (o : Opv) : Bool := decide (30 < o.l.length) || o.l.any (fun p => decide (200 < p.da.length))
def heavysM (z zb bl : Int) (l : List Opv) : Bool := !smallB z zb bl || decide (40 < l.length) || l.any heavy1M
theorem heavys1_any (X : Nat -> Prop) (w : World) (z zb bl rs : Int) (A : Option Addr) (c : Nat) (l : List Opv) (hp : SOpsAt X w A l) :
    Calls Tryz.prog 38 #[.agg #[.int .i64 z, .int .i64 zb, .int .i64 bl, .int .i64 rs], .slice A l.length c] w (Makes (.bool (heavysM z zb bl l)) w) := by
 have HS := Lib.hid (fun u => small_any z zb bl rs u)
 have HP := Lib.hid hp
 cases hs : smallB z zb bl with
 | false =>
   rw [hs] at HS
   have HE : Hid (heavysM z zb bl l = true) := by unfold Hid heavysM; rw [hs]; rfl
   clear hp hs
   go_enter Tryz.func38, Tryz.ntmps38
   go_wp2_with (fail)
   refine (HS.out _).mono ?_
   rintro e w2 ⟨rfl, hb2⟩
   have HB : Hid (Below w.heap.size w w2) := ((Below.refl w.heap.size w).alloc (Nat.le_refl _) _).trans (hb2.mono (by simp))
   clear hb2
   go_wp2
   go_ret
   exact ⟨by rw [HE.out]; rfl, HB.out⟩
 | true =>
   rw [hs] at HS
   by_cases hlen : 40 < l.length
   · have HE : Hid (heavysM z zb bl l = true) := by unfold Hid heavysM; rw [hs, decide_eq_true hlen]; rfl
     clear hp hs
     have hlen' : (40 : Int) < l.length := by omega
     go_enter Tryz.func38, Tryz.ntmps38
     go_wp2_with (fail)
     refine (HS.out _).mono ?_
     rintro e w2 ⟨rfl, hb2⟩
     have HB : Hid (Below w.heap.size w w2) := ((Below.refl w.heap.size w).alloc (Nat.le_refl _) _).trans (hb2.mono (by simp))
     clear hb2
     go_wp2
     go_ret
     exact ⟨by rw [HE.out]; rfl, HB.out⟩
   · have HE : Hid (heavysM z zb bl l = l.any heavy1M) := by unfold Hid heavysM; rw [hs, decide_eq_false hlen]; rfl
     have hlen' : ¬ (40 : Int) < l.length := by omega
     clear hp hs
     go_enter Tryz.func38, Tryz.ntmps38
     go_wp2_with (fail)
     refine (HS.out _).mono ?_
     rintro e w2 ⟨rfl, hb2⟩
     have hB : Below w.heap.size w w2 := ((Below.refl w.heap.size w).alloc (Nat.le_refl _) _).trans (hb2.mono (by simp))
     have HB := Lib.hid hB
     have HP2 := Lib.hid (HP.out.below hB)
     clear hb2 hB
     go_wp2_with (fail)
     go_loopw [6] (fun i wr => ∃ k : Nat, k <= l.length ∧ i = .int .i64 k ∧ wr = w2 ∧ Hid (∀ j, j < k -> heavy1M (l.getD j op0) = false)) (fun i _ => l.length - (intOf i).toNat)
     case atStart => exact ⟨0, Nat.zero_le _, rfl, rfl, fun j hj => by omega⟩
     case round =>
      obtain ⟨k, hk, rfl, rfl, hno⟩ := hrel
      by_cases hlt : k < l.length
      · obtain ⟨ad, Ad, cd, rfl, hat⟩ := HP2.out k hlt
        have p1 := hat.c1
        have HPA := Lib.hid hat.pa
        have HM := Lib.hid (getD_mem (d := op0) hlt)
        have HLT := Lib.hid hlt
        have HN : Hid (heavy1M (l.getD k op0) = false -> ∀ j, j < k + 1 -> heavy1M (l.getD j op0) = false) := fun h j hj => by
         rcases Nat.lt_or_ge j k with h' | h'
         · exact hno.out j h'
         · rw [show j = k by omega]; exact h
        clear hat hno
        generalize l.getD k op0 = o at *
        obtain ⟨ok, ol, oz⟩ := o
        simp only at p1 HPA
        by_cases hbig : 30 < ol.length
        · have HA : Hid (l.any heavy1M = true) := List.any_eq_true.2 ⟨_, HM.out, by unfold heavy1M; rw [decide_eq_true hbig]; rfl⟩
          have hbig' : (30 : Int) < ol.length := by omega
          clear hbig
          generalize ol.length = dn at *
          go_wp2
          go_ret
          exact ⟨by rw [HE.out, HA.out]; rfl, HB.out⟩
        · have hbig' : ¬ (30 : Int) < ol.length := by omega
          have HO : Hid (heavy1M ⟨ok, ol, oz⟩ = ol.any (fun p => decide (200 < p.da.length))) := by unfold Hid heavy1M; rw [decide_eq_false hbig]; rfl
          clear hbig
          go_wp2_with (fail)
          go_loopw [7] (fun i wr2 => ∃ k : Nat, k <= ol.length ∧ i = .int .i64 k ∧ wr2 = wr ∧ Hid (∀ j, j < k -> ¬ 200 < (ol.getD j pv0).da.length)) (fun i _ => ol.length - (intOf i).toNat)
          case atStart => exact ⟨0, Nat.zero_le _, rfl, rfl, fun j hj => by omega⟩
          case round =>
           obtain ⟨k2, hk2, rfl, rfl, hno⟩ := hrel
           by_cases hlt : k2 < ol.length
           · obtain ⟨ad2, Ad2, cd2, rfl, hat⟩ := HPA.out k2 hlt
             have p3 := hat.c3
             have hm := getD_mem (d := pv0) hlt
             have HLT2 := Lib.hid hlt
             by_cases hbig : 200 < (ol.getD k2 pv0).da.length
             · have HA : Hid (l.any heavy1M = true) := List.any_eq_true.2 ⟨_, HM.out, by rw [HO.out]; exact List.any_eq_true.2 ⟨_, hm, decide_eq_true hbig⟩⟩
               have hbig' : (200 : Int) < (ol.getD k2 pv0).da.length := by omega
               clear hat hm hno hbig
               generalize (ol.getD k2 pv0).da.length = dn at *
               go_wp2
               go_ret
               exact ⟨by rw [HE.out, HA.out]; rfl, HB.out⟩
             · have HN2 : Hid (∀ j, j < k2 + 1 -> ¬ 200 < (ol.getD j pv0).da.length) := fun j hj => by
                rcases Nat.lt_or_ge j k2 with h | h
                · exact hno.out j h
                · rw [show j = k2 by omega]; exact hbig
               have hbig' : ¬ (200 : Int) < (ol.getD k2 pv0).da.length := by omega
               clear hat hm hno hbig
               generalize (ol.getD k2 pv0).da.length = dn at *
               go_wp2
               go_roundw
               case rel => exact ⟨k2 + 1, HLT2.out, by go_num, by first | rfl | trivial, HN2⟩
               case measure => have := HLT2.out; simp [intOf]; omega
           · obtain rfl : k2 = ol.length := by omega
             have HA : Hid (heavy1M ⟨ok, ol, oz⟩ = false) := by
              unfold Hid
              rw [HO.out]
              apply Bool.eq_false_iff.2
              intro h
              obtain ⟨p, hp, hd⟩ := List.any_eq_true.1 h
              obtain ⟨j, hj, rfl⟩ := List.getElem_of_mem hp
              have := hno.out j hj
              rw [List.getD_eq_getElem?_getD, List.getElem?_eq_getElem hj] at this
              exact this (of_decide_eq_true hd)
             have HNN := Lib.hid (HN.out HA.out)
             clear hno
             go_wp2
             go_roundw
             case rel => exact ⟨k + 1, HLT.out, by go_num, by first | rfl | trivial, HNN⟩
             case measure => have := HLT.out; simp [intOf]; omega
      · obtain rfl : k = l.length := by omega
        have HA : Hid (l.any heavy1M = false) := by
         apply Bool.eq_false_iff.2
         intro h
         obtain ⟨p, hp, hd⟩ := List.any_eq_true.1 h
         obtain ⟨j, hj, rfl⟩ := List.getElem_of_mem hp
         have := hno.out j hj
         rw [List.getD_eq_getElem?_getD, List.getElem?_eq_getElem hj, Option.getD_some, hd] at this
         cases this
        clear hno
        go_wp2
        go_ret
        exact ⟨by rw [HE.out, HA.out]; rfl, HB.out⟩
theorem heavys_any (X : Nat -> Prop) (w : World) (z zb bl rs : Int) (A : Option Addr) (c : Nat) (l : List Opv) (hp : SOpsAt X w A l) :
    Calls Tryz.prog 10 #[.agg #[.int .i64 z, .int .i64 zb, .int .i64 bl, .int .i64 rs], .slice A l.length c] w (Makes (.int .i64 (if heavysM z zb bl l then 1 else 0)) w) := by
 have hb : Below w.heap.size w (w.alloc (.cells #[.int .i64 z, .int .i64 zb, .int .i64 bl, .int .i64 rs] 23)) := (Below.refl _ _).alloc (Nat.le_refl _) _
 have HH := Lib.hid (heavys1_any X _ z zb bl rs A c l (hp.below hb))
 have HB := Lib.hid hb
 clear hp hb
 generalize heavysM z zb bl l = v at *
 cases v
 all_goals
  go_enter Tryz.func10, Tryz.ntmps10
  go_wp2_with (fail)
  refine HH.out.mono ?_
  rintro e w2 ⟨rfl, hb2⟩
  have HB2 : Hid (Below w.heap.size w w2) := HB.out.trans (hb2.mono HB.out.size)
  clear hb2 HH
  go_wp2_with (fail)
  refine (truth_any _ _).mono ?_
  rintro e w' ⟨rfl, rfl⟩
  go_wp2
  go_ret
  exact ⟨rfl, HB2.out⟩
theorem heavys_false {z zb bl : Int} {l : List Opv} (h : heavysM z zb bl l = false) : smallB z zb bl = true ∧ l.length <= 40 ∧ ∀ o ∈ l, o.l.length <= 30 ∧ ∀ p ∈ o.l, p.da.length <= 200 := by
 unfold heavysM at h
 simp only [Bool.or_eq_false_iff, Bool.not_eq_false', decide_eq_false_iff_not, List.any_eq_false] at h
 refine ⟨h.1.1, by omega, fun o ho => ?_⟩
 have h1 := h.2 o ho
 unfold heavy1M at h1
 simp only [Bool.or_eq_true, not_or, decide_eq_true_eq, List.any_eq_true, not_exists, not_and] at h1
 exact ⟨by omega, fun p hp => by have := h1.2 p hp; omega⟩
end Go.Proofs.YtfabgbmbnmbjkaaGreatDoor

