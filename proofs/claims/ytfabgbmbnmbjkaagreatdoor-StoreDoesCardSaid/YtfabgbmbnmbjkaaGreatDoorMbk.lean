/- Joined texts: So1 Sl12 Sl13 Sl15 So2. -/
import Derived.Test.YtfabgbmbnmbjkaaGreatDoorMaa
import Derived.Test.YtfabgbmbnmbjkaaGreatDoorMax
import Derived.ChangeArms
import Derived.ChangeSlices
import Derived.Deep.Slices
import Derived.WideShapes
import Derived.BigQuiet
/- The laws of Store: a list of puts among the arguments, opened; a list of calls. -/
namespace Go.Proofs.YtfabgbmbnmbjkaaGreatDoor
open Go.ChangeShapes Go.WideShapes Go.ChangeAt Go.RowKit
set_option maxRecDepth 20000

theorem wfo_i64 {n : Int} (h : (Lit.int .i64 n).wf = true) : -9223372036854775808 ≤ n ∧ n ≤ 9223372036854775807 := by
  simpa [Lit.wf, IntKind.min, IntKind.max, IntKind.signed, IntKind.bits] using h
theorem wfo_u32 {n : Int} (h : (Lit.int .u32 n).wf = true) : 0 ≤ n ∧ n ≤ 4294967295 := by
  simpa [Lit.wf, IntKind.min, IntKind.max, IntKind.signed, IntKind.bits] using h
theorem wfo_u64 {n : Int} (h : (Lit.int .u64 n).wf = true) : 0 ≤ n ∧ n ≤ 18446744073709551615 := by
  simpa [Lit.wf, IntKind.min, IntKind.max, IntKind.signed, IntKind.bits] using h
theorem wfo_u8 {n : Int} (h : (Lit.int .u8 n).wf = true) : 0 ≤ n ∧ n ≤ 255 := by
  simpa [Lit.wf, IntKind.min, IntKind.max, IntKind.signed, IntKind.bits] using h
/-- What is known of a put that came in. -/
structure PvIn (p : Pv) : Prop where
  n : NameOk p.n
  by_ : ∀ x ∈ p.da, ByteOk x
theorem PvIn.ok {p : Pv} (h : PvIn p) (hl : p.da.length ≤ 100000000) : PvOk p := ⟨h.n, h.by_, hl⟩

instance : Inhabited Pv := ⟨pv0⟩
theorem put_cellsOf : Tryz.prog.cellsOf 42 = 4 ∧ Tryz.prog.cellsOf 4 = 1 ∧ Tryz.prog.cellsOf 39 = 1 ∧ Tryz.prog.cellsOf 40 = 1 ∧ Tryz.prog.cellsOf 36 = 1 ∧ Tryz.prog.cellsOf 5 = 1 := by
  refine ⟨?_, ?_, ?_, ?_, ?_, ?_⟩ <;> kernel_rfl

section
variable {H : Type} {enc : TypeId × Value → H} {w : World} {base : Nat} {sp : Nat → Bool} {held : Bool}

theorem bytes_trod {n : Nat} {cs : List Value} {x : DataW H × List MemPlace} (h : DataW.trod enc Tryz.prog w base sp held n 36 cs = some x) :
    ∃ A c l, cs = [.slice A (List.length l) c] ∧ Reads w w.heap.size 1 A l.length (nums .u8 l) ∧ l.length ≤ c ∧ ∀ x ∈ l, ByteOk x := by
  rcases Go.ChangeShapes.open_ints Tryz.underlying36 Tryz.underlying5 put_cellsOf.2.2.2.2.2 h with ⟨hcs, _⟩ | ⟨a, len, cap, zs, hcs, _, hl, hm, hz, _, hx, hwf⟩
  · exact ⟨none, 0, [], hcs, Reads.none_, Nat.zero_le _, fun x hx => by cases hx⟩
  · have hlz : len ≤ zs.length := by rw [hz]; split <;> omega
    have hlen : (zs.take len).length = len := by rw [List.length_take]; omega
    refine ⟨some a, cap, zs.take len, by rw [hcs, hlen], ⟨by rw [nums_length, Nat.mul_one], fun hn => ?_⟩, by rw [hlen]; exact hl, fun x hx' => wfo_u8 (hwf x (List.mem_of_mem_take hx'))⟩
    rw [hlen] at hn
    have hc0 := hx 0 (by omega)
    refine ⟨a, rfl, by have := World.block_lt_of_cell? w _ hc0; rw [block_of_add] at this; exact this, fun j u hu => ?_⟩
    have hj : j < len := by
      have := (List.getElem?_eq_some_iff.mp hu).1
      rw [nums_length, hlen] at this
      exact this
    rw [nums_get .u8 _ j (by rw [hlen]; exact hj)] at hu
    injection hu with hu
    rw [hx j (by omega), ← hu]
    simp [List.getD_eq_getElem?_getD, hj]

theorem put_cells {n : Nat} {cs : List Value} {x : DataW H × List MemPlace} (h : DataW.trod enc Tryz.prog w base sp held n 42 cs = some x) :
    ∃ (p : Pv) (A : Option Addr) (c : Nat), cs = [.int .u32 p.t, .int .u64 p.b, .bool p.d, .slice A p.da.length c] ∧ PvIn p ∧ Reads w w.heap.size 1 A p.da.length (nums .u8 p.da) ∧ p.da.length ≤ c := by
  obtain ⟨k4, kb, ku, kv, ks, _⟩ := put_cellsOf
  obtain ⟨xs, n1, rfl, rfl, hl, hxl, hf⟩ := DataW.trod_struct Tryz.underlying42 h
  rw [k4] at hl
  match cs, hl with
  | [v0, v1, v2, v3], _ =>
    match xs, hxl with
    | [y0, y1, y2, y3], _ =>
      have g0 := hf 0 _ rfl
      have g1 := hf 1 _ rfl
      have g2 := hf 2 _ rfl
      have g3 := hf 3 _ rfl
      simp [kb, ku, kv, ks] at g0 g1 g2 g3
      obtain ⟨t, e0, _, wt⟩ := DataW.trod_int Tryz.underlying39 g0
      obtain ⟨bl, e1, _, wb⟩ := DataW.trod_int Tryz.underlying40 g1
      obtain ⟨b, e2, _⟩ := DataW.trod_bool Tryz.underlying4 g2
      obtain ⟨A, c, l, e3, hr, hc, hb⟩ := bytes_trod g3
      simp only [List.cons.injEq, and_true] at e0 e1 e2 e3
      exact ⟨⟨t, bl, b, l⟩, A, c, by rw [e0, e1, e2, e3], ⟨⟨wfo_u32 wt, wfo_u64 wb⟩, hb⟩, hr, hc⟩

theorem puts_trod {n : Nat} {cs : List Value} {x : DataW H × List MemPlace} (h : DataW.trod enc Tryz.prog w base sp held n 32 cs = some x) :
    ∃ A c l, cs = [.slice A (List.length l) c] ∧ PutsAt (fun b => b < w.heap.size) w A l ∧ l.length ≤ c ∧ ∀ p ∈ l, PvIn p := by
  rcases Deep.open_slice Tryz.underlying32 h with ⟨hcs, _⟩ | ⟨a, len, cap, m, n, D, Pq, hcs, _, hl, hm, hmm, _, hx⟩
  · exact ⟨none, 0, [], hcs, fun i hi => by simp at hi, Nat.zero_le _, fun p hp => by cases hp⟩
  · have hlm : len ≤ m := by rw [hmm]; split <;> omega
    have hV : ∀ i, i < len → ∃ p : Pv, (∃ Ad cd, PutAt (fun b => b < w.heap.size) w (a.add (i * 4)) p Ad cd) ∧ PvIn p := by
      intro i hi
      obtain ⟨cs', h1, h2⟩ := hx i (by omega)
      rw [put_cellsOf.1] at h1
      obtain ⟨_, hlen, hcell⟩ := World.cells?_some h1
      obtain ⟨p, Ad, cd, rfl, hk, hr, hc⟩ := put_cells h2
      have c0 : w.cell? (a.add (i * 4)) = some (.int .u32 p.t) := hcell 0 (by omega)
      have hb := World.block_lt_of_cell? w _ c0
      refine ⟨p, ⟨Ad, cd, hb, c0, ?_, ?_, ?_, hr, fun ad e h0 => ?_, hc⟩, hk⟩
      · exact hcell 1 (by omega)
      · exact hcell 2 (by omega)
      · exact hcell 3 (by omega)
      · obtain ⟨ad', e', hb', _⟩ := hr.2 h0
        obtain rfl := Option.some.inj (e.symm.trans e')
        exact hb'
    obtain ⟨f, hf⟩ := Deep.choose_lt hV
    have hlen : ((List.range len).map f).length = len := by simp
    have hget : ∀ i, i < len → ((List.range len).map f).getD i pv0 = f i := fun i hi => by simp [List.getD_eq_getElem?_getD, hi]
    refine ⟨some a, cap, (List.range len).map f, by rw [hcs, hlen], fun i hi => ?_, by rw [hlen]; exact hl, fun p hp => ?_⟩
    · rw [hlen] at hi
      rw [hget i hi]
      obtain ⟨Ad, cd, h⟩ := (hf i hi).1
      exact ⟨a, Ad, cd, rfl, h⟩
    · obtain ⟨i, hi, rfl⟩ := List.mem_map.1 hp
      exact (hf i (List.mem_range.1 hi)).2

theorem open_putlist {b0 : Nat} {v : Value} {d : DataW H} {ps : List MemPlace} (hval : Value.okWide Tryz.prog w .any b0 32 v) (h : DataW.Trod enc Tryz.prog w base sp held 32 v d ps) :
    ∃ A c l, v = .slice A (List.length l) c ∧ PutsAt (fun b => b < w.heap.size) w A l ∧ l.length ≤ c ∧ ∀ p ∈ l, PvIn p := by
  obtain ⟨A, len, cap, rfl⟩ := okWide_slice Tryz.underlying32 hval
  obtain ⟨fuel, hf⟩ := h
  obtain ⟨A', c, l, e, h1, h2, h3⟩ := puts_trod hf
  simp only [Value.cells, List.cons.injEq, and_true] at e
  exact ⟨A', c, l, e, h1, h2, h3⟩
end
end Go.Proofs.YtfabgbmbnmbjkaaGreatDoor

/- The law StoreReads, over a list. -/
namespace Go.Proofs.YtfabgbmbnmbjkaaGreatDoor
open Go.RowKit
set_option maxRecDepth 20000

theorem heavy_false {z zb bl : Int} {l : List Pv} (h : heavyM z zb bl l = false) : smallB z zb bl = true ∧ l.length ≤ 30 ∧ ∀ p ∈ l, p.da.length ≤ 200 := by
  unfold heavyM at h
  simp only [Bool.or_eq_false_iff, Bool.not_eq_false', decide_eq_false_iff_not, List.any_eq_false, decide_eq_true_eq] at h
  exact ⟨h.1.1, by omega, fun p hp => by have := h.2 p hp; omega⟩
theorem blockM_ok {bl : Nat} (hbl : bl ≤ 65536) {p : Pv} (h : PvOk p) : PvOk (blockM bl p) := by
  unfold blockM
  split
  · exact h
  · refine ⟨h.n, fun x hx => ?_, ?_⟩
    · rcases List.mem_append.1 hx with hx | hx
      · exact h.by_ x (List.mem_of_mem_take hx)
      · have := List.eq_of_mem_replicate hx
        subst this
        unfold ByteOk
        omega
    · have := cutB_length bl p.da (min bl p.da.length) (by omega) (by omega)
      show (cutB bl p.da (min bl p.da.length)).length ≤ _
      omega
theorem PRow.cap {w : World} {base c : Nat} {A : Option Addr} {O : List Pc} (h : PRow w base A c O) : O.length ≤ c := by
  rcases h.2 with ⟨hv, h0⟩ | ⟨g, cap, cur, hv, hg, hh, hnc, hcm, hcs, ht⟩
  · omega
  · injection hv with e1 e2 e3
    omega
structure LastW (w7 wr : World) (L : List Pv) (i k : Nat) (p : Pv) (A : Option Addr) (c : Nat) : Prop where
  low : Below w7.heap.size w7 wr
  blk : Blk wr w7.heap.size 42 #[.int .u32 p.t, .int .u64 p.b, .bool p.d, .slice A p.da.length c]
  rd : Reads w7 w7.heap.size 1 A p.da.length (nums .u8 p.da)
  last : LastOf L i k p
end Go.Proofs.YtfabgbmbnmbjkaaGreatDoor

/- The laws of Store: what part of a list was put, where there was no room for all of it; own puts. -/
namespace Go.Proofs.YtfabgbmbnmbjkaaGreatDoor
open Go.RowKit
set_option maxRecDepth 20000

theorem putL_part {sh : Sh} (hok : sh.ok) (f : Nat) {m : StM} {l : List Pv} (h : Good sh m) (hf : l.length ≤ f) : ∃ j, dataM (putL sh f m l).2 = (l.take j).foldl updD (dataM m) := by
  induction f generalizing m l with
  | zero => exact ⟨0, rfl⟩
  | succ f ih =>
    unfold putL
    split
    · exact ⟨0, rfl⟩
    · rename_i hl
      simp only
      obtain ⟨g1, d1, s1, _, _⟩ := ready_good (need := needM l) h
      split
      · rename_i hr
        obtain ⟨ho, hroom⟩ := ready_room h (by have := hok.facts; unfold needM; split <;> omega) hr
        generalize readyM sh m (needM l) = r at *
        obtain ⟨b1, b2, b3, b4⟩ := batch_facts (l := l) (m := r.2) hok (by omega) (by unfold needM at hroom; exact hroom)
        obtain ⟨g2, d2, s2⟩ := writeM_good (l.take (batchM sh r.2 l)) g1 ho
        obtain ⟨j, hj⟩ := ih (l := l.drop (batchM sh r.2 l)) g2 (by simp; omega)
        refine ⟨batchM sh r.2 l + j, ?_⟩
        rw [hj, d2, d1, ← List.foldl_append, ← List.take_add]
      · exact ⟨0, d1⟩
theorem putM_part {sh : Sh} (hok : sh.ok) {m : StM} (l : List Pv) (h : Good sh m) : ∃ j, dataM (putM sh m l).2 = (l.take j).foldl updD (dataM m) := by
  unfold putM
  split
  · exact putL_part hok _ h (Nat.le_refl _)
  · exact ⟨0, rfl⟩
theorem last_mem (nm : Int × Int) (l : List Pv) (o : Option Pv) (p : Pv) (h : l.foldl (lastF nm) o = some p) : o = some p ∨ (p ∈ l ∧ p.n = nm) := by
  induction l generalizing o with
  | nil => exact .inl h
  | cons q r ih =>
    rcases ih _ h with h1 | h1
    · unfold lastF at h1
      split at h1
      · rename_i hn
        obtain rfl := Option.some.inj h1
        exact .inr ⟨List.mem_cons_self .., hn.symm⟩
      · exact .inl h1
    · exact .inr ⟨List.mem_cons_of_mem _ h1.1, h1.2⟩
/-- What is told was put. -/
theorem said_any {L : List Pv} {j : Nat} {m : StM} (hm : dataM m = (L.take j).foldl updD (fun _ => none)) {nm : Int × Int} {b : List Int} (h : dataM m nm = some b) : ∃ k, k < L.length ∧ (L.getD k pv0).n = nm ∧ (L.getD k pv0).da = b := by
  rw [hm, foldl_last] at h
  cases hf : (L.take j).foldl (lastF nm) none with
  | none => rw [hf] at h; cases h
  | some p =>
    rw [hf] at h
    rcases last_mem nm _ _ p hf with h1 | ⟨h1, h2⟩
    · cases h1
    · obtain ⟨k, hk, rfl⟩ := List.getElem_of_mem (List.mem_of_mem_take h1)
      refine ⟨k, hk, ?_, ?_⟩
      · rw [List.getD_eq_getElem?_getD, List.getElem?_eq_getElem hk]; exact h2
      · rw [List.getD_eq_getElem?_getD, List.getElem?_eq_getElem hk]
        unfold valP at h
        split at h
        · cases h
        · rename_i p' e
          obtain rfl := Option.some.inj e
          split at h
          · cases h
          · exact Option.some.inj h

/-- Own puts are being made. -/
structure OwA (w wr : World) (L : List Pv) (k : Nat) (A : Option Addr) (c : Nat) (O : List Pc) : Prop where
  row : PRow wr w.heap.size A c O
  mp : O.map (·.p) = L.take k
  len : O.length = k
  br : ∀ q ∈ O, BRow wr w.heap.size q.a q.c q.p.da
  low : Below w.heap.size w wr
  nd : ∀ q ∈ O, ∀ b, (Value.slice q.a q.p.da.length q.c).ownBlock = some b → (Value.slice A O.length c).ownBlock ≠ some b
theorem OwA.step {w wr w9 w11 w12 : World} {L : List Pv} {k : Nat} {A A9 A12 : Option Addr} {c c9 c12 : Nat} {O : List Pc} {p : Pv} (h : OwA w wr L k A c O) (hk : k < L.length) (hp : L.getD k pv0 = p)
    (hb : BRow w9 (wr.heap.size + 1) A9 c9 p.da) (h11 : Below wr.heap.size wr w11) (h911 : ∀ b, wr.heap.size < b → b < w9.heap.size → w11.heap[b]? = w9.heap[b]?) (hs911 : w9.heap.size ≤ w11.heap.size)
    (hr : PRow w12 w.heap.size A12 c12 (O ++ [⟨p, A9, c9⟩])) (hk12 : Kp (fun b => (Value.slice A O.length c).ownBlock = some b) w11 w12)
    (hor : (Value.slice A12 (O.length + 1) c12).ownBlock = (Value.slice A O.length c).ownBlock ∨ (Value.slice A12 (O.length + 1) c12).ownBlock = some w11.heap.size) : OwA w w12 L (k + 1) A12 c12 (O ++ [⟨p, A9, c9⟩]) := by
  have hlow := h.low.size
  have hown : ∀ b, (Value.slice A O.length c).ownBlock = some b → w.heap.size ≤ b ∧ b < wr.heap.size := fun b hb => h.row.lt hb
  have hb11 : BRow w11 (wr.heap.size + 1) A9 c9 p.da := hb.of_block (fun b he => h911 b (by have := (hb.lt he).1; omega) (hb.lt he).2)
  refine ⟨hr, ?_, by simp [h.len], fun q hq => ?_, Kp.below (h.low.trans (h11.mono hlow)) hk12 (Nat.le_trans hlow h11.size) (fun b hb he => by have := hown b he; omega), fun q hq b he => ?_⟩
  · rw [List.map_append, h.mp, List.take_succ_eq_append_getElem hk]
    have hg : L.getD k pv0 = L[k] := by rw [List.getD_eq_getElem?_getD, List.getElem?_eq_getElem hk]; rfl
    rw [← hp, hg]
    rfl
  · rcases List.mem_append.1 hq with hq | hq
    · exact ((h.br q hq).below h11 (Nat.le_refl _)).kp hk12 (fun b he he2 => h.nd q hq b he he2)
    · obtain rfl := List.mem_singleton.1 hq
      exact (hb11.kp hk12 (fun b he he2 => by have := (hb11.lt he).1; have := hown b he2; omega)).base (by omega)
  · rw [show (O ++ [(⟨p, A9, c9⟩ : Pc)]).length = O.length + 1 by simp] at *
    intro he3
    have hblk : (Value.slice A O.length c).ownBlock ≠ some b ∧ b < w11.heap.size := by
      rcases List.mem_append.1 hq with hq | hq
      · exact ⟨h.nd q hq b he, Nat.lt_of_lt_of_le ((h.br q hq).lt he).2 h11.size⟩
      · obtain rfl := List.mem_singleton.1 hq
        have := hb.lt he
        exact ⟨fun e => by have := hown b e; omega, by omega⟩
    rcases hor with h4 | h4
    · exact hblk.1 (h4.symm.trans he3)
    · have := Option.some.inj (h4.symm.trans he3)
      omega
theorem OwA.start (w : World) (L : List Pv) : OwA w w L 0 none 0 [] :=
  ⟨World.ownsRow_nil _ _ _ _, rfl, rfl, (fun q hq => by cases hq), Below.refl _ _, (fun q hq => by cases hq)⟩
/-- Own puts whose bytes may have been turned. -/
structure OwB (w : World) (s : Nat) (wr : World) (A : Option Addr) (c : Nat) (O : List Pc) : Prop where
  row : PRow wr w.heap.size A c O
  br : ∀ q ∈ O, ∃ ys, ys.length = q.p.da.length ∧ BRow wr w.heap.size q.a q.c ys
  nd : ∀ q ∈ O, ∀ b, (Value.slice q.a q.p.da.length q.c).ownBlock = some b → (Value.slice A O.length c).ownBlock ≠ some b
  lt : ∀ q ∈ O, ∀ b, (Value.slice q.a q.p.da.length q.c).ownBlock = some b → b < s
theorem OwA.turn {w wr wn : World} {S : Nat → Prop} {L : List Pv} {k : Nat} {A : Option Addr} {c : Nat} {O : List Pc} (h : OwA w wr L k A c O) (hk : Kp S wr wn) (hs : ∀ b, S b → ¬ (w.heap.size ≤ b ∧ b < wr.heap.size)) : OwB w wr.heap.size wn A c O :=
  ⟨ownsRow_of_block h.row (fun b he => hk.block b (h.row.lt he).2 (fun hS => hs b hS (h.row.lt he))),
    fun q hq => ⟨q.p.da, rfl, (h.br q hq).kp hk (fun b he hS => hs b hS ((h.br q hq).lt he))⟩, h.nd, fun q hq b he => ((h.br q hq).lt he).2⟩
theorem OwB.drew {w wr : World} {s : Nat} {A : Option Addr} {c : Nat} {O : List Pc} (h : OwB w s wr A c O) : OwB w s wr.drew A c O := ⟨h.row, h.br, h.nd, h.lt⟩
theorem OwB.set_ {w wr : World} {s : Nat} {A : Option Addr} {c : Nat} {O : List Pc} (h : OwB w s wr A c O) {i j g : Nat} (hi : i < O.length) (hj : j < (O.getD i pc0).p.da.length) (hg : (O.getD i pc0).a = some ⟨g, 0, none⟩) (y : Int) : OwB w s (wr.setCell ⟨g, j, none⟩ (.int .u8 y)) A c O := by
  have hm := getD_mem (d := pc0) hi
  have hgo : (Value.slice (O.getD i pc0).a (O.getD i pc0).p.da.length (O.getD i pc0).c).ownBlock = some g := by rw [hg]; rfl
  refine ⟨ownsRow_of_block h.row (fun b he => Below.heap_setCell wr _ _ b (fun e => h.nd _ hm g hgo (by rw [he, e]))), fun q hq => ?_, h.nd, h.lt⟩
  obtain ⟨ys, hl, hb⟩ := h.br q hq
  by_cases hqg : (Value.slice q.a ys.length q.c).ownBlock = some g
  · have hqa : q.a = some ⟨g, 0, none⟩ := by
      rcases hb.2 with ⟨hn, _⟩ | ⟨g', cap, cur, hv, _⟩
      · rw [hn] at hqg; cases hqg
      · rw [hv] at hqg
        obtain rfl := Option.some.inj hqg
        injection hv
    refine ⟨ys.set j y, by simp [hl], ?_⟩
    rw [hqa] at hb ⊢
    have h1 := (World.ownsRow.stored hb j (.int .u8 y)).1
    show World.ownsRow _ _ _ _ _ _ _
    rw [List.length_set]
    have e : nums .u8 (ys.set j y) = (nums .u8 ys).set j (.int .u8 y) := by unfold nums; rw [List.map_set]
    rw [e]
    exact h1
  · exact ⟨ys, hl, hb.of_block (fun b he => Below.heap_setCell wr _ _ b (fun e => hqg (by rw [he, e])))⟩
/-- What a round reads of one. -/
theorem OwB.at_ {w wr : World} {s : Nat} {A : Option Addr} {c : Nat} {O : List Pc} (h : OwB w s wr A c O) {i : Nat} (hi : i < O.length) : ∃ r, A = some ⟨r, 0, none⟩ ∧ w.heap.size ≤ r ∧ r < wr.heap.size ∧ wr.cell? ⟨r, i * 4 + 3, none⟩ = some (.slice (O.getD i pc0).a (O.getD i pc0).p.da.length (O.getD i pc0).c) := by
  rcases h.row.2 with ⟨_, h0⟩ | ⟨g, cap, cur, hv, hg, hh, hnc, hcm, hcs, ht⟩
  · omega
  · injection hv with e1 e2 e3
    subst e1
    refine ⟨g, rfl, hg, (h.row.lt (b := g) rfl).2, ?_⟩
    exact (World.ownsRow.cellAt h.row (i * 4 + 3) (by omega)).trans (pcCs_get O i hi).2.2.2
theorem OwB.byte {w wr : World} {s : Nat} {A : Option Addr} {c : Nat} {O : List Pc} (h : OwB w s wr A c O) {i j : Nat} (hi : i < O.length) (hj : j < (O.getD i pc0).p.da.length) : ∃ g x, (O.getD i pc0).a = some ⟨g, 0, none⟩ ∧ w.heap.size ≤ g ∧ g < s ∧ wr.cell? ⟨g, j, none⟩ = some (.int .u8 x) ∧ wr.frozen? ⟨g, j, none⟩ = false := by
  obtain ⟨ys, hl, hb⟩ := h.br _ (getD_mem (d := pc0) hi)
  obtain ⟨g, hg, hc⟩ := hb.at_ (k := j) (by omega)
  have hl' := hb.lt (b := g) (by rw [hg]; rfl)
  have hl2 := h.lt _ (getD_mem (d := pc0) hi) g (by rw [hg]; rfl)
  rw [hg] at hb
  exact ⟨g, _, hg, hl'.1, hl2, hc, hb.frozen j⟩
end Go.Proofs.YtfabgbmbnmbjkaaGreatDoor

/- Two stores in one memory; a piece of a row of puts; how many blocks there are is told by what is there. -/
namespace Go.Proofs.YtfabgbmbnmbjkaaGreatDoor
open Go.RowKit
set_option maxRecDepth 20000

theorem StoreIs.far2 {X X' S : Nat → Prop} {w w' : World} {F : StF} {sh : Sh} {n : Nat} {m : StM} (h : StoreIs X w F sh n m) (hk : Kp S w w') (hs : ∀ b, S b → X b) (hx : ∀ b, X' b → b < w'.heap.size ∧ (X b ∨ w.heap.size ≤ b)) : StoreIs X' w' F sh n m := by
  have nt : ∀ i, F.own i → ¬ S i := fun i hi hs' => h.nx i hi (hs i hs')
  exact ⟨hk.blk h.top (nt _ (.inl rfl)), h.dev.move (fun b hlt hn => hk.block b hlt (fun hS => hn (.inl (hs b hS)))) (fun b hx'' => by
      rcases hx'' with hx' | ho
      · rcases hx b hx' with ⟨h1, h2 | h2⟩
        · exact ⟨h1, .inl (.inl h2)⟩
        · exact ⟨h1, .inr h2⟩
      · exact ⟨Nat.lt_of_lt_of_le (h.own_lt ho) hk.size, .inl (.inr ho)⟩), ⟨h.seg.1.kp hk (nt _ (.inr (.inl rfl))) (nt _ (.inr (.inr (.inl rfl)))), h.seg.2⟩,
    h.lm.kp hk (fun i hi => nt i (.inr (.inr (.inr (.inl hi))))), h.last.kp hk (nt _ (.inr (.inr (.inr (.inr rfl))))), h.ne, fun i hi hx' => by
      rcases (hx i hx').2 with h2 | h2
      · exact h.nx i hi h2
      · have := h.own_lt hi; omega, h.sq, h.nn, h.opr⟩

/-- What is not one's own. -/
def Out (w : World) (Y : Nat → Prop) (b : Nat) : Prop := b < w.heap.size ∧ ¬ Y b
def More (w wn : World) (Y : Nat → Prop) (b : Nat) : Prop := Y b ∨ (w.heap.size ≤ b ∧ b < wn.heap.size)
structure TwoS (Ya Yb : Nat → Prop) (w wr : World) (Fa Fb : StF) (sh : Sh) (na nb : Nat) (ma mb : StM) (A : Option Addr) (L : List Pv) : Prop where
  sa : StoreIs (Out wr Ya) wr Fa sh na ma
  sb : StoreIs (Out wr Yb) wr Fb sh nb mb
  dis : ∀ b, Ya b → ¬ Yb b
  la : ∀ b, Ya b → b < wr.heap.size
  lb : ∀ b, Yb b → b < wr.heap.size
  pa : PutsAt (fun b => b < wr.heap.size ∧ ¬ Ya b ∧ ¬ Yb b) wr A L
  low : Below w.heap.size w wr
  old : ∀ b, b < w.heap.size → ¬ Ya b ∧ ¬ Yb b
section
variable {Ya Yb : Nat → Prop} {w wr wn : World} {Fa Fb : StF} {sh : Sh} {na nb n' : Nat} {ma mb m' : StM} {A : Option Addr} {L : List Pv}
theorem TwoS.below (h : TwoS Ya Yb w wr Fa Fb sh na nb ma mb A L) (hb : Below wr.heap.size wr wn) : TwoS Ya Yb w wn Fa Fb sh na nb ma mb A L := by
  have hx : ∀ Y : Nat → Prop, ∀ b, Out wn Y b → b < wn.heap.size ∧ (Out wr Y b ∨ wr.heap.size ≤ b) := fun Y b hb' => ⟨hb'.1, by
    rcases Nat.lt_or_ge b wr.heap.size with h1 | h1
    · exact .inl ⟨h1, hb'.2⟩
    · exact .inr h1⟩
  exact ⟨h.sa.step hb (hx Ya), h.sb.step hb (hx Yb), h.dis, fun b hb' => Nat.lt_of_lt_of_le (h.la b hb') hb.size, fun b hb' => Nat.lt_of_lt_of_le (h.lb b hb') hb.size,
    (h.pa.below hb).more (fun b hb' => ⟨Nat.lt_of_lt_of_le hb'.1 hb.size, hb'.2⟩), h.low.trans (hb.mono h.low.size), h.old⟩
theorem TwoS.drew (h : TwoS Ya Yb w wr Fa Fb sh na nb ma mb A L) : TwoS Ya Yb w wr.drew Fa Fb sh na nb ma mb A L := h.below (Below.refl _ _).drew
theorem TwoS.swap (h : TwoS Ya Yb w wr Fa Fb sh na nb ma mb A L) : TwoS Yb Ya w wr Fb Fa sh nb na mb ma A L :=
  ⟨h.sb, h.sa, fun b h1 h2 => h.dis b h2 h1, h.lb, h.la, h.pa.more (fun b hb => ⟨hb.1, hb.2.2, hb.2.1⟩), h.low, fun b hb => ⟨(h.old b hb).2, (h.old b hb).1⟩⟩
/-- The first one has turned. -/
theorem TwoS.onA (h : TwoS Ya Yb w wr Fa Fb sh na nb ma mb A L) (hk : Kp (fun b => ¬ Out wr Ya b) wr wn) (hs : StoreIs (Out wr Ya) wn Fa sh n' m') : TwoS (More wr wn Ya) Yb w wn Fa Fb sh n' nb m' mb A L := by
  have hk' : Kp Ya wr wn := hk.mono fun b hb hn => Classical.byContradiction fun hy => hn ⟨hb, hy⟩
  refine ⟨hs.less (fun b hb => ⟨?_, fun hy => hb.2 (.inl hy)⟩), h.sb.far2 hk' (fun b hy => ⟨h.la b hy, h.dis b hy⟩) (fun b hb => ⟨hb.1, ?_⟩), fun b hb hb2 => ?_, fun b hb => ?_, fun b hb => Nat.lt_of_lt_of_le (h.lb b hb) hk.size, ?_, Kp.below h.low hk' h.low.size (fun b hb => (h.old b hb).1), fun b hb => ⟨fun hy => ?_, (h.old b hb).2⟩⟩
  · rcases Nat.lt_or_ge b wr.heap.size with h1 | h1
    · exact h1
    · exact (hb.2 (.inr ⟨h1, hb.1⟩)).elim
  · rcases Nat.lt_or_ge b wr.heap.size with h1 | h1
    · exact .inl ⟨h1, hb.2⟩
    · exact .inr h1
  · rcases hb with hy | hy
    · exact h.dis b hy hb2
    · have := h.lb b hb2; omega
  · rcases hb with hy | hy
    · exact Nat.lt_of_lt_of_le (h.la b hy) hk.size
    · exact hy.2
  · have hp := (h.pa.kp hk' (fun b hy hx => hx.2.1 hy)).more (X' := fun b => b < wr.heap.size ∧ b < wn.heap.size ∧ ¬ Ya b ∧ ¬ Yb b) (fun b hb => ⟨hb.1, Nat.lt_of_lt_of_le hb.1 hk.size, hb.2⟩)
    exact hp.more (fun b hb => ⟨hb.2.1, fun hy => by
      rcases hy with hy | hy
      · exact hb.2.2.1 hy
      · omega, hb.2.2.2⟩)
  · rcases hy with hy | hy
    · exact (h.old b hb).1 hy
    · have := h.low.size; omega
theorem TwoS.onB (h : TwoS Ya Yb w wr Fa Fb sh na nb ma mb A L) (hk : Kp (fun b => ¬ Out wr Yb b) wr wn) (hs : StoreIs (Out wr Yb) wn Fb sh n' m') : TwoS Ya (More wr wn Yb) w wn Fa Fb sh na n' ma m' A L := (h.swap.onA hk hs).swap
theorem TwoS.putsA (h : TwoS Ya Yb w wr Fa Fb sh na nb ma mb A L) : PutsAt (Out wr Ya) wr A L := h.pa.more (fun b hb => ⟨hb.1, hb.2.1⟩)
theorem TwoS.putsB (h : TwoS Ya Yb w wr Fa Fb sh na nb ma mb A L) : PutsAt (Out wr Yb) wr A L := h.pa.more (fun b hb => ⟨hb.1, hb.2.2⟩)
theorem TwoS.two {ad : Addr} (h : TwoS Ya Yb w wr Fa Fb sh na nb ma mb (some ad) L) {k : Nat} (hk : k < L.length) {p : Pv} (hp : L.getD k pv0 = p) :
    wr.cell? (ad.add (k * 4)) = some (.int .u32 p.t) ∧ wr.cell? ⟨(ad.add (k * 4)).block, (ad.add (k * 4)).off + 1, none⟩ = some (.int .u64 p.b) := by
  obtain ⟨ad', Ad, cd, e, hat⟩ := h.pa k hk
  obtain rfl := Option.some.inj e
  rw [hp] at hat
  exact ⟨hat.c0, hat.c1⟩
end

theorem run_mid_put (A : Option Addr) (n c i : Nat) (h : i + 1 ≤ c) (u : World) :
    (Instr.slice 32 (.slice A n c) (some (.int .i64 (i : Int))) (some (.int .i64 ((i : Int) + 1))) none).run Tryz.prog u = .ok (.slice (if c = i then A else A.map (·.add (i * 4))) 1 (c - i)) u := by
  rw [run_slice_lh u _ A n c elem_put .i64 .i64 (i : Int) ((i : Int) + 1) (by omega) (by omega) (by omega), size_put]
  have e : ((i : Int) + 1).toNat - i = 1 := by omega
  simp only [Result.andThen, sliced, Int.toNat_natCast, e]
theorem PutsAt.one {X : Nat → Prop} {w : World} {A : Option Addr} {l : List Pv} (h : PutsAt X w A l) (i c : Nat) (hi : i < l.length) (hc : l.length ≤ c) : PutsAt X w (if c = i then A else A.map (·.add (i * 4))) [l.getD i pv0] := fun j hj => by
  obtain rfl : j = 0 := by simp at hj; omega
  obtain ⟨ad, Ad, cd, e, hp⟩ := h i hi
  subst e
  refine ⟨ad.add (i * 4), Ad, cd, by rw [if_neg (by omega), Option.map_some], ?_⟩
  rw [add_of_add]
  exact hp

/-- How many blocks a tenant has is told by what is there. -/
theorem names_of (m : StM) (sh : Sh) (h : Good sh m) (n : Int × Int) : n ∈ m.L.map Pl.n ↔ dataM m n ≠ none := by
  constructor
  · intro hn he
    obtain ⟨p, hp, rfl⟩ := List.mem_map.1 hn
    have := (atOf_some h.uq (n := p.n) (a := p.a)).2 ⟨p, hp, rfl, rfl⟩
    unfold dataM at he
    rw [this] at he
    cases he
  · intro hd
    unfold dataM at hd
    cases ha : atOf m.L n with
    | none => rw [ha] at hd; exact absurd rfl hd
    | some a =>
      obtain ⟨p, hp, rfl, _⟩ := (atOf_some h.uq).1 ha
      exact List.mem_map.2 ⟨p, hp, rfl⟩
theorem cnt_names (L : List Pl) (t : Int) : cnt L t = (L.map Pl.n).countP (fun n => decide (n.1 = t)) := by
  unfold cnt
  rw [List.countP_map]
  rfl
theorem names_nodup {L : List Pl} (h : Uniq L) : (L.map Pl.n).Nodup := by
  unfold List.Nodup
  rw [List.pairwise_map]
  exact List.Pairwise.imp (fun h => h.1) h
theorem cnt_same {sh : Sh} {ma mb : StM} (ha : Good sh ma) (hb : Good sh mb) (hd : dataM ma = dataM mb) (t : Int) : cnt ma.L t = cnt mb.L t := by
  rw [cnt_names, cnt_names]
  have hp : (ma.L.map Pl.n).Perm (mb.L.map Pl.n) := (List.perm_ext_iff_of_nodup (names_nodup ha.uq) (names_nodup hb.uq)).2 (fun n => by rw [names_of ma sh ha, names_of mb sh hb, hd])
  exact hp.countP_eq _
/-- A list that is put one by one. -/
theorem putM_one {sh : Sh} (hok : sh.ok) {m : StM} {L : List Pv} {k : Nat} (hk : k < L.length) (h : Good sh m) (hd : dataM m = (L.take k).foldl updD (fun _ => none)) (h0 : (putM sh m [L.getD k pv0]).1 = 0) : dataM (putM sh m [L.getD k pv0]).2 = (L.take (k + 1)).foldl updD (fun _ => none) := by
  cases ha : argOk sh [L.getD k pv0] with
  | false => rw [putM_arg ha] at h0; cases h0
  | true =>
    obtain ⟨_, _, _, _, f5⟩ := putM_facts hok h ha
    have hg : L.getD k pv0 = L[k] := by rw [List.getD_eq_getElem?_getD, List.getElem?_eq_getElem hk]; rfl
    rw [(f5 h0).1, hd, List.take_succ_eq_append_getElem hk, List.foldl_append, hg]
end Go.Proofs.YtfabgbmbnmbjkaaGreatDoor

/- The laws of Store: a list of calls; heavy, of any list. -/
namespace Go.Proofs.YtfabgbmbnmbjkaaGreatDoor
open Go.ChangeShapes Go.WideShapes Go.ChangeAt Go.RowKit
set_option maxRecDepth 20000

/-- A call: its kind, what it puts, its zone. -/
structure Opv where
  k : Int
  l : List Pv
  z : Int
def op0 : Opv := ⟨0, [], 0⟩
instance : Inhabited Opv := ⟨op0⟩
structure SOpAt (X : Nat → Prop) (w : World) (a : Addr) (o : Opv) (Ad : Option Addr) (cd : Nat) : Prop where
  x : X a.block
  c0 : w.cell? a = some (.int .u8 o.k)
  c1 : w.cell? ⟨a.block, a.off + 1, none⟩ = some (.slice Ad o.l.length cd)
  c2 : w.cell? ⟨a.block, a.off + 2, none⟩ = some (.int .i64 o.z)
  pa : PutsAt X w Ad o.l
  cap : o.l.length ≤ cd
structure OpIn (o : Opv) : Prop where
  k : 0 ≤ o.k ∧ o.k ≤ 255
  l : ∀ p ∈ o.l, PvIn p
  z : -9223372036854775808 ≤ o.z ∧ o.z ≤ 9223372036854775807
def SOpsAt (X : Nat → Prop) (w : World) (A : Option Addr) (l : List Opv) : Prop := ∀ i, i < l.length → ∃ ad Ad cd, A = some ad ∧ SOpAt X w (ad.add (i * 3)) (l.getD i op0) Ad cd
section
variable {X X' S : Nat → Prop} {w w' : World} {a : Addr} {o : Opv} {Ad A : Option Addr} {cd : Nat} {l : List Opv}
theorem SOpAt.kp (h : SOpAt X w a o Ad cd) (hk : Kp S w w') (hs : ∀ b, S b → ¬ X b) : SOpAt X w' a o Ad cd := by
  have nx : ∀ b, X b → ¬ S b := fun b hx hs' => hs b hs' hx
  exact ⟨h.x, hk.cell h.c0 (nx _ h.x), hk.cell h.c1 (nx _ h.x), hk.cell h.c2 (nx _ h.x), h.pa.kp hk hs, h.cap⟩
theorem SOpsAt.kp (h : SOpsAt X w A l) (hk : Kp S w w') (hs : ∀ b, S b → ¬ X b) : SOpsAt X w' A l := fun i hi => by
  obtain ⟨ad, Ad, cd, e, hp⟩ := h i hi
  exact ⟨ad, Ad, cd, e, hp.kp hk hs⟩
theorem SOpsAt.kx (h : SOpsAt X w A l) (hk : Kp (fun b => ¬ X b) w w') : SOpsAt X w' A l := h.kp hk (fun _ h => h)
theorem SOpsAt.below (h : SOpsAt X w A l) (hb : Below w.heap.size w w') : SOpsAt X w' A l := h.kp (S := fun _ => False) (Kp.of_below hb) (fun _ e => e.elim)
end

theorem sop_cellsOf : Tryz.prog.cellsOf 34 = 3 ∧ Tryz.prog.cellsOf 5 = 1 ∧ Tryz.prog.cellsOf 32 = 1 ∧ Tryz.prog.cellsOf 3 = 1 := by
  refine ⟨?_, ?_, ?_, ?_⟩ <;> kernel_rfl

section
variable {H : Type} {enc : TypeId × Value → H} {w : World} {base : Nat} {sp : Nat → Bool} {held : Bool}
theorem sop_cells {n : Nat} {cs : List Value} {x : DataW H × List MemPlace} (h : DataW.trod enc Tryz.prog w base sp held n 34 cs = some x) :
    ∃ (o : Opv) (A : Option Addr) (c : Nat), cs = [.int .u8 o.k, .slice A o.l.length c, .int .i64 o.z] ∧ OpIn o ∧ PutsAt (fun b => b < w.heap.size) w A o.l ∧ o.l.length ≤ c := by
  obtain ⟨k3, ku, ks, ki⟩ := sop_cellsOf
  obtain ⟨xs, n1, rfl, rfl, hl, hxl, hf⟩ := DataW.trod_struct Tryz.underlying34 h
  rw [k3] at hl
  match cs, hl with
  | [v0, v1, v2], _ =>
    match xs, hxl with
    | [y0, y1, y2], _ =>
      have g0 := hf 0 _ rfl
      have g1 := hf 1 _ rfl
      have g2 := hf 2 _ rfl
      simp [ku, ks, ki] at g0 g1 g2
      obtain ⟨k, e0, _, wk⟩ := DataW.trod_int Tryz.underlying5 g0
      obtain ⟨A, c, l, e1, hp, hc, hi⟩ := puts_trod g1
      obtain ⟨z, e2, _, wz⟩ := DataW.trod_int Tryz.underlying3 g2
      simp only [List.cons.injEq, and_true] at e0 e1 e2
      exact ⟨⟨k, l, z⟩, A, c, by rw [e0, e1, e2], ⟨wfo_u8 wk, hi, wfo_i64 wz⟩, hp, hc⟩

theorem sopen_oplist {b0 : Nat} {v : Value} {d : DataW H} {ps : List MemPlace} (hval : Value.okWide Tryz.prog w .any b0 24 v) (h : DataW.Trod enc Tryz.prog w base sp held 24 v d ps) :
    ∃ A c l, v = .slice A (List.length l) c ∧ SOpsAt (fun b => b < w.heap.size) w A l ∧ l.length ≤ c ∧ ∀ o ∈ l, OpIn o := by
  obtain ⟨A, len, cap, rfl⟩ := okWide_slice Tryz.underlying24 hval
  obtain ⟨fuel, hf⟩ := h
  rcases Deep.open_slice Tryz.underlying24 hf with ⟨hcs, _⟩ | ⟨a, len', cap', m, n, D, Pq, hcs, _, hl, hm, hmm, _, hx⟩
  · simp only [Value.cells, List.cons.injEq, and_true] at hcs
    exact ⟨none, 0, [], hcs, fun i hi => by simp at hi, Nat.zero_le _, fun p hp => by cases hp⟩
  · simp only [Value.cells, List.cons.injEq, and_true] at hcs
    injection hcs with h1 h2 h3
    subst h1 h2 h3
    have hlm : len ≤ m := by rw [hmm]; split <;> omega
    have hV : ∀ i, i < len → ∃ o : Opv, (∃ Ad cd, SOpAt (fun b => b < w.heap.size) w (a.add (i * 3)) o Ad cd) ∧ OpIn o := by
      intro i hi
      obtain ⟨cs', h1, h2⟩ := hx i (by omega)
      rw [sop_cellsOf.1] at h1
      obtain ⟨_, hlen, hcell⟩ := World.cells?_some h1
      obtain ⟨o, Ad, cd, rfl, hk, hp, hc⟩ := sop_cells h2
      have c0 : w.cell? (a.add (i * 3)) = some (.int .u8 o.k) := hcell 0 (by omega)
      refine ⟨o, ⟨Ad, cd, World.block_lt_of_cell? w _ c0, c0, ?_, ?_, hp, hc⟩, hk⟩
      · exact hcell 1 (by omega)
      · exact hcell 2 (by omega)
    obtain ⟨f, hf⟩ := Deep.choose_lt hV
    have hlen : ((List.range len).map f).length = len := by simp
    have hget : ∀ i, i < len → ((List.range len).map f).getD i op0 = f i := fun i hi => by simp [List.getD_eq_getElem?_getD, hi]
    refine ⟨some a, cap, (List.range len).map f, by rw [hlen], fun i hi => ?_, by rw [hlen]; exact hl, fun p hp => ?_⟩
    · rw [hlen] at hi
      rw [hget i hi]
      obtain ⟨Ad, cd, h⟩ := (hf i hi).1
      exact ⟨a, Ad, cd, rfl, h⟩
    · obtain ⟨i, hi, rfl⟩ := List.mem_map.1 hp
      exact (hf i (List.mem_range.1 hi)).2
end

def heavy1M (o : Opv) : Bool := decide (30 < o.l.length) || o.l.any (fun p => decide (200 < p.da.length))
def heavysM (z zb bl : Int) (l : List Opv) : Bool := !smallB z zb bl || decide (40 < l.length) || l.any heavy1M
theorem heavys1_any (X : Nat → Prop) (w : World) (z zb bl rs : Int) (A : Option Addr) (c : Nat) (l : List Opv) (hp : SOpsAt X w A l) :
    Calls Tryz.prog 38 #[.agg #[.int .i64 z, .int .i64 zb, .int .i64 bl, .int .i64 rs], .slice A l.length c] w (Makes (.bool (heavysM z zb bl l)) w) := by
  have HS := Lib.hid (fun u => small_any z zb bl rs u)
  have HP := Lib.hid hp
  cases hs : smallB z zb bl with
  | false =>
    rw [hs] at HS
    have HE : Hid (heavysM z zb bl l = true) := by unfold Hid heavysM; rw [hs]; rfl
    clear hp hs
    go_enter Tryz.func38, Tryz.ntmps38
    go_wp2_with (fail)
    refine (HS.out _).mono ?_
    rintro e w2 ⟨rfl, hb2⟩
    have HB : Hid (Below w.heap.size w w2) := ((Below.refl w.heap.size w).alloc (Nat.le_refl _) _).trans (hb2.mono (by simp))
    clear hb2
    go_wp2
    go_ret
    exact ⟨by rw [HE.out]; rfl, HB.out⟩
  | true =>
    rw [hs] at HS
    by_cases hlen : 40 < l.length
    · have HE : Hid (heavysM z zb bl l = true) := by unfold Hid heavysM; rw [hs, decide_eq_true hlen]; rfl
      clear hp hs
      have hlen' : (40 : Int) < l.length := by omega
      go_enter Tryz.func38, Tryz.ntmps38
      go_wp2_with (fail)
      refine (HS.out _).mono ?_
      rintro e w2 ⟨rfl, hb2⟩
      have HB : Hid (Below w.heap.size w w2) := ((Below.refl w.heap.size w).alloc (Nat.le_refl _) _).trans (hb2.mono (by simp))
      clear hb2
      go_wp2
      go_ret
      exact ⟨by rw [HE.out]; rfl, HB.out⟩
    · have HE : Hid (heavysM z zb bl l = l.any heavy1M) := by unfold Hid heavysM; rw [hs, decide_eq_false hlen]; rfl
      have hlen' : ¬ (40 : Int) < l.length := by omega
      clear hp hs
      go_enter Tryz.func38, Tryz.ntmps38
      go_wp2_with (fail)
      refine (HS.out _).mono ?_
      rintro e w2 ⟨rfl, hb2⟩
      have hB : Below w.heap.size w w2 := ((Below.refl w.heap.size w).alloc (Nat.le_refl _) _).trans (hb2.mono (by simp))
      have HB := Lib.hid hB
      have HP2 := Lib.hid (HP.out.below hB)
      clear hb2 hB
      go_wp2_with (fail)
      go_loopw [6] (fun i wr => ∃ k : Nat, k ≤ l.length ∧ i = .int .i64 k ∧ wr = w2 ∧ Hid (∀ j, j < k → heavy1M (l.getD j op0) = false)) (fun i _ => l.length - (intOf i).toNat)
      case atStart => exact ⟨0, Nat.zero_le _, rfl, rfl, fun j hj => by omega⟩
      case round =>
        obtain ⟨k, hk, rfl, rfl, hno⟩ := hrel
        by_cases hlt : k < l.length
        · obtain ⟨ad, Ad, cd, rfl, hat⟩ := HP2.out k hlt
          have p1 := hat.c1
          have HPA := Lib.hid hat.pa
          have HM := Lib.hid (getD_mem (d := op0) hlt)
          have HLT := Lib.hid hlt
          have HN : Hid (heavy1M (l.getD k op0) = false → ∀ j, j < k + 1 → heavy1M (l.getD j op0) = false) := fun h j hj => by
            rcases Nat.lt_or_ge j k with h' | h'
            · exact hno.out j h'
            · rw [show j = k by omega]; exact h
          clear hat hno
          generalize l.getD k op0 = o at *
          obtain ⟨ok, ol, oz⟩ := o
          simp only at p1 HPA
          by_cases hbig : 30 < ol.length
          · have HA : Hid (l.any heavy1M = true) := List.any_eq_true.2 ⟨_, HM.out, by unfold heavy1M; rw [decide_eq_true hbig]; rfl⟩
            have hbig' : (30 : Int) < ol.length := by omega
            clear hbig
            generalize ol.length = dn at *
            go_wp2
            go_ret
            exact ⟨by rw [HE.out, HA.out]; rfl, HB.out⟩
          · have hbig' : ¬ (30 : Int) < ol.length := by omega
            have HO : Hid (heavy1M ⟨ok, ol, oz⟩ = ol.any (fun p => decide (200 < p.da.length))) := by unfold Hid heavy1M; rw [decide_eq_false hbig]; rfl
            clear hbig
            go_wp2_with (fail)
            go_loopw [7] (fun i wr2 => ∃ k : Nat, k ≤ ol.length ∧ i = .int .i64 k ∧ wr2 = wr ∧ Hid (∀ j, j < k → ¬ 200 < (ol.getD j pv0).da.length)) (fun i _ => ol.length - (intOf i).toNat)
            case atStart => exact ⟨0, Nat.zero_le _, rfl, rfl, fun j hj => by omega⟩
            case round =>
              obtain ⟨k2, hk2, rfl, rfl, hno⟩ := hrel
              by_cases hlt : k2 < ol.length
              · obtain ⟨ad2, Ad2, cd2, rfl, hat⟩ := HPA.out k2 hlt
                have p3 := hat.c3
                have hm := getD_mem (d := pv0) hlt
                have HLT2 := Lib.hid hlt
                by_cases hbig : 200 < (ol.getD k2 pv0).da.length
                · have HA : Hid (l.any heavy1M = true) := List.any_eq_true.2 ⟨_, HM.out, by rw [HO.out]; exact List.any_eq_true.2 ⟨_, hm, decide_eq_true hbig⟩⟩
                  have hbig' : (200 : Int) < (ol.getD k2 pv0).da.length := by omega
                  clear hat hm hno hbig
                  generalize (ol.getD k2 pv0).da.length = dn at *
                  go_wp2
                  go_ret
                  exact ⟨by rw [HE.out, HA.out]; rfl, HB.out⟩
                · have HN2 : Hid (∀ j, j < k2 + 1 → ¬ 200 < (ol.getD j pv0).da.length) := fun j hj => by
                    rcases Nat.lt_or_ge j k2 with h | h
                    · exact hno.out j h
                    · rw [show j = k2 by omega]; exact hbig
                  have hbig' : ¬ (200 : Int) < (ol.getD k2 pv0).da.length := by omega
                  clear hat hm hno hbig
                  generalize (ol.getD k2 pv0).da.length = dn at *
                  go_wp2
                  go_roundw
                  case rel => exact ⟨k2 + 1, HLT2.out, by go_num, by first | rfl | trivial, HN2⟩
                  case measure => have := HLT2.out; simp [intOf]; omega
              · obtain rfl : k2 = ol.length := by omega
                have HA : Hid (heavy1M ⟨ok, ol, oz⟩ = false) := by
                  unfold Hid
                  rw [HO.out]
                  apply Bool.eq_false_iff.2
                  intro h
                  obtain ⟨p, hp, hd⟩ := List.any_eq_true.1 h
                  obtain ⟨j, hj, rfl⟩ := List.getElem_of_mem hp
                  have := hno.out j hj
                  rw [List.getD_eq_getElem?_getD, List.getElem?_eq_getElem hj] at this
                  exact this (of_decide_eq_true hd)
                have HNN := Lib.hid (HN.out HA.out)
                clear hno
                go_wp2
                go_roundw
                case rel => exact ⟨k + 1, HLT.out, by go_num, by first | rfl | trivial, HNN⟩
                case measure => have := HLT.out; simp [intOf]; omega
        · obtain rfl : k = l.length := by omega
          have HA : Hid (l.any heavy1M = false) := by
            apply Bool.eq_false_iff.2
            intro h
            obtain ⟨p, hp, hd⟩ := List.any_eq_true.1 h
            obtain ⟨j, hj, rfl⟩ := List.getElem_of_mem hp
            have := hno.out j hj
            rw [List.getD_eq_getElem?_getD, List.getElem?_eq_getElem hj, Option.getD_some, hd] at this
            cases this
          clear hno
          go_wp2
          go_ret
          exact ⟨by rw [HE.out, HA.out]; rfl, HB.out⟩

theorem heavys_any (X : Nat → Prop) (w : World) (z zb bl rs : Int) (A : Option Addr) (c : Nat) (l : List Opv) (hp : SOpsAt X w A l) :
    Calls Tryz.prog 10 #[.agg #[.int .i64 z, .int .i64 zb, .int .i64 bl, .int .i64 rs], .slice A l.length c] w (Makes (.int .i64 (if heavysM z zb bl l then 1 else 0)) w) := by
  have hb : Below w.heap.size w (w.alloc (.cells #[.int .i64 z, .int .i64 zb, .int .i64 bl, .int .i64 rs] 23)) := (Below.refl _ _).alloc (Nat.le_refl _) _
  have HH := Lib.hid (heavys1_any X _ z zb bl rs A c l (hp.below hb))
  have HB := Lib.hid hb
  clear hp hb
  generalize heavysM z zb bl l = v at *
  cases v
  all_goals
    go_enter Tryz.func10, Tryz.ntmps10
    go_wp2_with (fail)
    refine HH.out.mono ?_
    rintro e w2 ⟨rfl, hb2⟩
    have HB2 : Hid (Below w.heap.size w w2) := HB.out.trans (hb2.mono HB.out.size)
    clear hb2 HH
    go_wp2_with (fail)
    refine (truth_any _ _).mono ?_
    rintro e w' ⟨rfl, rfl⟩
    go_wp2
    go_ret
    exact ⟨rfl, HB2.out⟩
theorem heavys_false {z zb bl : Int} {l : List Opv} (h : heavysM z zb bl l = false) : smallB z zb bl = true ∧ l.length ≤ 40 ∧ ∀ o ∈ l, o.l.length ≤ 30 ∧ ∀ p ∈ o.l, p.da.length ≤ 200 := by
  unfold heavysM at h
  simp only [Bool.or_eq_false_iff, Bool.not_eq_false', decide_eq_false_iff_not, List.any_eq_false] at h
  refine ⟨h.1.1, by omega, fun o ho => ?_⟩
  have h1 := h.2 o ho
  unfold heavy1M at h1
  simp only [Bool.or_eq_true, not_or, decide_eq_true_eq, List.any_eq_true, not_exists, not_and] at h1
  exact ⟨by omega, fun p hp => by have := h1.2 p hp; omega⟩
end Go.Proofs.YtfabgbmbnmbjkaaGreatDoor

