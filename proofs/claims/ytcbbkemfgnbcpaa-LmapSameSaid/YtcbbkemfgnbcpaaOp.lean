/- Calls of package lmap among a law's arguments, opened: one, and a list of them. -/
import Derived.Test.YtcbbkemfgnbcpaaLaw
import Derived.Test.YtcbbkemfgnbcpaaRm
import Derived.ChangeArms
import Derived.Deep.Slices
import Derived.WideShapes
namespace Go.Proofs.Ytcbbkemfgnbcpaa
open Go.ChangeShapes Go.WideShapes Go.ChangeAt Go.RowKit

/-- A call: Put, or Drop. -/
structure Ox where
  d : Bool
  p : Pl
def o0 : Ox := ⟨false, p0⟩
instance : Inhabited Ox := ⟨o0⟩
def opV (o : Ox) : Value := .agg #[.bool o.d, .int .u32 o.p.t, .int .u64 o.p.b, .int .i64 o.p.z, .int .i64 o.p.k]
def OxOk (o : Ox) : Prop := NameOk o.p.n ∧ AddrOk o.p.a

theorem wf_i64' {n : Int} (h : (Lit.int .i64 n).wf = true) : -9223372036854775808 ≤ n ∧ n ≤ 9223372036854775807 := by
  simpa [Lit.wf, IntKind.min, IntKind.max, IntKind.signed, IntKind.bits] using h
theorem wf_u32' {n : Int} (h : (Lit.int .u32 n).wf = true) : 0 ≤ n ∧ n ≤ 4294967295 := by
  simpa [Lit.wf, IntKind.min, IntKind.max, IntKind.signed, IntKind.bits] using h
theorem wf_u64' {n : Int} (h : (Lit.int .u64 n).wf = true) : 0 ≤ n ∧ n ≤ 18446744073709551615 := by
  simpa [Lit.wf, IntKind.min, IntKind.max, IntKind.signed, IntKind.bits] using h

theorem op_cellsOf : Try.prog.cellsOf 35 = 5 ∧ Try.prog.cellsOf 33 = 4 ∧ Try.prog.cellsOf 31 = 2 ∧ Try.prog.cellsOf 4 = 1 ∧ Try.prog.cellsOf 23 = 1 ∧ Try.prog.cellsOf 29 = 1 ∧ Try.prog.cellsOf 3 = 1 := by
  refine ⟨?_, ?_, ?_, ?_, ?_, ?_, ?_⟩ <;> kernel_rfl

section
variable {H : Type} {enc : TypeId × Value → H} {w : World} {base : Nat} {sp : Nat → Bool} {held : Bool}

set_option maxRecDepth 20000 in
theorem op_cells {n : Nat} {cs : List Value} {x : DataW H × List MemPlace} (h : DataW.trod enc Try.prog w base sp held n 35 cs = some x) :
    ∃ o : Ox, cs = [.bool o.d, .int .u32 o.p.t, .int .u64 o.p.b, .int .i64 o.p.z, .int .i64 o.p.k] ∧ OxOk o := by
  obtain ⟨k5, k4, k2, kb, ku, kv, ki⟩ := op_cellsOf
  obtain ⟨xs, n1, rfl, rfl, hl, hxl, hf⟩ := DataW.trod_struct Try.underlying35 h
  rw [k5] at hl
  match cs, hl with
  | [v0, v1, v2, v3, v4], _ =>
    match xs, hxl with
    | [y0, y1], _ =>
      have g0 := hf 0 _ rfl
      have g1 := hf 1 _ rfl
      simp [kb, k4] at g0 g1
      obtain ⟨b, e0, _⟩ := DataW.trod_bool Try.underlying4 g0
      obtain ⟨xs', n2, rfl, _, _, hxl', hf'⟩ := DataW.trod_struct Try.underlying33 g1
      match xs', hxl' with
      | [z0, z1, z2], _ =>
        have q0 := hf' 0 _ rfl
        have q1 := hf' 1 _ rfl
        have q2 := hf' 2 _ rfl
        simp [ku, kv, k2] at q0 q1 q2
        obtain ⟨t, e1, _, wt⟩ := DataW.trod_int Try.underlying23 q0
        obtain ⟨bl, e2, _, wb⟩ := DataW.trod_int Try.underlying29 q1
        obtain ⟨xs2, n3, rfl, _, _, hxl2, hf2⟩ := DataW.trod_struct Try.underlying31 q2
        match xs2, hxl2 with
        | [u0, u1], _ =>
          have r0 := hf2 0 _ rfl
          have r1 := hf2 1 _ rfl
          simp [ki] at r0 r1
          obtain ⟨z, e3, _, wz⟩ := DataW.trod_int Try.underlying3 r0
          obtain ⟨k, e4, _, wk⟩ := DataW.trod_int Try.underlying3 r1
          simp only [List.cons.injEq, and_true] at e0 e1 e2 e3 e4
          exact ⟨⟨b, ⟨t, bl, z, k⟩⟩, by rw [e0, e1, e2, e3, e4], ⟨⟨wf_u32' wt, wf_u64' wb⟩, wf_i64' wz, wf_i64' wk⟩⟩

set_option maxRecDepth 20000 in
theorem open_op {b0 : Nat} {v : Value} {d : DataW H} {p : List MemPlace} (hv : Value.okWide Try.prog w .any b0 35 v) (h : DataW.Trod enc Try.prog w base sp held 35 v d p) : ∃ o, v = opV o ∧ OxOk o := by
  obtain ⟨cs, rfl, _⟩ := okWide_struct Try.underlying35 hv
  obtain ⟨n, hn⟩ := h
  obtain ⟨o, ho, hk⟩ := op_cells hn
  refine ⟨o, ?_, hk⟩
  unfold opV
  congr 1
  exact Array.toList_inj.1 (by simpa [Value.cells] using ho)

/-- A call stands at this place. -/
def OpAt (w : World) (a : Addr) (o : Ox) : Prop :=
  w.cell? a = some (.bool o.d) ∧ w.cell? ⟨a.block, a.off + 1, none⟩ = some (.int .u32 o.p.t) ∧ w.cell? ⟨a.block, a.off + 2, none⟩ = some (.int .u64 o.p.b) ∧ w.cell? ⟨a.block, a.off + 3, none⟩ = some (.int .i64 o.p.z) ∧ w.cell? ⟨a.block, a.off + 4, none⟩ = some (.int .i64 o.p.k)
theorem OpAt.below {w' : World} {B : Nat} {a : Addr} {o : Ox} (h : OpAt w a o) (hb : Below B w w') (ha : a.block < B) : OpAt w' a o :=
  ⟨(hb.cell ha).trans h.1, (hb.cell (p := ⟨a.block, a.off + 1, none⟩) ha).trans h.2.1, (hb.cell (p := ⟨a.block, a.off + 2, none⟩) ha).trans h.2.2.1, (hb.cell (p := ⟨a.block, a.off + 3, none⟩) ha).trans h.2.2.2.1, (hb.cell (p := ⟨a.block, a.off + 4, none⟩) ha).trans h.2.2.2.2⟩
/-- A list of calls stands in memory. -/
def OpsAt (w : World) (B : Nat) (A : Option Addr) (l : List Ox) : Prop := ∀ i, i < l.length → ∃ ad, A = some ad ∧ ad.block < B ∧ OpAt w (ad.add (i * 5)) (l.getD i o0)
theorem OpsAt.below {w' : World} {B : Nat} {A : Option Addr} {l : List Ox} (h : OpsAt w B A l) (hb : Below B w w') : OpsAt w' B A l := fun i hi => by
  obtain ⟨ad, e, hl, h1⟩ := h i hi
  exact ⟨ad, e, hl, h1.below hb (by rw [block_of_add]; exact hl)⟩

set_option maxRecDepth 20000 in
theorem open_oplist {b0 : Nat} {v : Value} {d : DataW H} {ps : List MemPlace} (hval : Value.okWide Try.prog w .any b0 22 v) (h : DataW.Trod enc Try.prog w base sp held 22 v d ps) :
    ∃ A c l, v = .slice A (List.length l) c ∧ OpsAt w w.heap.size A l ∧ l.length ≤ c ∧ c ≤ maxLen ∧ ∀ i, i < l.length → OxOk (l.getD i o0) := by
  obtain ⟨A, len, cap, rfl⟩ := okWide_slice Try.underlying22 hval
  obtain ⟨fuel, hf⟩ := h
  rcases Deep.open_slice Try.underlying22 hf with ⟨hcs, _⟩ | ⟨a, len', cap', m, n, D, Pq, hcs, _, hl, hm, hmm, _, hx⟩
  · simp only [Value.cells, List.cons.injEq, and_true] at hcs
    injection hcs with h1 h2 h3
    subst h1 h2 h3
    exact ⟨none, 0, [], rfl, fun i hi => by simp at hi, Nat.zero_le _, Nat.zero_le _, fun i hi => by simp at hi⟩
  · simp only [Value.cells, List.cons.injEq, and_true] at hcs
    injection hcs with h1 h2 h3
    subst h1 h2 h3
    have hlm : len ≤ m := by rw [hmm]; split <;> omega
    have hV : ∀ i, i < len → ∃ o : Ox, OpAt w (a.add (i * 5)) o ∧ OxOk o := by
      intro i hi
      obtain ⟨cs', h1, h2⟩ := hx i (by omega)
      rw [op_cellsOf.1] at h1
      obtain ⟨_, hlen, hcell⟩ := World.cells?_some h1
      obtain ⟨o, rfl, hk⟩ := op_cells h2
      refine ⟨o, ⟨?_, ?_, ?_, ?_, ?_⟩, hk⟩
      · exact hcell 0 (by omega)
      · exact hcell 1 (by omega)
      · exact hcell 2 (by omega)
      · exact hcell 3 (by omega)
      · exact hcell 4 (by omega)
    obtain ⟨f, hf⟩ := Deep.choose_lt hV
    have hlen : ((List.range len).map f).length = len := by simp
    have hget : ∀ i, i < len → ((List.range len).map f).getD i o0 = f i := fun i hi => by simp [List.getD_eq_getElem?_getD, hi]
    refine ⟨some a, cap, (List.range len).map f, by rw [hlen], fun i hi => ?_, by rw [hlen]; exact hl, hm, fun i hi => ?_⟩
    · rw [hlen] at hi
      rw [hget i hi]
      have := (hf i hi).1
      refine ⟨a, rfl, ?_, this⟩
      have hb := World.block_lt_of_cell? w _ this.1
      rw [block_of_add] at hb
      exact hb
    · rw [hlen] at hi
      rw [hget i hi]
      exact (hf i hi).2
end
end Go.Proofs.Ytcbbkemfgnbcpaa
