/- Joined texts: Open. -/
import Derived.Test.YtfabgbmbnmbjkaaGreatDoorMaa
import Derived.Lib.SmallJoins
import Derived.Deep.SlicePairs
import Derived.ChangeSlices
import Derived.Test.YtfabgbmbnmbjkaaGreatDoorMab
/- A shape among the arguments, opened. -/
namespace Go.Proofs.YtfabgbmbnmbjkaaGreatDoor
open Go.ChangeShapes Go.WideShapes Go.ChangeAt Go.RowKit
set_option maxRecDepth 20000

theorem wf_i64 {n : Int} (h : (Lit.int .i64 n).wf = true) : -9223372036854775808 ≤ n ∧ n ≤ 9223372036854775807 := by
  simpa [Lit.wf, IntKind.min, IntKind.max, IntKind.signed, IntKind.bits] using h

theorem open_shape {H : Type} {enc : TypeId × Value → H} {W : World} {base : Nat} {sp : Nat → Bool} {held : Bool} {v : Value} {d : DataW H} {p : List MemPlace} {b : Nat}
    (hv : Value.okWide Tryz.prog W .any b 23 v) (h : DataW.Trod enc Tryz.prog W base sp held 23 v d p) :
    ∃ z zb bl rs : Int, v = .agg #[.int .i64 z, .int .i64 zb, .int .i64 bl, .int .i64 rs] ∧ (-9223372036854775808 ≤ z ∧ z ≤ 9223372036854775807) ∧ (-9223372036854775808 ≤ bl ∧ bl ≤ 9223372036854775807) ∧ (-9223372036854775808 ≤ rs ∧ rs ≤ 9223372036854775807) := by
  obtain ⟨v0, v1, v2, v3, y0, y1, y2, y3, n, rfl, _, _, h0, h1, h2, h3⟩ := Go.Joins.open_agg4 Tryz.underlying23 (by kernel_rfl) (by kernel_rfl) hv h
  obtain ⟨a0, e0, _, w0⟩ := DataW.trod_int Tryz.underlying3 h0
  obtain ⟨a1, e1, _, _⟩ := DataW.trod_int Tryz.underlying3 h1
  obtain ⟨a2, e2, _, w2⟩ := DataW.trod_int Tryz.underlying3 h2
  obtain ⟨a3, e3, _, w3⟩ := DataW.trod_int Tryz.underlying3 h3
  injection e0 with e0
  injection e1 with e1
  injection e2 with e2
  injection e3 with e3
  subst e0 e1 e2 e3
  exact ⟨a0, a1, a2, a3, rfl, wf_i64 w0, wf_i64 w2, wf_i64 w3⟩

theorem wf_u8 {n : Int} (h : (Lit.int .u8 n).wf = true) : 0 ≤ n ∧ n ≤ 255 := by
  simpa [Lit.wf, IntKind.min, IntKind.max, IntKind.signed, IntKind.bits] using h

section
variable {H : Type} {enc : TypeId × Value → H} {P : Program} {w : World} {base : Nat} {sp : Nat → Bool} {held : Bool}
/-- A list of numbers among the arguments. -/
theorem open_intlist {t e : TypeId} {k : IntKind} {b0 : Nat} {r : Reach} {v : Value} {d : DataW H} {ps : List MemPlace} (ht : P.underlying t = some (.slice e)) (he : P.underlying e = some (.int k)) (hc : P.cellsOf e = 1)
    (hval : Value.okWide P w r b0 t v) (h : DataW.Trod enc P w base sp held t v d ps) : ∃ A c l, v = .slice A (List.length l) c ∧ Reads w w.heap.size 1 A l.length (nums k l) ∧ l.length ≤ c ∧ c ≤ maxLen ∧ ∀ x ∈ l, (Lit.int k x).wf = true := by
  obtain ⟨A, len, cap, rfl⟩ := okWide_slice ht hval
  obtain ⟨fuel, hf⟩ := h
  rcases Go.ChangeShapes.open_ints ht he hc hf with ⟨hcs, _⟩ | ⟨a, len', cap', zs, hcs, _, hl, hm, hz, _, hx, hwf⟩
  · simp only [Value.cells, List.cons.injEq, and_true] at hcs
    injection hcs with h1 h2 h3
    subst h1 h2 h3
    exact ⟨none, 0, [], rfl, Reads.none_, Nat.zero_le _, Nat.zero_le _, fun x hx => by cases hx⟩
  · simp only [Value.cells, List.cons.injEq, and_true] at hcs
    injection hcs with h1 h2 h3
    subst h1 h2 h3
    have hlz : len ≤ zs.length := by rw [hz]; split <;> omega
    have hlen : (zs.take len).length = len := by rw [List.length_take]; omega
    refine ⟨some a, cap, zs.take len, by rw [hlen], ⟨by rw [nums_length]; omega, fun hn => ?_⟩, by rw [hlen]; exact hl, hm, fun x hx' => hwf x (List.mem_of_mem_take hx')⟩
    have hc0 := hx 0 (by omega)
    refine ⟨a, rfl, by have := World.block_lt_of_cell? w _ hc0; rw [block_of_add] at this; exact this, fun j u hu => ?_⟩
    have hj : j < len := by
      have := (List.getElem?_eq_some_iff.mp hu).1
      rw [nums_length, hlen] at this
      exact this
    rw [nums_get k _ j (by rw [hlen]; exact hj)] at hu
    injection hu with hu
    rw [hx j (by omega), ← hu]
    simp [List.getD_eq_getElem?_getD, hj]

/-- A list of pairs of numbers in memory. -/
def PairsAt (w : World) (B : Nat) (A : Option Addr) (k0 k1 : IntKind) (l : List (Int × Int)) : Prop := ∀ i, i < l.length → ∃ ad, A = some ad ∧ ad.block < B ∧ w.cell? (ad.add (i * 2)) = some (.int k0 (l.getD i (0, 0)).1) ∧ w.cell? (ad.add (i * 2 + 1)) = some (.int k1 (l.getD i (0, 0)).2)
theorem PairsAt.below {w w' : World} {B : Nat} {A : Option Addr} {k0 k1 : IntKind} {l : List (Int × Int)} (h : PairsAt w B A k0 k1 l) (hb : Below B w w') : PairsAt w' B A k0 k1 l := fun i hi => by
  obtain ⟨ad, e, hbl, h0, h1⟩ := h i hi
  exact ⟨ad, e, hbl, (hb.cell (by rw [block_of_add]; exact hbl)).trans h0, (hb.cell (by rw [block_of_add]; exact hbl)).trans h1⟩

theorem open_pairlist {t e : TypeId} {f0 f1 : Field} {k0 k1 : IntKind} {b0 : Nat} {r : Reach} {v : Value} {d : DataW H} {ps : List MemPlace} (ht : P.underlying t = some (.slice e)) (he : P.underlying e = some (.struct #[f0, f1]))
    (ce : P.cellsOf e = 2) (o0 : f0.offset = 0) (o1 : f1.offset = 1) (c0 : P.cellsOf f0.type = 1) (c1 : P.cellsOf f1.type = 1) (u0 : P.underlying f0.type = some (.int k0)) (u1 : P.underlying f1.type = some (.int k1))
    (hval : Value.okWide P w r b0 t v) (h : DataW.Trod enc P w base sp held t v d ps) :
    ∃ A c l, v = .slice A (List.length l) c ∧ PairsAt w w.heap.size A k0 k1 l ∧ l.length ≤ c ∧ c ≤ maxLen ∧ ∀ i, i < l.length → (Lit.int k0 (l.getD i (0, 0)).1).wf = true ∧ (Lit.int k1 (l.getD i (0, 0)).2).wf = true := by
  obtain ⟨A, len, cap, rfl⟩ := okWide_slice ht hval
  obtain ⟨fuel, hf⟩ := h
  rcases Deep.open_slice_pairs ht he ce o0 o1 c0 c1 hf with ⟨hcs, _⟩ | ⟨a, len', cap', m, n, V0, V1, D0, D1, P0, P1, hcs, _, hl, hm, hmm, _, hx⟩
  · simp only [Value.cells, List.cons.injEq, and_true] at hcs
    injection hcs with h1 h2 h3
    subst h1 h2 h3
    exact ⟨none, 0, [], rfl, fun i hi => by simp at hi, Nat.zero_le _, Nat.zero_le _, fun i hi => by simp at hi⟩
  · simp only [Value.cells, List.cons.injEq, and_true] at hcs
    injection hcs with h1 h2 h3
    subst h1 h2 h3
    have hlm : len ≤ m := by rw [hmm]; split <;> omega
    have hV : ∀ i, i < len → ∃ x : Int × Int, w.cell? (a.add (i * 2)) = some (.int k0 x.1) ∧ w.cell? (a.add (i * 2 + 1)) = some (.int k1 x.2) ∧ (Lit.int k0 x.1).wf = true ∧ (Lit.int k1 x.2).wf = true := by
      intro i hi
      obtain ⟨g0, g1, t0, t1⟩ := hx i (by omega)
      obtain ⟨n0, e0, _, w0⟩ := DataW.trod_int u0 t0
      obtain ⟨n1, e1, _, w1⟩ := DataW.trod_int u1 t1
      injection e0 with e0
      injection e1 with e1
      exact ⟨(n0, n1), by rw [g0, e0], by rw [g1, e1], w0, w1⟩
    obtain ⟨f, hf⟩ := Deep.choose_lt hV
    have hlen : ((List.range len).map f).length = len := by simp
    have hget : ∀ i, i < len → ((List.range len).map f).getD i (0, 0) = f i := fun i hi => by simp [List.getD_eq_getElem?_getD, hi]
    refine ⟨some a, cap, (List.range len).map f, by rw [hlen], fun i hi => ?_, by rw [hlen]; exact hl, hm, fun i hi => ?_⟩
    · rw [hlen] at hi
      obtain ⟨g0, g1, _, _⟩ := hf i hi
      rw [hget i hi]
      exact ⟨a, rfl, by have := World.block_lt_of_cell? w _ g0; rw [block_of_add] at this; exact this, g0, g1⟩
    · rw [hlen] at hi
      rw [hget i hi]
      exact ⟨(hf i hi).2.2.1, (hf i hi).2.2.2⟩
end
end Go.Proofs.YtfabgbmbnmbjkaaGreatDoor

