/- Joined texts: Op Rm2 Rm3 Mr Pr Sp So Cm Rg It. -/
import Derived.Test.YtgjcofoicnnnhaaGreatDoorMa
import Derived.Test.YtgjcofoicnnnhaaGreatDoorMe
import Derived.ChangeArms
import Derived.Deep.Slices
import Derived.WideShapes
import Derived.Deep.Cut
import Derived.Test.YtgjcofoicnnnhaaGreatDoorShp
import Derived.Test.YtgjcofoicnnnhaaGreatDoorMb
import Derived.Maps.RangeWalk
import Derived.RangeFuncGives
import Derived.Sort.MapsRangeIn
import Derived.Shelf.SlIter.Collect
/- Calls of package lmap among a law's arguments, opened: one, and a list of them. -/
namespace Go.Proofs.YtgjcofoicnnnhaaGreatDoor
open Go.ChangeShapes Go.WideShapes Go.ChangeAt Go.RowKit

/-- A call: Put, or Drop. -/
structure Ox where
  d : Bool
  p : Pl
def o0 : Ox := ⟨false, p0⟩
instance : Inhabited Ox := ⟨o0⟩
def opV (o : Ox) : Value := .agg #[.bool o.d, .int .u32 o.p.t, .int .u64 o.p.b, .int .i64 o.p.z, .int .i64 o.p.k]
def OxOk (o : Ox) : Prop := NameOk o.p.n ∧ AddrOk o.p.a

theorem wf_i64' {n : Int} (h : (Lit.int .i64 n).wf = true) : -9223372036854775808 ≤ n ∧ n ≤ 9223372036854775807 := by
  simpa [Lit.wf, IntKind.min, IntKind.max, IntKind.signed, IntKind.bits] using h
theorem wf_u32' {n : Int} (h : (Lit.int .u32 n).wf = true) : 0 ≤ n ∧ n ≤ 4294967295 := by
  simpa [Lit.wf, IntKind.min, IntKind.max, IntKind.signed, IntKind.bits] using h
theorem wf_u64' {n : Int} (h : (Lit.int .u64 n).wf = true) : 0 ≤ n ∧ n ≤ 18446744073709551615 := by
  simpa [Lit.wf, IntKind.min, IntKind.max, IntKind.signed, IntKind.bits] using h

section
variable {H : Type} {enc : TypeId × Value → H} {w : World} {base : Nat} {sp : Nat → Bool} {held : Bool}

/-- A call stands at this place. -/
def OpAt (w : World) (a : Addr) (o : Ox) : Prop :=
  w.cell? a = some (.bool o.d) ∧ w.cell? ⟨a.block, a.off + 1, none⟩ = some (.int .u32 o.p.t) ∧ w.cell? ⟨a.block, a.off + 2, none⟩ = some (.int .u64 o.p.b) ∧ w.cell? ⟨a.block, a.off + 3, none⟩ = some (.int .i64 o.p.z) ∧ w.cell? ⟨a.block, a.off + 4, none⟩ = some (.int .i64 o.p.k)
theorem OpAt.below {w' : World} {B : Nat} {a : Addr} {o : Ox} (h : OpAt w a o) (hb : Below B w w') (ha : a.block < B) : OpAt w' a o :=
  ⟨(hb.cell ha).trans h.1, (hb.cell (p := ⟨a.block, a.off + 1, none⟩) ha).trans h.2.1, (hb.cell (p := ⟨a.block, a.off + 2, none⟩) ha).trans h.2.2.1, (hb.cell (p := ⟨a.block, a.off + 3, none⟩) ha).trans h.2.2.2.1, (hb.cell (p := ⟨a.block, a.off + 4, none⟩) ha).trans h.2.2.2.2⟩
/-- A list of calls stands in memory. -/
def OpsAt (w : World) (B : Nat) (A : Option Addr) (l : List Ox) : Prop := ∀ i, i < l.length → ∃ ad, A = some ad ∧ ad.block < B ∧ OpAt w (ad.add (i * 5)) (l.getD i o0)
theorem OpsAt.below {w' : World} {B : Nat} {A : Option Addr} {l : List Ox} (h : OpsAt w B A l) (hb : Below B w w') : OpsAt w' B A l := fun i hi => by
  obtain ⟨ad, e, hl, h1⟩ := h i hi
  exact ⟨ad, e, hl, h1.below hb (by rw [block_of_add]; exact hl)⟩

end
end Go.Proofs.YtgjcofoicnnnhaaGreatDoor

/- Contracts of the reference's map: Put, Drop. -/
namespace Go.Proofs.YtgjcofoicnnnhaaGreatDoor
open Go.RowKit

def putStep (p : Pl) (s : List Pl × Bool) (x : Pl) : List Pl × Bool :=
  let hit := !s.2 && (lessB p x || decide (x.n = p.n))
  let o1 := if hit then s.1 ++ [p] else s.1
  (if !decide (x.n = p.n) && !decide (x.a = p.a) then o1 ++ [x] else o1, s.2 || hit)
def putTo (p : Pl) (L : List Pl) (k : Nat) : List Pl × Bool := (L.take k).foldl (putStep p) ([], false)
def putRef (p : Pl) (L : List Pl) : List Pl := if (putTo p L L.length).2 then (putTo p L L.length).1 else (putTo p L L.length).1 ++ [p]
theorem putTo_succ (p : Pl) (L : List Pl) (k : Nat) (h : k < L.length) : putTo p L (k + 1) = putStep p (putTo p L k) (L.getD k p0) := by
  unfold putTo
  rw [List.take_succ_eq_append_getElem h, List.foldl_append]
  simp [List.getD_eq_getElem?_getD, h]
theorem putStep_length (p : Pl) (s : List Pl × Bool) (x : Pl) : (putStep p s x).1.length + (if (putStep p s x).2 then 0 else 1) ≤ s.1.length + (if s.2 then 0 else 1) + 1 := by
  obtain ⟨o, d⟩ := s
  unfold putStep
  cases d with
  | true =>
    simp only [Bool.not_true, Bool.false_and, Bool.or_false, if_true, Bool.false_eq_true, if_false]
    split <;> simp
  | false =>
    cases lessB p x || decide (x.n = p.n) <;> simp only [Bool.not_false, Bool.true_and, Bool.false_or, if_true, Bool.false_eq_true, if_false] <;> split <;> simp
theorem putTo_length (p : Pl) (L : List Pl) (k : Nat) (h : k ≤ L.length) : (putTo p L k).1.length + (if (putTo p L k).2 then 0 else 1) ≤ k + 1 := by
  induction k with
  | zero => simp [putTo]
  | succ k ih =>
    rw [putTo_succ p L k h]
    have := putStep_length p (putTo p L k) (L.getD k p0)
    have := ih (by omega)
    omega

theorem pl_info : (Tryz.prog.info? 45).map (fun i => (i.zero, i.size, i.bytes)) = some (some (.agg #[.int .u32 0, .int .u64 0, .int .i64 0, .int .i64 0]), 4, 32) := by kernel_rfl

theorem reads_pl (w : World) (p : Pl) : Reads (w.alloc (.cells #[.int .u32 p.t, .int .u64 p.b, .int .i64 p.z, .int .i64 p.k] 45)) (w.heap.size + 1) 4 (some ⟨w.heap.size, 0, none⟩) 1 (plC p) := by
  have hb := Blk.new w 45 #[.int .u32 p.t, .int .u64 p.b, .int .i64 p.z, .int .i64 p.k]
  refine ⟨rfl, fun _ => ⟨_, rfl, Nat.lt_succ_self _, fun j u hu => ?_⟩⟩
  rw [show ((⟨w.heap.size, 0, none⟩ : Addr).add j) = ⟨w.heap.size, j, none⟩ by unfold Addr.add; split <;> simp_all, hb.cell, List.getElem?_toArray]
  exact hu

/-- 'out = append(out, p)'. -/
theorem wpList_append_pl (w : World) {ops : Array Oper} {rest : List Oper} {o : Oper} {a : Act} {Q : Exit → Act → World → Prop} (hgd : o.guard = none) (s x : Operand)
    (ho : o.op = .call { callee := .builtin .append, args := #[s, x], argTypes := #[36, 36] }) {base c : Nat} {A : Option Addr} (O : List Pl) (p : Pl)
    (hown : w.ownsRow base 45 4 (.slice A O.length c) O.length (plCs O)) {n : Nat} (hn : n = O.length) (hs : a.eval s = .slice A n c) (hx : a.eval x = .slice (some ⟨w.heap.size, 0, none⟩) 1 1) (hlen : O.length ≤ 2000000) (hbase : base ≤ w.heap.size)
    (h : ∀ A' c' w', w'.ownsRow base 45 4 (.slice A' (O ++ [p]).length c') (O ++ [p]).length (plCs (O ++ [p])) → Kp (fun i => (Value.slice A O.length c).ownBlock = some i) w w' → ((Value.slice A' (O ++ [p]).length c').ownBlock = (Value.slice A O.length c).ownBlock ∨ ∃ g, (Value.slice A' (O ++ [p]).length c').ownBlock = some g ∧ w.heap.size < g) →
      wpList Tryz.prog ops Q rest (a.put o.dst (.slice A' (O ++ [p]).length c')) w') :
    wpList Tryz.prog ops Q (o :: rest) a (w.alloc (.cells #[.int .u32 p.t, .int .u64 p.b, .int .i64 p.z, .int .i64 p.k] 45)) := by
  subst hn
  obtain ⟨i0, hi0, hz0, hz1, hz2⟩ := info_parts pl_info
  refine wpList_append_any _ hgd s x _ ho base 45 i0 _ 4 32 Tryz.underlying36 hi0 hz0 hz1 hz2 rfl (by omega) (.slice A O.length c) O.length (plCs O) hs (hown.alloc _) _ _ 1 1 (plC p) hx (reads_pl w p) ?_ (by simp only [maxLen]; omega) (by omega) (by simp; omega) ?_
  · intro u hu
    exact plCs_one [p] u (by simpa [plCs] using hu)
  · intro v' w' hown' hg hat
    obtain ⟨A', c', rfl⟩ := own_form hown'
    rw [← plCs_snoc, show O.length + 1 = (O ++ [p]).length by simp] at hown'
    have hk : Kp (fun i => (Value.slice A O.length c).ownBlock = some i) w w' := by
      have h1 : Kp (fun i => (Value.slice A O.length c).ownBlock = some i) w (w.alloc (.cells #[.int .u32 p.t, .int .u64 p.b, .int .i64 p.z, .int .i64 p.k] 45)) := (Kp.refl _ w).alloc _
      have h2 : Kp (fun i => (Value.slice A O.length c).ownBlock = some i) (w.alloc (.cells #[.int .u32 p.t, .int .u64 p.b, .int .i64 p.z, .int .i64 p.k] 45)) w' := ⟨hg.os, hg.tape, hg.output, hg.size, fun i hi hn => hg.block i hi (fun e => hn e.symm)⟩
      exact h1.trans h2 (fun _ _ h => h)
    have := h A' c' w' hown' hk ?_
    · simpa using this
    · rw [show O.length + 1 = (O ++ [p]).length by simp] at hat
      rcases hat with e | e
      · exact .inl e
      · exact .inr ⟨_, e, by simp⟩

/-- A round of Put: what has been, the place that is looked at, the new row so far. -/
structure PutRd (w1 w' : World) (s sx : Nat) (x : Pl) (A : Option Addr) (c : Nat) (O : List Pl) : Prop where
  bl : Below s w1 w'
  at_ : Blk w' sx 45 #[.int .u32 x.t, .int .u64 x.b, .int .i64 x.z, .int .i64 x.k]
  own : w'.ownsRow s 45 4 (.slice A O.length c) O.length (plCs O)
  ne : (Value.slice A O.length c).ownBlock ≠ some sx
theorem PutRd.step {w1 w2 w3 : World} {s sx : Nat} {x p : Pl} {A A' : Option Addr} {c c' : Nat} {O : List Pl} (h : PutRd w1 w2 s sx x A c O) (hs : s ≤ w1.heap.size)
    (hown : w3.ownsRow s 45 4 (.slice A' (O ++ [p]).length c') (O ++ [p]).length (plCs (O ++ [p]))) (hk : Kp (fun i => (Value.slice A O.length c).ownBlock = some i) w2 w3)
    (hat : (Value.slice A' (O ++ [p]).length c').ownBlock = (Value.slice A O.length c).ownBlock ∨ ∃ g, (Value.slice A' (O ++ [p]).length c').ownBlock = some g ∧ w2.heap.size < g) : PutRd w1 w3 s sx x A' c' (O ++ [p]) :=
  ⟨Kp.below h.bl hk (Nat.le_trans hs h.bl.size) (fun b hb e => by have := (h.own.lt b e).1; omega), hk.blk h.at_ h.ne, hown, by
    rcases hat with e | ⟨g, e, hg⟩
    · rw [e]; exact h.ne
    · rw [e]; intro e2; injection e2 with e2; have := h.at_.lt; omega⟩
theorem PutRd.below {w1 w2 w3 : World} {s sx : Nat} {x : Pl} {A : Option Addr} {c : Nat} {O : List Pl} (h : PutRd w1 w2 s sx x A c O) (hs : s ≤ w1.heap.size) (hb : Below w2.heap.size w2 w3) : PutRd w1 w3 s sx x A c O :=
  ⟨h.bl.trans (hb.mono (Nat.le_trans hs h.bl.size)), h.at_.below hb h.at_.lt, h.own.kept ⟨hb.os, hb.tape, hb.output, hb.size, fun i hi _ => hb.block i hi⟩ (row := none) (by cases (Value.slice A O.length c).ownBlock <;> simp), h.ne⟩

theorem own_zero {w : World} {base size n : Nat} {e : TypeId} {v : Value} {xs : List Value} (h : w.ownsRow base e size v n xs) : w.ownsRow 0 e size v n xs :=
  ⟨h.1, h.2.imp id (fun ⟨g, cap, cur, hv, _, r⟩ => ⟨g, cap, cur, hv, Nat.zero_le _, r⟩)⟩
theorem Kp.then_below {S : Nat → Prop} {w w1 w2 : World} {B : Nat} (h : Kp S w w1) (hb : Below B w1 w2) (hB : w.heap.size ≤ B) : Kp S w w2 :=
  ⟨hb.os.trans h.os, hb.tape.trans h.tape, hb.output.trans h.output, Nat.le_trans h.size hb.size, fun b hl hn => (hb.block b (Nat.lt_of_lt_of_le hl hB)).trans (h.block b hl hn)⟩

theorem put_end {w w1 w' : World} {p x : Pl} {L O : List Pl} {d : Bool} {k n sx c : Nat} {A : Option Addr} (hlt : k < L.length) (hT : putTo p L (k + 1) = (O, d)) (hn : n = O.length) (hr : PutRd w1 w' (w.heap.size + 1) sx x A c O) :
    (∃ (k1 : Nat) (A2 : Option Addr) (c2 : Nat), k1 ≤ L.length ∧ Value.slice A n c = .slice A2 (putTo p L k1).1.length c2 ∧ Value.bool d = .bool (putTo p L k1).2 ∧ Value.int .i64 ((k : Int) + 1) = .int .i64 (k1 : Nat) ∧
      Hid (w'.ownsRow (w.heap.size + 1) 45 4 (.slice A2 (putTo p L k1).1.length c2) (putTo p L k1).1.length (plCs (putTo p L k1).1)) ∧ Hid (Below (w.heap.size + 1) w1 w')) ∧
    L.length - (intOf (.int .i64 ((k : Int) + 1))).toNat < L.length - (intOf (.int .i64 (k : Int))).toNat := by
  refine ⟨⟨k + 1, A, c, hlt, ?_, ?_, ?_, ?_, hr.bl⟩, ?_⟩
  · rw [hT, hn]
  · rw [hT]
  · simp
  · rw [hT]; exact hr.own
  · simp [intOf]; omega

set_option maxRecDepth 20000 in
set_option maxHeartbeats 8000000 in
theorem rput_any (w : World) (g : Nat) (L : List Pl) (p : Pl) (hl : L.length ≤ 1000000) (h : RM w g L) :
    Calls Tryz.prog 81 #[.pointer (some ⟨g, 0, none⟩), .agg #[.int .u32 p.t, .int .u64 p.b, .int .i64 p.z, .int .i64 p.k]] w
      (fun e w' => e = .returned (.tuple #[]) ∧ RM w' g (putRef p L) ∧ Kp (fun i => i = g) w w') := by
  obtain ⟨i0, hi0, hz0, hz1, hz2⟩ := info_parts pl_info
  have HL := Lib.hid (fun w q => less_any w p q)
  obtain ⟨A, c, hb, ho⟩ := h
  have hc := hb.cell 0
  have HB := Lib.hid hb
  have HO := Lib.hid ho
  have hlt := hb.lt
  clear hb ho
  go_enter Tryz.func81, Tryz.ntmps81
  go_wp2_with (fail)
  have hb1 := HB.out.alloc (.cells #[.int .u32 p.t, .int .u64 p.b, .int .i64 p.z, .int .i64 p.k] 45)
  have ho1 : (w.alloc (.cells #[.int .u32 p.t, .int .u64 p.b, .int .i64 p.z, .int .i64 p.k] 45)).ownsRow 0 45 4 (.slice A L.length c) L.length (plCs L) := HO.out.alloc _
  have hx1 := Blk.new w 45 #[.int .u32 p.t, .int .u64 p.b, .int .i64 p.z, .int .i64 p.k]
  have hs1 : (w.alloc (.cells #[.int .u32 p.t, .int .u64 p.b, .int .i64 p.z, .int .i64 p.k] 45)).heap.size = w.heap.size + 1 := by simp
  have hk1 := (Kp.refl (fun i => i = g) w).alloc (.cells #[.int .u32 p.t, .int .u64 p.b, .int .i64 p.z, .int .i64 p.k] 45)
  have HB1 := Lib.hid hb1
  have HO1 := Lib.hid ho1
  have HX1 := Lib.hid hx1
  have HS1 := Lib.hid hs1
  have HK1 := Lib.hid hk1
  have HLT := Lib.hid hlt
  clear hb1 ho1 hx1 hs1 hk1 HB HO hc hlt
  generalize w.alloc (.cells #[.int .u32 p.t, .int .u64 p.b, .int .i64 p.z, .int .i64 p.k] 45) = w1 at *
  go_loopw [4, 5, 6] (fun o d i wr => ∃ (k : Nat) (A2 : Option Addr) (c2 : Nat), k ≤ L.length ∧ o = .slice A2 (putTo p L k).1.length c2 ∧ d = .bool (putTo p L k).2 ∧ i = .int .i64 k ∧
    Hid (wr.ownsRow (w.heap.size + 1) 45 4 (.slice A2 (putTo p L k).1.length c2) (putTo p L k).1.length (plCs (putTo p L k).1)) ∧ Hid (Below (w.heap.size + 1) w1 wr)) (fun _ _ i _ => L.length - (intOf i).toNat)
  case atStart => exact ⟨0, none, 0, Nat.zero_le _, rfl, rfl, rfl, (show _ from ⟨rfl, .inl ⟨rfl, rfl⟩⟩), (show Hid _ from Below.refl _ _)⟩
  case round =>
    obtain ⟨k, A2, c2, hk, rfl, rfl, rfl, hown, hbl⟩ := hrel
    have HK := Lib.hid hk
    have hbg := hbl.out
    have hc : wr.cell? ⟨g, 0, none⟩ = some (.slice A L.length c) := (HB1.out.below hbl.out (by have := HLT.out; omega)).cell 0
    have hp0 : wr.cell? ⟨w.heap.size, 0, none⟩ = some (.int .u32 p.t) := (HX1.out.below hbl.out (by omega)).cell 0
    have hp1 : wr.cell? ⟨w.heap.size, 1, none⟩ = some (.int .u64 p.b) := (HX1.out.below hbl.out (by omega)).cell 1
    have hp2 : wr.cell? ⟨w.heap.size, 2, none⟩ = some (.int .i64 p.z) := (HX1.out.below hbl.out (by omega)).cell 2
    have hp3 : wr.cell? ⟨w.heap.size, 3, none⟩ = some (.int .i64 p.k) := (HX1.out.below hbl.out (by omega)).cell 3
    clear hbg
    have HE := Lib.hid (putTo_length p L k hk)
    by_cases hlt : k < L.length
    · have HT := Lib.hid (putTo_succ p L k hlt)
      generalize hO : putTo p L k = O at *
      obtain ⟨O, d⟩ := O
      simp only at hown HE ⊢
      clear hO
      obtain ⟨r, ex, rfl, hr⟩ : ∃ r ex, A = some ⟨r, 0, none⟩ ∧ Hid (Blk wr r 45 (plCs L ++ ex).toArray) := by
        obtain ⟨r, ex, e, _, hr⟩ := own_blk HO1.out (by omega)
        exact ⟨r, ex, e, hr.below hbl.out (by have := hr.lt; have := HS1.out; omega)⟩
      have hrow := plrow_of hr.out
      have hx0 := hrow.c0 k hlt
      have hx1 := hrow.c1 k hlt
      have hx2 := hrow.c2 k hlt
      have hx3 := hrow.c3 k hlt
      clear hrow
      generalize L.getD k p0 = x at *
      go_upto_region 7 with (fail)
      have hrd : PutRd w1 (wr.alloc (.cells #[.int .u32 x.t, .int .u64 x.b, .int .i64 x.z, .int .i64 x.k] 45)) (w.heap.size + 1) wr.heap.size x A2 c2 O :=
        ⟨hbl.out.alloc (by have := hbl.out.size; have := HS1.out; omega) _, Blk.new _ _ _, hown.out.alloc _, fun e => by have := (hown.out.lt _ e).2; omega⟩
      have hsx : w.heap.size + 1 ≤ wr.heap.size := by have := hbl.out.size; have := HS1.out; omega
      generalize wr.alloc (.cells #[.int .u32 x.t, .int .u64 x.b, .int .i64 x.z, .int .i64 x.k] 45) = w2 at *
      have HR := Lib.hid hrd
      clear hp0 hp1 hp2 hp3 hx0 hx1 hx2 hx3 hc hr hown hbl
      generalize wr.heap.size = sx at *
      have bp := HX1.out.below hrd.bl (Nat.lt_succ_self _)
      have bx := hrd.at_
      have hp0 : w2.cell? ⟨w.heap.size, 0, none⟩ = some (.int .u32 p.t) := bp.cell 0
      have hp1 : w2.cell? ⟨w.heap.size, 1, none⟩ = some (.int .u64 p.b) := bp.cell 1
      have hp2 : w2.cell? ⟨w.heap.size, 2, none⟩ = some (.int .i64 p.z) := bp.cell 2
      have hp3 : w2.cell? ⟨w.heap.size, 3, none⟩ = some (.int .i64 p.k) := bp.cell 3
      have hx0 : w2.cell? ⟨sx, 0, none⟩ = some (.int .u32 x.t) := bx.cell 0
      have hx1 : w2.cell? ⟨sx, 1, none⟩ = some (.int .u64 x.b) := bx.cell 1
      have hx2 : w2.cell? ⟨sx, 2, none⟩ = some (.int .i64 x.z) := bx.cell 2
      have hx3 : w2.cell? ⟨sx, 3, none⟩ = some (.int .i64 x.k) := bx.cell 3
      clear hrd bp bx
      have HSX := Lib.hid hsx
      clear hsx
      obtain ⟨xt, xb, xz, xk⟩ := x
      obtain ⟨sm, hsm, hsm2⟩ : ∃ sm : Bool, (xt == p.t && xb == p.b) = sm ∧ decide ((⟨xt, xb, xz, xk⟩ : Pl).n = p.n) = sm := by
        refine ⟨_, rfl, ?_⟩
        rw [Bool.eq_iff_iff]
        simp [Pl.n]
      have HSM := Lib.hid hsm2
      clear hsm2
      have hcase : (xt = p.t ∧ xb = p.b ∧ sm = true) ∨ (xt = p.t ∧ (xb == p.b) = false ∧ sm = false) ∨ ((xt == p.t) = false ∧ sm = false) := by
        rw [← hsm]
        by_cases h1 : xt = p.t <;> by_cases h2 : xb = p.b <;> simp [h1, h2]
      clear hsm
      have hat : (xz = p.z ∧ xk = p.k) ∨ (xz = p.z ∧ ¬ xk = p.k) ∨ ¬ xz = p.z := by
        by_cases h1 : xz = p.z <;> by_cases h2 : xk = p.k <;> simp [h1, h2]
      generalize hla : lessB p ⟨xt, xb, xz, xk⟩ = la at *
      have HLX : Hid (∀ w, Calls Tryz.prog 126 #[plV p, plV ⟨xt, xb, xz, xk⟩] w (Makes (.bool la) w)) := fun w => by rw [← hla]; exact HL.out w _
      have HLA := Lib.hid hla
      clear hla HL
      unfold plV at HLX
      simp only at hx0 hx1 hx2 hx3
      rcases hcase with ⟨rfl, rfl, rfl⟩ | ⟨rfl, hxb, rfl⟩ | ⟨hxt, rfl⟩
      all_goals
        go_wp2_with (fail)
        refine (HLX.out _).mono ?_
        rintro e w3 ⟨rfl, hb3⟩
        have hrd := HR.out.below (by have := HS1.out; omega) hb3
        have bp := HX1.out.below hrd.bl (Nat.lt_succ_self _)
        have bx := hrd.at_
        clear hp0 hp1 hp2 hp3 hx0 hx1 hx2 hx3 hb3
        have hp0 : w3.cell? ⟨w.heap.size, 0, none⟩ = some (.int .u32 p.t) := bp.cell 0
        have hp1 : w3.cell? ⟨w.heap.size, 1, none⟩ = some (.int .u64 p.b) := bp.cell 1
        have hp2 : w3.cell? ⟨w.heap.size, 2, none⟩ = some (.int .i64 p.z) := bp.cell 2
        have hp3 : w3.cell? ⟨w.heap.size, 3, none⟩ = some (.int .i64 p.k) := bp.cell 3
        have hx0 := bx.cell 0
        have hx1 := bx.cell 1
        have hx2 := bx.cell 2
        have hx3 := bx.cell 3
        simp only [List.getElem?_toArray, List.getElem?_cons_zero, List.getElem?_cons_succ] at hx0 hx1 hx2 hx3
        have HR3 := Lib.hid hrd
        have HS1x : Hid (w.heap.size + 1 ≤ w1.heap.size) := by have := HS1.out; unfold Hid; omega
        have HLEN1 : Hid (O.length ≤ 1500000) := by have h1 := HE.out; have h2 := HK.out; unfold Hid; split at h1 <;> omega
        have HLEN : Hid (O.length ≤ 2000000) := by have h1 := HE.out; have h2 := HK.out; unfold Hid; split at h1 <;> omega
        have HBASE : Hid (w.heap.size + 1 ≤ w3.heap.size) := by have := hrd.bl.size; have := HS1.out; unfold Hid; omega
        clear hrd bp bx HR
      · cases d
        · go_wp2_with (first
            | (at_builtin
               refine wpList_append_pl _ rfl (.tmp 49) (.tmp 51) rfl O p HR3.out.own rfl rfl rfl HLEN.out HBASE.out ?_
               intro A3 c3 w4 ho4 hk4 ha4
               have HR4 := Lib.hid (HR3.out.step HS1x.out ho4 hk4 ha4)
               clear ho4 hk4 ha4))
          all_goals exact put_end hlt (HT.out.trans (by unfold putStep; rw [HSM.out]; simp)) (by simp) HR4.out
        · go_wp2_with (fail)
          exact put_end hlt (HT.out.trans (by unfold putStep; rw [HSM.out]; simp)) rfl HR3.out
      · rcases hat with ⟨rfl, rfl⟩ | ⟨rfl, hat⟩ | hat
        · have HAT : Hid (decide ((⟨p.t, xb, p.z, p.k⟩ : Pl).a = p.a) = true) := by simp [Hid, Pl.a]
          cases d
          · cases la
            · go_wp2_with (fail)
              exact put_end hlt (HT.out.trans (by unfold putStep; rw [HSM.out, HLA.out, HAT.out]; simp)) (by simp) HR3.out
            · go_wp2_with (first
                | (at_builtin
                   refine wpList_append_pl _ rfl (.tmp 49) (.tmp 51) rfl O p HR3.out.own rfl rfl rfl HLEN.out HBASE.out ?_
                   intro A4 c4 w4 ho4 hk4 ha4
                   have HR4 := Lib.hid (HR3.out.step HS1x.out ho4 hk4 ha4)
                   clear ho4 hk4 ha4
                   have bp4 := HX1.out.below HR4.out.bl (Nat.lt_succ_self _)
                   have bx4 := HR4.out.at_
                   have q2 : w4.cell? ⟨w.heap.size, 2, none⟩ = some (.int .i64 p.z) := bp4.cell 2
                   have q3 : w4.cell? ⟨w.heap.size, 3, none⟩ = some (.int .i64 p.k) := bp4.cell 3
                   have y0 : w4.cell? ⟨sx, 0, none⟩ = some (.int .u32 p.t) := bx4.cell 0
                   have y1 : w4.cell? ⟨sx, 1, none⟩ = some (.int .u64 xb) := bx4.cell 1
                   have y2 : w4.cell? ⟨sx, 2, none⟩ = some (.int .i64 p.z) := bx4.cell 2
                   have y3 : w4.cell? ⟨sx, 3, none⟩ = some (.int .i64 p.k) := bx4.cell 3
                   clear bp4 bx4))
              exact put_end hlt (HT.out.trans (by unfold putStep; rw [HSM.out, HLA.out, HAT.out]; simp)) (by simp) HR4.out
          · go_wp2_with (fail)
            exact put_end hlt (HT.out.trans (by unfold putStep; rw [HSM.out, HLA.out, HAT.out]; simp)) (by simp) HR3.out
        · have HAT : Hid (decide ((⟨p.t, xb, p.z, xk⟩ : Pl).a = p.a) = false) := by simp [Hid, Pl.a, hat]
          cases d
          · cases la
            · go_wp2_with (first
                | (at_builtin
                   refine wpList_append_pl _ rfl (.tmp 62) (.tmp 64) rfl O ⟨p.t, xb, p.z, xk⟩ HR3.out.own rfl rfl rfl HLEN.out HBASE.out ?_
                   intro A4 c4 w4 ho4 hk4 ha4
                   have HR4 := Lib.hid (HR3.out.step HS1x.out ho4 hk4 ha4)
                   clear ho4 hk4 ha4))
              exact put_end hlt (HT.out.trans (by unfold putStep; rw [HSM.out, HLA.out, HAT.out]; simp)) (by simp) HR4.out
            · go_wp2_with (first
                | (at_builtin
                   refine wpList_append_pl _ rfl (.tmp 49) (.tmp 51) rfl O p HR3.out.own rfl rfl rfl HLEN.out HBASE.out ?_
                   intro A4 c4 w4 ho4 hk4 ha4
                   have HR4 := Lib.hid (HR3.out.step HS1x.out ho4 hk4 ha4)
                   clear ho4 hk4 ha4
                   have bp4 := HX1.out.below HR4.out.bl (Nat.lt_succ_self _)
                   have bx4 := HR4.out.at_
                   have q2 : w4.cell? ⟨w.heap.size, 2, none⟩ = some (.int .i64 p.z) := bp4.cell 2
                   have q3 : w4.cell? ⟨w.heap.size, 3, none⟩ = some (.int .i64 p.k) := bp4.cell 3
                   have y0 : w4.cell? ⟨sx, 0, none⟩ = some (.int .u32 p.t) := bx4.cell 0
                   have y1 : w4.cell? ⟨sx, 1, none⟩ = some (.int .u64 xb) := bx4.cell 1
                   have y2 : w4.cell? ⟨sx, 2, none⟩ = some (.int .i64 p.z) := bx4.cell 2
                   have y3 : w4.cell? ⟨sx, 3, none⟩ = some (.int .i64 xk) := bx4.cell 3
                   clear bp4 bx4)
                | (at_builtin
                   have hbase4 : Hid (w.heap.size + 1 ≤ w4.heap.size) := by have := HR4.out.bl.size; have := HS1x.out; unfold Hid; omega
                   have hlen4 : Hid ((O ++ [p]).length ≤ 2000000) := by have := HLEN1.out; unfold Hid; simp; omega
                   have hl4 : Hid (O.length + 1 = (O ++ [p]).length) := by simp [Hid]
                   refine wpList_append_pl _ rfl (.tmp 62) (.tmp 64) rfl (O ++ [p]) ⟨p.t, xb, p.z, xk⟩ HR4.out.own hl4.out rfl rfl hlen4.out hbase4.out ?_
                   intro A5 c5 w5 ho5 hk5 ha5
                   have HR5 := Lib.hid (HR4.out.step HS1x.out ho5 hk5 ha5)
                   clear ho5 hk5 ha5))
              exact put_end hlt (HT.out.trans (by unfold putStep; rw [HSM.out, HLA.out, HAT.out]; simp)) (by simp) HR5.out
          · go_wp2_with (first
              | (at_builtin
                 refine wpList_append_pl _ rfl (.tmp 62) (.tmp 64) rfl O ⟨p.t, xb, p.z, xk⟩ HR3.out.own rfl rfl rfl HLEN.out HBASE.out ?_
                 intro A4 c4 w4 ho4 hk4 ha4
                 have HR4 := Lib.hid (HR3.out.step HS1x.out ho4 hk4 ha4)
                 clear ho4 hk4 ha4))
            exact put_end hlt (HT.out.trans (by unfold putStep; rw [HSM.out, HLA.out, HAT.out]; simp)) (by simp) HR4.out
        · have HAT : Hid (decide ((⟨p.t, xb, xz, xk⟩ : Pl).a = p.a) = false) := by simp [Hid, Pl.a, hat]
          cases d
          · cases la
            · go_wp2_with (first
                | (at_builtin
                   refine wpList_append_pl _ rfl (.tmp 62) (.tmp 64) rfl O ⟨p.t, xb, xz, xk⟩ HR3.out.own rfl rfl rfl HLEN.out HBASE.out ?_
                   intro A4 c4 w4 ho4 hk4 ha4
                   have HR4 := Lib.hid (HR3.out.step HS1x.out ho4 hk4 ha4)
                   clear ho4 hk4 ha4))
              exact put_end hlt (HT.out.trans (by unfold putStep; rw [HSM.out, HLA.out, HAT.out]; simp)) (by simp) HR4.out
            · go_wp2_with (first
                | (at_builtin
                   refine wpList_append_pl _ rfl (.tmp 49) (.tmp 51) rfl O p HR3.out.own rfl rfl rfl HLEN.out HBASE.out ?_
                   intro A4 c4 w4 ho4 hk4 ha4
                   have HR4 := Lib.hid (HR3.out.step HS1x.out ho4 hk4 ha4)
                   clear ho4 hk4 ha4
                   have bp4 := HX1.out.below HR4.out.bl (Nat.lt_succ_self _)
                   have bx4 := HR4.out.at_
                   have q2 : w4.cell? ⟨w.heap.size, 2, none⟩ = some (.int .i64 p.z) := bp4.cell 2
                   have q3 : w4.cell? ⟨w.heap.size, 3, none⟩ = some (.int .i64 p.k) := bp4.cell 3
                   have y0 : w4.cell? ⟨sx, 0, none⟩ = some (.int .u32 p.t) := bx4.cell 0
                   have y1 : w4.cell? ⟨sx, 1, none⟩ = some (.int .u64 xb) := bx4.cell 1
                   have y2 : w4.cell? ⟨sx, 2, none⟩ = some (.int .i64 xz) := bx4.cell 2
                   have y3 : w4.cell? ⟨sx, 3, none⟩ = some (.int .i64 xk) := bx4.cell 3
                   clear bp4 bx4)
                | (at_builtin
                   have hbase4 : Hid (w.heap.size + 1 ≤ w4.heap.size) := by have := HR4.out.bl.size; have := HS1x.out; unfold Hid; omega
                   have hlen4 : Hid ((O ++ [p]).length ≤ 2000000) := by have := HLEN1.out; unfold Hid; simp; omega
                   have hl4 : Hid (O.length + 1 = (O ++ [p]).length) := by simp [Hid]
                   refine wpList_append_pl _ rfl (.tmp 62) (.tmp 64) rfl (O ++ [p]) ⟨p.t, xb, xz, xk⟩ HR4.out.own hl4.out rfl rfl hlen4.out hbase4.out ?_
                   intro A5 c5 w5 ho5 hk5 ha5
                   have HR5 := Lib.hid (HR4.out.step HS1x.out ho5 hk5 ha5)
                   clear ho5 hk5 ha5))
              exact put_end hlt (HT.out.trans (by unfold putStep; rw [HSM.out, HLA.out, HAT.out]; simp)) (by simp) HR5.out
          · go_wp2_with (first
              | (at_builtin
                 refine wpList_append_pl _ rfl (.tmp 62) (.tmp 64) rfl O ⟨p.t, xb, xz, xk⟩ HR3.out.own rfl rfl rfl HLEN.out HBASE.out ?_
                 intro A4 c4 w4 ho4 hk4 ha4
                 have HR4 := Lib.hid (HR3.out.step HS1x.out ho4 hk4 ha4)
                 clear ho4 hk4 ha4))
            exact put_end hlt (HT.out.trans (by unfold putStep; rw [HSM.out, HLA.out, HAT.out]; simp)) (by simp) HR4.out
      · rcases hat with ⟨rfl, rfl⟩ | ⟨rfl, hat⟩ | hat
        · have HAT : Hid (decide ((⟨xt, xb, p.z, p.k⟩ : Pl).a = p.a) = true) := by simp [Hid, Pl.a]
          cases d
          · cases la
            · go_wp2_with (fail)
              exact put_end hlt (HT.out.trans (by unfold putStep; rw [HSM.out, HLA.out, HAT.out]; simp)) (by simp) HR3.out
            · go_wp2_with (first
                | (at_builtin
                   refine wpList_append_pl _ rfl (.tmp 49) (.tmp 51) rfl O p HR3.out.own rfl rfl rfl HLEN.out HBASE.out ?_
                   intro A4 c4 w4 ho4 hk4 ha4
                   have HR4 := Lib.hid (HR3.out.step HS1x.out ho4 hk4 ha4)
                   clear ho4 hk4 ha4
                   have bp4 := HX1.out.below HR4.out.bl (Nat.lt_succ_self _)
                   have bx4 := HR4.out.at_
                   have q2 : w4.cell? ⟨w.heap.size, 2, none⟩ = some (.int .i64 p.z) := bp4.cell 2
                   have q3 : w4.cell? ⟨w.heap.size, 3, none⟩ = some (.int .i64 p.k) := bp4.cell 3
                   have y0 : w4.cell? ⟨sx, 0, none⟩ = some (.int .u32 xt) := bx4.cell 0
                   have y1 : w4.cell? ⟨sx, 1, none⟩ = some (.int .u64 xb) := bx4.cell 1
                   have y2 : w4.cell? ⟨sx, 2, none⟩ = some (.int .i64 p.z) := bx4.cell 2
                   have y3 : w4.cell? ⟨sx, 3, none⟩ = some (.int .i64 p.k) := bx4.cell 3
                   clear bp4 bx4))
              exact put_end hlt (HT.out.trans (by unfold putStep; rw [HSM.out, HLA.out, HAT.out]; simp)) (by simp) HR4.out
          · go_wp2_with (fail)
            exact put_end hlt (HT.out.trans (by unfold putStep; rw [HSM.out, HLA.out, HAT.out]; simp)) (by simp) HR3.out
        · have HAT : Hid (decide ((⟨xt, xb, p.z, xk⟩ : Pl).a = p.a) = false) := by simp [Hid, Pl.a, hat]
          cases d
          · cases la
            · go_wp2_with (first
                | (at_builtin
                   refine wpList_append_pl _ rfl (.tmp 62) (.tmp 64) rfl O ⟨xt, xb, p.z, xk⟩ HR3.out.own rfl rfl rfl HLEN.out HBASE.out ?_
                   intro A4 c4 w4 ho4 hk4 ha4
                   have HR4 := Lib.hid (HR3.out.step HS1x.out ho4 hk4 ha4)
                   clear ho4 hk4 ha4))
              exact put_end hlt (HT.out.trans (by unfold putStep; rw [HSM.out, HLA.out, HAT.out]; simp)) (by simp) HR4.out
            · go_wp2_with (first
                | (at_builtin
                   refine wpList_append_pl _ rfl (.tmp 49) (.tmp 51) rfl O p HR3.out.own rfl rfl rfl HLEN.out HBASE.out ?_
                   intro A4 c4 w4 ho4 hk4 ha4
                   have HR4 := Lib.hid (HR3.out.step HS1x.out ho4 hk4 ha4)
                   clear ho4 hk4 ha4
                   have bp4 := HX1.out.below HR4.out.bl (Nat.lt_succ_self _)
                   have bx4 := HR4.out.at_
                   have q2 : w4.cell? ⟨w.heap.size, 2, none⟩ = some (.int .i64 p.z) := bp4.cell 2
                   have q3 : w4.cell? ⟨w.heap.size, 3, none⟩ = some (.int .i64 p.k) := bp4.cell 3
                   have y0 : w4.cell? ⟨sx, 0, none⟩ = some (.int .u32 xt) := bx4.cell 0
                   have y1 : w4.cell? ⟨sx, 1, none⟩ = some (.int .u64 xb) := bx4.cell 1
                   have y2 : w4.cell? ⟨sx, 2, none⟩ = some (.int .i64 p.z) := bx4.cell 2
                   have y3 : w4.cell? ⟨sx, 3, none⟩ = some (.int .i64 xk) := bx4.cell 3
                   clear bp4 bx4)
                | (at_builtin
                   have hbase4 : Hid (w.heap.size + 1 ≤ w4.heap.size) := by have := HR4.out.bl.size; have := HS1x.out; unfold Hid; omega
                   have hlen4 : Hid ((O ++ [p]).length ≤ 2000000) := by have := HLEN1.out; unfold Hid; simp; omega
                   have hl4 : Hid (O.length + 1 = (O ++ [p]).length) := by simp [Hid]
                   refine wpList_append_pl _ rfl (.tmp 62) (.tmp 64) rfl (O ++ [p]) ⟨xt, xb, p.z, xk⟩ HR4.out.own hl4.out rfl rfl hlen4.out hbase4.out ?_
                   intro A5 c5 w5 ho5 hk5 ha5
                   have HR5 := Lib.hid (HR4.out.step HS1x.out ho5 hk5 ha5)
                   clear ho5 hk5 ha5))
              exact put_end hlt (HT.out.trans (by unfold putStep; rw [HSM.out, HLA.out, HAT.out]; simp)) (by simp) HR5.out
          · go_wp2_with (first
              | (at_builtin
                 refine wpList_append_pl _ rfl (.tmp 62) (.tmp 64) rfl O ⟨xt, xb, p.z, xk⟩ HR3.out.own rfl rfl rfl HLEN.out HBASE.out ?_
                 intro A4 c4 w4 ho4 hk4 ha4
                 have HR4 := Lib.hid (HR3.out.step HS1x.out ho4 hk4 ha4)
                 clear ho4 hk4 ha4))
            exact put_end hlt (HT.out.trans (by unfold putStep; rw [HSM.out, HLA.out, HAT.out]; simp)) (by simp) HR4.out
        · have HAT : Hid (decide ((⟨xt, xb, xz, xk⟩ : Pl).a = p.a) = false) := by simp [Hid, Pl.a, hat]
          cases d
          · cases la
            · go_wp2_with (first
                | (at_builtin
                   refine wpList_append_pl _ rfl (.tmp 62) (.tmp 64) rfl O ⟨xt, xb, xz, xk⟩ HR3.out.own rfl rfl rfl HLEN.out HBASE.out ?_
                   intro A4 c4 w4 ho4 hk4 ha4
                   have HR4 := Lib.hid (HR3.out.step HS1x.out ho4 hk4 ha4)
                   clear ho4 hk4 ha4))
              exact put_end hlt (HT.out.trans (by unfold putStep; rw [HSM.out, HLA.out, HAT.out]; simp)) (by simp) HR4.out
            · go_wp2_with (first
                | (at_builtin
                   refine wpList_append_pl _ rfl (.tmp 49) (.tmp 51) rfl O p HR3.out.own rfl rfl rfl HLEN.out HBASE.out ?_
                   intro A4 c4 w4 ho4 hk4 ha4
                   have HR4 := Lib.hid (HR3.out.step HS1x.out ho4 hk4 ha4)
                   clear ho4 hk4 ha4
                   have bp4 := HX1.out.below HR4.out.bl (Nat.lt_succ_self _)
                   have bx4 := HR4.out.at_
                   have q2 : w4.cell? ⟨w.heap.size, 2, none⟩ = some (.int .i64 p.z) := bp4.cell 2
                   have q3 : w4.cell? ⟨w.heap.size, 3, none⟩ = some (.int .i64 p.k) := bp4.cell 3
                   have y0 : w4.cell? ⟨sx, 0, none⟩ = some (.int .u32 xt) := bx4.cell 0
                   have y1 : w4.cell? ⟨sx, 1, none⟩ = some (.int .u64 xb) := bx4.cell 1
                   have y2 : w4.cell? ⟨sx, 2, none⟩ = some (.int .i64 xz) := bx4.cell 2
                   have y3 : w4.cell? ⟨sx, 3, none⟩ = some (.int .i64 xk) := bx4.cell 3
                   clear bp4 bx4)
                | (at_builtin
                   have hbase4 : Hid (w.heap.size + 1 ≤ w4.heap.size) := by have := HR4.out.bl.size; have := HS1x.out; unfold Hid; omega
                   have hlen4 : Hid ((O ++ [p]).length ≤ 2000000) := by have := HLEN1.out; unfold Hid; simp; omega
                   have hl4 : Hid (O.length + 1 = (O ++ [p]).length) := by simp [Hid]
                   refine wpList_append_pl _ rfl (.tmp 62) (.tmp 64) rfl (O ++ [p]) ⟨xt, xb, xz, xk⟩ HR4.out.own hl4.out rfl rfl hlen4.out hbase4.out ?_
                   intro A5 c5 w5 ho5 hk5 ha5
                   have HR5 := Lib.hid (HR4.out.step HS1x.out ho5 hk5 ha5)
                   clear ho5 hk5 ha5))
              exact put_end hlt (HT.out.trans (by unfold putStep; rw [HSM.out, HLA.out, HAT.out]; simp)) (by simp) HR5.out
          · go_wp2_with (first
              | (at_builtin
                 refine wpList_append_pl _ rfl (.tmp 62) (.tmp 64) rfl O ⟨xt, xb, xz, xk⟩ HR3.out.own rfl rfl rfl HLEN.out HBASE.out ?_
                 intro A4 c4 w4 ho4 hk4 ha4
                 have HR4 := Lib.hid (HR3.out.step HS1x.out ho4 hk4 ha4)
                 clear ho4 hk4 ha4))
            exact put_end hlt (HT.out.trans (by unfold putStep; rw [HSM.out, HLA.out, HAT.out]; simp)) (by simp) HR4.out
    · have hkl : k = L.length := by omega
      subst hkl
      have HFIN : Hid (putRef p L = if (putTo p L L.length).2 then (putTo p L L.length).1 else (putTo p L L.length).1 ++ [p]) := rfl
      generalize hO : putTo p L L.length = O at *
      obtain ⟨O, d⟩ := O
      simp only at hown HE HFIN ⊢
      clear hO
      have HGL : Hid (g < w.heap.size + 1) := by have := HLT.out; unfold Hid; omega
      have HS1x : Hid (w.heap.size + 1 ≤ w1.heap.size) := by have := HS1.out; unfold Hid; omega
      have HLEN : Hid (O.length ≤ 2000000) := by have h1 := HE.out; unfold Hid; split at h1 <;> omega
      have HBASE : Hid (w.heap.size + 1 ≤ wr.heap.size) := by have := hbl.out.size; have := HS1.out; unfold Hid; omega
      have hgw : g < wr.heap.size := by have := HBASE.out; have := HGL.out; omega
      have hfr : wr.frozen? ⟨g, 0, none⟩ = false := (HB1.out.below hbl.out HGL.out).frozen 0
      cases d with
      | true =>
        have HF : Hid (putRef p L = O) := HFIN.out
        go_wp2
        go_end0
        refine ⟨rfl, ⟨A2, c2, ?_, ?_⟩, ?_⟩
        · rw [HF.out]
          have := (HB1.out.below hbl.out HGL.out).set_ 0 (.slice A2 O.length c2)
          simpa using this
        · rw [HF.out]
          exact own_zero (ownsRow_setCell_other (a := ⟨g, 0, none⟩) hown.out (fun e => by have h1 : w.heap.size + 1 ≤ g := (hown.out.lt _ e).1; have := HGL.out; omega) _)
        · exact (HK1.out.then_below hbl.out (Nat.le_succ _)).setCell (.inl rfl) _
      | false =>
        have HF : Hid (putRef p L = O ++ [p]) := HFIN.out
        go_wp2_with (first
          | (at_builtin
             refine wpList_append_pl _ rfl (.tmp 68) (.tmp 70) rfl O p hown.out rfl rfl rfl HLEN.out HBASE.out ?_
             intro A4 c4 w4 ho4 hk4 ha4
             have b4 : Below (w.heap.size + 1) w1 w4 := Kp.below hbl.out hk4 HBASE.out (fun b hb e => by have := (hown.out.lt b e).1; omega)
             have hg4 := HB1.out.below b4 HGL.out
             have hc4 : w4.cell? ⟨g, 0, none⟩ = some (.slice A L.length c) := hg4.cell 0
             have hf4 : w4.frozen? ⟨g, 0, none⟩ = false := hg4.frozen 0
             have HO4 := Lib.hid ho4
             have HB4 := Lib.hid b4
             have HG4 := Lib.hid hg4
             clear ho4 hk4 ha4 b4 hg4))
        go_end0
        refine ⟨rfl, ⟨A4, c4, ?_, ?_⟩, ?_⟩
        · rw [HF.out]
          have := HG4.out.set_ 0 (.slice A4 (O.length + 1) c4)
          simpa using this
        · rw [HF.out]
          have := own_zero (ownsRow_setCell_other (a := ⟨g, 0, none⟩) HO4.out (fun e => by have h1 : w.heap.size + 1 ≤ g := (HO4.out.lt _ e).1; have := HGL.out; omega) (.slice A4 (O.length + 1) c4))
          simpa using this
        · exact (HK1.out.then_below HB4.out (Nat.le_succ _)).setCell (.inl rfl) _
end Go.Proofs.YtgjcofoicnnnhaaGreatDoor

/- Contracts of the reference's map: Drop. -/
namespace Go.Proofs.YtgjcofoicnnnhaaGreatDoor
open Go.RowKit

theorem cut_take_succ (L : List Pl) (m : Int × Int) (k : Nat) (h : k < L.length) : cut (L.take (k + 1)) m = if (L.getD k p0).n = m then cut (L.take k) m else cut (L.take k) m ++ [L.getD k p0] := by
  unfold cut
  rw [List.take_succ_eq_append_getElem h, List.filter_append]
  have : L.getD k p0 = L[k] := by simp [List.getD_eq_getElem?_getD, h]
  rw [this]
  by_cases e : L[k].n = m <;> simp [e]
theorem cut_take_length (L : List Pl) (m : Int × Int) (k : Nat) : (cut (L.take k) m).length ≤ k := Nat.le_trans (cut_length _ _) (by simp; omega)

theorem drop_end {w1 w' : World} {L O : List Pl} {m : Int × Int} {k n s c : Nat} {A : Option Addr} (hlt : k < L.length) (hT : cut (L.take (k + 1)) m = O) (hn : n = O.length) (ho : w'.ownsRow s 45 4 (.slice A O.length c) O.length (plCs O)) (hb : Below s w1 w') :
    (∃ (k1 : Nat) (A2 : Option Addr) (c2 : Nat), k1 ≤ L.length ∧ Value.slice A n c = .slice A2 (cut (L.take k1) m).length c2 ∧ Value.int .i64 ((k : Int) + 1) = .int .i64 (k1 : Nat) ∧
      Hid (w'.ownsRow s 45 4 (.slice A2 (cut (L.take k1) m).length c2) (cut (L.take k1) m).length (plCs (cut (L.take k1) m))) ∧ Hid (Below s w1 w')) ∧
    L.length - (intOf (.int .i64 ((k : Int) + 1))).toNat < L.length - (intOf (.int .i64 (k : Int))).toNat := by
  refine ⟨⟨k + 1, A, c, hlt, ?_, ?_, ?_, hb⟩, ?_⟩
  · rw [hT, hn]
  · simp
  · rw [hT]; exact ho
  · simp [intOf]; omega

set_option maxRecDepth 20000 in
set_option maxHeartbeats 8000000 in
theorem rdrop_any (w : World) (g : Nat) (L : List Pl) (mt mb : Int) (hl : L.length ≤ 1000000) (h : RM w g L) :
    Calls Tryz.prog 170 #[.pointer (some ⟨g, 0, none⟩), .int .u32 mt, .int .u64 mb] w
      (fun e w' => e = .returned (.bool (decide ((cut L (mt, mb)).length < L.length))) ∧ RM w' g (cut L (mt, mb)) ∧ Kp (fun i => i = g) w w') := by
  obtain ⟨A, c, hb, ho⟩ := h
  have hc := hb.cell 0
  have HB1 := Lib.hid hb
  have HO1 := Lib.hid ho
  have HLT := Lib.hid hb.lt
  clear hb ho
  go_enter Tryz.func170, Tryz.ntmps170
  go_wp2_with (fail)
  clear hc
  go_loopw [7, 8] (fun o i wr => ∃ (k : Nat) (A2 : Option Addr) (c2 : Nat), k ≤ L.length ∧ o = .slice A2 (cut (L.take k) (mt, mb)).length c2 ∧ i = .int .i64 k ∧
    Hid (wr.ownsRow w.heap.size 45 4 (.slice A2 (cut (L.take k) (mt, mb)).length c2) (cut (L.take k) (mt, mb)).length (plCs (cut (L.take k) (mt, mb)))) ∧ Hid (Below w.heap.size w wr)) (fun _ i _ => L.length - (intOf i).toNat)
  case atStart => exact ⟨0, none, 0, Nat.zero_le _, rfl, rfl, (show _ from ⟨rfl, .inl ⟨rfl, rfl⟩⟩), (show Hid _ from Below.refl _ _)⟩
  case round =>
    obtain ⟨k, A2, c2, hk, rfl, rfl, hown, hbl⟩ := hrel
    have HK := Lib.hid hk
    have hc : wr.cell? ⟨g, 0, none⟩ = some (.slice A L.length c) := (HB1.out.below hbl.out HLT.out).cell 0
    have HE := Lib.hid (cut_take_length L (mt, mb) k)
    have HBASE : Hid (w.heap.size ≤ wr.heap.size) := hbl.out.size
    by_cases hlt : k < L.length
    · have HT := Lib.hid (cut_take_succ L (mt, mb) k hlt)
      generalize cut (L.take k) (mt, mb) = O at *
      have HLEN : Hid (O.length ≤ 2000000) := by have h1 := HE.out; unfold Hid; omega
      obtain ⟨r, ex, rfl, hr⟩ : ∃ r ex, A = some ⟨r, 0, none⟩ ∧ Hid (Blk wr r 45 (plCs L ++ ex).toArray) := by
        obtain ⟨r, ex, e, _, hr⟩ := own_blk HO1.out (by omega)
        exact ⟨r, ex, e, hr.below hbl.out hr.lt⟩
      have hrow := plrow_of hr.out
      have hx0 := hrow.c0 k hlt
      have hx1 := hrow.c1 k hlt
      have hx2 := hrow.c2 k hlt
      have hx3 := hrow.c3 k hlt
      clear hrow hr
      generalize hx : L.getD k p0 = x at *
      clear hx
      obtain ⟨xt, xb, xz, xk⟩ := x
      simp only at hx0 hx1 hx2 hx3
      have hcase : (xt = mt ∧ xb = mb) ∨ (xt = mt ∧ ¬ xb = mb) ∨ ¬ xt = mt := by
        by_cases h1 : xt = mt <;> by_cases h2 : xb = mb <;> simp [h1, h2]
      rcases hcase with ⟨rfl, rfl⟩ | ⟨rfl, hxb⟩ | hxt
      · go_wp2_with (fail)
        exact drop_end hlt (HT.out.trans (if_pos rfl)) rfl hown.out hbl.out
      · have HN : Hid (¬ (⟨xt, xb, xz, xk⟩ : Pl).n = (xt, mb)) := by simp [Hid, Pl.n, hxb]
        go_wp2_with (first
          | (at_builtin
             refine wpList_append_pl _ rfl (.tmp 41) (.tmp 49) rfl O ⟨xt, xb, xz, xk⟩ hown.out rfl rfl rfl HLEN.out HBASE.out ?_
             intro A4 c4 w4 ho4 hk4 ha4
             have HB4 := Lib.hid (Kp.below hbl.out hk4 HBASE.out (fun b hb e => by have := (hown.out.lt b e).1; omega))
             have HO4 := Lib.hid ho4
             clear ho4 hk4 ha4))
        exact drop_end hlt (HT.out.trans (if_neg HN.out)) (by simp) HO4.out HB4.out
      · have HN : Hid (¬ (⟨xt, xb, xz, xk⟩ : Pl).n = (mt, mb)) := by simp [Hid, Pl.n, hxt]
        go_wp2_with (first
          | (at_builtin
             refine wpList_append_pl _ rfl (.tmp 41) (.tmp 49) rfl O ⟨xt, xb, xz, xk⟩ hown.out rfl rfl rfl HLEN.out HBASE.out ?_
             intro A4 c4 w4 ho4 hk4 ha4
             have HB4 := Lib.hid (Kp.below hbl.out hk4 HBASE.out (fun b hb e => by have := (hown.out.lt b e).1; omega))
             have HO4 := Lib.hid ho4
             clear ho4 hk4 ha4))
        exact drop_end hlt (HT.out.trans (if_neg HN.out)) (by simp) HO4.out HB4.out
    · have hkl : k = L.length := by omega
      subst hkl
      have hT : cut (L.take L.length) (mt, mb) = cut L (mt, mb) := by rw [List.take_length]
      have HLL := Lib.hid hl
      rw [hT] at hown ⊢
      have hfr : wr.frozen? ⟨g, 0, none⟩ = false := (HB1.out.below hbl.out HLT.out).frozen 0
      obtain ⟨O, hO⟩ : ∃ O, cut L (mt, mb) = O := ⟨_, rfl⟩
      rw [hO] at hown ⊢
      have HOE := Lib.hid hO
      clear hT hO HE
      go_wp2
      go_ret
      rw [HOE.out]
      refine ⟨ret_bool (by simp), ⟨A2, c2, ?_, ?_⟩, ?_⟩
      · have := (HB1.out.below hbl.out HLT.out).set_ 0 (.slice A2 O.length c2)
        simpa using this
      · exact own_zero (ownsRow_setCell_other (a := ⟨g, 0, none⟩) hown.out (fun e => by have h1 : w.heap.size ≤ g := (hown.out.lt _ e).1; have := HLT.out; omega) _)
      · exact ((Kp.refl (fun i => i = g) w).then_below hbl.out (Nat.le_refl _)).setCell (.inl rfl) _
end Go.Proofs.YtgjcofoicnnnhaaGreatDoor

/- Both maps together: a call on both; the chapter's example. -/
namespace Go.Proofs.YtgjcofoicnnnhaaGreatDoor
open Go.RowKit

theorem MapF.is_map {P : Program} {k : TypeId} {A B : Type} {C : KeyCode P k A} {ev : B → Value} {w : World} {b n : Nat} {F : A → Option B} (h : MapF C ev w b n F) : ∃ es cl, w.heap[b]? = some (.map es cl) := by
  obtain ⟨D, ⟨es, clock, hb, _⟩, _⟩ := h.is
  exact ⟨es, clock, hb⟩
theorem LM.no_cells {w : World} {f : LFp} {n : Nat} {L : List Pl} (h : LM w f n L) {g : Nat} {t : TypeId} {cs : Array Value} (hb : Blk w g t cs) : ¬ f.T g := by
  have aux : ∀ b, (∃ es cl, w.heap[b]? = some (.map es cl)) → g ≠ b := by
    rintro b ⟨es, cl, hm⟩ rfl
    unfold Blk at hb
    rw [hb] at hm
    cases hm
  obtain ⟨C, h3, _⟩ := h.counts
  rintro (e | e | e)
  · exact aux _ h.where_.is_map e
  · exact aux _ h.what.is_map e
  · exact aux _ h3.is_map e
theorem RM.kp {w w' : World} {f : LFp} {n g : Nat} {L M : List Pl} (h : RM w g M) (hl : LM w f n L) (hk : Kp f.T w w') : RM w' g M := by
  obtain ⟨A, c, hb, ho⟩ := h
  refine ⟨A, c, hk.blk hb (hl.no_cells hb), ?_⟩
  refine ⟨ho.1, ho.2.imp id ?_⟩
  rintro ⟨r, cap, cur, hv, h0, hr, rest⟩
  exact ⟨r, cap, cur, hv, h0, hk.blk (t := 45) hr (hl.no_cells (t := 45) hr), rest⟩
theorem RM.lt {w : World} {g : Nat} {M : List Pl} (h : RM w g M) : g < w.heap.size := by
  obtain ⟨A, c, hb, _⟩ := h
  exact hb.lt
theorem RM.below {w w' : World} {g : Nat} {M : List Pl} (h : RM w g M) (hb : Below w.heap.size w w') : RM w' g M := by
  obtain ⟨A, c, hg, ho⟩ := h
  refine ⟨A, c, hg.below hb hg.lt, ho.1, ho.2.imp id ?_⟩
  rintro ⟨r, cap, cur, hv, h0, hr, rest⟩
  exact ⟨r, cap, cur, hv, h0, Blk.below (t := 45) hr hb (Blk.lt (t := 45) hr), rest⟩
theorem LM.kp_ref {w w' : World} {f : LFp} {n g : Nat} {L M : List Pl} (h : LM w f n L) (hr : RM w g M) (hk : Kp (fun i => i = g) w w') : LM w' f n L := by
  obtain ⟨A, c, hb, _⟩ := hr
  refine h.kp hk ?_
  rintro i hi rfl
  rcases hi with e | e
  · exact h.blk.ne_ hb (by decide) e.symm
  · exact h.no_cells hb e

/-- Both maps, made behind W; of W nothing has changed. -/
structure MR (W w : World) (f : LFp) (g n : Nat) (L M : List Pl) : Prop where
  lm : LM w f n L
  rm : RM w g M
  bl : Below W.heap.size W w
  nf : ∀ i, f.S i → W.heap.size ≤ i
  ng : W.heap.size ≤ g
  len : M.length ≤ n

section
variable {W w w' : World} {f : LFp} {g n : Nat} {L M L' M' : List Pl}
theorem MR.below (h : MR W w f g n L M) (hb : Below w.heap.size w w') : MR W w' f g n L M :=
  ⟨h.lm.below hb, h.rm.below hb, h.bl.trans (hb.mono h.bl.size), h.nf, h.ng, h.len⟩
theorem MR.alloc (h : MR W w f g n L M) (o : Obj) : MR W (w.alloc o) f g n L M := h.below ((Below.refl _ _).alloc (Nat.le_refl _) o)
theorem MR.drewN (h : MR W w f g n L M) (m : Nat) : MR W (w.drewN m) f g n L M := h.below ⟨rfl, rfl, rfl, Nat.le_refl _, fun _ _ => rfl⟩
theorem MR.mono (h : MR W w f g n L M) {m : Nat} (hm : n ≤ m) : MR W w f g m L M := ⟨h.lm.mono hm, h.rm, h.bl, h.nf, h.ng, Nat.le_trans h.len hm⟩
theorem LFp.S_of_T {f : LFp} {i : Nat} (h : f.T i) : f.S i := .inr h
theorem MR.step_l (h : MR W w f g n L M) {m : Nat} (hm : n ≤ m) (hl : LM w' f m L') (hk : Kp f.T w w') : MR W w' f g m L' M :=
  ⟨hl, h.rm.kp h.lm hk, Kp.below h.bl hk h.bl.size (fun b hb e => by have := h.nf b (LFp.S_of_T e); omega), h.nf, h.ng, Nat.le_trans h.len hm⟩
theorem MR.step_r (h : MR W w f g n L M) (hr : RM w' g M') (hl : M'.length ≤ n) (hk : Kp (fun i => i = g) w w') : MR W w' f g n L M' :=
  ⟨h.lm.kp_ref h.rm hk, hr, Kp.below h.bl hk h.bl.size (fun b hb e => by have := h.ng; omega), h.nf, h.ng, hl⟩
end

theorem putRef_length (p : Pl) (L : List Pl) : (putRef p L).length ≤ L.length + 1 := by
  have := putTo_length p L L.length (Nat.le_refl _)
  unfold putRef
  split <;> simp_all

def stepL (o : Ox) (L : List Pl) : List Pl := if o.d then cut L o.p.n else o.p :: free (cut L o.p.n) o.p.a
def stepR (o : Ox) (M : List Pl) : List Pl := if o.d then cut M o.p.n else putRef o.p M
def stepOk (o : Ox) (L M : List Pl) : Bool := if o.d then (atOf L o.p.n).isSome == decide ((cut M o.p.n).length < M.length) else true

end Go.Proofs.YtgjcofoicnnnhaaGreatDoor

/- Putting into the reference's rising list: what is in it, and that it rises. -/
namespace Go.Proofs.YtgjcofoicnnnhaaGreatDoor
open Go.RowKit

theorem lessB_iff {a b : Pl} : lessB a b = true ↔ a.t < b.t ∨ (a.t = b.t ∧ a.b < b.b) := by
  unfold lessB
  split <;> simp_all <;> omega
theorem lessB_trans {a b c : Pl} (h1 : lessB a b = true) (h2 : lessB b c = true) : lessB a c = true := by
  rw [lessB_iff] at *
  omega
theorem lessB_irrefl {a : Pl} : lessB a a = false := by
  cases h : lessB a a
  · rfl
  · rw [lessB_iff] at h; omega
theorem lessB_total {a b : Pl} (h : a.n ≠ b.n) : lessB a b = true ∨ lessB b a = true := by
  have : ¬ (a.t = b.t ∧ a.b = b.b) := fun e => h (by unfold Pl.n; rw [e.1, e.2])
  rw [lessB_iff, lessB_iff]
  omega
theorem lessB_congr {a b c : Pl} (h : a.n = b.n) : lessB a c = lessB b c := by
  simp only [Pl.n, Prod.mk.injEq] at h
  unfold lessB
  rw [h.1, h.2]
def Rising (L : List Pl) : Prop := L.Pairwise (fun a b => lessB a b = true)

/-- Not yet the place where it belongs. -/
def early (p x : Pl) : Bool := !(lessB p x || decide (x.n = p.n))

theorem put_done (p : Pl) : ∀ (M O : List Pl), M.foldl (putStep p) (O, true) = (O ++ free (cut M p.n) p.a, true)
  | [], O => by simp [free, cut]
  | x :: r, O => by
    rw [List.foldl_cons]
    have e : putStep p (O, true) x = (O ++ free (cut [x] p.n) p.a, true) := by
      unfold putStep free cut
      by_cases h1 : x.n = p.n <;> by_cases h2 : x.a = p.a <;> simp [h1, h2]
    rw [e, put_done p r]
    unfold free cut
    rw [List.append_assoc, ← List.filter_append, ← List.filter_append]
    rfl
theorem put_wait (p : Pl) : ∀ (M O : List Pl), M.foldl (putStep p) (O, false) = if (M.dropWhile (early p)).isEmpty then (O ++ free (cut (M.takeWhile (early p)) p.n) p.a, false) else (O ++ free (cut (M.takeWhile (early p)) p.n) p.a ++ p :: free (cut (M.dropWhile (early p)) p.n) p.a, true)
  | [], O => by simp [free, cut]
  | x :: r, O => by
    rw [List.foldl_cons]
    cases he : early p x with
    | true =>
      have h0 : (lessB p x || decide (x.n = p.n)) = false := by simpa [early] using he
      have h1 : decide (x.n = p.n) = false := (Bool.or_eq_false_iff.1 h0).2
      have e : putStep p (O, false) x = (O ++ free (cut [x] p.n) p.a, false) := by
        unfold putStep free cut
        rw [h0]
        have h1' : ¬ x.n = p.n := by simpa using h1
        by_cases h2 : x.a = p.a <;> simp [h1', h2]
      rw [e, put_wait p r, List.takeWhile_cons_of_pos he, List.dropWhile_cons_of_pos he]
      have e2 : free (cut [x] p.n) p.a ++ free (cut (r.takeWhile (early p)) p.n) p.a = free (cut (x :: r.takeWhile (early p)) p.n) p.a := by
        unfold free cut
        rw [← List.filter_append, ← List.filter_append]
        rfl
      simp only [List.append_assoc, ← e2]
    | false =>
      have h0 : (lessB p x || decide (x.n = p.n)) = true := by rw [early, Bool.not_eq_false'] at he; exact he
      have hne : ¬ early p x = true := by rw [he]; decide
      rw [List.takeWhile_cons_of_neg hne, List.dropWhile_cons_of_neg hne]
      have e : putStep p (O, false) x = (O ++ [p] ++ free (cut [x] p.n) p.a, true) := by
        unfold putStep free cut
        rw [h0]
        by_cases h1 : x.n = p.n <;> by_cases h2 : x.a = p.a <;> simp [h1, h2]
      rw [e, put_done p r]
      have e2 : free (cut [x] p.n) p.a ++ free (cut r p.n) p.a = free (cut (x :: r) p.n) p.a := by
        unfold free cut
        rw [← List.filter_append, ← List.filter_append]
        rfl
      simp only [List.isEmpty_cons, Bool.false_eq_true, if_false, List.append_assoc, e2]
      simp [free, cut]
theorem putRef_eq (p : Pl) (M : List Pl) : putRef p M = free (cut (M.takeWhile (early p)) p.n) p.a ++ p :: free (cut (M.dropWhile (early p)) p.n) p.a := by
  unfold putRef putTo
  rw [List.take_length, put_wait p M []]
  cases hd : M.dropWhile (early p) with
  | nil => simp [free, cut]
  | cons y r => simp
theorem putRef_perm (p : Pl) (M : List Pl) : (putRef p M).Perm (p :: free (cut M p.n) p.a) := by
  rw [putRef_eq]
  refine List.perm_middle.trans (List.Perm.cons p ?_)
  have : free (cut M p.n) p.a = free (cut (M.takeWhile (early p)) p.n) p.a ++ free (cut (M.dropWhile (early p)) p.n) p.a := by
    unfold free cut
    rw [← List.filter_append, ← List.filter_append, List.takeWhile_append_dropWhile]
  rw [this]
theorem Rising.filter {L : List Pl} (h : Rising L) (f : Pl → Bool) : Rising (L.filter f) := List.Pairwise.filter _ h
theorem dropWhile_late (p : Pl) : ∀ (M : List Pl), Rising M → ∀ x ∈ M.dropWhile (early p), lessB p x = true ∨ x.n = p.n
  | [], _, x, hx => by cases hx
  | y :: r, h, x, hx => by
    obtain ⟨h1, h2⟩ := List.pairwise_cons.1 h
    cases he : early p y with
    | true =>
      rw [List.dropWhile_cons_of_pos he] at hx
      exact dropWhile_late p r h2 x hx
    | false =>
      rw [List.dropWhile_cons_of_neg (by rw [he]; decide)] at hx
      have h0 : (lessB p y || decide (y.n = p.n)) = true := by rw [early, Bool.not_eq_false'] at he; exact he
      rw [Bool.or_eq_true, decide_eq_true_eq] at h0
      rcases List.mem_cons.1 hx with rfl | hx
      · exact h0
      · rcases h0 with h0 | h0
        · exact .inl (lessB_trans h0 (h1 x hx))
        · exact .inl (by rw [← lessB_congr h0]; exact h1 x hx)
theorem putRef_rising (p : Pl) (M : List Pl) (h : Rising M) : Rising (putRef p M) := by
  rw [putRef_eq]
  have ht : Rising (M.takeWhile (early p)) := List.Pairwise.sublist (List.takeWhile_sublist _) h
  have hd : Rising (M.dropWhile (early p)) := List.Pairwise.sublist (List.dropWhile_sublist _) h
  have hlow : ∀ x ∈ free (cut (M.takeWhile (early p)) p.n) p.a, lessB x p = true := by
    intro x hx
    have hx1 := mem_cut.1 (mem_free.1 hx).1
    have he : early p x = true := List.all_eq_true.1 List.all_takeWhile x hx1.1
    have h0 : (lessB p x || decide (x.n = p.n)) = false := by simpa [early] using he
    have h3 := (Bool.or_eq_false_iff.1 h0).1
    rcases lessB_total hx1.2 with h4 | h4
    · exact h4
    · rw [h4] at h3; cases h3
  have hhigh : ∀ x ∈ free (cut (M.dropWhile (early p)) p.n) p.a, lessB p x = true := by
    intro x hx
    have hx1 := mem_cut.1 (mem_free.1 hx).1
    rcases dropWhile_late p M h x hx1.1 with h4 | h4
    · exact h4
    · exact absurd h4 hx1.2
  refine List.pairwise_append.2 ⟨(ht.filter _).filter _, List.pairwise_cons.2 ⟨hhigh, (hd.filter _).filter _⟩, fun a ha b hb => ?_⟩
  rcases List.mem_cons.1 hb with rfl | hb
  · exact hlow a ha
  · exact lessB_trans (hlow a ha) (hhigh b hb)
theorem rising_ext {A B : List Pl} (ha : Rising A) (hb : Rising B) (hp : A.Perm B) : A = B := by
  refine List.Perm.eq_of_pairwise (le := fun a b => lessB a b = true) ?_ ha hb hp
  intro a b _ _ h1 h2
  have := lessB_trans h1 h2
  rw [lessB_irrefl] at this
  cases this

/-- The reference's list is the map's, rising. -/
structure Twin (L M : List Pl) : Prop where
  perm : M.Perm L
  rise : Rising M
theorem Twin.nil : Twin [] [] := ⟨List.Perm.refl _, List.Pairwise.nil⟩
theorem Twin.step {L M : List Pl} (h : Twin L M) (o : Ox) : Twin (stepL o L) (stepR o M) := by
  unfold stepL stepR
  split
  · exact ⟨h.perm.filter _, h.rise.filter _⟩
  · exact ⟨(putRef_perm o.p M).trans ((List.Perm.filter _ (h.perm.filter _)).cons _), putRef_rising o.p M h.rise⟩
theorem Twin.ok {L M : List Pl} (h : Twin L M) (hu : Uniq L) (o : Ox) : stepOk o L M = true := by
  unfold stepOk
  split
  · have hl : M.length = L.length := h.perm.length_eq
    have hc : (cut M o.p.n).length = (cut L o.p.n).length := (h.perm.filter _).length_eq
    rw [hl, hc]
    cases hq : atOf L o.p.n with
    | none => rw [cut_none hq]; simp
    | some a =>
      obtain ⟨p, hp, h1, _⟩ := (atOf_some hu).1 hq
      have : (cut L o.p.n).length < L.length := by
        unfold cut
        refine List.length_filter_lt_length_iff_exists.2 ⟨p, hp, by simp [h1]⟩
      simp [this]
  · rfl
end Go.Proofs.YtgjcofoicnnnhaaGreatDoor

/- Two lists of places that are the same; all places of the reference. -/
namespace Go.Proofs.YtgjcofoicnnnhaaGreatDoor
open Go.RowKit

/-- A list of places stands in a row. -/
def RowAt (w : World) (A : Option Addr) (L : List Pl) : Prop := 0 < L.length → ∃ r, A = some ⟨r, 0, none⟩ ∧ PlRow w r L
/-- A slice that owns its places. -/
def OwnPl (w : World) (base : Nat) (A : Option Addr) (c : Nat) (L : List Pl) : Prop := w.ownsRow base 45 4 (.slice A L.length c) L.length (plCs L)
theorem OwnPl.row {w : World} {base c : Nat} {A : Option Addr} {L : List Pl} (h : OwnPl w base A c L) : RowAt w A L := fun hn => by
  obtain ⟨b, ex, rfl, _, hr⟩ := own_blk h hn
  exact ⟨b, rfl, plrow_of hr⟩
theorem OwnPl.below {w w' : World} {base c : Nat} {A : Option Addr} {L : List Pl} (h : OwnPl w base A c L) (hb : Below w.heap.size w w') : OwnPl w' base A c L :=
  World.ownsRow.kept (row := none) h ⟨hb.os, hb.tape, hb.output, hb.size, fun i hi _ => hb.block i hi⟩ (by cases (Value.slice A L.length c).ownBlock <;> simp)

set_option maxRecDepth 20000 in
theorem samepl_any (w : World) (A1 A2 : Option Addr) (c1 c2 : Nat) (L : List Pl) (hl : L.length ≤ 1000000) (h1 : RowAt w A1 L) (h2 : RowAt w A2 L) :
    Calls Tryz.prog 94 #[.slice A1 L.length c1, .slice A2 L.length c2] w (fun e w' => e = .returned (.bool true) ∧ ∃ n, w' = w.drewN n) := by
  have H1 := Lib.hid h1
  have H2 := Lib.hid h2
  clear h1 h2
  go_enter Tryz.func94, Tryz.ntmps94
  go_wp2_with (fail)
  go_loopw [5] (fun i wr => ∃ k n : Nat, k ≤ L.length ∧ i = .int .i64 k ∧ wr = w.drewN n) (fun i _ => L.length - (intOf i).toNat)
  case atStart => exact ⟨0, 0, Nat.zero_le _, rfl, rfl⟩
  case round =>
    obtain ⟨k, n, hk, rfl, rfl⟩ := hrel
    by_cases hlt : k < L.length
    · obtain ⟨r1, rfl, p1⟩ := H1.out (by omega)
      obtain ⟨r2, rfl, p2⟩ := H2.out (by omega)
      have a0 : (w.drewN n).cell? ⟨r1, k * 4, none⟩ = some (.int .u32 (L.getD k p0).t) := p1.c0 k hlt
      have a1 : (w.drewN n).cell? ⟨r1, k * 4 + 1, none⟩ = some (.int .u64 (L.getD k p0).b) := p1.c1 k hlt
      have a2 : (w.drewN n).cell? ⟨r1, k * 4 + 2, none⟩ = some (.int .i64 (L.getD k p0).z) := p1.c2 k hlt
      have a3 : (w.drewN n).cell? ⟨r1, k * 4 + 3, none⟩ = some (.int .i64 (L.getD k p0).k) := p1.c3 k hlt
      have b0 : (w.drewN n).cell? ⟨r2, k * 4, none⟩ = some (.int .u32 (L.getD k p0).t) := p2.c0 k hlt
      have b1 : (w.drewN n).cell? ⟨r2, k * 4 + 1, none⟩ = some (.int .u64 (L.getD k p0).b) := p2.c1 k hlt
      have b2 : (w.drewN n).cell? ⟨r2, k * 4 + 2, none⟩ = some (.int .i64 (L.getD k p0).z) := p2.c2 k hlt
      have b3 : (w.drewN n).cell? ⟨r2, k * 4 + 3, none⟩ = some (.int .i64 (L.getD k p0).k) := p2.c3 k hlt
      clear p1 p2
      generalize L.getD k p0 = x at *
      generalize hu : w.drewN n = u at *
      go_wp2_with (fail)
      go_quiet (fail)
      have HU := Lib.hid hu
      clear hu a0 a1 a2 a3 b0 b1 b2 b3
      go_wp2
      go_round
      case rel => exact ⟨k + 1, n + nq, hlt, by go_num, by rw [← HU.out]; simp⟩
      case measure => simp [intOf]; omega
    · go_wp2
      go_ret
      exact ⟨rfl, n, rfl⟩

theorem rall_any (w : World) (g : Nat) (M : List Pl) (hl : M.length ≤ 1000000) (h : RM w g M) :
    Calls Tryz.prog 95 #[.pointer (some ⟨g, 0, none⟩)] w (fun e w' => ∃ A c, e = .returned (.slice A M.length c) ∧ OwnPl w' w.heap.size A c M ∧ Below w.heap.size w w') := by
  obtain ⟨A, c, hb, ho⟩ := h
  have hc : w.cell? ⟨g, 0, none⟩ = some (.slice A M.length c) := hb.cell 0
  have HO := Lib.hid ho
  obtain ⟨i0, hi0, hz0, hz1, hz2⟩ := info_parts pl_info
  clear hb ho
  go_enter Tryz.func95, Tryz.ntmps95
  go_wp2_with (first
    | (at_builtin
       refine wpList_append_any w rfl (.tmp 4) (.tmp 8) _ rfl w.heap.size 45 i0 _ 4 32 Tryz.underlying36 hi0 hz0 hz1 hz2 rfl (by omega) (.slice none 0 0) 0 [] rfl ⟨rfl, .inl ⟨rfl, rfl⟩⟩ _ A M.length c (plCs M) rfl (Reads.of_own HO.out) (plCs_one M) (by simp only [maxLen]; omega) (by omega) (Nat.le_refl _) ?_
       intro v2 w2 hown2 hg2 _
       obtain ⟨A2, c2, rfl⟩ := own_form hown2
       have HO2 := Lib.hid hown2
       have HB2 := Lib.hid ((Below.refl w.heap.size w).grown hg2 (Nat.le_refl _) (fun g hg => by simp [Value.ownBlock] at hg))
       clear hown2 hg2))
  go_ret
  refine ⟨A2, c2, by simp, ?_, HB2.out⟩
  have := HO2.out
  simpa [OwnPl] using this
end Go.Proofs.YtgjcofoicnnnhaaGreatDoor

/- The library's sort at rows of structs: places by their block, names by themselves. -/
namespace Go.Proofs.YtgjcofoicnnnhaaGreatDoor
open Go.RowKit Go.Sort Go.Shelf

section
variable {α : Type} [Inhabited α]
theorem flat_get (enc : α → List Value) (k : Nat) (hk : ∀ x, (enc x).length = k) : ∀ (l : List α) (t : Nat), t < l.length * k → (l.flatMap enc)[t]? = some ((enc l.toArray[t / k]!)[t % k]!)
  | [], t, h => by simp at h
  | x :: r, t, h => by
    have k0 : 0 < k := by rcases Nat.eq_zero_or_pos k with h' | h'; · subst h'; simp at h
                          · exact h'
    rw [List.flatMap_cons]
    by_cases h1 : t < k
    · rw [List.getElem?_append_left (by rw [hk]; exact h1), Nat.div_eq_of_lt h1, Nat.mod_eq_of_lt h1]
      have : t < (enc x).length := by rw [hk]; exact h1
      simp [this]
    · rw [List.getElem?_append_right (by rw [hk]; omega), hk]
      have hlen : (x :: r).length * k = r.length * k + k := by simp [Nat.add_mul]
      have := flat_get enc k hk r (t - k) (by rw [hlen] at h; omega)
      rw [this]
      have e1 : t / k = (t - k) / k + 1 := Nat.div_eq_sub_div k0 (by omega)
      have e2 : t % k = (t - k) % k := Nat.mod_eq_sub_mod (by omega)
      rw [e1, e2]
      simp
theorem flat_toList (enc : α → List Value) (k : Nat) (hk : ∀ x, (enc x).length = k) (l : List α) : (flatK enc k l.toArray).toList = l.flatMap enc := by
  have hl : (l.flatMap enc).length = l.length * k := by
    induction l with
    | nil => simp
    | cons x r ih => simp [ih, hk, Nat.add_mul]; omega
  apply List.ext_getElem?
  intro t
  by_cases h : t < l.length * k
  · rw [flat_get enc k hk l t h, Array.getElem?_toList, Array.getElem?_eq_getElem (by simpa using h)]
    have := get_flatK enc k l.toArray t (by simpa using h)
    rw [getElem!_pos _ t (by simpa using h)] at this
    rw [this]
  · rw [List.getElem?_eq_none (l := (flatK enc k l.toArray).toList) (by simp; omega), List.getElem?_eq_none (l := l.flatMap enc) (by rw [hl]; omega)]

theorem holds_flat {w : World} {g : Nat} {cur : Array Value} {e : TypeId} {F : Array Value} (hb : w.heap[g]? = some (.cells cur e (0, 0))) (ht : cur.toList.take F.size = F.toList) : Holds id w g 0 F := by
  intro j hj
  refine ⟨?_, by simp [World.frozen?, hb]⟩
  have h1 : (cur.toList.take F.size)[j]? = F.toList[j]? := by rw [ht]
  rw [List.getElem?_take_of_lt hj] at h1
  simp only [World.cell?, hb, Nat.zero_add]
  simp only [Option.isSome_none, Bool.false_eq_true, if_false]
  rw [← Array.getElem?_toList, h1, Array.getElem?_toList, Array.getElem?_eq_getElem hj]
  simp [hj]

theorem after_flat {w : World} {g n : Nat} {os : Array Obj} {cur : Array Value} {e : TypeId} (F : Array Value) (hF : F.size ≤ cur.size) (hb : w.heap[g]? = some (.cells cur e (0, 0))) :
    ∃ cur' : Array Value, (grow (putRow id (Sort.ahead w n) g 0 F) os).heap[g]? = some (.cells cur' e (0, 0)) ∧ cur'.size = cur.size ∧ cur'.toList.take F.size = F.toList ∧ Kp (fun i => i = g) w (grow (putRow id (Sort.ahead w n) g 0 F) os) := by
  have hg : g < w.heap.size := (Array.getElem?_eq_some_iff.1 hb).1
  refine ⟨putCells id 0 F cur, ?_, by simp [putCells], ?_, ⟨rfl, rfl, rfl, by simp [grow, putRow, mapBlock, Sort.ahead], fun k hk hne => ?_⟩⟩
  · rw [heap_grow_old _ _ (by simpa [putRow, mapBlock, Sort.ahead] using hg)]
    simp [putRow, mapBlock, Sort.ahead, Array.getElem?_modify, hb, onCells]
  · apply List.ext_getElem?
    intro j
    by_cases hj : j < F.size
    · rw [List.getElem?_take_of_lt hj, Array.getElem?_toList, Array.getElem?_toList]
      simp [putCells, hj, show j < cur.size by omega]
    · rw [List.getElem?_take_eq_none (by omega), List.getElem?_eq_none (by simp; omega)]
  · rw [heap_grow_old _ _ (by simpa [putRow, mapBlock, Sort.ahead] using hk)]
    have : g ≠ k := fun e => hne e.symm
    simp [putRow, mapBlock, Sort.ahead, Array.getElem?_modify, this]
end

instance : Inhabited Pl := ⟨p0⟩

/-- How the one in a zone is told from the other: by its block. -/
def byBlock (x y : Pl) : Int := Lib.compareInt x.k y.k
theorem byBlock_lt (x y : Pl) : ltOf byBlock x y = decide (x.k < y.k) := by
  unfold ltOf byBlock Lib.compareInt
  by_cases h1 : x.k < y.k
  · simp [h1]
  · by_cases h2 : y.k < x.k <;> simp [h1, h2]
theorem byBlock_swo : SWO (ltOf byBlock) where
  irrefl x := by rw [byBlock_lt]; simp
  trans x y z h1 h2 := by rw [byBlock_lt] at *; simp at *; omega
  ntrans x y z h1 h2 := by rw [byBlock_lt] at *; simp at *; omega

set_option maxHeartbeats 1000000 in
theorem inCmp_any (x y : Pl) (W : World) : Calls Tryz.prog 163 #[.agg #[.int .u32 x.t, .int .u64 x.b, .int .i64 x.z, .int .i64 x.k], .agg #[.int .u32 y.t, .int .u64 y.b, .int .i64 y.z, .int .i64 y.k]] W
    fun e w' => e = .returned (.int .i64 (byBlock x y)) ∧ ∃ q os', w' = grow (W.drewN q) os' := by
  have hcon := fun W' => AnyG.cmp_Compare_int cmpInt x.k y.k W'
  change ∀ W', Calls Tryz.prog 164 _ _ _ at hcon
  unfold byBlock
  generalize Lib.compareInt x.k y.k = r at hcon ⊢
  go_enter Tryz.func163, Tryz.ntmps163
  go_wp2_with (go_at_call 164; refine (hcon _).mono ?_; rintro e w' ⟨rfl, rfl⟩)
  go_ret
  exact ⟨rfl, 0, _, by rw [alloc_eq_grow, alloc_eq_grow, grow_grow]; rfl⟩

/-- A row of places, sorted by their blocks. -/
theorem sort_pl (w : World) (base g cap : Nat) (L : List Pl) (hL : L.length ≤ 1000000) (h0 : 0 < L.length) (h : OwnPl w base (some ⟨g, 0, none⟩) cap L) :
    Calls Tryz.prog 162 #[.slice (some ⟨g, 0, none⟩) L.length cap, .func (.func 163) #[] #[]] w
      (fun e w' => e = .returned (.tuple #[]) ∧ ∃ S : List Pl, S.Perm L ∧ S.Pairwise (fun a b => a.k ≤ b.k) ∧ S.length = L.length ∧ OwnPl w' base (some ⟨g, 0, none⟩) cap S ∧ Kp (fun i => i = g) w w') := by
  have eg : ∀ args w, (callFunc 163 args).run Tryz.prog w = .ok (.enter 163 args) w := enters_of Tryz.func163 (by kernel_rfl) rfl
  obtain ⟨hlen, hx⟩ := h
  rcases hx with ⟨_, hz⟩ | ⟨g', cap', cur, hv, hbase, hb, hn, hcap, hcs, ht⟩
  · omega
  · injection hv with hA _ hC
    have hgg : g = g' := by injection hA with hA; injection hA
    subst hgg hC
    have hk : ∀ x : Pl, (plC x).length = 4 := fun _ => rfl
    have hfl : (flatK plC 4 L.toArray).toList = plCs L := flat_toList plC 4 hk L
    have hsz : (flatK plC 4 L.toArray).size = L.length * 4 := by simp
    have hH : HoldsK plC 4 w g 0 L.toArray := holds_flat hb (by rw [hfl, hsz]; exact ht)
    have hlt : g < w.heap.size := (Array.getElem?_eq_some_iff.1 hb).1
    have hcon := AnyQ.slices_SortFunc sortPl 4 Tryz.isAgg45 Tryz.sizeOf45 plC hk (fun x v hv => plCs_one [x] v (by simpa [plCs] using hv)) byBlock byBlock_swo 163 #[] g 0 cap L.toArray w eg (fun _ _ _ _ x y => inCmp_any x y _) hH hlt (by simp; omega)
    have e1 : L.toArray.size = L.length := by simp
    rw [e1] at hcon
    refine hcon.mono ?_
    rintro e w' ⟨rfl, d', n, os, hp, hs, rfl⟩
    obtain ⟨p1, _, p3⟩ := hp
    have hd : d'.size = L.length := by rw [p1, e1]
    have hS : d'.toList.length = L.length := by simpa using hd
    have hfl' : (flatK plC 4 d').toList = plCs d'.toList := by
      have := flat_toList plC 4 hk d'.toList
      simpa [plCs] using this
    have hsz' : (flatK plC 4 d').size = L.length * 4 := by simp [hd]
    obtain ⟨cur', c1, c2, c3, c4⟩ := after_flat (n := n) (os := os) (flatK plC 4 d') (by rw [hsz', hcs]; exact Nat.mul_le_mul_right 4 hn) hb
    refine ⟨rfl, d'.toList, ?_, ?_, hS, ⟨plCs_length _, .inr ⟨g, cap, cur', by rw [hS], hbase, c1, by rw [hS]; exact hn, hcap, by rw [c2, hcs], ?_⟩⟩, c4⟩
    · have h3 : (d'.extract 0 L.length).toList.Perm (L.toArray.extract 0 L.length).toList := p3
      simp [← hd] at h3
      rwa [hd, List.take_length] at h3
    · rw [List.pairwise_iff_getElem]
      intro i j hi hj hij
      have h1 := hs i j (Nat.zero_le _) hij (by rw [← hd]; simpa using hj)
      rw [byBlock_lt] at h1
      have hi' : i < d'.size := by simpa using hi
      have hj' : j < d'.size := by simpa using hj
      simp [hi', hj'] at h1
      simpa using h1
    · rw [hfl', hsz'] at c3
      rw [hS]
      exact c3
end Go.Proofs.YtgjcofoicnnnhaaGreatDoor

/- How names are told, the one from the other: by their tenant, then by their block. -/
namespace Go.Proofs.YtgjcofoicnnnhaaGreatDoor
open Go.RowKit Go.Sort Go.Shelf

theorem cmp32_any (x y : Int) (w : World) : Calls Tryz.prog 71 #[.int .u32 x, .int .u32 y] w fun e w' => e = .returned (.int .i64 (Lib.compareInt x y)) ∧ w' = w := by
  obtain ⟨v, hv⟩ : ∃ v, v = Lib.compareInt x y := ⟨_, rfl⟩
  rw [← hv]
  have HV := Lib.hid hv
  clear hv
  go_enter Tryz.func71, Tryz.ntmps71
  go_wp2
  all_goals
    go_ret
    refine ⟨ret_int ?_, rfl⟩
    rw [HV.out]
    unfold Lib.compareInt
    first
      | rw [if_pos (by omega)]
      | rw [if_neg (by omega), if_pos (by omega)]
      | rw [if_neg (by omega), if_neg (by omega)]
theorem cmp64_any (x y : Int) (w : World) : Calls Tryz.prog 72 #[.int .u64 x, .int .u64 y] w fun e w' => e = .returned (.int .i64 (Lib.compareInt x y)) ∧ w' = w := by
  obtain ⟨v, hv⟩ : ∃ v, v = Lib.compareInt x y := ⟨_, rfl⟩
  rw [← hv]
  have HV := Lib.hid hv
  clear hv
  go_enter Tryz.func72, Tryz.ntmps72
  go_wp2
  all_goals
    go_ret
    refine ⟨ret_int ?_, rfl⟩
    rw [HV.out]
    unfold Lib.compareInt
    first
      | rw [if_pos (by omega)]
      | rw [if_neg (by omega), if_pos (by omega)]
      | rw [if_neg (by omega), if_neg (by omega)]

def orI (a b : Int) : Int := if a = 0 then b else a
theorem or_any (a b : Int) (g : Nat) (w : World) (h0 : w.cell? ⟨g, 0, none⟩ = some (.int .i64 a)) (h1 : w.cell? ⟨g, 1, none⟩ = some (.int .i64 b)) :
    Calls Tryz.prog 70 #[.slice (some ⟨g, 0, none⟩) 2 2] w fun e w' => e = .returned (.int .i64 (orI a b)) ∧ w' = w := by
  go_enter Tryz.func70, Tryz.ntmps70
  go_wp2
  refine wp_loop_rounds 3 ?_
  by_cases ha : a = 0
  · subst ha
    by_cases hb : b = 0
    · subst hb
      repeat any_goals (rw [rounds_succ]; go_wp2)
      go_ret
      exact ⟨rfl, rfl⟩
    · have hb' : (b == 0) = false := by simpa using hb
      repeat any_goals (rw [rounds_succ]; go_wp2)
      go_ret
      exact ⟨rfl, rfl⟩
  · have ha' : (a == 0) = false := by simpa using ha
    have e : orI a b = a := if_neg ha
    repeat any_goals (rw [rounds_succ]; go_wp2)
    go_ret
    exact ⟨ret_int e.symm, rfl⟩

/-- By the tenant, then by the block. -/
def byName (x y : Int × Int) : Int := orI (Lib.compareInt x.1 y.1) (Lib.compareInt x.2 y.2)
theorem byName_lt (x y : Int × Int) : ltOf byName x y = decide (x.1 < y.1 ∨ (x.1 = y.1 ∧ x.2 < y.2)) := by
  unfold ltOf byName orI Lib.compareInt
  by_cases h1 : x.1 < y.1
  · simp [h1]
  · by_cases h2 : y.1 < x.1
    · have : ¬ x.1 = y.1 := by omega
      simp [h1, h2, this]
    · have : x.1 = y.1 := by omega
      by_cases h3 : x.2 < y.2
      · simp [this, h3]
      · by_cases h4 : y.2 < x.2 <;> simp [this, h3, h4]
theorem byName_swo : SWO (ltOf byName) where
  irrefl x := by rw [byName_lt]; simp
  trans x y z h1 h2 := by rw [byName_lt] at *; simp at *; omega
  ntrans x y z h1 h2 := by rw [byName_lt] at *; simp at *; omega

set_option maxRecDepth 4000 in
set_option maxHeartbeats 1000000 in
theorem nameCmp_any (x y : Int × Int) (W : World) : Calls Tryz.prog 38 #[.agg #[.int .u32 x.1, .int .u64 x.2], .agg #[.int .u32 y.1, .int .u64 y.2]] W
    fun e w' => e = .returned (.int .i64 (byName x y)) ∧ ∃ q os', w' = grow (W.drewN q) os' := by
  obtain ⟨x1, x2⟩ := x
  obtain ⟨y1, y2⟩ := y
  have H1 := Lib.hid (fun w => cmp32_any x1 y1 w)
  have H2 := Lib.hid (fun w => cmp64_any x2 y2 w)
  have H3 := Lib.hid (fun g w => or_any (Lib.compareInt x1 y1) (Lib.compareInt x2 y2) g w)
  unfold byName
  simp only
  generalize Lib.compareInt x1 y1 = c1 at *
  generalize Lib.compareInt x2 y2 = c2 at *
  have b1 := (Blk.new W 87 #[.int .u32 x1, .int .u64 x2]).alloc (.cells #[.int .u32 y1, .int .u64 y2] 87)
  have b2 := Blk.new (W.alloc (.cells #[.int .u32 x1, .int .u64 x2] 87)) 87 #[.int .u32 y1, .int .u64 y2]
  rw [World.size_alloc] at b2
  have hgr : (W.alloc (.cells #[.int .u32 x1, .int .u64 x2] 87)).alloc (.cells #[.int .u32 y1, .int .u64 y2] 87) = grow W (#[.cells #[.int .u32 x1, .int .u64 x2] 87] ++ #[.cells #[.int .u32 y1, .int .u64 y2] 87]) := by
    rw [alloc_eq_grow, alloc_eq_grow, grow_grow]
  go_enter Tryz.func38, Tryz.ntmps38
  go_upto_region 1 with (fail)
  obtain ⟨os, hos⟩ : ∃ os, (W.alloc (.cells #[.int .u32 x1, .int .u64 x2] 87)).alloc (.cells #[.int .u32 y1, .int .u64 y2] 87) = grow W os := ⟨_, hgr⟩
  have HOS := Lib.hid hos
  clear hgr hos
  change Code.wp _ _ _ _ ((W.alloc (.cells #[.int .u32 x1, .int .u64 x2] 87)).alloc (.cells #[.int .u32 y1, .int .u64 y2] 87))
  generalize (W.alloc (.cells #[.int .u32 x1, .int .u64 x2] 87)).alloc (.cells #[.int .u32 y1, .int .u64 y2] 87) = w1 at *
  have ks : w1.cell? ⟨W.heap.size, 0, none⟩ = some (.int .u32 x1) ∧ w1.cell? ⟨W.heap.size, 1, none⟩ = some (.int .u64 x2) ∧ w1.cell? ⟨W.heap.size + 1, 0, none⟩ = some (.int .u32 y1) ∧ w1.cell? ⟨W.heap.size + 1, 1, none⟩ = some (.int .u64 y2) :=
    ⟨b1.cell 0, b1.cell 1, b2.cell 0, b2.cell 1⟩
  have HB1 := Lib.hid b1
  have HB2 := Lib.hid b2
  have ks2 : (w1.drew.alloc (.cells #[.int .i64 c1, .int .i64 c2] 3)).cell? ⟨W.heap.size, 0, none⟩ = some (.int .u32 x1) ∧ (w1.drew.alloc (.cells #[.int .i64 c1, .int .i64 c2] 3)).cell? ⟨W.heap.size, 1, none⟩ = some (.int .u64 x2) ∧ (w1.drew.alloc (.cells #[.int .i64 c1, .int .i64 c2] 3)).cell? ⟨W.heap.size + 1, 0, none⟩ = some (.int .u32 y1) ∧ (w1.drew.alloc (.cells #[.int .i64 c1, .int .i64 c2] 3)).cell? ⟨W.heap.size + 1, 1, none⟩ = some (.int .u64 y2) :=
    ⟨(b1.drew.alloc _).cell 0, (b1.drew.alloc _).cell 1, (b2.drew.alloc _).cell 0, (b2.drew.alloc _).cell 1⟩
  have b3 := Blk.new w1.drew 3 #[.int .i64 c1, .int .i64 c2]
  have HQ := Lib.hid (H3.out _ _ (b3.cell 0) (b3.cell 1))
  clear b1 b2 b3
  go_region_held3 (fun u => u.cell? ⟨W.heap.size, 0, none⟩ = some (.int .u32 x1) ∧ u.cell? ⟨W.heap.size, 1, none⟩ = some (.int .u64 x2) ∧ u.cell? ⟨W.heap.size + 1, 0, none⟩ = some (.int .u32 y1) ∧ u.cell? ⟨W.heap.size + 1, 1, none⟩ = some (.int .u64 y2))
    (first | exact ks | exact ks2)
    (first
      | (go_at_call 71
         refine (H1.out _).mono ?_
         rintro e w2 ⟨rfl, rfl⟩)
      | (go_at_call 72
         refine (H2.out _).mono ?_
         rintro e w2 ⟨rfl, rfl⟩)
      | (go_at_call 70
         refine HQ.out.mono ?_
         rintro e w2 ⟨rfl, rfl⟩))
  all_goals
    clear ks ks2
    generalize hcc : orI c1 c2 = cc at *
    have HCC := Lib.hid hcc
    clear hcc
    go_wp2
    go_ret
    exact ⟨ret_int HCC.out.symm, 1, os ++ #[.cells #[.int .i64 c1, .int .i64 c2] 3], by rw [HOS.out, alloc_eq_grow, grow_grow]; rfl⟩

def nameC2 (x : Int × Int) : List Value := [.int .u32 x.1, .int .u64 x.2]
def nameCs (L : List (Int × Int)) : List Value := L.flatMap nameC2
theorem nameCs_length (L : List (Int × Int)) : (nameCs L).length = L.length * 2 := by
  induction L with
  | nil => rfl
  | cons p r ih => simp [nameCs, nameC2] at ih ⊢; omega
theorem nameCs_snoc (L : List (Int × Int)) (p : Int × Int) : nameCs (L ++ [p]) = nameCs L ++ nameC2 p := by simp [nameCs]
theorem nameCs_one (L : List (Int × Int)) : ∀ u ∈ nameCs L, u.oneCell' = true := by
  intro u hu
  obtain ⟨p, _, hp⟩ := List.mem_flatMap.1 hu
  simp only [nameC2, List.mem_cons, List.not_mem_nil, or_false] at hp
  rcases hp with rfl | rfl <;> rfl
/-- A slice that owns its names. -/
def OwnNm (w : World) (base : Nat) (A : Option Addr) (c : Nat) (L : List (Int × Int)) : Prop := w.ownsRow base 87 2 (.slice A L.length c) L.length (nameCs L)

theorem insNoneN (p : Option Addr) (cap : Nat) (fv : Value) (w : World) : Calls Tryz.prog 150 #[.slice p 0 cap, .int .i64 0, .int .i64 0, fv] w fun e w' => e = .returned (.tuple #[]) ∧ w' = w := by
  go_enter Tryz.func150, Tryz.ntmps150
  go_wp2
  refine wp_loop_rounds 1 ?_
  rw [rounds_succ]
  go_wp2
  go_end0
  exact ⟨rfl, rfl⟩
set_option maxHeartbeats 2000000 in
theorem pdqNoneN (p : Option Addr) (cap : Nat) (lim : Int) (fv : Value) (w : World) : Calls Tryz.prog 118 #[.slice p 0 cap, .int .i64 0, .int .i64 0, .int .i64 lim, fv] w fun e w' => e = .returned (.tuple #[]) ∧ w' = w := by
  have hi := fun W => insNoneN p cap fv W
  go_enter Tryz.func118, Tryz.ntmps118
  go_wp2
  refine wp_loop_rounds 1 ?_
  rw [rounds_succ]
  go_wp2_with (go_at_call 150; refine (hi _).mono ?_; rintro e w' ⟨rfl, rfl⟩)
  (try simp only [Exit.inBlock, Exit.then]); refine bodyPost_ret (results_none rfl _ _ _) rfl ?_
  exact ⟨rfl, rfl⟩
set_option maxHeartbeats 2000000 in
theorem sortNoneN (p : Option Addr) (cap : Nat) (fv : Value) (w : World) : Calls Tryz.prog 68 #[.slice p 0 cap, fv] w fun e w' => e = .returned (.tuple #[]) ∧ w' = w := by
  have hi := fun W lim => pdqNoneN p cap lim fv W
  go_enter Tryz.func68, Tryz.ntmps68
  go_wp2_with (first | (go_at_call 118; refine (hi _ _).mono ?_; rintro e w' ⟨rfl, rfl⟩) | go_in)
  go_end0
  exact ⟨rfl, rfl⟩

/-- A list of names, sorted. -/
theorem sort_nm (w : World) (base : Nat) (A : Option Addr) (cap : Nat) (L : List (Int × Int)) (hL : L.length ≤ 1000000) (h : OwnNm w base A cap L) :
    Calls Tryz.prog 68 #[.slice A L.length cap, .func (.func 38) #[] #[]] w
      (fun e w' => e = .returned (.tuple #[]) ∧ ∃ S : List (Int × Int), S.Perm L ∧ S.Pairwise (fun a b => ¬ (b.1 < a.1 ∨ (b.1 = a.1 ∧ b.2 < a.2))) ∧ S.length = L.length ∧ OwnNm w' base A cap S ∧ Kp (fun i => base ≤ i) w w') := by
  by_cases hz : L = []
  · subst hz
    refine (sortNoneN A cap _ w).mono ?_
    rintro e w' ⟨rfl, rfl⟩
    exact ⟨rfl, [], List.Perm.refl _, List.Pairwise.nil, rfl, h, Kp.refl _ _⟩
  have h0 : 0 < L.length := List.length_pos_iff.2 hz
  have eg : ∀ args w, (callFunc 38 args).run Tryz.prog w = .ok (.enter 38 args) w := enters_of Tryz.func38 (by kernel_rfl) rfl
  obtain ⟨hlen, hx⟩ := h
  rcases hx with ⟨_, hz⟩ | ⟨g, cap', cur, hv, hbase, hb, hn, hcap, hcs, ht⟩
  · omega
  · injection hv with hA _ hC
    subst hA hC
    have hk : ∀ x : Int × Int, (nameC2 x).length = 2 := fun _ => rfl
    have hfl : (flatK nameC2 2 L.toArray).toList = nameCs L := flat_toList nameC2 2 hk L
    have hsz : (flatK nameC2 2 L.toArray).size = L.length * 2 := by simp
    have hH : HoldsK nameC2 2 w g 0 L.toArray := holds_flat hb (by rw [hfl, hsz]; exact ht)
    have hlt : g < w.heap.size := (Array.getElem?_eq_some_iff.1 hb).1
    have hcon := AnyQ.slices_SortFunc sortNm 2 Tryz.isAgg87 Tryz.sizeOf87 nameC2 hk (fun x v hv => nameCs_one [x] v (by simpa [nameCs] using hv)) byName byName_swo 38 #[] g 0 cap L.toArray w eg (fun _ _ _ _ x y => nameCmp_any x y _) hH hlt (by simp; omega)
    have e1 : L.toArray.size = L.length := by simp
    rw [e1] at hcon
    refine hcon.mono ?_
    rintro e w' ⟨rfl, d', n, os, hp, hs, rfl⟩
    obtain ⟨p1, _, p3⟩ := hp
    have hd : d'.size = L.length := by rw [p1, e1]
    have hS : d'.toList.length = L.length := by simpa using hd
    have hfl' : (flatK nameC2 2 d').toList = nameCs d'.toList := by
      have := flat_toList nameC2 2 hk d'.toList
      simpa [nameCs] using this
    have hsz' : (flatK nameC2 2 d').size = L.length * 2 := by simp [hd]
    obtain ⟨cur', c1, c2, c3, c4⟩ := after_flat (n := n) (os := os) (flatK nameC2 2 d') (by rw [hsz', hcs]; exact Nat.mul_le_mul_right 2 hn) hb
    refine ⟨rfl, d'.toList, ?_, ?_, hS, ⟨nameCs_length _, .inr ⟨g, cap, cur', by rw [hS], hbase, c1, by rw [hS]; exact hn, hcap, by rw [c2, hcs], ?_⟩⟩, c4.mono (fun i _ e => by rw [e]; exact hbase)⟩
    · have h3 : (d'.extract 0 L.length).toList.Perm (L.toArray.extract 0 L.length).toList := p3
      simp [← hd] at h3
      rwa [hd, List.take_length] at h3
    · rw [List.pairwise_iff_getElem]
      intro i j hi hj hij
      have h1 := hs i j (Nat.zero_le _) hij (by rw [← hd]; simpa using hj)
      rw [byName_lt] at h1
      have hi' : i < d'.size := by simpa using hi
      have hj' : j < d'.size := by simpa using hj
      have h2 := of_decide_eq_false h1
      rw [getElem!_pos d' i hi', getElem!_pos d' j hj'] at h2
      simpa using h2
    · rw [hfl', hsz'] at c3
      rw [hS]
      exact c3
end Go.Proofs.YtgjcofoicnnnhaaGreatDoor

/- Maps as functions, ranged over. -/
namespace Go.Proofs.YtgjcofoicnnnhaaGreatDoor
open Go.Maps (Keyed)
open Go.RowKit

/-- Block b is such a map, block r an iterator over it: 'left a': is the entry at a still to come? -/
structure RangeF {P : Program} {k : TypeId} {A B : Type} (C : KeyCode P k A) (ev : B → Value) (w : World) (b r n : Nat) (F : A → Option B) (left : A → Bool) (cnt : Nat) : Prop where
  is : ∃ (D : DataW Value) (lf : Lit → Bool), w.ranges P k asHeld b r n D lf cnt ∧ (∀ a kl, C.ok a → keyOf P k (C.kv a) = some kl → ∀ z, D.atKey kl z = ((F a).map (fun x => DataW.held (ev x))).getD z) ∧ ∀ a kl, C.ok a → keyOf P k (C.kv a) = some kl → lf kl = left a

section
variable {P : Program} {k : TypeId} {A B : Type} {C : KeyCode P k A} {ev : B → Value} {w w' : World} {b r n : Nat} {F : A → Option B} {left : A → Bool} {cnt : Nat}

theorem ranges_of_heap {D : DataW Value} {lf : Lit → Bool} (h : w.ranges P k asHeld b r n D lf cnt) (hb : w'.heap[b]? = w.heap[b]?) (hr : w'.heap[r]? = w.heap[r]?) : w'.ranges P k asHeld b r n D lf cnt := by
  obtain ⟨es, clock, since, seen, c0, h1, h2, h3, h4, h5, h6⟩ := h
  exact ⟨es, clock, since, seen, c0, hb.trans h1, h2, h3, h4, hr.trans h5, h6⟩
theorem RangeF.of_heap (h : RangeF C ev w b r n F left cnt) (hb : w'.heap[b]? = w.heap[b]?) (hr : w'.heap[r]? = w.heap[r]?) : RangeF C ev w' b r n F left cnt := by
  obtain ⟨D, lf, h1, h2⟩ := h.is
  exact ⟨D, lf, ranges_of_heap h1 hb hr, h2⟩
theorem RangeF.lt (h : RangeF C ev w b r n F left cnt) : b < w.heap.size ∧ r < w.heap.size := by
  obtain ⟨D, lf, ⟨es, clock, since, seen, c0, h1, _, _, _, h5, _⟩, _⟩ := h.is
  exact ⟨(Array.getElem?_eq_some_iff.1 h1).1, (Array.getElem?_eq_some_iff.1 h5).1⟩
theorem RangeF.kp {S : Nat → Prop} (h : RangeF C ev w b r n F left cnt) (hk : Kp S w w') (hb : ¬ S b) (hr : ¬ S r) : RangeF C ev w' b r n F left cnt := h.of_heap (hk.block b h.lt.1 hb) (hk.block r h.lt.2 hr)
theorem RangeF.alloc (h : RangeF C ev w b r n F left cnt) (o : Obj) : RangeF C ev (w.alloc o) b r n F left cnt := h.kp ((Kp.refl (fun _ => False) w).alloc o) (fun e => e) (fun e => e)
theorem RangeF.below (h : RangeF C ev w b r n F left cnt) (hb : Below w.heap.size w w') : RangeF C ev w' b r n F left cnt := h.kp (S := fun _ => False) (Kp.of_below hb) (fun e => e) (fun e => e)
theorem RangeF.iter (h : RangeF C ev w b r n F left cnt) : ∃ a0 a1 a2 a3, w.heap[r]? = some (.mapIter a0 a1 a2 a3) := by
  obtain ⟨D, lf, ⟨es, clock, since, seen, c0, h1, _, _, _, h5, _⟩, _⟩ := h.is
  exact ⟨_, _, _, _, h5⟩
theorem RangeF.left_eq (h : RangeF C ev w b r n F left cnt) : w.rangeLeft b r = cnt := by
  obtain ⟨D, lf, h1, _⟩ := h.is
  exact h1.left_eq

section
variable {ops : Array Oper} {rest : List Oper} {o : Oper} {a : Act} {Q : Exit → Act → World → Prop}

theorem wpList_range_mapF (w : World) (hg : o.guard = none) (m : Operand) (t : TypeId) (hop : o.op = Op.range t m) (e : TypeId) (ht : P.underlying t = some (.map k e)) (hm : a.eval m = .map (some b)) (h : MapF C ev w b n F)
    (hK : ∀ w' cnt, RangeF C ev w' b w.heap.size n F (fun c => (F c).isSome) cnt → cnt ≤ n → Below w.heap.size w w' → w'.heap.size = w.heap.size + 1 → wpList P ops Q rest (a.put o.dst (.pointer (some ⟨w.heap.size, 0, none⟩))) w') :
    wpList P ops Q (o :: rest) a w := by
  obtain ⟨D, h1, h2, h3⟩ := h.is
  refine wpList_range_own w hg m t hop k e C.law ht asHeld b n D hm h1 ?_
  intro w' hr hgr hsz
  refine hK w' _ ⟨D, _, hr, fun c kl hc hkl => (h2 c kl hc hkl).2, fun c kl hc hkl => (h2 c kl hc hkl).1⟩ h1.size_le ⟨hgr.os, hgr.tape, hgr.output, hgr.size, fun i hi => hgr.block i hi (by simp)⟩ hsz

theorem wpList_next_mapF [DecidableEq A] (w : World) (hinv : ∀ v kl, keyOf P k v = some kl → ∃ c, C.ok c ∧ v = C.kv c) (hg : o.guard = none) (it : Operand) (hop : o.op = Op.next it false) (hit : a.eval it = .pointer (some ⟨r, 0, none⟩)) (h : RangeF C ev w b r n F left cnt)
    (hDone : (∀ c, C.ok c → left c = false) → wpList P ops Q rest (a.put o.dst (.tuple #[.bool false])) w)
    (hMore : ∀ (c : A) (x : B) (w' : World) (cnt' : Nat), C.ok c → left c = true → F c = some x → RangeF C ev w' b r n F (fun d => left d && !decide (d = c)) cnt' → cnt' < cnt → Kp (fun i => i = r) w w' → w'.heap.size = w.heap.size →
      (Instr.entry (.pointer (some ⟨r, 0, none⟩))).run P w' = .ok (.tuple #[C.kv c, ev x]) w' → wpList P ops Q rest (a.put o.dst (.tuple #[.bool true, C.kv c, ev x])) w') :
    wpList P ops Q (o :: rest) a w := by
  obtain ⟨D, lf, hr, hd, hl⟩ := h.is
  refine wpList_plain hg fun K' hK' => ?_
  unfold Oper.wp
  rcases hr.next C.law o.type with ⟨h0, hl0, hrun⟩ | ⟨key, v, kl, y, w', cnt', hkey, hlk, hv, hat, hrun, hrg, hlt, hgr, hsz, hen⟩
  · simp [execOp, hop, hit, hrun, Result.andThen]
    refine hK' _ _ (hDone fun c hc => ?_)
    obtain ⟨kl, hkl⟩ := C.isKey c hc
    rw [← hl c kl hc hkl, hl0]
  · obtain ⟨c, hc, rfl⟩ := hinv key kl hkey
    have hy : y = (.held v, []) := by unfold asHeld at hv; injection hv with hv; exact hv.symm
    subst hy
    have hF : ∃ x, F c = some x ∧ v = ev x := by
      have h1 := hd c kl hc hkey
      cases hFc : F c with
      | none =>
        have := (h1 .nil).symm.trans (hat .nil)
        rw [hFc] at this
        simp at this
      | some x =>
        have := (h1 .nil).symm.trans (hat .nil)
        rw [hFc] at this
        simp at this
        exact ⟨x, rfl, this.symm⟩
    obtain ⟨x, hFx, rfl⟩ := hF
    simp [execOp, hop, hit, hrun, Result.andThen]
    refine hK' _ _ (hMore c x w' cnt' hc (by rw [← hl c kl hc hkey]; exact hlk) hFx ⟨D, _, hrg, hd, fun d kd hd' hkd => ?_⟩ hlt (grownBy_kp hgr) hsz hen)
    show (lf kd && !kd.sameKey kl) = (left d && !decide (d = c))
    rw [hl d kd hd' hkd]
    by_cases hdc : d = c
    · subst hdc
      rw [hkey] at hkd
      cases hkd
      rw [WideAt.sameKey_self (C.law.key hkey)]
      simp
    · have hne : kd ≠ kl := fun e => hdc (C.inj d c (C.law.inj (e ▸ hkd) hkey))
      rw [Maps.sameKey_ne hne]
      simp [hdc]
end
end
end Go.Proofs.YtgjcofoicnnnhaaGreatDoor

/- The names of a map, handed out one by one (maps.Keys), after the guide's text at strings. -/
namespace Go.Proofs.YtgjcofoicnnnhaaGreatDoor
open Go.RowKit Go.Sort

set_option maxRecDepth 20000 in
theorem name_inv (v : Value) (kl : Lit) (h : keyOf Tryz.prog 87 v = some kl) : ∃ c, nameC.ok c ∧ v = nameC.kv c := by
  obtain ⟨m, hm⟩ : ∃ m, Tryz.prog.types.size + 1 = m + 1 + 1 := ⟨_, keys_size⟩
  obtain ⟨c1, c2, c3, c4, c5⟩ := keys_cells
  unfold keyOf at h
  rw [hm] at h
  clear hm
  rw [Tryz.underlying87] at h
  simp only [keys_own.1, Bool.true_and] at h
  split at h
  · rename_i hf
    cases v with
    | agg cs =>
      have hsz : cs.size = 2 := by simpa [Value.formed, Tryz.underlying87, c1] using hf
      obtain ⟨l⟩ := cs
      match l, hsz with
      | [x, y], _ =>
        simp [Value.cells, Program.keyLits, Tryz.underlying87, Tryz.underlying40, Tryz.underlying41, c1, c3, c4] at h
        cases x with
        | int q1 n1 =>
          by_cases e1 : q1 = .u32 ∧ (Lit.int .u32 n1).wf = true
          · cases y with
            | int q2 n2 =>
              by_cases e2 : q2 = .u64 ∧ (Lit.int .u64 n2).wf = true
              · obtain ⟨rfl, w1⟩ := e1
                obtain ⟨rfl, w2⟩ := e2
                exact ⟨(n1, n2), ⟨wf_u32' w1, wf_u64' w2⟩, rfl⟩
              · simp [e1, e2] at h
            | _ => simp [e1] at h
          · simp [e1] at h
        | _ => simp at h
    | _ => simp [Value.formed, Tryz.underlying87] at hf
  · cases h

/-- The names that have come: just those that are no longer to come. -/
def NCame (Fm : Int × Int → Option (Int × Int)) (ss : List (Int × Int)) (left : Lit → Bool) : Prop :=
  ss.Nodup ∧ ∀ x, x ∈ ss ↔ NameOk x ∧ (Fm x).isSome = true ∧ ∀ kl, keyOf Tryz.prog 87 (nameV x) = some kl → left kl = false
/-- All names. -/
def NAll (Fm : Int × Int → Option (Int × Int)) (ss : List (Int × Int)) : Prop := ss.Nodup ∧ ∀ x, x ∈ ss ↔ NameOk x ∧ (Fm x).isSome = true

set_option maxRecDepth 100000 in
set_option maxHeartbeats 4000000 in
theorem keys1_in (F : Fence) (n : Nat) (h10 : F.fn 69) (hro : F.round = none) (hn : 1 ≤ n) (l Bm b nn : Nat) (Fm : Int × Int → Option (Int × Int)) (J : List (Int × Int) → World → Prop)
    (hY : ∀ pre x W, J pre W → pre.length < nn → YieldAt F (n - 1) Tryz.prog l #[nameV x] W fun e W' => e = .returned (.bool true) ∧ J (pre ++ [x]) W' ∧ KeepsWalks W W')
    (W : World) (hJ : AbidesFrom W.heap.size J) (hm : W.cell? ⟨Bm, 0, none⟩ = some (.map (some b))) (hmap : MapF nameC addrV W b nn Fm) (h0 : J [] W) :
    CallsIn F n Tryz.prog 69 #[.func (.yield l) #[] #[], .pointer (some ⟨Bm, 0, none⟩)] W fun e W' => (∃ v, e = .returned v) ∧ ∃ ss : List (Int × Int), NAll Fm ss ∧ J ss W' := by
  obtain ⟨D, hown, hD1, hD2⟩ := hmap.is
  refine callsIn_of_wp Tryz.func69 rfl h10 ?_ hro
  simp only [Tryz.ntmps69, List.size_toArray, List.length_cons, List.length_nil, Nat.reduceAdd, Nat.reduceSub, Array.replicate_succ, Array.replicate_zero, List.push_toArray, List.append_toArray, List.nil_append, List.cons_append]
  gi_wp2_with (first
    | (gi_at_range; refine wpListIn_range_own _ rfl _ 91 rfl 87 43 nameC.law Tryz.underlying91 _ b nn _ rfl hown ?_; intro w0 hrg0 hg0 hs0)
    | gi_in)
  go_frame
  gi_loopw [3] (fun _ wr => ∃ (left : Lit → Bool) (cnt : Nat) (ss : List (Int × Int)), wr.ranges Tryz.prog 87 asHeld b W.heap.size nn D left cnt ∧ ss.length + cnt ≤ nn ∧ NCame Fm ss left ∧ J ss wr)
    (fun _ wr => wr.rangeLeft b W.heap.size)
  case atStart =>
    refine ⟨_, _, [], hrg0, by simpa using hown.size_le, ⟨List.Pairwise.nil, fun x => ⟨fun h => absurd h (by simp), fun hh => ?_⟩⟩, hJ [] W w0 none h0 hg0 (fun r e => by cases e)⟩
    obtain ⟨kl, hkl⟩ := nameV_key x hh.1
    have h1 := (hD1 x kl hh.1 hkl).1
    have h2 := hh.2.2 kl hkl
    rw [h1, hh.2.1] at h2
    cases h2
  case round =>
    obtain ⟨left, cnt, ss, hrg, hcs, hC, hJs⟩ := hrel
    gi_wp2_with (first
      | (gi_at_next; refine wpListIn_next_ranges _ rfl _ rfl 87 nameC.law asHeld nameV id (fun key kl hk => by obtain ⟨x, _, hx⟩ := name_inv key kl hk; exact ⟨x, hx⟩) (fun v _ _ => ⟨v, rfl⟩) b W.heap.size nn _ _ _ rfl hrg ?_ ?_)
      | gi_in)
    · intro hc0 hl0
      gi_wp2
      go_end0
      refine ⟨⟨_, rfl⟩, ss, ⟨hC.1, fun x => ?_⟩, hJs⟩
      rw [hC.2]
      exact ⟨fun h => ⟨h.1, h.2.1⟩, fun h => ⟨h.1, h.2, fun kl _ => hl0 kl⟩⟩
    · intro x1 x2 c kl yd yp w2 cnt2 hkey hlk hv hat hrg2 hlt hg2 hs2 hen
      have hJ2 : J ss w2 := hJ ss wr w2 (some W.heap.size) hJs hg2 (fun r e => by cases e; exact ⟨Nat.le_refl _, hrg.iter_walk⟩)
      have hJ3 : J ss (w2.alloc (.cells #[.int .u32 x1, .int .u64 x2] 87)) := hJ ss w2 _ none hJ2 (World.grownBy_alloc _ _ _) (fun r e => by cases e)
      obtain ⟨fn, tmps, assign, body, hy, hR⟩ := hY ss (x1, x2) _ hJ3 (by omega)
      have hok : NameOk (x1, x2) := by
        obtain ⟨c', hc, hx⟩ := name_inv _ _ hkey
        have : (x1, x2) = c' := nameC.inj _ _ hx
        rw [this]
        exact hc
      have hFx : (Fm (x1, x2)).isSome = true := by
        cases hf : Fm (x1, x2) with
        | some _ => rfl
        | none =>
          have h1 := (hD1 (x1, x2) kl hok hkey).2
          rw [hf] at h1
          have e1 := (h1 .nil).symm.trans (hat .nil)
          have e2 := (h1 (.lit (.bool true))).symm.trans (hat (.lit (.bool true)))
          simp at e1 e2
          rw [← e1] at e2
          cases e2
      have hC2 : NCame Fm (ss ++ [(x1, x2)]) (fun z => left z && !z.sameKey kl) := by
        refine ⟨List.nodup_append.2 ⟨hC.1, by simp, fun a ha b hb => ?_⟩, fun x => ?_⟩
        · simp only [List.mem_singleton] at hb
          subst hb
          rintro rfl
          have := ((hC.2 _).1 ha).2.2 kl hkey
          rw [this] at hlk
          cases hlk
        · rw [List.mem_append, hC.2 x, List.mem_singleton]
          constructor
          · rintro (⟨h3, h4, h5⟩ | rfl)
            · exact ⟨h3, h4, fun k2 hk2 => by show (left k2 && _) = false; rw [h5 k2 hk2]; rfl⟩
            · refine ⟨hok, hFx, fun k2 hk2 => ?_⟩
              rw [hkey] at hk2
              cases hk2
              show (left kl && !kl.sameKey kl) = false
              rw [WideAt.sameKey_self (nameC.law.key hkey)]
              simp
          · rintro ⟨h3, h4, h5⟩
            obtain ⟨k2, hk2⟩ := nameV_key x h3
            have h6 : (left k2 && !k2.sameKey kl) = false := h5 k2 hk2
            by_cases he : k2 = kl
            · subst he
              exact .inr (nameC.inj _ _ (nameC.law.inj hk2 hkey))
            · rw [Maps.sameKey_ne he] at h6
              refine .inl ⟨h3, h4, fun k3 hk3 => ?_⟩
              rw [hk2] at hk3
              cases hk3
              simpa using h6
      change (Instr.entry (.pointer (some ⟨W.heap.size, 0, none⟩))).run Tryz.prog w2 = .ok (.tuple #[.agg #[.int .u32 x1, .int .u64 x2], c]) w2 at hen
      change (Instr.yield l #[.agg #[.int .u32 x1, .int .u64 x2]]).run Tryz.prog (w2.alloc (.cells #[.int .u32 x1, .int .u64 x2] 87)) = _ at hy
      simp only [show nameV (x1, x2) = .agg #[.int .u32 x1, .int .u64 x2] from rfl]
      have HY := hy
      have hrgA := ranges_of_heap (w' := w2.alloc (.cells #[.int .u32 x1, .int .u64 x2] 87)) hrg2 (Below.heap_alloc _ _ _ (by obtain ⟨_, _, _, _, _, h1, _⟩ := hrg2; exact (Array.getElem?_eq_some_iff.1 h1).1)) (Below.heap_alloc _ _ _ (by obtain ⟨_, _, _, _, _, _, _, _, _, h5, _⟩ := hrg2; exact (Array.getElem?_eq_some_iff.1 h5).1))
      have HC2 := Lib.hid hC2
      have HRA := Lib.hid hrgA
      have HRG := Lib.hid hrg
      clear hs2 hC2 hC hJs hJ2 hJ3 hkey hlk hv hat hrg2 hg2 hok hFx hrgA hrg
      gi_wp2
      refine hR.mono ?_
      rintro e W3 ⟨rfl, hJ4, hk3⟩
      gi_wp2
      have hrg3 := HRA.out.of_walks hk3
      go_roundw
      case rel => exact ⟨_, cnt2, ss ++ [(x1, x2)], hrg3, by simp; omega, HC2.out, hJ4⟩
      case measure => rw [hrg3.left_eq, HRG.out.left_eq]; exact hlt
end Go.Proofs.YtgjcofoicnnnhaaGreatDoor

