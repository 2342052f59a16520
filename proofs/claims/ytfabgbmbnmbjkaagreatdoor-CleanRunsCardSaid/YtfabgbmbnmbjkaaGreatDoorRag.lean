/- Joined texts: Rm2 Rm3. -/
import Derived.Test.YtfabgbmbnmbjkaaGreatDoorRae
import Derived.Deep.Cut
/- Pruned. -/
namespace Go.Proofs.YtfabgbmbnmbjkaaGreatDoor
open Go.RowKit
set_option maxRecDepth 20000
def putStep (p : Pl) (s : List Pl × Bool) (x : Pl) : List Pl × Bool :=
 let hit := !s.2 && (lessB p x || decide (x.n = p.n))
 let o1 := if hit then s.1 ++ [p] else s.1
 (if !decide (x.n = p.n) && !decide (x.a = p.a) then o1 ++ [x] else o1, s.2 || hit)
def putTo (p : Pl) (L : List Pl) (k : Nat) : List Pl × Bool := (L.take k).foldl (putStep p) ([], false)
def putRef (p : Pl) (L : List Pl) : List Pl := if (putTo p L L.length).2 then (putTo p L L.length).1 else (putTo p L L.length).1 ++ [p]
theorem putTo_succ (p : Pl) (L : List Pl) (k : Nat) (h : k < L.length) : putTo p L (k + 1) = putStep p (putTo p L k) (L.getD k p0) := by
 unfold putTo
 rw [List.take_succ_eq_append_getElem h, List.foldl_append]
 simp [List.getD_eq_getElem?_getD, h]
theorem putStep_length (p : Pl) (s : List Pl × Bool) (x : Pl) : (putStep p s x).1.length + (if (putStep p s x).2 then 0 else 1) <= s.1.length + (if s.2 then 0 else 1) + 1 := by
 obtain ⟨o, d⟩ := s
 unfold putStep
 cases d with
 | true =>
   simp only [Bool.not_true, Bool.false_and, Bool.or_false, if_true, Bool.false_eq_true, if_false]
   split <;> simp
 | false =>
   cases lessB p x || decide (x.n = p.n) <;> simp only [Bool.not_false, Bool.true_and, Bool.false_or, if_true, Bool.false_eq_true, if_false] <;> split <;> simp
theorem putTo_length (p : Pl) (L : List Pl) (k : Nat) (h : k <= L.length) : (putTo p L k).1.length + (if (putTo p L k).2 then 0 else 1) <= k + 1 := by
 induction k with
 | zero => simp [putTo]
 | succ k ih =>
   rw [putTo_succ p L k h]
   have := putStep_length p (putTo p L k) (L.getD k p0)
   have := ih (by omega)
   omega
theorem pl_info : (Tryz.prog.info? 55).map (fun i => (i.zero, i.size, i.bytes)) = some (some (.agg #[.int .u32 0, .int .u64 0, .int .i64 0, .int .i64 0]), 4, 32) := by kernel_rfl
theorem reads_pl (w : World) (p : Pl) : Reads (w.alloc (.cells #[.int .u32 p.t, .int .u64 p.b, .int .i64 p.z, .int .i64 p.k] 55)) (w.heap.size + 1) 4 (some ⟨w.heap.size, 0, none⟩) 1 (plC p) := by
 have hb := Blk.new w 55 #[.int .u32 p.t, .int .u64 p.b, .int .i64 p.z, .int .i64 p.k]
 refine ⟨rfl, fun _ => ⟨_, rfl, Nat.lt_succ_self _, fun j u hu => ?_⟩⟩
 rw [show ((⟨w.heap.size, 0, none⟩ : Addr).add j) = ⟨w.heap.size, j, none⟩ by unfold Addr.add; split <;> simp_all, hb.cell, List.getElem?_toArray]
 exact hu
theorem wpList_append_pl (w : World) {ops : Array Oper} {rest : List Oper} {o : Oper} {a : Act} {Q : Exit -> Act -> World -> Prop} (hgd : o.guard = none) (s x : Operand)
    (ho : o.op = .call { callee := .builtin .append, args := #[s, x], argTypes := #[47, 47] }) {base c : Nat} {A : Option Addr} (O : List Pl) (p : Pl)
    (hown : w.ownsRow base 55 4 (.slice A O.length c) O.length (plCs O)) {n : Nat} (hn : n = O.length) (hs : a.eval s = .slice A n c) (hx : a.eval x = .slice (some ⟨w.heap.size, 0, none⟩) 1 1) (hlen : O.length <= 2000000) (hbase : base <= w.heap.size)
    (h : ∀ A' c' w', w'.ownsRow base 55 4 (.slice A' (O ++ [p]).length c') (O ++ [p]).length (plCs (O ++ [p])) -> Kp (fun i => (Value.slice A O.length c).ownBlock = some i) w w' -> ((Value.slice A' (O ++ [p]).length c').ownBlock = (Value.slice A O.length c).ownBlock ∨ ∃ g, (Value.slice A' (O ++ [p]).length c').ownBlock = some g ∧ w.heap.size < g) ->
      wpList Tryz.prog ops Q rest (a.put o.dst (.slice A' (O ++ [p]).length c')) w') :
    wpList Tryz.prog ops Q (o :: rest) a (w.alloc (.cells #[.int .u32 p.t, .int .u64 p.b, .int .i64 p.z, .int .i64 p.k] 55)) := by
 subst hn
 obtain ⟨i0, hi0, hz0, hz1, hz2⟩ := info_parts pl_info
 refine wpList_append_any _ hgd s x _ ho base 55 i0 _ 4 32 Tryz.underlying47 hi0 hz0 hz1 hz2 rfl (by omega) (.slice A O.length c) O.length (plCs O) hs (hown.alloc _) _ _ 1 1 (plC p) hx (reads_pl w p) ?_ (by simp only [maxLen]; omega) (by omega) (by simp; omega) ?_
 · intro u hu
   exact plCs_one [p] u (by simpa [plCs] using hu)
 · intro v' w' hown' hg hat
   obtain ⟨A', c', rfl⟩ := own_form hown'
   rw [<- plCs_snoc, show O.length + 1 = (O ++ [p]).length by simp] at hown'
   have hk : Kp (fun i => (Value.slice A O.length c).ownBlock = some i) w w' := by
    have h1 : Kp (fun i => (Value.slice A O.length c).ownBlock = some i) w (w.alloc (.cells #[.int .u32 p.t, .int .u64 p.b, .int .i64 p.z, .int .i64 p.k] 55)) := (Kp.refl _ w).alloc _
    have h2 : Kp (fun i => (Value.slice A O.length c).ownBlock = some i) (w.alloc (.cells #[.int .u32 p.t, .int .u64 p.b, .int .i64 p.z, .int .i64 p.k] 55)) w' := ⟨hg.os, hg.tape, hg.output, hg.size, fun i hi hn => hg.block i hi (fun e => hn e.symm)⟩
    exact h1.trans h2 (fun _ _ h => h)
   have := h A' c' w' hown' hk ?_
   · simpa using this
   · rw [show O.length + 1 = (O ++ [p]).length by simp] at hat
     rcases hat with e | e
     · exact .inl e
     · exact .inr ⟨_, e, by simp⟩
structure PutRd (w1 w' : World) (s sx : Nat) (x : Pl) (A : Option Addr) (c : Nat) (O : List Pl) : Prop where
  bl : Below s w1 w'
  at_ : Blk w' sx 55 #[.int .u32 x.t, .int .u64 x.b, .int .i64 x.z, .int .i64 x.k]
  own : w'.ownsRow s 55 4 (.slice A O.length c) O.length (plCs O)
  ne : (Value.slice A O.length c).ownBlock ≠ some sx
theorem PutRd.step {w1 w2 w3 : World} {s sx : Nat} {x p : Pl} {A A' : Option Addr} {c c' : Nat} {O : List Pl} (h : PutRd w1 w2 s sx x A c O) (hs : s <= w1.heap.size)
    (hown : w3.ownsRow s 55 4 (.slice A' (O ++ [p]).length c') (O ++ [p]).length (plCs (O ++ [p]))) (hk : Kp (fun i => (Value.slice A O.length c).ownBlock = some i) w2 w3)
    (hat : (Value.slice A' (O ++ [p]).length c').ownBlock = (Value.slice A O.length c).ownBlock ∨ ∃ g, (Value.slice A' (O ++ [p]).length c').ownBlock = some g ∧ w2.heap.size < g) : PutRd w1 w3 s sx x A' c' (O ++ [p]) :=
 ⟨Kp.below h.bl hk (Nat.le_trans hs h.bl.size) (fun b hb e => by have := (h.own.lt b e).1; omega), hk.blk h.at_ h.ne, hown, by
  rcases hat with e | ⟨g, e, hg⟩
  · rw [e]; exact h.ne
  · rw [e]; intro e2; injection e2 with e2; have := h.at_.lt; omega⟩
theorem PutRd.below {w1 w2 w3 : World} {s sx : Nat} {x : Pl} {A : Option Addr} {c : Nat} {O : List Pl} (h : PutRd w1 w2 s sx x A c O) (hs : s <= w1.heap.size) (hb : Below w2.heap.size w2 w3) : PutRd w1 w3 s sx x A c O :=
 ⟨h.bl.trans (hb.mono (Nat.le_trans hs h.bl.size)), h.at_.below hb h.at_.lt, h.own.kept ⟨hb.os, hb.tape, hb.output, hb.size, fun i hi _ => hb.block i hi⟩ (row := none) (by cases (Value.slice A O.length c).ownBlock <;> simp), h.ne⟩
theorem Kp.then_below {S : Nat -> Prop} {w w1 w2 : World} {B : Nat} (h : Kp S w w1) (hb : Below B w1 w2) (hB : w.heap.size <= B) : Kp S w w2 :=
 ⟨hb.os.trans h.os, hb.tape.trans h.tape, hb.output.trans h.output, Nat.le_trans h.size hb.size, fun b hl hn => (hb.block b (Nat.lt_of_lt_of_le hl hB)).trans (h.block b hl hn)⟩
theorem put_end {w w1 w' : World} {p x : Pl} {L O : List Pl} {d : Bool} {k n sx c : Nat} {A : Option Addr} (hlt : k < L.length) (hT : putTo p L (k + 1) = (O, d)) (hn : n = O.length) (hr : PutRd w1 w' (w.heap.size + 1) sx x A c O) :
    (∃ (k1 : Nat) (A2 : Option Addr) (c2 : Nat), k1 <= L.length ∧ Value.slice A n c = .slice A2 (putTo p L k1).1.length c2 ∧ Value.bool d = .bool (putTo p L k1).2 ∧ Value.int .i64 ((k : Int) + 1) = .int .i64 (k1 : Nat) ∧
      Hid (w'.ownsRow (w.heap.size + 1) 55 4 (.slice A2 (putTo p L k1).1.length c2) (putTo p L k1).1.length (plCs (putTo p L k1).1)) ∧ Hid (Below (w.heap.size + 1) w1 w')) ∧
    L.length - (intOf (.int .i64 ((k : Int) + 1))).toNat < L.length - (intOf (.int .i64 (k : Int))).toNat := by
 refine ⟨⟨k + 1, A, c, hlt, ?_, ?_, ?_, ?_, hr.bl⟩, ?_⟩
 · rw [hT, hn]
 · rw [hT]
 · simp
 · rw [hT]; exact hr.own
 · simp [intOf]; omega
set_option maxRecDepth 20000 in
set_option maxHeartbeats 8000000 in
theorem rputb_any (w : World) (g : Nat) (L : List Pl) (p : Pl) (hl : L.length <= 1000000) (h : RM w g L) :
    Calls Tryz.prog 99 #[.pointer (some ⟨g, 0, none⟩), .agg #[.int .u32 p.t, .int .u64 p.b, .int .i64 p.z, .int .i64 p.k]] w
      (fun e w' => e = .returned (.tuple #[]) ∧ RMb w' w.heap.size g (putRef p L) ∧ Kp (fun i => i = g) w w') := by
 obtain ⟨i0, hi0, hz0, hz1, hz2⟩ := info_parts pl_info
 have HL := Lib.hid (fun w q => less_any w p q)
 obtain ⟨A, c, hb, ho⟩ := h
 have hc := hb.cell 0
 have HB := Lib.hid hb
 have HO := Lib.hid ho
 have hlt := hb.lt
 clear hb ho
 go_enter Tryz.func99, Tryz.ntmps99
 go_wp2_with (fail)
 have hb1 := HB.out.alloc (.cells #[.int .u32 p.t, .int .u64 p.b, .int .i64 p.z, .int .i64 p.k] 55)
 have ho1 : (w.alloc (.cells #[.int .u32 p.t, .int .u64 p.b, .int .i64 p.z, .int .i64 p.k] 55)).ownsRow 0 55 4 (.slice A L.length c) L.length (plCs L) := HO.out.alloc _
 have hx1 := Blk.new w 55 #[.int .u32 p.t, .int .u64 p.b, .int .i64 p.z, .int .i64 p.k]
 have hs1 : (w.alloc (.cells #[.int .u32 p.t, .int .u64 p.b, .int .i64 p.z, .int .i64 p.k] 55)).heap.size = w.heap.size + 1 := by simp
 have hk1 := (Kp.refl (fun i => i = g) w).alloc (.cells #[.int .u32 p.t, .int .u64 p.b, .int .i64 p.z, .int .i64 p.k] 55)
 have HB1 := Lib.hid hb1
 have HO1 := Lib.hid ho1
 have HX1 := Lib.hid hx1
 have HS1 := Lib.hid hs1
 have HK1 := Lib.hid hk1
 have HLT := Lib.hid hlt
 clear hb1 ho1 hx1 hs1 hk1 HB HO hc hlt
 generalize w.alloc (.cells #[.int .u32 p.t, .int .u64 p.b, .int .i64 p.z, .int .i64 p.k] 55) = w1 at *
 go_loopw [4, 5, 6] (fun o d i wr => ∃ (k : Nat) (A2 : Option Addr) (c2 : Nat), k <= L.length ∧ o = .slice A2 (putTo p L k).1.length c2 ∧ d = .bool (putTo p L k).2 ∧ i = .int .i64 k ∧
   Hid (wr.ownsRow (w.heap.size + 1) 55 4 (.slice A2 (putTo p L k).1.length c2) (putTo p L k).1.length (plCs (putTo p L k).1)) ∧ Hid (Below (w.heap.size + 1) w1 wr)) (fun _ _ i _ => L.length - (intOf i).toNat)
 case atStart => exact ⟨0, none, 0, Nat.zero_le _, rfl, rfl, rfl, (show _ from ⟨rfl, .inl ⟨rfl, rfl⟩⟩), (show Hid _ from Below.refl _ _)⟩
 case round =>
  obtain ⟨k, A2, c2, hk, rfl, rfl, rfl, hown, hbl⟩ := hrel
  have HK := Lib.hid hk
  have hbg := hbl.out
  have hc : wr.cell? ⟨g, 0, none⟩ = some (.slice A L.length c) := (HB1.out.below hbl.out (by have := HLT.out; omega)).cell 0
  have hp0 : wr.cell? ⟨w.heap.size, 0, none⟩ = some (.int .u32 p.t) := (HX1.out.below hbl.out (by omega)).cell 0
  have hp1 : wr.cell? ⟨w.heap.size, 1, none⟩ = some (.int .u64 p.b) := (HX1.out.below hbl.out (by omega)).cell 1
  have hp2 : wr.cell? ⟨w.heap.size, 2, none⟩ = some (.int .i64 p.z) := (HX1.out.below hbl.out (by omega)).cell 2
  have hp3 : wr.cell? ⟨w.heap.size, 3, none⟩ = some (.int .i64 p.k) := (HX1.out.below hbl.out (by omega)).cell 3
  clear hbg
  have HE := Lib.hid (putTo_length p L k hk)
  by_cases hlt : k < L.length
  · have HT := Lib.hid (putTo_succ p L k hlt)
    generalize hO : putTo p L k = O at *
    obtain ⟨O, d⟩ := O
    simp only at hown HE ⊢
    clear hO
    obtain ⟨r, ex, rfl, hr⟩ : ∃ r ex, A = some ⟨r, 0, none⟩ ∧ Hid (Blk wr r 55 (plCs L ++ ex).toArray) := by
     obtain ⟨r, ex, e, _, hr⟩ := own_blk HO1.out (by omega)
     exact ⟨r, ex, e, hr.below hbl.out (by have := hr.lt; have := HS1.out; omega)⟩
    have hrow := plrow_of hr.out
    have hx0 := hrow.c0 k hlt
    have hx1 := hrow.c1 k hlt
    have hx2 := hrow.c2 k hlt
    have hx3 := hrow.c3 k hlt
    clear hrow
    generalize L.getD k p0 = x at *
    go_upto_region 7 with (fail)
    have hrd : PutRd w1 (wr.alloc (.cells #[.int .u32 x.t, .int .u64 x.b, .int .i64 x.z, .int .i64 x.k] 55)) (w.heap.size + 1) wr.heap.size x A2 c2 O :=
     ⟨hbl.out.alloc (by have := hbl.out.size; have := HS1.out; omega) _, Blk.new _ _ _, hown.out.alloc _, fun e => by have := (hown.out.lt _ e).2; omega⟩
    have hsx : w.heap.size + 1 <= wr.heap.size := by have := hbl.out.size; have := HS1.out; omega
    generalize wr.alloc (.cells #[.int .u32 x.t, .int .u64 x.b, .int .i64 x.z, .int .i64 x.k] 55) = w2 at *
    have HR := Lib.hid hrd
    clear hp0 hp1 hp2 hp3 hx0 hx1 hx2 hx3 hc hr hown hbl
    generalize wr.heap.size = sx at *
    have bp := HX1.out.below hrd.bl (Nat.lt_succ_self _)
    have bx := hrd.at_
    have hp0 : w2.cell? ⟨w.heap.size, 0, none⟩ = some (.int .u32 p.t) := bp.cell 0
    have hp1 : w2.cell? ⟨w.heap.size, 1, none⟩ = some (.int .u64 p.b) := bp.cell 1
    have hp2 : w2.cell? ⟨w.heap.size, 2, none⟩ = some (.int .i64 p.z) := bp.cell 2
    have hp3 : w2.cell? ⟨w.heap.size, 3, none⟩ = some (.int .i64 p.k) := bp.cell 3
    have hx0 : w2.cell? ⟨sx, 0, none⟩ = some (.int .u32 x.t) := bx.cell 0
    have hx1 : w2.cell? ⟨sx, 1, none⟩ = some (.int .u64 x.b) := bx.cell 1
    have hx2 : w2.cell? ⟨sx, 2, none⟩ = some (.int .i64 x.z) := bx.cell 2
    have hx3 : w2.cell? ⟨sx, 3, none⟩ = some (.int .i64 x.k) := bx.cell 3
    clear hrd bp bx
    have HSX := Lib.hid hsx
    clear hsx
    obtain ⟨xt, xb, xz, xk⟩ := x
    obtain ⟨sm, hsm, hsm2⟩ : ∃ sm : Bool, (xt == p.t && xb == p.b) = sm ∧ decide ((⟨xt, xb, xz, xk⟩ : Pl).n = p.n) = sm := by
     refine ⟨_, rfl, ?_⟩
     rw [Bool.eq_iff_iff]
     simp [Pl.n]
    have HSM := Lib.hid hsm2
    clear hsm2
    have hcase : (xt = p.t ∧ xb = p.b ∧ sm = true) ∨ (xt = p.t ∧ (xb == p.b) = false ∧ sm = false) ∨ ((xt == p.t) = false ∧ sm = false) := by
     rw [<- hsm]
     by_cases h1 : xt = p.t <;> by_cases h2 : xb = p.b <;> simp [h1, h2]
    clear hsm
    have hat : (xz = p.z ∧ xk = p.k) ∨ (xz = p.z ∧ ¬ xk = p.k) ∨ ¬ xz = p.z := by
     by_cases h1 : xz = p.z <;> by_cases h2 : xk = p.k <;> simp [h1, h2]
    generalize hla : lessB p ⟨xt, xb, xz, xk⟩ = la at *
    have HLX : Hid (∀ w, Calls Tryz.prog 153 #[plV p, plV ⟨xt, xb, xz, xk⟩] w (Makes (.bool la) w)) := fun w => by rw [<- hla]; exact HL.out w _
    have HLA := Lib.hid hla
    clear hla HL
    unfold plV at HLX
    simp only at hx0 hx1 hx2 hx3
    rcases hcase with ⟨rfl, rfl, rfl⟩ | ⟨rfl, hxb, rfl⟩ | ⟨hxt, rfl⟩
    all_goals
     go_wp2_with (fail)
     refine (HLX.out _).mono ?_
     rintro e w3 ⟨rfl, hb3⟩
     have hrd := HR.out.below (by have := HS1.out; omega) hb3
     have bp := HX1.out.below hrd.bl (Nat.lt_succ_self _)
     have bx := hrd.at_
     clear hp0 hp1 hp2 hp3 hx0 hx1 hx2 hx3 hb3
     have hp0 : w3.cell? ⟨w.heap.size, 0, none⟩ = some (.int .u32 p.t) := bp.cell 0
     have hp1 : w3.cell? ⟨w.heap.size, 1, none⟩ = some (.int .u64 p.b) := bp.cell 1
     have hp2 : w3.cell? ⟨w.heap.size, 2, none⟩ = some (.int .i64 p.z) := bp.cell 2
     have hp3 : w3.cell? ⟨w.heap.size, 3, none⟩ = some (.int .i64 p.k) := bp.cell 3
     have hx0 := bx.cell 0
     have hx1 := bx.cell 1
     have hx2 := bx.cell 2
     have hx3 := bx.cell 3
     simp only [List.getElem?_toArray, List.getElem?_cons_zero, List.getElem?_cons_succ] at hx0 hx1 hx2 hx3
     have HR3 := Lib.hid hrd
     have HS1x : Hid (w.heap.size + 1 <= w1.heap.size) := by have := HS1.out; unfold Hid; omega
     have HLEN1 : Hid (O.length <= 1500000) := by have h1 := HE.out; have h2 := HK.out; unfold Hid; split at h1 <;> omega
     have HLEN : Hid (O.length <= 2000000) := by have h1 := HE.out; have h2 := HK.out; unfold Hid; split at h1 <;> omega
     have HBASE : Hid (w.heap.size + 1 <= w3.heap.size) := by have := hrd.bl.size; have := HS1.out; unfold Hid; omega
     clear hrd bp bx HR
    · cases d
      · go_wp2_with (first
          | (at_builtin
             refine wpList_append_pl _ rfl (.tmp 49) (.tmp 51) rfl O p HR3.out.own rfl rfl rfl HLEN.out HBASE.out ?_
             intro A3 c3 w4 ho4 hk4 ha4
             have HR4 := Lib.hid (HR3.out.step HS1x.out ho4 hk4 ha4)
             clear ho4 hk4 ha4))
        all_goals exact put_end hlt (HT.out.trans (by unfold putStep; rw [HSM.out]; simp)) (by simp) HR4.out
      · go_wp2_with (fail)
        exact put_end hlt (HT.out.trans (by unfold putStep; rw [HSM.out]; simp)) rfl HR3.out
    · rcases hat with ⟨rfl, rfl⟩ | ⟨rfl, hat⟩ | hat
      · have HAT : Hid (decide ((⟨p.t, xb, p.z, p.k⟩ : Pl).a = p.a) = true) := by simp [Hid, Pl.a]
        cases d
        · cases la
          · go_wp2_with (fail)
            exact put_end hlt (HT.out.trans (by unfold putStep; rw [HSM.out, HLA.out, HAT.out]; simp)) (by simp) HR3.out
          · go_wp2_with (first
              | (at_builtin
                 refine wpList_append_pl _ rfl (.tmp 49) (.tmp 51) rfl O p HR3.out.own rfl rfl rfl HLEN.out HBASE.out ?_
                 intro A4 c4 w4 ho4 hk4 ha4
                 have HR4 := Lib.hid (HR3.out.step HS1x.out ho4 hk4 ha4)
                 clear ho4 hk4 ha4
                 have bp4 := HX1.out.below HR4.out.bl (Nat.lt_succ_self _)
                 have bx4 := HR4.out.at_
                 have q2 : w4.cell? ⟨w.heap.size, 2, none⟩ = some (.int .i64 p.z) := bp4.cell 2
                 have q3 : w4.cell? ⟨w.heap.size, 3, none⟩ = some (.int .i64 p.k) := bp4.cell 3
                 have y0 : w4.cell? ⟨sx, 0, none⟩ = some (.int .u32 p.t) := bx4.cell 0
                 have y1 : w4.cell? ⟨sx, 1, none⟩ = some (.int .u64 xb) := bx4.cell 1
                 have y2 : w4.cell? ⟨sx, 2, none⟩ = some (.int .i64 p.z) := bx4.cell 2
                 have y3 : w4.cell? ⟨sx, 3, none⟩ = some (.int .i64 p.k) := bx4.cell 3
                 clear bp4 bx4))
            exact put_end hlt (HT.out.trans (by unfold putStep; rw [HSM.out, HLA.out, HAT.out]; simp)) (by simp) HR4.out
        · go_wp2_with (fail)
          exact put_end hlt (HT.out.trans (by unfold putStep; rw [HSM.out, HLA.out, HAT.out]; simp)) (by simp) HR3.out
      · have HAT : Hid (decide ((⟨p.t, xb, p.z, xk⟩ : Pl).a = p.a) = false) := by simp [Hid, Pl.a, hat]
        cases d
        · cases la
          · go_wp2_with (first
              | (at_builtin
                 refine wpList_append_pl _ rfl (.tmp 62) (.tmp 64) rfl O ⟨p.t, xb, p.z, xk⟩ HR3.out.own rfl rfl rfl HLEN.out HBASE.out ?_
                 intro A4 c4 w4 ho4 hk4 ha4
                 have HR4 := Lib.hid (HR3.out.step HS1x.out ho4 hk4 ha4)
                 clear ho4 hk4 ha4))
            exact put_end hlt (HT.out.trans (by unfold putStep; rw [HSM.out, HLA.out, HAT.out]; simp)) (by simp) HR4.out
          · go_wp2_with (first
              | (at_builtin
                 refine wpList_append_pl _ rfl (.tmp 49) (.tmp 51) rfl O p HR3.out.own rfl rfl rfl HLEN.out HBASE.out ?_
                 intro A4 c4 w4 ho4 hk4 ha4
                 have HR4 := Lib.hid (HR3.out.step HS1x.out ho4 hk4 ha4)
                 clear ho4 hk4 ha4
                 have bp4 := HX1.out.below HR4.out.bl (Nat.lt_succ_self _)
                 have bx4 := HR4.out.at_
                 have q2 : w4.cell? ⟨w.heap.size, 2, none⟩ = some (.int .i64 p.z) := bp4.cell 2
                 have q3 : w4.cell? ⟨w.heap.size, 3, none⟩ = some (.int .i64 p.k) := bp4.cell 3
                 have y0 : w4.cell? ⟨sx, 0, none⟩ = some (.int .u32 p.t) := bx4.cell 0
                 have y1 : w4.cell? ⟨sx, 1, none⟩ = some (.int .u64 xb) := bx4.cell 1
                 have y2 : w4.cell? ⟨sx, 2, none⟩ = some (.int .i64 p.z) := bx4.cell 2
                 have y3 : w4.cell? ⟨sx, 3, none⟩ = some (.int .i64 xk) := bx4.cell 3
                 clear bp4 bx4)
              | (at_builtin
                 have hbase4 : Hid (w.heap.size + 1 <= w4.heap.size) := by have := HR4.out.bl.size; have := HS1x.out; unfold Hid; omega
                 have hlen4 : Hid ((O ++ [p]).length <= 2000000) := by have := HLEN1.out; unfold Hid; simp; omega
                 have hl4 : Hid (O.length + 1 = (O ++ [p]).length) := by simp [Hid]
                 refine wpList_append_pl _ rfl (.tmp 62) (.tmp 64) rfl (O ++ [p]) ⟨p.t, xb, p.z, xk⟩ HR4.out.own hl4.out rfl rfl hlen4.out hbase4.out ?_
                 intro A5 c5 w5 ho5 hk5 ha5
                 have HR5 := Lib.hid (HR4.out.step HS1x.out ho5 hk5 ha5)
                 clear ho5 hk5 ha5))
            exact put_end hlt (HT.out.trans (by unfold putStep; rw [HSM.out, HLA.out, HAT.out]; simp)) (by simp) HR5.out
        · go_wp2_with (first
            | (at_builtin
               refine wpList_append_pl _ rfl (.tmp 62) (.tmp 64) rfl O ⟨p.t, xb, p.z, xk⟩ HR3.out.own rfl rfl rfl HLEN.out HBASE.out ?_
               intro A4 c4 w4 ho4 hk4 ha4
               have HR4 := Lib.hid (HR3.out.step HS1x.out ho4 hk4 ha4)
               clear ho4 hk4 ha4))
          exact put_end hlt (HT.out.trans (by unfold putStep; rw [HSM.out, HLA.out, HAT.out]; simp)) (by simp) HR4.out
      · have HAT : Hid (decide ((⟨p.t, xb, xz, xk⟩ : Pl).a = p.a) = false) := by simp [Hid, Pl.a, hat]
        cases d
        · cases la
          · go_wp2_with (first
              | (at_builtin
                 refine wpList_append_pl _ rfl (.tmp 62) (.tmp 64) rfl O ⟨p.t, xb, xz, xk⟩ HR3.out.own rfl rfl rfl HLEN.out HBASE.out ?_
                 intro A4 c4 w4 ho4 hk4 ha4
                 have HR4 := Lib.hid (HR3.out.step HS1x.out ho4 hk4 ha4)
                 clear ho4 hk4 ha4))
            exact put_end hlt (HT.out.trans (by unfold putStep; rw [HSM.out, HLA.out, HAT.out]; simp)) (by simp) HR4.out
          · go_wp2_with (first
              | (at_builtin
                 refine wpList_append_pl _ rfl (.tmp 49) (.tmp 51) rfl O p HR3.out.own rfl rfl rfl HLEN.out HBASE.out ?_
                 intro A4 c4 w4 ho4 hk4 ha4
                 have HR4 := Lib.hid (HR3.out.step HS1x.out ho4 hk4 ha4)
                 clear ho4 hk4 ha4
                 have bp4 := HX1.out.below HR4.out.bl (Nat.lt_succ_self _)
                 have bx4 := HR4.out.at_
                 have q2 : w4.cell? ⟨w.heap.size, 2, none⟩ = some (.int .i64 p.z) := bp4.cell 2
                 have q3 : w4.cell? ⟨w.heap.size, 3, none⟩ = some (.int .i64 p.k) := bp4.cell 3
                 have y0 : w4.cell? ⟨sx, 0, none⟩ = some (.int .u32 p.t) := bx4.cell 0
                 have y1 : w4.cell? ⟨sx, 1, none⟩ = some (.int .u64 xb) := bx4.cell 1
                 have y2 : w4.cell? ⟨sx, 2, none⟩ = some (.int .i64 xz) := bx4.cell 2
                 have y3 : w4.cell? ⟨sx, 3, none⟩ = some (.int .i64 xk) := bx4.cell 3
                 clear bp4 bx4)
              | (at_builtin
                 have hbase4 : Hid (w.heap.size + 1 <= w4.heap.size) := by have := HR4.out.bl.size; have := HS1x.out; unfold Hid; omega
                 have hlen4 : Hid ((O ++ [p]).length <= 2000000) := by have := HLEN1.out; unfold Hid; simp; omega
                 have hl4 : Hid (O.length + 1 = (O ++ [p]).length) := by simp [Hid]
                 refine wpList_append_pl _ rfl (.tmp 62) (.tmp 64) rfl (O ++ [p]) ⟨p.t, xb, xz, xk⟩ HR4.out.own hl4.out rfl rfl hlen4.out hbase4.out ?_
                 intro A5 c5 w5 ho5 hk5 ha5
                 have HR5 := Lib.hid (HR4.out.step HS1x.out ho5 hk5 ha5)
                 clear ho5 hk5 ha5))
            exact put_end hlt (HT.out.trans (by unfold putStep; rw [HSM.out, HLA.out, HAT.out]; simp)) (by simp) HR5.out
        · go_wp2_with (first
            | (at_builtin
               refine wpList_append_pl _ rfl (.tmp 62) (.tmp 64) rfl O ⟨p.t, xb, xz, xk⟩ HR3.out.own rfl rfl rfl HLEN.out HBASE.out ?_
               intro A4 c4 w4 ho4 hk4 ha4
               have HR4 := Lib.hid (HR3.out.step HS1x.out ho4 hk4 ha4)
               clear ho4 hk4 ha4))
          exact put_end hlt (HT.out.trans (by unfold putStep; rw [HSM.out, HLA.out, HAT.out]; simp)) (by simp) HR4.out
    · rcases hat with ⟨rfl, rfl⟩ | ⟨rfl, hat⟩ | hat
      · have HAT : Hid (decide ((⟨xt, xb, p.z, p.k⟩ : Pl).a = p.a) = true) := by simp [Hid, Pl.a]
        cases d
        · cases la
          · go_wp2_with (fail)
            exact put_end hlt (HT.out.trans (by unfold putStep; rw [HSM.out, HLA.out, HAT.out]; simp)) (by simp) HR3.out
          · go_wp2_with (first
              | (at_builtin
                 refine wpList_append_pl _ rfl (.tmp 49) (.tmp 51) rfl O p HR3.out.own rfl rfl rfl HLEN.out HBASE.out ?_
                 intro A4 c4 w4 ho4 hk4 ha4
                 have HR4 := Lib.hid (HR3.out.step HS1x.out ho4 hk4 ha4)
                 clear ho4 hk4 ha4
                 have bp4 := HX1.out.below HR4.out.bl (Nat.lt_succ_self _)
                 have bx4 := HR4.out.at_
                 have q2 : w4.cell? ⟨w.heap.size, 2, none⟩ = some (.int .i64 p.z) := bp4.cell 2
                 have q3 : w4.cell? ⟨w.heap.size, 3, none⟩ = some (.int .i64 p.k) := bp4.cell 3
                 have y0 : w4.cell? ⟨sx, 0, none⟩ = some (.int .u32 xt) := bx4.cell 0
                 have y1 : w4.cell? ⟨sx, 1, none⟩ = some (.int .u64 xb) := bx4.cell 1
                 have y2 : w4.cell? ⟨sx, 2, none⟩ = some (.int .i64 p.z) := bx4.cell 2
                 have y3 : w4.cell? ⟨sx, 3, none⟩ = some (.int .i64 p.k) := bx4.cell 3
                 clear bp4 bx4))
            exact put_end hlt (HT.out.trans (by unfold putStep; rw [HSM.out, HLA.out, HAT.out]; simp)) (by simp) HR4.out
        · go_wp2_with (fail)
          exact put_end hlt (HT.out.trans (by unfold putStep; rw [HSM.out, HLA.out, HAT.out]; simp)) (by simp) HR3.out
      · have HAT : Hid (decide ((⟨xt, xb, p.z, xk⟩ : Pl).a = p.a) = false) := by simp [Hid, Pl.a, hat]
        cases d
        · cases la
          · go_wp2_with (first
              | (at_builtin
                 refine wpList_append_pl _ rfl (.tmp 62) (.tmp 64) rfl O ⟨xt, xb, p.z, xk⟩ HR3.out.own rfl rfl rfl HLEN.out HBASE.out ?_
                 intro A4 c4 w4 ho4 hk4 ha4
                 have HR4 := Lib.hid (HR3.out.step HS1x.out ho4 hk4 ha4)
                 clear ho4 hk4 ha4))
            exact put_end hlt (HT.out.trans (by unfold putStep; rw [HSM.out, HLA.out, HAT.out]; simp)) (by simp) HR4.out
          · go_wp2_with (first
              | (at_builtin
                 refine wpList_append_pl _ rfl (.tmp 49) (.tmp 51) rfl O p HR3.out.own rfl rfl rfl HLEN.out HBASE.out ?_
                 intro A4 c4 w4 ho4 hk4 ha4
                 have HR4 := Lib.hid (HR3.out.step HS1x.out ho4 hk4 ha4)
                 clear ho4 hk4 ha4
                 have bp4 := HX1.out.below HR4.out.bl (Nat.lt_succ_self _)
                 have bx4 := HR4.out.at_
                 have q2 : w4.cell? ⟨w.heap.size, 2, none⟩ = some (.int .i64 p.z) := bp4.cell 2
                 have q3 : w4.cell? ⟨w.heap.size, 3, none⟩ = some (.int .i64 p.k) := bp4.cell 3
                 have y0 : w4.cell? ⟨sx, 0, none⟩ = some (.int .u32 xt) := bx4.cell 0
                 have y1 : w4.cell? ⟨sx, 1, none⟩ = some (.int .u64 xb) := bx4.cell 1
                 have y2 : w4.cell? ⟨sx, 2, none⟩ = some (.int .i64 p.z) := bx4.cell 2
                 have y3 : w4.cell? ⟨sx, 3, none⟩ = some (.int .i64 xk) := bx4.cell 3
                 clear bp4 bx4)
              | (at_builtin
                 have hbase4 : Hid (w.heap.size + 1 <= w4.heap.size) := by have := HR4.out.bl.size; have := HS1x.out; unfold Hid; omega
                 have hlen4 : Hid ((O ++ [p]).length <= 2000000) := by have := HLEN1.out; unfold Hid; simp; omega
                 have hl4 : Hid (O.length + 1 = (O ++ [p]).length) := by simp [Hid]
                 refine wpList_append_pl _ rfl (.tmp 62) (.tmp 64) rfl (O ++ [p]) ⟨xt, xb, p.z, xk⟩ HR4.out.own hl4.out rfl rfl hlen4.out hbase4.out ?_
                 intro A5 c5 w5 ho5 hk5 ha5
                 have HR5 := Lib.hid (HR4.out.step HS1x.out ho5 hk5 ha5)
                 clear ho5 hk5 ha5))
            exact put_end hlt (HT.out.trans (by unfold putStep; rw [HSM.out, HLA.out, HAT.out]; simp)) (by simp) HR5.out
        · go_wp2_with (first
            | (at_builtin
               refine wpList_append_pl _ rfl (.tmp 62) (.tmp 64) rfl O ⟨xt, xb, p.z, xk⟩ HR3.out.own rfl rfl rfl HLEN.out HBASE.out ?_
               intro A4 c4 w4 ho4 hk4 ha4
               have HR4 := Lib.hid (HR3.out.step HS1x.out ho4 hk4 ha4)
               clear ho4 hk4 ha4))
          exact put_end hlt (HT.out.trans (by unfold putStep; rw [HSM.out, HLA.out, HAT.out]; simp)) (by simp) HR4.out
      · have HAT : Hid (decide ((⟨xt, xb, xz, xk⟩ : Pl).a = p.a) = false) := by simp [Hid, Pl.a, hat]
        cases d
        · cases la
          · go_wp2_with (first
              | (at_builtin
                 refine wpList_append_pl _ rfl (.tmp 62) (.tmp 64) rfl O ⟨xt, xb, xz, xk⟩ HR3.out.own rfl rfl rfl HLEN.out HBASE.out ?_
                 intro A4 c4 w4 ho4 hk4 ha4
                 have HR4 := Lib.hid (HR3.out.step HS1x.out ho4 hk4 ha4)
                 clear ho4 hk4 ha4))
            exact put_end hlt (HT.out.trans (by unfold putStep; rw [HSM.out, HLA.out, HAT.out]; simp)) (by simp) HR4.out
          · go_wp2_with (first
              | (at_builtin
                 refine wpList_append_pl _ rfl (.tmp 49) (.tmp 51) rfl O p HR3.out.own rfl rfl rfl HLEN.out HBASE.out ?_
                 intro A4 c4 w4 ho4 hk4 ha4
                 have HR4 := Lib.hid (HR3.out.step HS1x.out ho4 hk4 ha4)
                 clear ho4 hk4 ha4
                 have bp4 := HX1.out.below HR4.out.bl (Nat.lt_succ_self _)
                 have bx4 := HR4.out.at_
                 have q2 : w4.cell? ⟨w.heap.size, 2, none⟩ = some (.int .i64 p.z) := bp4.cell 2
                 have q3 : w4.cell? ⟨w.heap.size, 3, none⟩ = some (.int .i64 p.k) := bp4.cell 3
                 have y0 : w4.cell? ⟨sx, 0, none⟩ = some (.int .u32 xt) := bx4.cell 0
                 have y1 : w4.cell? ⟨sx, 1, none⟩ = some (.int .u64 xb) := bx4.cell 1
                 have y2 : w4.cell? ⟨sx, 2, none⟩ = some (.int .i64 xz) := bx4.cell 2
                 have y3 : w4.cell? ⟨sx, 3, none⟩ = some (.int .i64 xk) := bx4.cell 3
                 clear bp4 bx4)
              | (at_builtin
                 have hbase4 : Hid (w.heap.size + 1 <= w4.heap.size) := by have := HR4.out.bl.size; have := HS1x.out; unfold Hid; omega
                 have hlen4 : Hid ((O ++ [p]).length <= 2000000) := by have := HLEN1.out; unfold Hid; simp; omega
                 have hl4 : Hid (O.length + 1 = (O ++ [p]).length) := by simp [Hid]
                 refine wpList_append_pl _ rfl (.tmp 62) (.tmp 64) rfl (O ++ [p]) ⟨xt, xb, xz, xk⟩ HR4.out.own hl4.out rfl rfl hlen4.out hbase4.out ?_
                 intro A5 c5 w5 ho5 hk5 ha5
                 have HR5 := Lib.hid (HR4.out.step HS1x.out ho5 hk5 ha5)
                 clear ho5 hk5 ha5))
            exact put_end hlt (HT.out.trans (by unfold putStep; rw [HSM.out, HLA.out, HAT.out]; simp)) (by simp) HR5.out
        · go_wp2_with (first
            | (at_builtin
               refine wpList_append_pl _ rfl (.tmp 62) (.tmp 64) rfl O ⟨xt, xb, xz, xk⟩ HR3.out.own rfl rfl rfl HLEN.out HBASE.out ?_
               intro A4 c4 w4 ho4 hk4 ha4
               have HR4 := Lib.hid (HR3.out.step HS1x.out ho4 hk4 ha4)
               clear ho4 hk4 ha4))
          exact put_end hlt (HT.out.trans (by unfold putStep; rw [HSM.out, HLA.out, HAT.out]; simp)) (by simp) HR4.out
  · have hkl : k = L.length := by omega
    subst hkl
    have HFIN : Hid (putRef p L = if (putTo p L L.length).2 then (putTo p L L.length).1 else (putTo p L L.length).1 ++ [p]) := rfl
    generalize hO : putTo p L L.length = O at *
    obtain ⟨O, d⟩ := O
    simp only at hown HE HFIN ⊢
    clear hO
    have HGL : Hid (g < w.heap.size + 1) := by have := HLT.out; unfold Hid; omega
    have HS1x : Hid (w.heap.size + 1 <= w1.heap.size) := by have := HS1.out; unfold Hid; omega
    have HLEN : Hid (O.length <= 2000000) := by have h1 := HE.out; unfold Hid; split at h1 <;> omega
    have HBASE : Hid (w.heap.size + 1 <= wr.heap.size) := by have := hbl.out.size; have := HS1.out; unfold Hid; omega
    have hgw : g < wr.heap.size := by have := HBASE.out; have := HGL.out; omega
    have hfr : wr.frozen? ⟨g, 0, none⟩ = false := (HB1.out.below hbl.out HGL.out).frozen 0
    cases d with
    | true =>
      have HF : Hid (putRef p L = O) := HFIN.out
      go_wp2
      go_end0
      refine ⟨rfl, ⟨A2, c2, ?_, ?_⟩, ?_⟩
      · rw [HF.out]
        have := (HB1.out.below hbl.out HGL.out).set_ 0 (.slice A2 O.length c2)
        simpa using this
      · rw [HF.out]
        exact own_less (base' := w.heap.size) (ownsRow_setCell_other (a := ⟨g, 0, none⟩) hown.out (fun e => by have h1 : w.heap.size + 1 <= g := (hown.out.lt _ e).1; have := HGL.out; omega) _) (Nat.le_succ _)
      · exact (HK1.out.then_below hbl.out (Nat.le_succ _)).setCell (.inl rfl) _
    | false =>
      have HF : Hid (putRef p L = O ++ [p]) := HFIN.out
      go_wp2_with (first
        | (at_builtin
           refine wpList_append_pl _ rfl (.tmp 68) (.tmp 70) rfl O p hown.out rfl rfl rfl HLEN.out HBASE.out ?_
           intro A4 c4 w4 ho4 hk4 ha4
           have b4 : Below (w.heap.size + 1) w1 w4 := Kp.below hbl.out hk4 HBASE.out (fun b hb e => by have := (hown.out.lt b e).1; omega)
           have hg4 := HB1.out.below b4 HGL.out
           have hc4 : w4.cell? ⟨g, 0, none⟩ = some (.slice A L.length c) := hg4.cell 0
           have hf4 : w4.frozen? ⟨g, 0, none⟩ = false := hg4.frozen 0
           have HO4 := Lib.hid ho4
           have HB4 := Lib.hid b4
           have HG4 := Lib.hid hg4
           clear ho4 hk4 ha4 b4 hg4))
      go_end0
      refine ⟨rfl, ⟨A4, c4, ?_, ?_⟩, ?_⟩
      · rw [HF.out]
        have := HG4.out.set_ 0 (.slice A4 (O.length + 1) c4)
        simpa using this
      · rw [HF.out]
        have := own_less (base' := w.heap.size) (ownsRow_setCell_other (a := ⟨g, 0, none⟩) HO4.out (fun e => by have h1 : w.heap.size + 1 <= g := (HO4.out.lt _ e).1; have := HGL.out; omega) (.slice A4 (O.length + 1) c4)) (Nat.le_succ _)
        simpa using this
      · exact (HK1.out.then_below HB4.out (Nat.le_succ _)).setCell (.inl rfl) _
end Go.Proofs.YtfabgbmbnmbjkaaGreatDoor

/- Pruned. -/
namespace Go.Proofs.YtfabgbmbnmbjkaaGreatDoor
open Go.RowKit
set_option maxRecDepth 20000
theorem cut_take_succ (L : List Pl) (m : Int × Int) (k : Nat) (h : k < L.length) : cut (L.take (k + 1)) m = if (L.getD k p0).n = m then cut (L.take k) m else cut (L.take k) m ++ [L.getD k p0] := by
 unfold cut
 rw [List.take_succ_eq_append_getElem h, List.filter_append]
 have : L.getD k p0 = L[k] := by simp [List.getD_eq_getElem?_getD, h]
 rw [this]
 by_cases e : L[k].n = m <;> simp [e]
theorem cut_take_length (L : List Pl) (m : Int × Int) (k : Nat) : (cut (L.take k) m).length <= k := Nat.le_trans (cut_length _ _) (by simp; omega)
theorem drop_end {w1 w' : World} {L O : List Pl} {m : Int × Int} {k n s c : Nat} {A : Option Addr} (hlt : k < L.length) (hT : cut (L.take (k + 1)) m = O) (hn : n = O.length) (ho : w'.ownsRow s 55 4 (.slice A O.length c) O.length (plCs O)) (hb : Below s w1 w') :
    (∃ (k1 : Nat) (A2 : Option Addr) (c2 : Nat), k1 <= L.length ∧ Value.slice A n c = .slice A2 (cut (L.take k1) m).length c2 ∧ Value.int .i64 ((k : Int) + 1) = .int .i64 (k1 : Nat) ∧
      Hid (w'.ownsRow s 55 4 (.slice A2 (cut (L.take k1) m).length c2) (cut (L.take k1) m).length (plCs (cut (L.take k1) m))) ∧ Hid (Below s w1 w')) ∧
    L.length - (intOf (.int .i64 ((k : Int) + 1))).toNat < L.length - (intOf (.int .i64 (k : Int))).toNat := by
 refine ⟨⟨k + 1, A, c, hlt, ?_, ?_, ?_, hb⟩, ?_⟩
 · rw [hT, hn]
 · simp
 · rw [hT]; exact ho
 · simp [intOf]; omega
set_option maxRecDepth 20000 in
set_option maxHeartbeats 8000000 in
theorem rdropb_any (w : World) (g : Nat) (L : List Pl) (mt mb : Int) (hl : L.length <= 1000000) (h : RM w g L) :
    Calls Tryz.prog 178 #[.pointer (some ⟨g, 0, none⟩), .int .u32 mt, .int .u64 mb] w
      (fun e w' => e = .returned (.bool (decide ((cut L (mt, mb)).length < L.length))) ∧ RMb w' w.heap.size g (cut L (mt, mb)) ∧ Kp (fun i => i = g) w w') := by
 obtain ⟨A, c, hb, ho⟩ := h
 have hc := hb.cell 0
 have HB1 := Lib.hid hb
 have HO1 := Lib.hid ho
 have HLT := Lib.hid hb.lt
 clear hb ho
 go_enter Tryz.func178, Tryz.ntmps178
 go_wp2_with (fail)
 clear hc
 go_loopw [7, 8] (fun o i wr => ∃ (k : Nat) (A2 : Option Addr) (c2 : Nat), k <= L.length ∧ o = .slice A2 (cut (L.take k) (mt, mb)).length c2 ∧ i = .int .i64 k ∧
   Hid (wr.ownsRow w.heap.size 55 4 (.slice A2 (cut (L.take k) (mt, mb)).length c2) (cut (L.take k) (mt, mb)).length (plCs (cut (L.take k) (mt, mb)))) ∧ Hid (Below w.heap.size w wr)) (fun _ i _ => L.length - (intOf i).toNat)
 case atStart => exact ⟨0, none, 0, Nat.zero_le _, rfl, rfl, (show _ from ⟨rfl, .inl ⟨rfl, rfl⟩⟩), (show Hid _ from Below.refl _ _)⟩
 case round =>
  obtain ⟨k, A2, c2, hk, rfl, rfl, hown, hbl⟩ := hrel
  have HK := Lib.hid hk
  have hc : wr.cell? ⟨g, 0, none⟩ = some (.slice A L.length c) := (HB1.out.below hbl.out HLT.out).cell 0
  have HE := Lib.hid (cut_take_length L (mt, mb) k)
  have HBASE : Hid (w.heap.size <= wr.heap.size) := hbl.out.size
  by_cases hlt : k < L.length
  · have HT := Lib.hid (cut_take_succ L (mt, mb) k hlt)
    generalize cut (L.take k) (mt, mb) = O at *
    have HLEN : Hid (O.length <= 2000000) := by have h1 := HE.out; unfold Hid; omega
    obtain ⟨r, ex, rfl, hr⟩ : ∃ r ex, A = some ⟨r, 0, none⟩ ∧ Hid (Blk wr r 55 (plCs L ++ ex).toArray) := by
     obtain ⟨r, ex, e, _, hr⟩ := own_blk HO1.out (by omega)
     exact ⟨r, ex, e, hr.below hbl.out hr.lt⟩
    have hrow := plrow_of hr.out
    have hx0 := hrow.c0 k hlt
    have hx1 := hrow.c1 k hlt
    have hx2 := hrow.c2 k hlt
    have hx3 := hrow.c3 k hlt
    clear hrow hr
    generalize hx : L.getD k p0 = x at *
    clear hx
    obtain ⟨xt, xb, xz, xk⟩ := x
    simp only at hx0 hx1 hx2 hx3
    have hcase : (xt = mt ∧ xb = mb) ∨ (xt = mt ∧ ¬ xb = mb) ∨ ¬ xt = mt := by
     by_cases h1 : xt = mt <;> by_cases h2 : xb = mb <;> simp [h1, h2]
    rcases hcase with ⟨rfl, rfl⟩ | ⟨rfl, hxb⟩ | hxt
    · go_wp2_with (fail)
      exact drop_end hlt (HT.out.trans (if_pos rfl)) rfl hown.out hbl.out
    · have HN : Hid (¬ (⟨xt, xb, xz, xk⟩ : Pl).n = (xt, mb)) := by simp [Hid, Pl.n, hxb]
      go_wp2_with (first
        | (at_builtin
           refine wpList_append_pl _ rfl (.tmp 41) (.tmp 49) rfl O ⟨xt, xb, xz, xk⟩ hown.out rfl rfl rfl HLEN.out HBASE.out ?_
           intro A4 c4 w4 ho4 hk4 ha4
           have HB4 := Lib.hid (Kp.below hbl.out hk4 HBASE.out (fun b hb e => by have := (hown.out.lt b e).1; omega))
           have HO4 := Lib.hid ho4
           clear ho4 hk4 ha4))
      exact drop_end hlt (HT.out.trans (if_neg HN.out)) (by simp) HO4.out HB4.out
    · have HN : Hid (¬ (⟨xt, xb, xz, xk⟩ : Pl).n = (mt, mb)) := by simp [Hid, Pl.n, hxt]
      go_wp2_with (first
        | (at_builtin
           refine wpList_append_pl _ rfl (.tmp 41) (.tmp 49) rfl O ⟨xt, xb, xz, xk⟩ hown.out rfl rfl rfl HLEN.out HBASE.out ?_
           intro A4 c4 w4 ho4 hk4 ha4
           have HB4 := Lib.hid (Kp.below hbl.out hk4 HBASE.out (fun b hb e => by have := (hown.out.lt b e).1; omega))
           have HO4 := Lib.hid ho4
           clear ho4 hk4 ha4))
      exact drop_end hlt (HT.out.trans (if_neg HN.out)) (by simp) HO4.out HB4.out
  · have hkl : k = L.length := by omega
    subst hkl
    have hT : cut (L.take L.length) (mt, mb) = cut L (mt, mb) := by rw [List.take_length]
    have HLL := Lib.hid hl
    rw [hT] at hown ⊢
    have hfr : wr.frozen? ⟨g, 0, none⟩ = false := (HB1.out.below hbl.out HLT.out).frozen 0
    obtain ⟨O, hO⟩ : ∃ O, cut L (mt, mb) = O := ⟨_, rfl⟩
    rw [hO] at hown ⊢
    have HOE := Lib.hid hO
    clear hT hO HE
    go_wp2
    go_ret
    rw [HOE.out]
    refine ⟨ret_bool (by simp), ⟨A2, c2, ?_, ?_⟩, ?_⟩
    · have := (HB1.out.below hbl.out HLT.out).set_ 0 (.slice A2 O.length c2)
      simpa using this
    · exact (ownsRow_setCell_other (a := ⟨g, 0, none⟩) hown.out (fun e => by have h1 : w.heap.size <= g := (hown.out.lt _ e).1; have := HLT.out; omega) _)
    · exact ((Kp.refl (fun i => i = g) w).then_below hbl.out (Nat.le_refl _)).setCell (.inl rfl) _
end Go.Proofs.YtfabgbmbnmbjkaaGreatDoor

