/- Joined texts: It Is Al Al2. -/
import Derived.Test.YtfabgbmbnmbjkaaGreatDoorRai
import Derived.Test.YtfabgbmbnmbjkaaGreatDoorRac
import Derived.RangeFuncGives
import Derived.Sort.MapsRangeIn
import Derived.Shelf.SlIter.Collect
/- Pruned. -/
namespace Go.Proofs.YtfabgbmbnmbjkaaGreatDoor
open Go.RowKit Go.Sort
set_option maxRecDepth 20000
set_option maxRecDepth 20000 in
theorem name_inv (v : Value) (kl : Lit) (h : keyOf Tryz.prog 105 v = some kl) : ∃ c, nameC.ok c ∧ v = nameC.kv c := by
 obtain ⟨m, hm⟩ : ∃ m, Tryz.prog.types.size + 1 = m + 1 + 1 := ⟨_, keys_size⟩
 obtain ⟨c1, c2, c3, c4, c5⟩ := keys_cells
 unfold keyOf at h
 rw [hm] at h
 clear hm
 rw [Tryz.underlying105] at h
 simp only [keys_own.1, Bool.true_and] at h
 split at h
 · rename_i hf
   cases v with
   | agg cs =>
     have hsz : cs.size = 2 := by simpa [Value.formed, Tryz.underlying105, c1] using hf
     obtain ⟨l⟩ := cs
     match l, hsz with
     | [x, y], _ =>
       simp [Value.cells, Program.keyLits, Tryz.underlying105, Tryz.underlying39, Tryz.underlying40, c1, c3, c4] at h
       cases x with
       | int q1 n1 =>
         by_cases e1 : q1 = .u32 ∧ (Lit.int .u32 n1).wf = true
         · cases y with
           | int q2 n2 =>
             by_cases e2 : q2 = .u64 ∧ (Lit.int .u64 n2).wf = true
             · obtain ⟨rfl, w1⟩ := e1
               obtain ⟨rfl, w2⟩ := e2
               exact ⟨(n1, n2), ⟨wf_u32' w1, wf_u64' w2⟩, rfl⟩
             · simp [e1, e2] at h
           | _ => simp [e1] at h
         · simp [e1] at h
       | _ => simp at h
   | _ => simp [Value.formed, Tryz.underlying105] at hf
 · cases h
def NCame (Fm : Int × Int -> Option (Int × Int)) (ss : List (Int × Int)) (left : Lit -> Bool) : Prop :=
 ss.Nodup ∧ ∀ x, x ∈ ss ↔ NameOk x ∧ (Fm x).isSome = true ∧ ∀ kl, keyOf Tryz.prog 105 (nameV x) = some kl -> left kl = false
def NAll (Fm : Int × Int -> Option (Int × Int)) (ss : List (Int × Int)) : Prop := ss.Nodup ∧ ∀ x, x ∈ ss ↔ NameOk x ∧ (Fm x).isSome = true
set_option maxRecDepth 100000 in
set_option maxHeartbeats 4000000 in
theorem keys1_in (F : Fence) (n : Nat) (h10 : F.fn 112) (hro : F.round = none) (hn : 1 <= n) (l Bm b nn : Nat) (Fm : Int × Int -> Option (Int × Int)) (J : List (Int × Int) -> World -> Prop)
    (hY : ∀ pre x W, J pre W -> pre.length < nn -> YieldAt F (n - 1) Tryz.prog l #[nameV x] W fun e W' => e = .returned (.bool true) ∧ J (pre ++ [x]) W' ∧ KeepsWalks W W')
    (W : World) (hJ : AbidesFrom W.heap.size J) (hm : W.cell? ⟨Bm, 0, none⟩ = some (.map (some b))) (hmap : MapF nameC addrV W b nn Fm) (h0 : J [] W) :
    CallsIn F n Tryz.prog 112 #[.func (.yield l) #[] #[], .pointer (some ⟨Bm, 0, none⟩)] W fun e W' => (∃ v, e = .returned v) ∧ ∃ ss : List (Int × Int), NAll Fm ss ∧ J ss W' := by
 obtain ⟨D, hown, hD1, hD2⟩ := hmap.is
 refine callsIn_of_wp Tryz.func112 rfl h10 ?_ hro
 simp only [Tryz.ntmps112, List.size_toArray, List.length_cons, List.length_nil, Nat.reduceAdd, Nat.reduceSub, Array.replicate_succ, Array.replicate_zero, List.push_toArray, List.append_toArray, List.nil_append, List.cons_append]
 gi_wp2_with (first
   | (gi_at_range; refine wpListIn_range_own _ rfl _ 109 rfl 105 53 nameC.law Tryz.underlying109 _ b nn _ rfl hown ?_; intro w0 hrg0 hg0 hs0)
   | gi_in)
 go_frame
 gi_loopw [3] (fun _ wr => ∃ (left : Lit -> Bool) (cnt : Nat) (ss : List (Int × Int)), wr.ranges Tryz.prog 105 asHeld b W.heap.size nn D left cnt ∧ ss.length + cnt <= nn ∧ NCame Fm ss left ∧ J ss wr)
   (fun _ wr => wr.rangeLeft b W.heap.size)
 case atStart =>
  refine ⟨_, _, [], hrg0, by simpa using hown.size_le, ⟨List.Pairwise.nil, fun x => ⟨fun h => absurd h (by simp), fun hh => ?_⟩⟩, hJ [] W w0 none h0 hg0 (fun r e => by cases e)⟩
  obtain ⟨kl, hkl⟩ := nameV_key x hh.1
  have h1 := (hD1 x kl hh.1 hkl).1
  have h2 := hh.2.2 kl hkl
  rw [h1, hh.2.1] at h2
  cases h2
 case round =>
  obtain ⟨left, cnt, ss, hrg, hcs, hC, hJs⟩ := hrel
  gi_wp2_with (first
    | (gi_at_next; refine wpListIn_next_ranges _ rfl _ rfl 105 nameC.law asHeld nameV id (fun key kl hk => by obtain ⟨x, _, hx⟩ := name_inv key kl hk; exact ⟨x, hx⟩) (fun v _ _ => ⟨v, rfl⟩) b W.heap.size nn _ _ _ rfl hrg ?_ ?_)
    | gi_in)
  · intro hc0 hl0
    gi_wp2
    go_end0
    refine ⟨⟨_, rfl⟩, ss, ⟨hC.1, fun x => ?_⟩, hJs⟩
    rw [hC.2]
    exact ⟨fun h => ⟨h.1, h.2.1⟩, fun h => ⟨h.1, h.2, fun kl _ => hl0 kl⟩⟩
  · intro x1 x2 c kl yd yp w2 cnt2 hkey hlk hv hat hrg2 hlt hg2 hs2 hen
    have hJ2 : J ss w2 := hJ ss wr w2 (some W.heap.size) hJs hg2 (fun r e => by cases e; exact ⟨Nat.le_refl _, hrg.iter_walk⟩)
    have hJ3 : J ss (w2.alloc (.cells #[.int .u32 x1, .int .u64 x2] 105)) := hJ ss w2 _ none hJ2 (World.grownBy_alloc _ _ _) (fun r e => by cases e)
    obtain ⟨fn, tmps, assign, body, hy, hR⟩ := hY ss (x1, x2) _ hJ3 (by omega)
    have hok : NameOk (x1, x2) := by
     obtain ⟨c', hc, hx⟩ := name_inv _ _ hkey
     have : (x1, x2) = c' := nameC.inj _ _ hx
     rw [this]
     exact hc
    have hFx : (Fm (x1, x2)).isSome = true := by
     cases hf : Fm (x1, x2) with
     | some _ => rfl
     | none =>
       have h1 := (hD1 (x1, x2) kl hok hkey).2
       rw [hf] at h1
       have e1 := (h1 .nil).symm.trans (hat .nil)
       have e2 := (h1 (.lit (.bool true))).symm.trans (hat (.lit (.bool true)))
       simp at e1 e2
       rw [<- e1] at e2
       cases e2
    have hC2 : NCame Fm (ss ++ [(x1, x2)]) (fun z => left z && !z.sameKey kl) := by
     refine ⟨List.nodup_append.2 ⟨hC.1, by simp, fun a ha b hb => ?_⟩, fun x => ?_⟩
     · simp only [List.mem_singleton] at hb
       subst hb
       rintro rfl
       have := ((hC.2 _).1 ha).2.2 kl hkey
       rw [this] at hlk
       cases hlk
     · rw [List.mem_append, hC.2 x, List.mem_singleton]
       constructor
       · rintro (⟨h3, h4, h5⟩ | rfl)
         · exact ⟨h3, h4, fun k2 hk2 => by show (left k2 && _) = false; rw [h5 k2 hk2]; rfl⟩
         · refine ⟨hok, hFx, fun k2 hk2 => ?_⟩
           rw [hkey] at hk2
           cases hk2
           show (left kl && !kl.sameKey kl) = false
           rw [WideAt.sameKey_self (nameC.law.key hkey)]
           simp
       · rintro ⟨h3, h4, h5⟩
         obtain ⟨k2, hk2⟩ := nameV_key x h3
         have h6 : (left k2 && !k2.sameKey kl) = false := h5 k2 hk2
         by_cases he : k2 = kl
         · subst he
           exact .inr (nameC.inj _ _ (nameC.law.inj hk2 hkey))
         · rw [Maps.sameKey_ne he] at h6
           refine .inl ⟨h3, h4, fun k3 hk3 => ?_⟩
           rw [hk2] at hk3
           cases hk3
           simpa using h6
    change (Instr.entry (.pointer (some ⟨W.heap.size, 0, none⟩))).run Tryz.prog w2 = .ok (.tuple #[.agg #[.int .u32 x1, .int .u64 x2], c]) w2 at hen
    change (Instr.yield l #[.agg #[.int .u32 x1, .int .u64 x2]]).run Tryz.prog (w2.alloc (.cells #[.int .u32 x1, .int .u64 x2] 105)) = _ at hy
    simp only [show nameV (x1, x2) = .agg #[.int .u32 x1, .int .u64 x2] from rfl]
    have HY := hy
    have hrgA := ranges_of_heap (w' := w2.alloc (.cells #[.int .u32 x1, .int .u64 x2] 105)) hrg2 (Below.heap_alloc _ _ _ (by obtain ⟨_, _, _, _, _, h1, _⟩ := hrg2; exact (Array.getElem?_eq_some_iff.1 h1).1)) (Below.heap_alloc _ _ _ (by obtain ⟨_, _, _, _, _, _, _, _, _, h5, _⟩ := hrg2; exact (Array.getElem?_eq_some_iff.1 h5).1))
    have HC2 := Lib.hid hC2
    have HRA := Lib.hid hrgA
    have HRG := Lib.hid hrg
    clear hs2 hC2 hC hJs hJ2 hJ3 hkey hlk hv hat hrg2 hg2 hok hFx hrgA hrg
    gi_wp2
    refine hR.mono ?_
    rintro e W3 ⟨rfl, hJ4, hk3⟩
    gi_wp2
    have hrg3 := HRA.out.of_walks hk3
    go_roundw
    case rel => exact ⟨_, cnt2, ss ++ [(x1, x2)], hrg3, by simp; omega, HC2.out, hJ4⟩
    case measure => rw [hrg3.left_eq, HRG.out.left_eq]; exact hlt
end Go.Proofs.YtfabgbmbnmbjkaaGreatDoor

/- Pruned. -/
namespace Go.Proofs.YtfabgbmbnmbjkaaGreatDoor
open Go.RowKit Go.Sort
set_option maxRecDepth 20000
theorem name_info : (Tryz.prog.info? 105).map (fun i => (i.zero, i.size, i.bytes)) = some (some (.agg #[.int .u32 0, .int .u64 0]), 2, 16) := by kernel_rfl
def apAssign : Code := Code.region 2 #[{ dst := some 5, op := Op.alloc 105, type := 0, pos := "iter.go:51", after := #[], guard := none }, { dst := none, op := Op.store 105 (.tmp 5) (.tmp 7), type := 0, pos := "iter.go:51", after := #[⟨0, .data⟩, ⟨0, .phase⟩], guard := none }] false
def apBody : Code := Code.block 1 (Code.region 3 #[{ dst := some 8, op := Op.load 102 (.tmp 2), type := 102, pos := "iter.go:52", after := #[], guard := none }, { dst := some 9, op := Op.load 105 (.tmp 5), type := 105, pos := "iter.go:52", after := #[], guard := none }, { dst := some 10, op := Op.buildSlice 102 1 #[(0, .tmp 9)], type := 102, pos := "iter.go:52", after := #[⟨1, .data⟩], guard := none }, { dst := some 11, op := Op.call { callee := .builtin .append, args := #[.tmp 8, .tmp 10], argTypes := #[102, 102] }, type := 102, pos := "iter.go:52", after := #[⟨0, .data⟩, ⟨2, .data⟩], guard := none }, { dst := none, op := Op.store 102 (.tmp 2) (.tmp 11), type := 0, pos := "iter.go:52", after := #[⟨3, .data⟩, ⟨3, .chain⟩, ⟨0, .phase⟩, ⟨1, .phase⟩, ⟨2, .phase⟩, ⟨3, .phase⟩], guard := none }] false)
def apRec (fn : FuncId) (sv : Value) (Bs D : Nat) (st : LoopState) (pend : Option Code) : Loop :=
 { state := st, pending := pend, fn, tmps := #[.slice none 0 0, sv, .pointer (some ⟨Bs, 0, none⟩), undef, .slice none 0 0, undef, sv, undef, undef, undef, undef, undef, undef], params := #[7], assign := apAssign, body := apBody, defers := D }
structure ApAt (w0 : World) (fn : FuncId) (sv : Value) (Bs l D : Nat) (ss : List (Int × Int)) (W : World) : Prop where
  box : ∃ v, W.heap[Bs]? = some (.cells #[v] 102 (0, 0)) ∧ W.ownsRow w0.heap.size 105 2 v ss.length (nameCs ss)
  L : W.heap[l]? = some (.loop (apRec fn sv Bs D .ready none))
  K : W.heap[D]? = some (.deferred (some []))
  below : Below w0.heap.size w0 W
theorem ap_abides (w0 : World) (fn : FuncId) (sv : Value) (Bs l D B : Nat) (hB : w0.heap.size <= B) : AbidesFrom B (ApAt w0 fn sv Bs l D) := fun s W W' row h hg hrow => by
 have hrow' : ∀ r, row = some r -> ∃ o : Obj, W.heap[r]? = some o ∧ o.isWalk = true := fun r e => (hrow r e).2
 obtain ⟨v, hv, hr⟩ := h.box
 exact ⟨⟨v, (grownBy_keeps hg hrow' hv rfl).trans hv, ownsRow_abides_a hr hg hrow'⟩, (grownBy_keeps hg hrow' h.L rfl).trans h.L, (grownBy_keeps hg hrow' h.K rfl).trans h.K,
   h.below.grown hg h.below.size (fun k e => Nat.le_trans hB (hrow k e).1)⟩
theorem cells2_new (w : World) (t : TypeId) (x1 x2 : Value) : ∀ j u, [x1, x2][j]? = some u -> (w.alloc (.cells #[x1, x2] t)).cell? ((⟨w.heap.size, 0, none⟩ : Addr).add j) = some u := by
 intro j u hu
 have hb := Blk.new w t #[x1, x2]
 rw [show ((⟨w.heap.size, 0, none⟩ : Addr).add j) = ⟨w.heap.size, j, none⟩ by unfold Addr.add; split <;> simp_all, hb.cell, List.getElem?_toArray]
 exact hu
set_option maxRecDepth 100000 in
set_option maxHeartbeats 4000000 in
theorem apYield (F : Fence) (m : Nat) (w0 : World) (fn : FuncId) (hfn : F.fn fn) (sv : Value) (Bs l D : Nat) (hBl : Bs ≠ l) (hDl : D ≠ l) (hDB : D ≠ Bs) (h0B : w0.heap.size <= Bs) (h0l : w0.heap.size <= l)
    (N : Nat) (hN : N * 16 <= 140737488355328) (ss : List (Int × Int)) (x1 x2 : Int) (W : World) (h : ApAt w0 fn sv Bs l D ss W) (hlen : ss.length < N) :
    YieldAt F m Tryz.prog l #[.agg #[.int .u32 x1, .int .u64 x2]] W fun e W' => e = .returned (.bool true) ∧ ApAt w0 fn sv Bs l D (ss ++ [(x1, x2)]) W' ∧ KeepsWalks W W' := by
 have hne : 102 ≠ 105 := by decide
 obtain ⟨i0, hi, hz0, hz1, hz2⟩ := info_parts name_info
 obtain ⟨v, hv, hrow⟩ := h.box
 refine ⟨fn, #[.slice none 0 0, sv, .pointer (some ⟨Bs, 0, none⟩), undef, .slice none 0 0, undef, sv, .agg #[.int .u32 x1, .int .u64 x2], undef, undef, undef, undef, undef], apAssign, apBody, by simpa [apRec] using run_yield (P := Tryz.prog) (args := #[.agg #[.int .u32 x1, .int .u64 x2]]) h.L rfl, roundIn_of_wpIn hfn ?_⟩
 -- the round's own k
 obtain ⟨W2, hW2⟩ : ∃ W2, W.alloc (.cells #[.int .u32 x1, .int .u64 x2] 105) = W2 := ⟨_, rfl⟩
 have hs2 : W2.heap.size = W.heap.size + 1 := by rw [<- hW2]; simp
 have hk2 : KeepsWalks W W2 := by rw [<- hW2]; exact KeepsWalks.alloc _ _
 have hv2 : W2.heap[Bs]? = some (.cells #[v] 102 (0, 0)) := by rw [<- hW2]; exact (Below.heap_alloc _ _ Bs (Array.getElem?_eq_some_iff.1 hv).1).trans hv
 have hK2 : W2.heap[D]? = some (.deferred (some [])) := by rw [<- hW2]; exact (Below.heap_alloc _ _ D (Array.getElem?_eq_some_iff.1 h.K).1).trans h.K
 have hL2 : W2.heap[l]? = some (.loop (apRec fn sv Bs D .ready none)) := by rw [<- hW2]; exact (Below.heap_alloc _ _ l (Array.getElem?_eq_some_iff.1 h.L).1).trans h.L
 have hrow2 : W2.ownsRow w0.heap.size 105 2 v ss.length (nameCs ss) := by rw [<- hW2]; exact hrow.alloc _
 have hb2 : Below w0.heap.size w0 W2 := by rw [<- hW2]; exact h.below.alloc h.below.size _
 have hkb2 : Blk W2 W.heap.size 105 #[.int .u32 x1, .int .u64 x2] := by rw [<- hW2]; exact Blk.new _ _ _
 have hl : l < W2.heap.size := (Array.getElem?_eq_some_iff.1 hL2).1
 have hbr := run_beginRound (P := Tryz.prog) hL2 rfl
 obtain ⟨W3, hW3⟩ : ∃ W3, W2.putObj l (.loop { apRec fn sv Bs D .ready none with state := .busy }) = W3 := ⟨_, rfl⟩
 rw [hW3] at hbr
 have hg3 : W2.grownBy W3 (some l) := by rw [<- hW3]; exact grownBy_putObj_a _ _ _
 have hk3 : KeepsWalks W W3 := by rw [<- hW3]; exact hk2.trans (KeepsWalks.putObj _ hL2 rfl)
 have hv3 : W3.heap[Bs]? = some (.cells #[v] 102 (0, 0)) := by rw [<- hW3]; exact (World.putObj_heap_other hBl).trans hv2
 have hK3 : W3.heap[D]? = some (.deferred (some [])) := by rw [<- hW3]; exact (World.putObj_heap_other hDl).trans hK2
 have hL3 : W3.heap[l]? = some (.loop { apRec fn sv Bs D .ready none with state := .busy }) := by rw [<- hW3]; exact World.putObj_heap_same hl
 have hrow3 : W3.ownsRow w0.heap.size 105 2 v ss.length (nameCs ss) := hrow2.kept hg3 (ownsRow_ne_a hrow2 hL2 (fun cur e => by cases e))
 have hb3 : Below w0.heap.size w0 W3 := hb2.grown hg3 hb2.size (fun k e => by cases e; exact h0l)
 have hkb : Blk W3 W.heap.size 105 #[.int .u32 x1, .int .u64 x2] := hkb2.grown hg3 (fun e => by
  have e' : W.heap.size = l := Option.some.inj e
  subst e'
  unfold Blk at hkb2
  rw [hkb2] at hL2
  cases hL2)
 obtain ⟨hc3, hf3⟩ := cell_of_box_a hv3
 have k0 := hkb.cell 0
 have k1 := hkb.cell 1
 have hBlt : Bs < W3.heap.size := (Array.getElem?_eq_some_iff.1 hv3).1
 have hl3 : l < W3.heap.size := (Array.getElem?_eq_some_iff.1 hL3).1
 have hDlt : D < W3.heap.size := (Array.getElem?_eq_some_iff.1 hK3).1
 have ne_of : ∀ {j : Nat} {o : Obj}, W3.heap[j]? = some o -> (∀ cur, o ≠ .cells cur 105 (0, 0)) -> some j ≠ v.ownBlock := fun hj hno => by
  rcases ownsRow_ne_a hrow3 hj hno with e | e
  · rw [e]; simp
  · exact fun e' => e e'.symm
 have HBR := Lib.hid hbr
 have hlt2 : ss.length + 1 <= maxLen := by simp only [maxLen]; omega
 have hlt3 : (ss.length + 1) * 16 <= 140737488355328 := by omega
 have hbs : w0.heap.size <= (W3.alloc (.cells #[.int .u32 x1, .int .u64 x2] 105)).heap.size := by have := hb3.size; simp; omega
 clear hW3 hbr hs2 hg3 hk2 hv2 hK2 hL2 hrow2 hb2 hkb2 hrow hv hl h
 unfold apAssign
 gi_wp2_with gi_round_op_a
 refine ⟨W3, HBR.out, ?_⟩
 unfold apBody
 gi_wp2_with (first
   | (gi_at_builtin; refine wpListIn_append_own _ rfl _ _ 102 rfl w0.heap.size 105 i0 (.agg #[.int .u32 0, .int .u64 0]) 2 16 Tryz.underlying102 hi hz0 hz1 hz2 rfl (by decide) _ _ _ rfl (hrow3.alloc _) ⟨W3.heap.size, 0, none⟩ 1 1 [.int .u32 x1, .int .u64 x2] rfl rfl (cells2_new _ _ _ _) (by simp [Value.oneCell']) hlt2 hlt3 hbs ?_; intro v' w3 hown' hg3 hnil3
      have hv3' : w3.heap[Bs]? = some (.cells #[v] 102 (0, 0)) := (hg3.block Bs (by simp; omega) (ne_of hv3 (fun cur e => by cases e))).trans ((Below.heap_alloc _ _ Bs hBlt).trans hv3)
      obtain ⟨hc3', hf3'⟩ := cell_of_box_a hv3'
      obtain ⟨g', cap', cur', rfl, hbase', hgb', hr1, hr2, hr3, hr4⟩ : ∃ g' cap' cur', v' = .slice (some ⟨g', 0, none⟩) (ss.length + 1) cap' ∧ w0.heap.size <= g' ∧ w3.heap[g']? = some (.cells cur' 105 (0, 0)) ∧ ss.length + 1 <= cap' ∧ cap' <= maxLen ∧ cur'.size = cap' * 2 ∧ cur'.toList.take ((ss.length + 1) * 2) = nameCs ss ++ [.int .u32 x1, .int .u64 x2] := by
       rcases hown'.2 with ⟨_, h0⟩ | h'
       · exact absurd h0 (by omega)
       · exact h'
      go_frame)
   | gi_round_op_a)
 have hg3' : (W3.alloc (.cells #[.int .u32 x1, .int .u64 x2] 105)).grownBy w3 v.ownBlock := hg3
 have hL3' : w3.heap[l]? = some (.loop { apRec fn sv Bs D .ready none with state := .busy }) := (hg3'.block l (by simp; omega) (ne_of hL3 (fun cur e => by cases e))).trans ((Below.heap_alloc _ _ l hl3).trans hL3)
 have hK3' : w3.heap[D]? = some (.deferred (some [])) := (hg3'.block D (by simp; omega) (ne_of hK3 (fun cur e => by cases e))).trans ((Below.heap_alloc _ _ D hDlt).trans hK3)
 obtain ⟨w4, hw4⟩ : ∃ w4, w3.setCell ⟨Bs, 0, none⟩ (.slice (some ⟨g', 0, none⟩) (ss.length + 1) cap') = w4 := ⟨_, rfl⟩
 rw [hw4]
 have hg4 : w3.grownBy w4 (some Bs) := by rw [<- hw4]; exact grownBy_setCell0_a _ _ _
 have hv4 : w4.heap[Bs]? = some (.cells #[.slice (some ⟨g', 0, none⟩) (ss.length + 1) cap'] 102 (0, 0)) := by rw [<- hw4]; exact heap_setCell_box_a _ hv3'
 have hL4 : w4.heap[l]? = some (.loop { apRec fn sv Bs D .ready none with state := .busy }) := (hg4.block l (Array.getElem?_eq_some_iff.1 hL3').1 (fun e => hBl (by cases e; rfl))).trans hL3'
 have hK4 : w4.heap[D]? = some (.deferred (some [])) := (hg4.block D (Array.getElem?_eq_some_iff.1 hK3').1 (fun e => hDB (by cases e; rfl))).trans hK3'
 have hrow4 := hown'.kept hg4 (ownsRow_ne_a hown' hv3' (fun cur e => by cases e))
 have hl4 : l < w4.heap.size := (Array.getElem?_eq_some_iff.1 hL4).1
 have hb3' : Below w0.heap.size w0 w3 := (hb3.alloc hb3.size _).grown hg3' (by have := hb3.size; simp; omega) (fun k e => (hrow3.lt k e).1)
 have hb4 : Below w0.heap.size w0 w4 := hb3'.grown hg4 hb3'.size (fun k e => by cases e; exact h0B)
 have hk4 : KeepsWalks W w4 := ((hk3.trans (KeepsWalks.alloc _ _)).trans (KeepsWalks.of_grownBy hg3' (ownsRow_not_walk_a (hrow3.alloc _)))).trans (by rw [<- hw4]; exact KeepsWalks.setCell _ _ _)
 clear hw4
 refine ⟨_, _, run_endRound none hL4, rfl, ⟨⟨_, (World.putObj_heap_other hBl).trans hv4, ?_⟩, World.putObj_heap_same hl4, (World.putObj_heap_other hDl).trans hK4, hb4.grown (grownBy_putObj_a _ _ _) hb4.size (fun k e => by cases e; exact h0l)⟩, hk4.trans (KeepsWalks.putObj _ hL4 rfl)⟩
 have := hrow4.kept (grownBy_putObj_a w4 l (.loop { { apRec fn sv Bs D .ready none with state := .busy } with state := if (none : Option Code).isNone then .ready else .done, pending := none })) (ownsRow_ne_a hrow4 hL4 (fun cur e => by cases e))
 rw [nameCs_snoc, List.length_append]
 simpa [nameC2] using this
set_option maxRecDepth 100000 in
set_option maxHeartbeats 4000000 in
theorem appendSeq_in (F : Fence) (n : Nat) (h11 : F.fn 159) (hro : F.round = none) (hn : 2 <= n) (g : Nat) (lb : Array Value) (hFg : F.fn g) (eg : ∀ args w, (callFunc g args).run Tryz.prog w = .ok (.enter g args) w)
    (S : List (Int × Int) -> Prop) (N : Nat) (hN : N * 16 <= 140737488355328) (w : World) (hseq : SeqGives F (n - 1) Tryz.prog g lb nameV S N w) :
    CallsIn F n Tryz.prog 159 #[.slice none 0 0, .func (.func g) #[] lb] w fun e w' => ∃ (v : Value) (ss : List (Int × Int)), e = .returned v ∧ S ss ∧ w'.ownsRow w.heap.size 105 2 v ss.length (nameCs ss) ∧ Below w.heap.size w w' := by
 have h1 : 1 <= n := by omega
 refine callsIn_of_wp_marks Tryz.func159 rfl h11 ?_ hro
 simp only [Tryz.ntmps159, List.size_toArray, List.length_cons, List.length_nil, Nat.reduceAdd, Nat.reduceSub, Array.replicate_succ, Array.replicate_zero, List.push_toArray, List.append_toArray, List.nil_append, List.cons_append]
 gi_wp2
 refine wpIn_rangeFunc ?_
 intro fn hfn
 rw [hro]
 obtain ⟨W0, hW0⟩ : ∃ W0, w.alloc (.cells #[.slice none 0 0] 102) = W0 := ⟨_, rfl⟩
 have hs0 : W0.heap.size = w.heap.size + 1 := by rw [<- hW0]; simp
 have hv0 : W0.heap[w.heap.size]? = some (.cells #[.slice none 0 0] 102 (0, 0)) := by rw [<- hW0]; exact World.alloc_heap_new w _
 have hb0 : Below w.heap.size w W0 := by rw [<- hW0]; exact (Below.refl _ w).alloc (Nat.le_refl _) _
 rw [hW0]
 obtain ⟨W1, hW1⟩ : ∃ W1, (W0.alloc (.deferred (some []))).alloc (.loop (apRec fn (.func (.func g) #[] lb) w.heap.size W0.heap.size .ready none)) = W1 := ⟨_, rfl⟩
 have hold : ∀ k, k < W0.heap.size -> W1.heap[k]? = W0.heap[k]? := fun k hk => by
  rw [<- hW1]; exact (Below.heap_alloc _ _ k (by simp; omega)).trans (Below.heap_alloc _ _ k hk)
 have hb1 : Below w.heap.size w W1 := by rw [<- hW1]; exact (hb0.alloc hb0.size _).alloc (by have := hb0.size; simp; omega) _
 have hs1 : W1.heap.size = W0.heap.size + 2 := by rw [<- hW1]; simp
 have hM : ApAt w fn (.func (.func g) #[] lb) w.heap.size (W0.heap.size + 1) W0.heap.size [] W1 :=
  ⟨⟨_, (hold w.heap.size (by omega)).trans hv0, ⟨rfl, .inl ⟨rfl, rfl⟩⟩⟩,
   by rw [<- hW1]; have := World.alloc_heap_new (W0.alloc (.deferred (some []))) (.loop (apRec fn (.func (.func g) #[] lb) w.heap.size W0.heap.size .ready none)); rwa [World.size_alloc] at this,
   by rw [<- hW1]; exact (Below.heap_alloc _ _ _ (by simp)).trans (World.alloc_heap_new W0 _), hb1⟩
 refine ⟨W0.heap.size + 1, [{ target := .collected W0.heap.size, args := #[] }], W1, { target := .fn (.func g) lb, args := #[.func (.yield (W0.heap.size + 1)) #[] #[]] }, W1, g,
   #[.func (.yield (W0.heap.size + 1)) #[] #[]] ++ lb, W1, ?_, ?_, ?_, ?_, fun _ => h1, ?_⟩
 · rw [<- hW1]; exact run_enterLoop_outer _ _ _ _ _
 · simp [resolve, go_sem]
 · intro f' hf'; simp [Target.leads] at hf'; subst hf'; exact hFg
 · simp [invoke, go_sem, eg]
 · refine (hseq (W0.heap.size + 1) (ApAt w fn (.func (.func g) #[] lb) w.heap.size (W0.heap.size + 1) W0.heap.size) W1 hb1 (ap_abides _ _ _ _ _ _ _ hb1.size)
     (fun pre x W hJ hl => apYield F (n - 1 - 1) w fn hfn _ w.heap.size (W0.heap.size + 1) W0.heap.size (by omega) (by omega) (by omega) (Nat.le_refl _) (by omega) N hN pre x.1 x.2 W hJ hl) hM).mono ?_
   rintro e W2 ⟨⟨v0, rfl⟩, ss, hS, h2⟩
   obtain ⟨v, hv, hrow⟩ := h2.box
   have hend := run_endLoop (P := Tryz.prog) h2.L (by simp [apRec])
   obtain ⟨W3, hW3⟩ : ∃ W3, W2.putObj (W0.heap.size + 1) (.loop { apRec fn (.func (.func g) #[] lb) w.heap.size W0.heap.size .ready none with state := .exhausted }) = W3 := ⟨_, rfl⟩
   rw [hW3] at hend
   have hg3 : W2.grownBy W3 (some (W0.heap.size + 1)) := by rw [<- hW3]; exact grownBy_putObj_a _ _ _
   have hv3 : W3.heap[w.heap.size]? = some (.cells #[v] 102 (0, 0)) := by rw [<- hW3]; exact (World.putObj_heap_other (by omega)).trans hv
   have hK3 : W3.heap[W0.heap.size]? = some (.deferred (some [])) := by rw [<- hW3]; exact (World.putObj_heap_other (by omega)).trans h2.K
   have hrow3 := hrow.kept hg3 (ownsRow_ne_a hrow h2.L (fun cur e => by cases e))
   have hb3 : Below w.heap.size w W3 := h2.below.grown hg3 h2.below.size (fun k e => by cases e; omega)
   obtain ⟨hc3, hf3⟩ := cell_of_box_a hv3
   clear hW3
   refine ⟨none, W3, hend, ?_⟩
   gi_wp2
   rw [<- hs0]
   refine ⟨by simp, .inl ⟨_, _, rfl, run_takeDeferred hK3, ?_⟩⟩
   exact ⟨_, results_tmp rfl _ _ _, v, ss, rfl, hS, hrow3.kept (grownBy_putObj_a _ _ _) (ownsRow_ne_a hrow3 hK3 (fun cur e => by cases e)), hb3.grown (grownBy_putObj_a _ _ _) hb3.size (fun k e => by cases e; omega)⟩
set_option maxHeartbeats 1000000 in
theorem collect_in (F : Fence) (n : Nat) (h8 : F.fn 110) (h11 : F.fn 159) (hro : F.round = none) (hn : 3 <= n) (g : Nat) (lb : Array Value) (hFg : F.fn g) (eg : ∀ args w, (callFunc g args).run Tryz.prog w = .ok (.enter g args) w)
    (S : List (Int × Int) -> Prop) (N : Nat) (hN : N * 16 <= 140737488355328) (w : World) (hseq : SeqGives F (n - 1 - 1) Tryz.prog g lb nameV S N w) :
    CallsIn F n Tryz.prog 110 #[.func (.func g) #[] lb] w fun e w' => ∃ (v : Value) (ss : List (Int × Int)), e = .returned v ∧ S ss ∧ w'.ownsRow w.heap.size 105 2 v ss.length (nameCs ss) ∧ Below w.heap.size w w' := by
 have h1 : 1 <= n := by omega
 have e11 : ∀ args w, (callFunc 159 args).run Tryz.prog w = .ok (.enter 159 args) w := fun args w => by kernel_rfl
 refine callsIn_of_wp Tryz.func110 rfl h8 ?_ hro
 simp only [Tryz.ntmps110, List.size_toArray, List.length_cons, List.length_nil, Nat.reduceAdd, Nat.reduceSub, Array.replicate_succ, Array.replicate_zero, List.push_toArray, List.append_toArray, List.nil_append, List.cons_append]
 gi_wp2_with (gi_at_fn 159; refine (appendSeq_in F (n - 1) h11 hro (by omega) g lb hFg eg S N hN _ hseq).mono ?_; rintro e w' ⟨v, ss, rfl, hS, hrow, hb⟩)
 go_ret
 exact ⟨v, ss, rfl, hS, hrow, hb⟩
end Go.Proofs.YtfabgbmbnmbjkaaGreatDoor

/- Pruned. -/
namespace Go.Proofs.YtfabgbmbnmbjkaaGreatDoor
open Go.RowKit Go.Sort
set_option maxRecDepth 20000
theorem keys_gives (Bm b nn : Nat) (Fm : Int × Int -> Option (Int × Int)) (w : World) (hBm : Bm < w.heap.size) (hm : w.cell? ⟨Bm, 0, none⟩ = some (.map (some b))) (h : MapF nameC addrV w b nn Fm) :
    SeqGives Fence.wide 1 Tryz.prog 112 #[.pointer (some ⟨Bm, 0, none⟩)] nameV (NAll Fm) nn w := fun l J W hW hJ hY h0 =>
 keys1_in Fence.wide 1 trivial rfl (Nat.le_refl _) l Bm b nn Fm J hY W hJ ((hW.cell (p := ⟨Bm, 0, none⟩) hBm).trans hm) (h.kp (S := fun _ => False) (Kp.of_below hW) (fun e => e)) h0
theorem keys_any (w : World) (b : Nat) : Calls Tryz.prog 53 #[.map (some b)] w
    (fun e w' => e = .returned (.func (.func 112) #[] #[.pointer (some ⟨w.heap.size, 0, none⟩)]) ∧ w' = w.alloc (.cells #[.map (some b)] 109)) := by
 go_enter Tryz.func53, Tryz.ntmps53
 go_wp2
 go_ret
 exact ⟨rfl, rfl⟩
theorem own_form2 {w : World} {base : Nat} {e : TypeId} {size n : Nat} {v : Value} {xs : List Value} (h : w.ownsRow base e size v n xs) : ∃ A c, v = .slice A n c := by
 rcases h.2 with ⟨rfl, rfl⟩ | ⟨g, cap, cur, rfl, _⟩
 · exact ⟨none, 0, rfl⟩
 · exact ⟨_, _, rfl⟩
theorem sorted_any (w : World) (Bm b nn : Nat) (Fm : Int × Int -> Option (Int × Int)) (hn : nn <= 1000000) (hBm : Bm < w.heap.size) (hm : w.cell? ⟨Bm, 0, none⟩ = some (.map (some b))) (h : MapF nameC addrV w b nn Fm) (hlen : ∀ ss, NAll Fm ss -> ss.length <= nn) :
    Calls Tryz.prog 52 #[.func (.func 112) #[] #[.pointer (some ⟨Bm, 0, none⟩)], .func (.func 54) #[] #[]] w
      (fun e w' => ∃ A c S, e = .returned (.slice A (List.length S) c) ∧ NAll Fm S ∧ S.Pairwise (fun a b => ¬ (b.1 < a.1 ∨ (b.1 = a.1 ∧ b.2 < a.2))) ∧ OwnNm w' w.heap.size A c S ∧ Below w.heap.size w w') := by
 have eg : ∀ args w, (callFunc 112 args).run Tryz.prog w = .ok (.enter 112 args) w := enters_of Tryz.func112 (by kernel_rfl) rfl
 have hc := callsIn_wide.1 (collect_in Fence.wide 3 trivial trivial rfl (Nat.le_refl _) _ _ trivial eg (NAll Fm) nn (by omega) w (keys_gives Bm b nn Fm w hBm hm h))
 have HC := Lib.hid hc
 have HL := Lib.hid hlen
 clear hc eg h hm hlen
 go_enter Tryz.func52, Tryz.ntmps52
 go_wp2_with (fail)
 refine HC.out.mono ?_
 rintro e w1 ⟨v, ss, rfl, hS, hrow, hb⟩
 obtain ⟨A, c, rfl⟩ := own_form2 hrow
 have HS := Lib.hid hS
 have HO : Hid (OwnNm w1 w.heap.size A c ss) := hrow
 have HB := Lib.hid hb
 have HLE : Hid (ss.length <= 1000000) := by have := HL.out ss hS; unfold Hid; omega
 clear hS hrow hb
 go_wp2_with (fail)
 refine (sort_nm w1 w.heap.size A c ss HLE.out HO.out).mono ?_
 rintro e w2 ⟨rfl, S, hp, hs, hl, ho, hk⟩
 have HP := Lib.hid hp
 have HSS := Lib.hid hs
 have HO2 := Lib.hid ho
 have HB2 := Lib.hid (Kp.below HB.out hk HB.out.size (fun b hb e => by omega))
 rw [<- hl]
 clear hp hs hl ho hk
 go_wp2
 go_ret
 refine ⟨A, c, S, rfl, ⟨HP.out.nodup_iff.2 HS.out.1, fun x => by rw [HP.out.mem_iff]; exact HS.out.2 x⟩, HSS.out, HO2.out, HB2.out⟩
end Go.Proofs.YtfabgbmbnmbjkaaGreatDoor

/- Pruned. -/
namespace Go.Proofs.YtfabgbmbnmbjkaaGreatDoor
open Go.RowKit Go.Sort
set_option maxRecDepth 20000
def plOf (L : List Pl) (n : Int × Int) : Pl := match atOf L n with | some a => ⟨n.1, n.2, a.1, a.2⟩ | none => ⟨n.1, n.2, 0, 0⟩
theorem plOf_n (L : List Pl) (n : Int × Int) : (plOf L n).n = n := by
 unfold plOf
 cases atOf L n <;> rfl
theorem plOf_of {L : List Pl} (hu : Uniq L) {p : Pl} (hp : p ∈ L) : plOf L p.n = p := by
 have h := (atOf_some hu).2 ⟨p, hp, rfl, rfl⟩
 unfold plOf
 rw [h]
 rfl
theorem plOf_mem {L : List Pl} (hu : Uniq L) {n : Int × Int} (hs : (atOf L n).isSome = true) : plOf L n ∈ L := by
 cases h : atOf L n with
 | none => rw [h] at hs; cases hs
 | some a =>
   obtain ⟨p, hp, h1, h2⟩ := (atOf_some hu).1 h
   rw [<- h1, plOf_of hu hp]
   exact hp
theorem nall_perm {L : List Pl} (hu : Uniq L) (hok : ∀ p ∈ L, NameOk p.n ∧ AddrOk p.a) {S : List (Int × Int)} (h : NAll (atOf L) S) : (S.map (plOf L)).Perm L := by
 have h1 : (S.map (plOf L)).Nodup := by
  refine List.pairwise_map.2 (h.1.imp fun {a b} hab e => hab ?_)
  rw [<- plOf_n L a, <- plOf_n L b, e]
 refine (List.perm_ext_iff_of_nodup h1 (nodup_of_uniq hu)).2 fun p => ⟨fun hp => ?_, fun hp => ?_⟩
 · obtain ⟨n, hn, rfl⟩ := List.mem_map.1 hp
   exact plOf_mem hu ((h.2 n).1 hn).2
 · refine List.mem_map.2 ⟨p.n, (h.2 _).2 ⟨(hok p hp).1, ?_⟩, plOf_of hu hp⟩
   rw [(atOf_some hu).2 ⟨p, hp, rfl, rfl⟩]
   rfl
theorem nall_len {L : List Pl} (hu : Uniq L) (hok : ∀ p ∈ L, NameOk p.n ∧ AddrOk p.a) {S : List (Int × Int)} (h : NAll (atOf L) S) : S.length = L.length := by
 have := (nall_perm hu hok h).length_eq
 simpa using this
theorem nall_rising (L : List Pl) {S : List (Int × Int)} (hn : S.Nodup) (hs : S.Pairwise (fun a b => ¬ (b.1 < a.1 ∨ (b.1 = a.1 ∧ b.2 < a.2)))) : Rising (S.map (plOf L)) := by
 refine List.pairwise_map.2 ((hn.and hs).imp fun {a b} hab => ?_)
 rw [lessB_iff]
 have h1 : (plOf L a).n = a := plOf_n L a
 have h2 : (plOf L b).n = b := plOf_n L b
 have e1 : (plOf L a).t = a.1 := by rw [<- h1]; rw [h1]; exact congrArg Prod.fst h1
 have e2 : (plOf L a).b = a.2 := congrArg Prod.snd h1
 have e3 : (plOf L b).t = b.1 := congrArg Prod.fst h2
 have e4 : (plOf L b).b = b.2 := congrArg Prod.snd h2
 rw [e1, e2, e3, e4]
 have h3 : ¬ (a.1 = b.1 ∧ a.2 = b.2) := fun e => hab.1 (Prod.ext e.1 e.2)
 have h4 := hab.2
 omega
theorem nameCs_at : ∀ (S : List (Int × Int)) (j : Nat), (nameCs S)[j]? = (nameC2 (S.getD (j / 2) (0, 0)))[j % 2]? ∨ S.length * 2 <= j
  | [], j => .inr (by simp)
  | p :: r, j => by
    rcases Nat.lt_or_ge j 2 with h2 | h2
    · left
      have : j = 0 ∨ j = 1 := by omega
      rcases this with rfl | rfl <;> simp [nameCs, nameC2]
    · obtain ⟨i, rfl⟩ : ∃ i, j = i + 2 := ⟨j - 2, by omega⟩
      have e1 : (nameCs (p :: r))[i + 2]? = (nameCs r)[i]? := by simp [nameCs, nameC2]
      have e2 : (i + 2) / 2 = i / 2 + 1 := by omega
      have e3 : (i + 2) % 2 = i % 2 := by omega
      rw [e1, e2, e3]
      rcases nameCs_at r i with h | h
      · left; rw [h]; simp
      · right; simp; omega
theorem nm_cells {w : World} {base c : Nat} {A : Option Addr} {S : List (Int × Int)} (h : OwnNm w base A c S) {k : Nat} (hk : k < S.length) :
    ∃ r, A = some ⟨r, 0, none⟩ ∧ w.cell? ⟨r, k * 2, none⟩ = some (.int .u32 (S.getD k (0, 0)).1) ∧ w.cell? ⟨r, k * 2 + 1, none⟩ = some (.int .u64 (S.getD k (0, 0)).2) := by
 obtain ⟨g, cap, hv, _, _⟩ := World.ownsRow.form h (by omega)
 injection hv with hA _ _
 subst hA
 have hc := World.ownsRow.cells (g := g) h rfl
 have hl := nameCs_length S
 have hget := fun j => nameCs_at S j
 refine ⟨g, rfl, ?_, ?_⟩
 · have h1 : (nameCs S)[k * 2]? = some (.int .u32 (S.getD k (0, 0)).1) := by
    rcases hget (k * 2) with e | e
    · rw [e, show k * 2 / 2 = k by omega, show k * 2 % 2 = 0 by omega]; rfl
    · omega
   have := hc _ _ h1
   rwa [show ((⟨g, 0, none⟩ : Addr).add (k * 2)) = ⟨g, k * 2, none⟩ by unfold Addr.add; split <;> simp_all] at this
 · have h1 : (nameCs S)[k * 2 + 1]? = some (.int .u64 (S.getD k (0, 0)).2) := by
    rcases hget (k * 2 + 1) with e | e
    · rw [e, show (k * 2 + 1) / 2 = k by omega, show (k * 2 + 1) % 2 = 1 by omega]; rfl
    · omega
   have := hc _ _ h1
   rwa [show ((⟨g, 0, none⟩ : Addr).add (k * 2 + 1)) = ⟨g, k * 2 + 1, none⟩ by unfold Addr.add; split <;> simp_all] at this
theorem step_append_pl (w : World) {ops : Array Oper} {o : Oper} {a : Act} {K : Act -> World -> Prop} {Q : Exit -> Act -> World -> Prop} {E : Prop} (hgd : o.guard = none) (s x : Operand)
    (ho : o.op = .call { callee := .builtin .append, args := #[s, x], argTypes := #[47, 47] }) {base c : Nat} {A : Option Addr} (O : List Pl) (p : Pl)
    (hown : w.ownsRow base 55 4 (.slice A O.length c) O.length (plCs O)) {n : Nat} (hn : n = O.length) (hs : a.eval s = .slice A n c) (hx : a.eval x = .slice (some ⟨w.heap.size, 0, none⟩) 1 1) (hlen : O.length <= 2000000) (hbase : base <= w.heap.size)
    (h : ∀ A' c' w', w'.ownsRow base 55 4 (.slice A' (n + 1) c') (n + 1) (plCs (O ++ [p])) -> Kp (fun i => (Value.slice A n c).ownBlock = some i) w w' -> K (a.put o.dst (.slice A' (n + 1) c')) w') :
    if Region.wanted o (yielded ops a.tmps) = true then Oper.wp Tryz.prog o a (w.alloc (.cells #[.int .u32 p.t, .int .u64 p.b, .int .i64 p.z, .int .i64 p.k] 55)) K Q else E := by
 subst hn
 have hw : Region.wanted o (yielded ops a.tmps) = true := by simp [Region.wanted, hgd]
 rw [if_pos hw]
 obtain ⟨i0, hi0, hz0, hz1, hz2⟩ := info_parts pl_info
 refine wp_append_any _ s x _ ho base 55 i0 _ 4 32 Tryz.underlying47 hi0 hz0 hz1 hz2 rfl (by omega) (.slice A O.length c) O.length (plCs O) hs (hown.alloc _) _ _ 1 1 (plC p) hx (reads_pl w p) ?_ (by simp only [maxLen]; omega) (by omega) (by simp; omega) ?_
 · intro u hu
   exact plCs_one [p] u (by simpa [plCs] using hu)
 · intro v' w' hown' hg hat
   obtain ⟨A', c', rfl⟩ := own_form hown'
   rw [<- plCs_snoc] at hown'
   have hk : Kp (fun i => (Value.slice A O.length c).ownBlock = some i) w w' := by
    have h1 : Kp (fun i => (Value.slice A O.length c).ownBlock = some i) w (w.alloc (.cells #[.int .u32 p.t, .int .u64 p.b, .int .i64 p.z, .int .i64 p.k] 55)) := (Kp.refl _ w).alloc _
    have h2 : Kp (fun i => (Value.slice A O.length c).ownBlock = some i) (w.alloc (.cells #[.int .u32 p.t, .int .u64 p.b, .int .i64 p.z, .int .i64 p.k] 55)) w' := ⟨hg.os, hg.tape, hg.output, hg.size, fun i hi hn => hg.block i hi (fun e => hn e.symm)⟩
    exact h1.trans h2 (fun _ _ h => h)
   exact h A' c' w' hown' hk
set_option maxRecDepth 20000 in
set_option maxHeartbeats 4000000 in
theorem lall_any (w : World) (f : LFp) (n : Nat) (L : List Pl) (hn : n <= 1000000) (h : LM w f n L) :
    Calls Tryz.prog 22 #[.pointer (some ⟨f.g, 0, none⟩)] w
      (fun e w' => ∃ A c S, e = .returned (.slice A (List.length S) c) ∧ OwnPl w' w.heap.size A c S ∧ S.Perm L ∧ Rising S ∧ Below w.heap.size w w') := by
 have h1 : w.cell? ⟨f.g, 0, none⟩ = some (.map (some f.b1)) := h.blk.cell 0
 have HL := Lib.hid h
 have HN := Lib.hid hn
 have hbg : f.g < w.heap.size := h.blk.lt
 clear h hn
 go_enter Tryz.func22, Tryz.ntmps22
 go_wp2_with (first
   | (go_at_call 53
      refine (keys_any w f.b1).mono ?_
      rintro e w1 ⟨rfl, hw1⟩
      have hb1 : Below w.heap.size w w1 := by rw [hw1]; exact (Below.refl _ w).alloc (Nat.le_refl _) _
      have hc1 : w1.cell? ⟨w.heap.size, 0, none⟩ = some (.map (some f.b1)) := by rw [hw1]; exact (Blk.new w 109 #[.map (some f.b1)]).cell 0
      have hs1 : w1.heap.size = w.heap.size + 1 := by rw [hw1]; simp
      have HB1 := Lib.hid hb1
      have HC1 := Lib.hid hc1
      have HS1 := Lib.hid hs1
      clear hw1 hb1 hc1 hs1))
 refine (sorted_any w1 w.heap.size f.b1 n (atOf L) HN.out (by have := HS1.out; omega) HC1.out (HL.out.below HB1.out).where_ (fun ss hs => Nat.le_trans (Nat.le_of_eq (nall_len HL.out.uniq HL.out.names hs)) HL.out.len)).mono ?_
 rintro e w2 ⟨A, c, S, rfl, hS, hSo, hO, hb⟩
 have HS := Lib.hid hS
 have HSO := Lib.hid hSo
 have HO := Lib.hid (ownsRow_base_a hO HB1.out.size)
 have HB2 := Lib.hid (HB1.out.trans (hb.mono HB1.out.size))
 have HSL : Hid (S.length <= n) := Nat.le_trans (Nat.le_of_eq (nall_len HL.out.uniq HL.out.names hS)) HL.out.len
 have hbg2 : f.g < w2.heap.size := Nat.lt_of_lt_of_le hbg HB2.out.size
 clear hS hSo hO hb HB1 HC1 HS1
 go_wp2_with (fail)
 clear h1 hbg2
 go_loopw [3, 13] (fun o i wr => ∃ (A2 : Option Addr) (c2 k : Nat), k <= S.length ∧ o = .slice A2 k c2 ∧ i = .int .i64 k ∧ Hid (OwnPl wr w.heap.size A2 c2 ((S.take k).map (plOf L))) ∧ Hid (OwnNm wr w.heap.size A c S) ∧ Hid (Below w.heap.size w wr)) (fun _ i _ => S.length - (intOf i).toNat)
 case atStart => exact ⟨none, 0, 0, Nat.zero_le _, rfl, rfl, (show Hid _ from ⟨rfl, .inl ⟨rfl, rfl⟩⟩), HO, HB2⟩
 case round =>
  obtain ⟨A2, c2, k, hk, rfl, rfl, hown, hnm, hbl⟩ := hrel
  clear HO HB2
  rcases Nat.lt_or_ge k S.length with hlt | hge
  · obtain ⟨r, rfl, n0, n1⟩ := nm_cells hnm.out hlt
    have HLT : Hid (k < S.length) := hlt
    have hklen : S.length <= 1000000 := by have := HSL.out; have := HN.out; omega
    obtain ⟨m1, m2, hm⟩ : ∃ m1 m2, S.getD k (0, 0) = (m1, m2) := ⟨_, _, rfl⟩
    have HM := Lib.hid hm
    rw [hm] at n0 n1
    clear hm
    have hmem : (m1, m2) ∈ S := by
     have h1 := HM.out
     rw [List.getD_eq_getElem?_getD, List.getElem?_eq_getElem hlt] at h1
     rw [<- h1]
     exact List.getElem_mem hlt
    have hin := (HS.out.2 _).1 hmem
    obtain ⟨am, ha⟩ : ∃ a, atOf L (m1, m2) = some a := Option.isSome_iff_exists.1 hin.2
    obtain ⟨a1, a2⟩ := am
    have hp : plOf L (S.getD k (0, 0)) = ⟨m1, m2, a1, a2⟩ := by rw [HM.out]; unfold plOf; rw [ha]
    have htk : (S.take (k + 1)).map (plOf L) = (S.take k).map (plOf L) ++ [⟨m1, m2, a1, a2⟩] := by
     rw [List.take_succ_eq_append_getElem hlt, List.map_append, List.map_cons, List.map_nil, <- hp, List.getD_eq_getElem?_getD, List.getElem?_eq_getElem hlt]
     rfl
    have HTK := Lib.hid htk
    have HKL : Hid (((S.take k).map (plOf L)).length = k) := by unfold Hid; simp; omega
    have HKM : Hid (((S.take k).map (plOf L)).length <= 2000000) := by rw [HKL.out]; unfold Hid; omega
    have HA := Lib.hid ha
    have HNO := Lib.hid hin.1
    clear hmem hin ha hp htk hlt hklen
    go_wp2_with (fail)
    clear n0 n1
    have hs0 : Hid (w.heap.size <= wr.heap.size) := hbl.out.size
    have HBL2 := Lib.hid (hbl.out.alloc hbl.out.size (.cells #[.int .u32 m1, .int .u64 m2] 105))
    have HLM2 := Lib.hid (HL.out.below HBL2.out)
    have HOWN2 : Hid (OwnPl (wr.alloc (.cells #[.int .u32 m1, .int .u64 m2] 105)) w.heap.size A2 c2 ((S.take k).map (plOf L))) := World.ownsRow.alloc hown.out _
    have HNM2 : Hid (OwnNm (wr.alloc (.cells #[.int .u32 m1, .int .u64 m2] 105)) w.heap.size (some ⟨r, 0, none⟩) c S) := World.ownsRow.alloc hnm.out _
    have HK2 := Lib.hid (Blk.new wr 105 #[.int .u32 m1, .int .u64 m2])
    have hs2 : Hid (wr.heap.size < (wr.alloc (.cells #[.int .u32 m1, .int .u64 m2] 105)).heap.size) := by unfold Hid; simp
    clear hown hnm hbl
    generalize wr.alloc (.cells #[.int .u32 m1, .int .u64 m2] 105) = w1 at *
    have e1 : (Instr.lookup 109 (.map (some f.b1)) (.agg #[.int .u32 m1, .int .u64 m2]) false).run Tryz.prog w1.drew = .ok (.agg #[.int .i64 a1, .int .i64 a2]) w1.drew := by
     have := HLM2.out.drew.where_.look (t := 109) (e := 53) Tryz.underlying109 (z := addrV (0, 0)) (by kernel_rfl) (a := (m1, m2)) HNO.out false
     refine this.trans ?_
     rw [HA.out]
     rfl
    have ks : w1.cell? ⟨f.g, 0, none⟩ = some (.map (some f.b1)) ∧ w1.cell? ⟨wr.heap.size, 0, none⟩ = some (.int .u32 m1) ∧ w1.cell? ⟨wr.heap.size, 1, none⟩ = some (.int .u64 m2) := ⟨HLM2.out.blk.cell 0, HK2.out.cell 0, HK2.out.cell 1⟩
    go_region_held3 (fun u => u.cell? ⟨f.g, 0, none⟩ = some (.map (some f.b1)) ∧ u.cell? ⟨wr.heap.size, 0, none⟩ = some (.int .u32 m1) ∧ u.cell? ⟨wr.heap.size, 1, none⟩ = some (.int .u64 m2))
      (first | exact ks | exact ks4 | exact ks4a | exact ks5)
      (first
        | (go_at_call 55
           refine (place_any w1.drew (m1, m2) (a1, a2)).mono ?_
           rintro e w4 ⟨rfl, hb⟩
           have HOWN4 : Hid (OwnPl w4 w.heap.size A2 c2 ((S.take k).map (plOf L))) := OwnPl.below (w := w1.drew) HOWN2.out hb
           have HNM4 : Hid (OwnNm w4 w.heap.size (some ⟨r, 0, none⟩) c S) := World.ownsRow.kept (row := none) (w := w1.drew) HNM2.out ⟨hb.os, hb.tape, hb.output, hb.size, fun i hi _ => hb.block i hi⟩ (by cases (Value.slice (some ⟨r, 0, none⟩) S.length c).ownBlock <;> simp)
           have HK4 := Lib.hid (HK2.out.drew.below hb hs2.out)
           have HBL4 : Hid (Below w.heap.size w w4) := (show RowKit.Below w.heap.size w w1.drew from ⟨HBL2.out.os, HBL2.out.tape, HBL2.out.output, HBL2.out.size, HBL2.out.block⟩).trans (RowKit.Below.mono hb HBL2.out.size)
           have HLM4 := Lib.hid (HL.out.below HBL4.out)
           have ks4 : w4.cell? ⟨f.g, 0, none⟩ = some (.map (some f.b1)) ∧ w4.cell? ⟨wr.heap.size, 0, none⟩ = some (.int .u32 m1) ∧ w4.cell? ⟨wr.heap.size, 1, none⟩ = some (.int .u64 m2) := ⟨HLM4.out.blk.cell 0, HK4.out.cell 0, HK4.out.cell 1⟩
           have ks4a : (w4.alloc (.cells #[.int .u32 m1, .int .u64 m2, .int .i64 a1, .int .i64 a2] 55)).cell? ⟨f.g, 0, none⟩ = some (.map (some f.b1)) ∧ (w4.alloc (.cells #[.int .u32 m1, .int .u64 m2, .int .i64 a1, .int .i64 a2] 55)).cell? ⟨wr.heap.size, 0, none⟩ = some (.int .u32 m1) ∧ (w4.alloc (.cells #[.int .u32 m1, .int .u64 m2, .int .i64 a1, .int .i64 a2] 55)).cell? ⟨wr.heap.size, 1, none⟩ = some (.int .u64 m2) := ⟨(HLM4.out.alloc _).blk.cell 0, (HK4.out.alloc _).cell 0, (HK4.out.alloc _).cell 1⟩
           clear hb)
        | (refine step_append_pl w4 rfl _ _ rfl ((S.take k).map (plOf L)) ⟨m1, m2, a1, a2⟩ HOWN4.out HKL.out.symm rfl rfl HKM.out HBL4.out.size ?_
           intro A5 c5 w5 ho5 hk5
           have hown_ne : ∀ b (o : Obj), w4.heap[b]? = some o -> (∀ cs fr, o ≠ .cells cs 55 fr) -> ¬ (Value.slice A2 k c2).ownBlock = some b := by
            intro b o ho hno e
            rcases HOWN4.out.2 with ⟨e1, _⟩ | ⟨g', cap, cur, e1, _, hh, _⟩
            · injection e1 with e1 _ _; subst e1; simp [Value.ownBlock] at e
            · injection e1 with e1 _ _
              subst e1
              have : g' = b := by simpa [Value.ownBlock] using e
              subst this
              rw [hh] at ho
              injection ho with ho
              exact hno _ _ ho.symm
           have HBL5 := Lib.hid (Kp.below HBL4.out hk5 HBL4.out.size (fun b hb e => by
            have h1 := (World.ownsRow.lt HOWN4.out b (by rw [HKL.out]; exact e)).1
            omega))
           have HLM5 := Lib.hid (HL.out.below HBL5.out)
           have HK5 := Lib.hid (hk5.blk HK4.out (hown_ne _ _ HK4.out (fun cs fr e => by cases e)))
           have ks5 : w5.cell? ⟨f.g, 0, none⟩ = some (.map (some f.b1)) ∧ w5.cell? ⟨wr.heap.size, 0, none⟩ = some (.int .u32 m1) ∧ w5.cell? ⟨wr.heap.size, 1, none⟩ = some (.int .u64 m2) := ⟨HLM5.out.blk.cell 0, HK5.out.cell 0, HK5.out.cell 1⟩
           have HNM5 : Hid (OwnNm w5 w.heap.size (some ⟨r, 0, none⟩) c S) := World.ownsRow.kept (row := (Value.slice A2 k c2).ownBlock) HNM4.out ⟨hk5.os, hk5.tape, hk5.output, hk5.size, fun i hi hne => hk5.block i hi (fun e => hne e.symm)⟩ (.inr fun e => by
            rcases HNM4.out.2 with ⟨e1, _⟩ | ⟨g', cap, cur, e1, _, hh, _⟩
            · injection e1 with e1; cases e1
            · rw [e1] at e
              exact hown_ne g' _ hh (fun cs fr e => by cases e) (by simpa [Value.ownBlock] using e.symm))
           have HO5 : Hid (w5.ownsRow w.heap.size 55 4 (.slice A5 (k + 1) c5) (k + 1) (plCs ((S.take (k + 1)).map (plOf L)))) := by rw [HTK.out]; exact ho5
           clear ho5 hk5 hown_ne))
    clear e1 ks ks4 ks4a ks5 HOWN2 HNM2 HOWN4 HNM4 HLM2 HK2 HBL2 HLM4 HK4 HBL4
    have hk1 : (k : Int) + 1 <= 1000001 := by have h1 := HSL.out; have h2 := HN.out; have h3 := HLT.out; omega
    go_wp2
    go_roundw
    case rel =>
     refine ⟨A5, c5, k + 1, HLT.out, rfl, by go_num, ?_, HNM5, HBL5⟩
     have h1 : ((S.take (k + 1)).map (plOf L)).length = k + 1 := by have := HLT.out; simp; omega
     unfold Hid OwnPl
     rw [h1]
     exact HO5.out
    case measure => have := HLT.out; simp [intOf]; omega
  · have hkk : k = S.length := by omega
    subst hkk
    go_wp2_with (fail)
    go_ret
    have h1 : (S.take S.length).map (plOf L) = S.map (plOf L) := by rw [List.take_length]
    have hp := nall_perm HL.out.uniq HL.out.names HS.out
    refine ⟨A2, c2, S.map (plOf L), by simp, ?_, hp, nall_rising L HS.out.1 HSO.out, hbl.out⟩
    have := hown.out
    rwa [h1] at this
end Go.Proofs.YtfabgbmbnmbjkaaGreatDoor

