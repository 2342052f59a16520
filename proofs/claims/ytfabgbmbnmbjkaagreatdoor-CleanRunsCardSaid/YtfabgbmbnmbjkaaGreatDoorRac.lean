/- Joined texts: Mv Rg. -/
import Derived.Maps.OwnSet
import Derived.Maps.RangeWalk
import Derived.DeepKeys4
import Derived.WideKeyEntry
import Derived.RegionTactic
import Derived.StillTailTactics
import Derived.Test.YtfabgbmbnmbjkaaGreatDoorRab
/- Pruned. -/
namespace Go.Proofs.YtfabgbmbnmbjkaaGreatDoor
open Go.Maps (Keyed)
open Go.RowKit
structure KeyCode (P : Program) (k : TypeId) (A : Type) where
  law : Keyed P k
  kv : A -> Value
  ok : A -> Prop
  isKey : ∀ a, ok a -> ∃ kl, keyOf P k (kv a) = some kl
  inj : ∀ a b, kv a = kv b -> a = b
theorem KeyCode.keyed {P : Program} {k : TypeId} {A : Type} (C : KeyCode P k A) : Keyed P k := C.law
def asHeld (v : Value) : Option (DataW Value × List MemPlace) := some (.held v, [])
structure MapF {P : Program} {k : TypeId} {A B : Type} (C : KeyCode P k A) (ev : B -> Value) (w : World) (b n : Nat) (F : A -> Option B) : Prop where
  is : ∃ D : DataW Value, w.ownsMap P k asHeld b n D ∧ (∀ a kl, C.ok a -> keyOf P k (C.kv a) = some kl -> Maps.has D kl = (F a).isSome ∧ ∀ z, D.atKey kl z = ((F a).map (fun x => DataW.held (ev x))).getD z) ∧
    ∀ kl, Maps.has D kl = true -> ∃ a, C.ok a ∧ keyOf P k (C.kv a) = some kl
section
variable {P : Program} {k : TypeId} {A B : Type} {C : KeyCode P k A} {ev : B -> Value} {w w' : World} {b n : Nat} {F : A -> Option B}
theorem MapF.lt (h : MapF C ev w b n F) : b < w.heap.size := by obtain ⟨D, h1, _⟩ := h.is; exact h1.lt
theorem MapF.of_block (h : MapF C ev w b n F) (hb : w'.heap[b]? = w.heap[b]?) : MapF C ev w' b n F := by
 obtain ⟨D, ⟨es, clock, h0, h1⟩, h2⟩ := h.is
 exact ⟨D, ⟨es, clock, hb.trans h0, h1⟩, h2⟩
theorem MapF.mono (h : MapF C ev w b n F) {n' : Nat} (hn : n <= n') : MapF C ev w b n' F := by
 obtain ⟨D, h1, h2⟩ := h.is
 exact ⟨D, h1.mono hn, h2⟩
theorem MapF.drew (h : MapF C ev w b n F) : MapF C ev w.drew b n F := h.of_block rfl
theorem MapF.alloc (h : MapF C ev w b n F) (o : Obj) : MapF C ev (w.alloc o) b n F := h.of_block (Below.heap_alloc w o b h.lt)
theorem MapF.kp {S : Nat -> Prop} (h : MapF C ev w b n F) (hk : Kp S w w') (hs : ¬ S b) : MapF C ev w' b n F := h.of_block (hk.block b h.lt hs)
theorem MapF.made (w : World) (C : KeyCode P k A) (ev : B -> Value) : MapF C ev (w.alloc (.map #[] 0)) w.heap.size 0 (fun _ => none) :=
 ⟨.map [], World.ownsMap_made w P k asHeld, fun a kl _ _ => ⟨rfl, fun z => rfl⟩, fun kl h => by cases h⟩
theorem grownBy_kp (h : w.grownBy w' (some b)) : Kp (fun i => i = b) w w' :=
 ⟨h.os, h.tape, h.output, h.size, fun i hi hn => h.block i hi (fun e => hn (by cases e; rfl))⟩
theorem MapF.look {t e : TypeId} (h : MapF C ev w b n F) (ht : P.underlying t = some (.map k e)) {z : Value} (hz : (zeroValue e).run P w = .ok z w) {a : A} (ha : C.ok a) (c : Bool) :
    (Instr.lookup t (.map (some b)) (C.kv a) c).run P w = .ok (if c then .tuple #[((F a).map ev).getD z, .bool (F a).isSome] else ((F a).map ev).getD z) w := by
 obtain ⟨D, h1, h2, _⟩ := h.is
 obtain ⟨kl, hkl⟩ := C.isKey a ha
 obtain ⟨e1, e2⟩ := h2 a kl ha hkl
 have hv : ∀ v ps, asHeld v = some (D.atKey kl (.held z), ps) -> v = ((F a).map ev).getD z := by
  intro v ps hv
  rw [e2] at hv
  cases hF : F a with
  | none => rw [hF] at hv; simp [asHeld] at hv; simpa using hv.1
  | some x => rw [hF] at hv; simp [asHeld] at hv; simpa using hv.1
 cases c with
 | true =>
   obtain ⟨v, ps, hrun, hr⟩ := h1.look_ok C.keyed ht hz (zd := .held z) (zp := []) rfl hkl
   rw [hrun, e1, hv v ps hr]
   rfl
 | false =>
   obtain ⟨v, ps, hrun, hr⟩ := h1.lookup C.keyed ht hz (zd := .held z) (zp := []) rfl hkl
   rw [hrun, hv v ps hr]
   rfl
theorem MapF.store {t e : TypeId} (h : MapF C ev w b n F) (ht : P.underlying t = some (.map k e)) (hn : n < maxLen) {a : A} (ha : C.ok a) (x : B) (G : A -> Option B) (h1 : G a = some x) (h2 : ∀ c, c ≠ a -> G c = F c) :
    ∃ w', (Instr.mapUpdate t (.map (some b)) (C.kv a) (ev x)).run P w = .ok () w' ∧ MapF C ev w' b (n + 1) G ∧ w.mapTurned w' b := by
 obtain ⟨D, d1, d2, d3⟩ := h.is
 obtain ⟨kl, hkl⟩ := C.isKey a ha
 have hik := C.keyed.key hkl
 obtain ⟨w', hrun, o1, o2⟩ := d1.store C.keyed ht hn (val := ev x) (d := .held (ev x)) (ps := []) hkl rfl
 refine ⟨w', hrun, ⟨_, o1, fun c kc hc hkc => ?_, fun kc hkc => ?_⟩, o2⟩
 · by_cases hca : c = a
   · subst hca
     rw [hkl] at hkc
     cases hkc
     rw [h1]
     exact ⟨Maps.has_put_same d1.isMap hik _, fun z => Maps.atKey_put_same d1.isMap hik _ z⟩
   · have hne : kc ≠ kl := fun e => hca (C.inj c a (C.law.inj (e ▸ hkc) hkl))
     rw [h2 c hca, Maps.has_put_other hne]
     exact ⟨(d2 c kc hc hkc).1, fun z => by rw [Maps.atKey_put_other hne]; exact (d2 c kc hc hkc).2 z⟩
 · by_cases e : kc = kl
   · subst e
     exact ⟨a, ha, hkl⟩
   · rw [Maps.has_put_other e] at hkc
     exact d3 kc hkc
theorem MapF.drop {t e : TypeId} (h : MapF C ev w b n F) (ht : P.underlying t = some (.map k e)) {a : A} (ha : C.ok a) (G : A -> Option B) (h1 : G a = none) (h2 : ∀ c, c ≠ a -> G c = F c) (ty : TypeId) :
    ∃ w', (Builtin.delete_ #[t, k] ty #[.map (some b), C.kv a]).run P w = .ok (.tuple #[]) w' ∧ MapF C ev w' b n G ∧ w.mapTurned w' b := by
 obtain ⟨D, d1, d2, d3⟩ := h.is
 obtain ⟨kl, hkl⟩ := C.isKey a ha
 obtain ⟨w', hrun, o1, o2⟩ := d1.drop C.keyed ht hkl ty
 refine ⟨w', hrun, ⟨_, o1, fun c kc hc hkc => ?_, fun kc hkc => ?_⟩, o2⟩
 · by_cases hca : c = a
   · subst hca
     rw [hkl] at hkc
     cases hkc
     rw [h1]
     exact ⟨Maps.has_del_same, fun z => Maps.atKey_del_same z⟩
   · have hne : kc ≠ kl := fun e => hca (C.inj c a (C.law.inj (e ▸ hkc) hkl))
     rw [h2 c hca, Maps.has_del_other hne]
     exact ⟨(d2 c kc hc hkc).1, fun z => by rw [Maps.atKey_del_other hne]; exact (d2 c kc hc hkc).2 z⟩
 · by_cases e : kc = kl
   · subst e
     exact ⟨a, ha, hkl⟩
   · rw [Maps.has_del_other e] at hkc
     exact d3 kc hkc
theorem MapF.entry {t e : TypeId} (h : MapF C ev w b n F) (L : WideMaps.KeyLaw P k) (ht : P.underlying t = some (.map k e)) (hn : n < maxLen) {z : Value} (hz : ∀ u : World, (zeroValue e).run P u = .ok z u) {a : A} (ha : C.ok a) (x : B) (G : A -> Option B) (h1 : G a = some x) (h2 : ∀ c, c ≠ a -> G c = F c) :
    ∃ (v0 : Value) (st : Nat) (w1 : World), (Instr.mapEntry t (.map (some b)) (C.kv a)).run P w = .ok (.tuple #[v0, .int .i64 st]) w1 ∧ w.mapTurned w1 b ∧
      ∀ w2 : World, w2.heap[b]? = w1.heap[b]? -> ∃ w3, (Instr.entryStore t (.map (some b)) (.int .i64 st) (ev x)).run P w2 = .ok () w3 ∧ MapF C ev w3 b (n + 1) G ∧ w2.mapTurned w3 b := by
 obtain ⟨w', hrun, o1, o2⟩ := h.store ht hn ha x G h1 h2
 obtain ⟨D, ⟨es, clock, hb, hF, hs, hD⟩, d2, d3⟩ := h.is
 obtain ⟨kl, hkl⟩ := C.isKey a ha
 obtain ⟨v0, st, es1, clock1, r1, _, r3⟩ := WideElems.entry_then_store L ht hz hb hF hkl
 refine ⟨v0, st, _, r1, ⟨es, clock, es1, clock1, hb, rfl⟩, fun w2 hw2 => ?_⟩
 have hw2' : w2.heap[b]? = some (.map es1 clock1) := hw2.trans (ChangeMaps.heap_setBlock_same hb _)
 obtain ⟨es', clock', s1, s2⟩ := r3 w2 (ev x) hw2'
 refine ⟨_, s1, o1.of_block ?_, ⟨es1, clock1, es', clock', hw2', rfl⟩⟩
 rw [hrun] at s2
 have hw' := (Result.ok.inj s2).2
 rw [hw', ChangeMaps.heap_setBlock_same hb, ChangeMaps.heap_setBlock_same hw2']
theorem wpStill_look {ops : Array Oper} {rest : List Oper} {o : Oper} {a : Act} {Q : Act -> Prop} (hg : o.guard = none) (m x : Operand) (t : TypeId) (c : Bool) (hop : o.op = Op.lookup t m x c)
    (mv xv v : Value) (hm : a.eval m = mv) (hx : a.eval x = xv) (hrun : (Instr.lookup t mv xv c).run P w = .ok v w) (h : wpStill P ops w Q rest (a.put o.dst v)) : wpStill P ops w Q (o :: rest) a := by
 refine wpStill_step fun K hK => ?_
 have hw : Region.wanted o (yielded ops a.tmps) = true := by simp [Region.wanted, hg]
 rw [if_pos hw]
 unfold Oper.still
 simp [execOp, hop, hm, hx, hrun, Result.andThen, Oper.stillUpon]
 exact hK _ h
section
variable {ops : Array Oper} {rest : List Oper} {o : Oper} {a : Act} {Q : Exit -> Act -> World -> Prop}
theorem wpList_mapF_drop (hg : o.guard = none) (m x : Operand) (t e : TypeId) (hop : o.op = Op.call { callee := Callee.builtin Builtin.delete, args := #[m, x], argTypes := #[t, k] })
    (h : MapF C ev w b n F) (ht : P.underlying t = some (.map k e)) (key : A) (hk : C.ok key) (G : A -> Option B) (h1 : G key = none) (h2 : ∀ c, c ≠ key -> G c = F c)
    (hm : a.eval m = .map (some b)) (hx : a.eval x = C.kv key) (hK : ∀ w', MapF C ev w' b n G -> Kp (fun i => i = b) w w' -> wpList P ops Q rest (a.put o.dst (.tuple #[])) w') : wpList P ops Q (o :: rest) a w := by
 refine wpList_plain hg fun K' hK' => ?_
 obtain ⟨w', hrun, r1, r2⟩ := h.drop ht hk G h1 h2 o.type
 unfold Oper.wp
 simp [execOp, hop, resolve, invoke, builtin, hm, hx, hrun, Result.andThen]
 exact hK' _ _ (hK w' r1 (grownBy_kp r2.grown))
theorem wpList_mapF_store (hg : o.guard = none) (m x v : Operand) (t e : TypeId) (hop : o.op = Op.mapUpdate t m x v)
    (h : MapF C ev w b n F) (ht : P.underlying t = some (.map k e)) (hn : n < maxLen) (key : A) (hk : C.ok key) (y : B) (G : A -> Option B) (h1 : G key = some y) (h2 : ∀ c, c ≠ key -> G c = F c)
    (hm : a.eval m = .map (some b)) (hx : a.eval x = C.kv key) (hv : a.eval v = ev y) (hK : ∀ w', MapF C ev w' b (n + 1) G -> Kp (fun i => i = b) w w' -> wpList P ops Q rest (a.put o.dst undef) w') : wpList P ops Q (o :: rest) a w := by
 refine wpList_plain hg fun K' hK' => ?_
 obtain ⟨w', hrun, r1, r2⟩ := h.store ht hn hk y G h1 h2
 unfold Oper.wp
 simp [execOp, hop, hm, hx, hv, hrun, Result.andThen]
 exact hK' _ _ (hK w' r1 (grownBy_kp r2.grown))
end
end
section
variable {P : Program} {k : TypeId} {A B : Type} {C : KeyCode P k A} {ev : B -> Value} {w w' : World} {b n : Nat} {F : A -> Option B} {ops : Array Oper} {o : Oper} {a : Act} {K : Act -> World -> Prop} {Q : Exit -> Act -> World -> Prop} {E : Prop}
end
#print axioms MapF.entry
end Go.Proofs.YtfabgbmbnmbjkaaGreatDoor

/- Pruned. -/
namespace Go.Proofs.YtfabgbmbnmbjkaaGreatDoor
open Go.Maps (Keyed)
open Go.RowKit
structure RangeF {P : Program} {k : TypeId} {A B : Type} (C : KeyCode P k A) (ev : B -> Value) (w : World) (b r n : Nat) (F : A -> Option B) (left : A -> Bool) (cnt : Nat) : Prop where
  is : ∃ (D : DataW Value) (lf : Lit -> Bool), w.ranges P k asHeld b r n D lf cnt ∧ (∀ a kl, C.ok a -> keyOf P k (C.kv a) = some kl -> ∀ z, D.atKey kl z = ((F a).map (fun x => DataW.held (ev x))).getD z) ∧ ∀ a kl, C.ok a -> keyOf P k (C.kv a) = some kl -> lf kl = left a
section
variable {P : Program} {k : TypeId} {A B : Type} {C : KeyCode P k A} {ev : B -> Value} {w w' : World} {b r n : Nat} {F : A -> Option B} {left : A -> Bool} {cnt : Nat}
theorem ranges_of_heap {D : DataW Value} {lf : Lit -> Bool} (h : w.ranges P k asHeld b r n D lf cnt) (hb : w'.heap[b]? = w.heap[b]?) (hr : w'.heap[r]? = w.heap[r]?) : w'.ranges P k asHeld b r n D lf cnt := by
 obtain ⟨es, clock, since, seen, c0, h1, h2, h3, h4, h5, h6⟩ := h
 exact ⟨es, clock, since, seen, c0, hb.trans h1, h2, h3, h4, hr.trans h5, h6⟩
theorem RangeF.of_heap (h : RangeF C ev w b r n F left cnt) (hb : w'.heap[b]? = w.heap[b]?) (hr : w'.heap[r]? = w.heap[r]?) : RangeF C ev w' b r n F left cnt := by
 obtain ⟨D, lf, h1, h2⟩ := h.is
 exact ⟨D, lf, ranges_of_heap h1 hb hr, h2⟩
theorem RangeF.lt (h : RangeF C ev w b r n F left cnt) : b < w.heap.size ∧ r < w.heap.size := by
 obtain ⟨D, lf, ⟨es, clock, since, seen, c0, h1, _, _, _, h5, _⟩, _⟩ := h.is
 exact ⟨(Array.getElem?_eq_some_iff.1 h1).1, (Array.getElem?_eq_some_iff.1 h5).1⟩
theorem RangeF.kp {S : Nat -> Prop} (h : RangeF C ev w b r n F left cnt) (hk : Kp S w w') (hb : ¬ S b) (hr : ¬ S r) : RangeF C ev w' b r n F left cnt := h.of_heap (hk.block b h.lt.1 hb) (hk.block r h.lt.2 hr)
theorem RangeF.alloc (h : RangeF C ev w b r n F left cnt) (o : Obj) : RangeF C ev (w.alloc o) b r n F left cnt := h.kp ((Kp.refl (fun _ => False) w).alloc o) (fun e => e) (fun e => e)
theorem RangeF.below (h : RangeF C ev w b r n F left cnt) (hb : Below w.heap.size w w') : RangeF C ev w' b r n F left cnt := h.kp (S := fun _ => False) (Kp.of_below hb) (fun e => e) (fun e => e)
theorem RangeF.iter (h : RangeF C ev w b r n F left cnt) : ∃ a0 a1 a2 a3, w.heap[r]? = some (.mapIter a0 a1 a2 a3) := by
 obtain ⟨D, lf, ⟨es, clock, since, seen, c0, h1, _, _, _, h5, _⟩, _⟩ := h.is
 exact ⟨_, _, _, _, h5⟩
theorem RangeF.left_eq (h : RangeF C ev w b r n F left cnt) : w.rangeLeft b r = cnt := by
 obtain ⟨D, lf, h1, _⟩ := h.is
 exact h1.left_eq
section
variable {ops : Array Oper} {rest : List Oper} {o : Oper} {a : Act} {Q : Exit -> Act -> World -> Prop}
theorem wpList_range_mapF (w : World) (hg : o.guard = none) (m : Operand) (t : TypeId) (hop : o.op = Op.range t m) (e : TypeId) (ht : P.underlying t = some (.map k e)) (hm : a.eval m = .map (some b)) (h : MapF C ev w b n F)
    (hK : ∀ w' cnt, RangeF C ev w' b w.heap.size n F (fun c => (F c).isSome) cnt -> cnt <= n -> Below w.heap.size w w' -> w'.heap.size = w.heap.size + 1 -> wpList P ops Q rest (a.put o.dst (.pointer (some ⟨w.heap.size, 0, none⟩))) w') :
    wpList P ops Q (o :: rest) a w := by
 obtain ⟨D, h1, h2, h3⟩ := h.is
 refine wpList_range_own w hg m t hop k e C.law ht asHeld b n D hm h1 ?_
 intro w' hr hgr hsz
 refine hK w' _ ⟨D, _, hr, fun c kl hc hkl => (h2 c kl hc hkl).2, fun c kl hc hkl => (h2 c kl hc hkl).1⟩ h1.size_le ⟨hgr.os, hgr.tape, hgr.output, hgr.size, fun i hi => hgr.block i hi (by simp)⟩ hsz
theorem wpList_next_mapF [DecidableEq A] (w : World) (hinv : ∀ v kl, keyOf P k v = some kl -> ∃ c, C.ok c ∧ v = C.kv c) (hg : o.guard = none) (it : Operand) (hop : o.op = Op.next it false) (hit : a.eval it = .pointer (some ⟨r, 0, none⟩)) (h : RangeF C ev w b r n F left cnt)
    (hDone : (∀ c, C.ok c -> left c = false) -> wpList P ops Q rest (a.put o.dst (.tuple #[.bool false])) w)
    (hMore : ∀ (c : A) (x : B) (w' : World) (cnt' : Nat), C.ok c -> left c = true -> F c = some x -> RangeF C ev w' b r n F (fun d => left d && !decide (d = c)) cnt' -> cnt' < cnt -> Kp (fun i => i = r) w w' -> w'.heap.size = w.heap.size ->
      (Instr.entry (.pointer (some ⟨r, 0, none⟩))).run P w' = .ok (.tuple #[C.kv c, ev x]) w' -> wpList P ops Q rest (a.put o.dst (.tuple #[.bool true, C.kv c, ev x])) w') :
    wpList P ops Q (o :: rest) a w := by
 obtain ⟨D, lf, hr, hd, hl⟩ := h.is
 refine wpList_plain hg fun K' hK' => ?_
 unfold Oper.wp
 rcases hr.next C.law o.type with ⟨h0, hl0, hrun⟩ | ⟨key, v, kl, y, w', cnt', hkey, hlk, hv, hat, hrun, hrg, hlt, hgr, hsz, hen⟩
 · simp [execOp, hop, hit, hrun, Result.andThen]
   refine hK' _ _ (hDone fun c hc => ?_)
   obtain ⟨kl, hkl⟩ := C.isKey c hc
   rw [<- hl c kl hc hkl, hl0]
 · obtain ⟨c, hc, rfl⟩ := hinv key kl hkey
   have hy : y = (.held v, []) := by unfold asHeld at hv; injection hv with hv; exact hv.symm
   subst hy
   have hF : ∃ x, F c = some x ∧ v = ev x := by
    have h1 := hd c kl hc hkey
    cases hFc : F c with
    | none =>
      have := (h1 .nil).symm.trans (hat .nil)
      rw [hFc] at this
      simp at this
    | some x =>
      have := (h1 .nil).symm.trans (hat .nil)
      rw [hFc] at this
      simp at this
      exact ⟨x, rfl, this.symm⟩
   obtain ⟨x, hFx, rfl⟩ := hF
   simp [execOp, hop, hit, hrun, Result.andThen]
   refine hK' _ _ (hMore c x w' cnt' hc (by rw [<- hl c kl hc hkey]; exact hlk) hFx ⟨D, _, hrg, hd, fun d kd hd' hkd => ?_⟩ hlt (grownBy_kp hgr) hsz hen)
   show (lf kd && !kd.sameKey kl) = (left d && !decide (d = c))
   rw [hl d kd hd' hkd]
   by_cases hdc : d = c
   · subst hdc
     rw [hkey] at hkd
     cases hkd
     rw [WideAt.sameKey_self (C.law.key hkey)]
     simp
   · have hne : kd ≠ kl := fun e => hdc (C.inj d c (C.law.inj (e ▸ hkd) hkey))
     rw [Maps.sameKey_ne hne]
     simp [hdc]
end
end
end Go.Proofs.YtfabgbmbnmbjkaaGreatDoor

