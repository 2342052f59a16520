/- Maps as functions, ranged over. -/
import Derived.Test.YtcbbkemfgnbcpaaMv
import Derived.Maps.RangeWalk
namespace Go.Proofs.Ytcbbkemfgnbcpaa
open Go.Maps (Keyed)
open Go.RowKit

/-- Block b is such a map, block r an iterator over it: 'left a': is the entry at a still to come? -/
structure RangeF {P : Program} {k : TypeId} {A B : Type} (C : KeyCode P k A) (ev : B → Value) (w : World) (b r n : Nat) (F : A → Option B) (left : A → Bool) (cnt : Nat) : Prop where
  is : ∃ (D : DataW Value) (lf : Lit → Bool), w.ranges P k asHeld b r n D lf cnt ∧ (∀ a kl, C.ok a → keyOf P k (C.kv a) = some kl → ∀ z, D.atKey kl z = ((F a).map (fun x => DataW.held (ev x))).getD z) ∧ ∀ a kl, C.ok a → keyOf P k (C.kv a) = some kl → lf kl = left a

section
variable {P : Program} {k : TypeId} {A B : Type} {C : KeyCode P k A} {ev : B → Value} {w w' : World} {b r n : Nat} {F : A → Option B} {left : A → Bool} {cnt : Nat}

theorem ranges_of_heap {D : DataW Value} {lf : Lit → Bool} (h : w.ranges P k asHeld b r n D lf cnt) (hb : w'.heap[b]? = w.heap[b]?) (hr : w'.heap[r]? = w.heap[r]?) : w'.ranges P k asHeld b r n D lf cnt := by
  obtain ⟨es, clock, since, seen, c0, h1, h2, h3, h4, h5, h6⟩ := h
  exact ⟨es, clock, since, seen, c0, hb.trans h1, h2, h3, h4, hr.trans h5, h6⟩
theorem RangeF.of_heap (h : RangeF C ev w b r n F left cnt) (hb : w'.heap[b]? = w.heap[b]?) (hr : w'.heap[r]? = w.heap[r]?) : RangeF C ev w' b r n F left cnt := by
  obtain ⟨D, lf, h1, h2⟩ := h.is
  exact ⟨D, lf, ranges_of_heap h1 hb hr, h2⟩
theorem RangeF.lt (h : RangeF C ev w b r n F left cnt) : b < w.heap.size ∧ r < w.heap.size := by
  obtain ⟨D, lf, ⟨es, clock, since, seen, c0, h1, _, _, _, h5, _⟩, _⟩ := h.is
  exact ⟨(Array.getElem?_eq_some_iff.1 h1).1, (Array.getElem?_eq_some_iff.1 h5).1⟩
theorem RangeF.kp {S : Nat → Prop} (h : RangeF C ev w b r n F left cnt) (hk : Kp S w w') (hb : ¬ S b) (hr : ¬ S r) : RangeF C ev w' b r n F left cnt := h.of_heap (hk.block b h.lt.1 hb) (hk.block r h.lt.2 hr)
theorem RangeF.alloc (h : RangeF C ev w b r n F left cnt) (o : Obj) : RangeF C ev (w.alloc o) b r n F left cnt := h.kp ((Kp.refl (fun _ => False) w).alloc o) (fun e => e) (fun e => e)
theorem RangeF.below (h : RangeF C ev w b r n F left cnt) (hb : Below w.heap.size w w') : RangeF C ev w' b r n F left cnt := h.kp (S := fun _ => False) (Kp.of_below hb) (fun e => e) (fun e => e)
theorem RangeF.iter (h : RangeF C ev w b r n F left cnt) : ∃ a0 a1 a2 a3, w.heap[r]? = some (.mapIter a0 a1 a2 a3) := by
  obtain ⟨D, lf, ⟨es, clock, since, seen, c0, h1, _, _, _, h5, _⟩, _⟩ := h.is
  exact ⟨_, _, _, _, h5⟩
theorem RangeF.left_eq (h : RangeF C ev w b r n F left cnt) : w.rangeLeft b r = cnt := by
  obtain ⟨D, lf, h1, _⟩ := h.is
  exact h1.left_eq

section
variable {ops : Array Oper} {rest : List Oper} {o : Oper} {a : Act} {Q : Exit → Act → World → Prop}

theorem wpList_range_mapF (w : World) (hg : o.guard = none) (m : Operand) (t : TypeId) (hop : o.op = Op.range t m) (e : TypeId) (ht : P.underlying t = some (.map k e)) (hm : a.eval m = .map (some b)) (h : MapF C ev w b n F)
    (hK : ∀ w' cnt, RangeF C ev w' b w.heap.size n F (fun c => (F c).isSome) cnt → cnt ≤ n → Below w.heap.size w w' → w'.heap.size = w.heap.size + 1 → wpList P ops Q rest (a.put o.dst (.pointer (some ⟨w.heap.size, 0, none⟩))) w') :
    wpList P ops Q (o :: rest) a w := by
  obtain ⟨D, h1, h2, h3⟩ := h.is
  refine wpList_range_own w hg m t hop k e C.law ht asHeld b n D hm h1 ?_
  intro w' hr hgr hsz
  refine hK w' _ ⟨D, _, hr, fun c kl hc hkl => (h2 c kl hc hkl).2, fun c kl hc hkl => (h2 c kl hc hkl).1⟩ h1.size_le ⟨hgr.os, hgr.tape, hgr.output, hgr.size, fun i hi => hgr.block i hi (by simp)⟩ hsz

theorem wpList_next_mapF [DecidableEq A] (w : World) (hinv : ∀ v kl, keyOf P k v = some kl → ∃ c, C.ok c ∧ v = C.kv c) (hg : o.guard = none) (it : Operand) (hop : o.op = Op.next it false) (hit : a.eval it = .pointer (some ⟨r, 0, none⟩)) (h : RangeF C ev w b r n F left cnt)
    (hDone : (∀ c, C.ok c → left c = false) → wpList P ops Q rest (a.put o.dst (.tuple #[.bool false])) w)
    (hMore : ∀ (c : A) (x : B) (w' : World) (cnt' : Nat), C.ok c → left c = true → F c = some x → RangeF C ev w' b r n F (fun d => left d && !decide (d = c)) cnt' → cnt' < cnt → Kp (fun i => i = r) w w' → w'.heap.size = w.heap.size →
      (Instr.entry (.pointer (some ⟨r, 0, none⟩))).run P w' = .ok (.tuple #[C.kv c, ev x]) w' → wpList P ops Q rest (a.put o.dst (.tuple #[.bool true, C.kv c, ev x])) w') :
    wpList P ops Q (o :: rest) a w := by
  obtain ⟨D, lf, hr, hd, hl⟩ := h.is
  refine wpList_plain hg fun K' hK' => ?_
  unfold Oper.wp
  rcases hr.next C.law o.type with ⟨h0, hl0, hrun⟩ | ⟨key, v, kl, y, w', cnt', hkey, hlk, hv, hat, hrun, hrg, hlt, hgr, hsz, hen⟩
  · simp [execOp, hop, hit, hrun, Result.andThen]
    refine hK' _ _ (hDone fun c hc => ?_)
    obtain ⟨kl, hkl⟩ := C.isKey c hc
    rw [← hl c kl hc hkl, hl0]
  · obtain ⟨c, hc, rfl⟩ := hinv key kl hkey
    have hy : y = (.held v, []) := by unfold asHeld at hv; injection hv with hv; exact hv.symm
    subst hy
    have hF : ∃ x, F c = some x ∧ v = ev x := by
      have h1 := hd c kl hc hkey
      cases hFc : F c with
      | none =>
        have := (h1 .nil).symm.trans (hat .nil)
        rw [hFc] at this
        simp at this
      | some x =>
        have := (h1 .nil).symm.trans (hat .nil)
        rw [hFc] at this
        simp at this
        exact ⟨x, rfl, this.symm⟩
    obtain ⟨x, hFx, rfl⟩ := hF
    simp [execOp, hop, hit, hrun, Result.andThen]
    refine hK' _ _ (hMore c x w' cnt' hc (by rw [← hl c kl hc hkey]; exact hlk) hFx ⟨D, _, hrg, hd, fun d kd hd' hkd => ?_⟩ hlt (grownBy_kp hgr) hsz hen)
    show (lf kd && !kd.sameKey kl) = (left d && !decide (d = c))
    rw [hl d kd hd' hkd]
    by_cases hdc : d = c
    · subst hdc
      rw [hkey] at hkd
      cases hkd
      rw [WideAt.sameKey_self (C.law.key hkey)]
      simp
    · have hne : kd ≠ kl := fun e => hdc (C.inj d c (C.law.inj (e ▸ hkd) hkey))
      rw [Maps.sameKey_ne hne]
      simp [hdc]
end
end
end Go.Proofs.Ytcbbkemfgnbcpaa
