/- The names of a map, handed out one by one (maps.Keys), after the guide's text at strings. -/
import Derived.Test.YtcbbkemfgnbcpaaCm
import Derived.Test.YtcbbkemfgnbcpaaRg
import Derived.RangeFuncGives
import Derived.Sort.MapsRangeIn
import Derived.Shelf.SlIter.Collect
namespace Go.Proofs.Ytcbbkemfgnbcpaa
open Go.RowKit Go.Sort

set_option maxRecDepth 20000 in
theorem name_inv (v : Value) (kl : Lit) (h : keyOf Try.prog 62 v = some kl) : ∃ c, nameC.ok c ∧ v = nameC.kv c := by
  obtain ⟨m, hm⟩ : ∃ m, Try.prog.types.size + 1 = m + 1 + 1 := ⟨_, keys_size⟩
  obtain ⟨c1, c2, c3, c4, c5⟩ := keys_cells
  unfold keyOf at h
  rw [hm] at h
  clear hm
  rw [Try.underlying62] at h
  simp only [keys_own.1, Bool.true_and] at h
  split at h
  · rename_i hf
    cases v with
    | agg cs =>
      have hsz : cs.size = 2 := by simpa [Value.formed, Try.underlying62, c1] using hf
      obtain ⟨l⟩ := cs
      match l, hsz with
      | [x, y], _ =>
        simp [Value.cells, Program.keyLits, Try.underlying62, Try.underlying23, Try.underlying29, c1, c3, c4] at h
        cases x with
        | int q1 n1 =>
          by_cases e1 : q1 = .u32 ∧ (Lit.int .u32 n1).wf = true
          · cases y with
            | int q2 n2 =>
              by_cases e2 : q2 = .u64 ∧ (Lit.int .u64 n2).wf = true
              · obtain ⟨rfl, w1⟩ := e1
                obtain ⟨rfl, w2⟩ := e2
                exact ⟨(n1, n2), ⟨wf_u32' w1, wf_u64' w2⟩, rfl⟩
              · simp [e1, e2] at h
            | _ => simp [e1] at h
          · simp [e1] at h
        | _ => simp at h
    | _ => simp [Value.formed, Try.underlying62] at hf
  · cases h

/-- The names that have come: just those that are no longer to come. -/
def NCame (Fm : Int × Int → Option (Int × Int)) (ss : List (Int × Int)) (left : Lit → Bool) : Prop :=
  ss.Nodup ∧ ∀ x, x ∈ ss ↔ NameOk x ∧ (Fm x).isSome = true ∧ ∀ kl, keyOf Try.prog 62 (nameV x) = some kl → left kl = false
/-- All names. -/
def NAll (Fm : Int × Int → Option (Int × Int)) (ss : List (Int × Int)) : Prop := ss.Nodup ∧ ∀ x, x ∈ ss ↔ NameOk x ∧ (Fm x).isSome = true

set_option maxRecDepth 100000 in
set_option maxHeartbeats 4000000 in
theorem keys1_in (F : Fence) (n : Nat) (h10 : F.fn 38) (hro : F.round = none) (hn : 1 ≤ n) (l Bm b nn : Nat) (Fm : Int × Int → Option (Int × Int)) (J : List (Int × Int) → World → Prop)
    (hY : ∀ pre x W, J pre W → pre.length < nn → YieldAt F (n - 1) Try.prog l #[nameV x] W fun e W' => e = .returned (.bool true) ∧ J (pre ++ [x]) W' ∧ KeepsWalks W W')
    (W : World) (hJ : AbidesFrom W.heap.size J) (hm : W.cell? ⟨Bm, 0, none⟩ = some (.map (some b))) (hmap : MapF nameC addrV W b nn Fm) (h0 : J [] W) :
    CallsIn F n Try.prog 38 #[.func (.yield l) #[] #[], .pointer (some ⟨Bm, 0, none⟩)] W fun e W' => (∃ v, e = .returned v) ∧ ∃ ss : List (Int × Int), NAll Fm ss ∧ J ss W' := by
  obtain ⟨D, hown, hD1, hD2⟩ := hmap.is
  refine callsIn_of_wp Try.func38 rfl h10 ?_ hro
  simp only [Try.ntmps38, List.size_toArray, List.length_cons, List.length_nil, Nat.reduceAdd, Nat.reduceSub, Array.replicate_succ, Array.replicate_zero, List.push_toArray, List.append_toArray, List.nil_append, List.cons_append]
  gi_wp2_with (first
    | (gi_at_range; refine wpListIn_range_own _ rfl _ 54 rfl 62 31 nameC.law Try.underlying54 _ b nn _ rfl hown ?_; intro w0 hrg0 hg0 hs0)
    | gi_in)
  go_frame
  gi_loopw [3] (fun _ wr => ∃ (left : Lit → Bool) (cnt : Nat) (ss : List (Int × Int)), wr.ranges Try.prog 62 asHeld b W.heap.size nn D left cnt ∧ ss.length + cnt ≤ nn ∧ NCame Fm ss left ∧ J ss wr)
    (fun _ wr => wr.rangeLeft b W.heap.size)
  case atStart =>
    refine ⟨_, _, [], hrg0, by simpa using hown.size_le, ⟨List.Pairwise.nil, fun x => ⟨fun h => absurd h (by simp), fun hh => ?_⟩⟩, hJ [] W w0 none h0 hg0 (fun r e => by cases e)⟩
    obtain ⟨kl, hkl⟩ := nameV_key x hh.1
    have h1 := (hD1 x kl hh.1 hkl).1
    have h2 := hh.2.2 kl hkl
    rw [h1, hh.2.1] at h2
    cases h2
  case round =>
    obtain ⟨left, cnt, ss, hrg, hcs, hC, hJs⟩ := hrel
    gi_wp2_with (first
      | (gi_at_next; refine wpListIn_next_ranges _ rfl _ rfl 62 nameC.law asHeld nameV id (fun key kl hk => by obtain ⟨x, _, hx⟩ := name_inv key kl hk; exact ⟨x, hx⟩) (fun v _ _ => ⟨v, rfl⟩) b W.heap.size nn _ _ _ rfl hrg ?_ ?_)
      | gi_in)
    · intro hc0 hl0
      gi_wp2
      go_end0
      refine ⟨⟨_, rfl⟩, ss, ⟨hC.1, fun x => ?_⟩, hJs⟩
      rw [hC.2]
      exact ⟨fun h => ⟨h.1, h.2.1⟩, fun h => ⟨h.1, h.2, fun kl _ => hl0 kl⟩⟩
    · intro x1 x2 c kl yd yp w2 cnt2 hkey hlk hv hat hrg2 hlt hg2 hs2 hen
      have hJ2 : J ss w2 := hJ ss wr w2 (some W.heap.size) hJs hg2 (fun r e => by cases e; exact ⟨Nat.le_refl _, hrg.iter_walk⟩)
      have hJ3 : J ss (w2.alloc (.cells #[.int .u32 x1, .int .u64 x2] 62)) := hJ ss w2 _ none hJ2 (World.grownBy_alloc _ _ _) (fun r e => by cases e)
      obtain ⟨fn, tmps, assign, body, hy, hR⟩ := hY ss (x1, x2) _ hJ3 (by omega)
      have hok : NameOk (x1, x2) := by
        obtain ⟨c', hc, hx⟩ := name_inv _ _ hkey
        have : (x1, x2) = c' := nameC.inj _ _ hx
        rw [this]
        exact hc
      have hFx : (Fm (x1, x2)).isSome = true := by
        cases hf : Fm (x1, x2) with
        | some _ => rfl
        | none =>
          have h1 := (hD1 (x1, x2) kl hok hkey).2
          rw [hf] at h1
          have e1 := (h1 .nil).symm.trans (hat .nil)
          have e2 := (h1 (.lit (.bool true))).symm.trans (hat (.lit (.bool true)))
          simp at e1 e2
          rw [← e1] at e2
          cases e2
      have hC2 : NCame Fm (ss ++ [(x1, x2)]) (fun z => left z && !z.sameKey kl) := by
        refine ⟨List.nodup_append.2 ⟨hC.1, by simp, fun a ha b hb => ?_⟩, fun x => ?_⟩
        · simp only [List.mem_singleton] at hb
          subst hb
          rintro rfl
          have := ((hC.2 _).1 ha).2.2 kl hkey
          rw [this] at hlk
          cases hlk
        · rw [List.mem_append, hC.2 x, List.mem_singleton]
          constructor
          · rintro (⟨h3, h4, h5⟩ | rfl)
            · exact ⟨h3, h4, fun k2 hk2 => by show (left k2 && _) = false; rw [h5 k2 hk2]; rfl⟩
            · refine ⟨hok, hFx, fun k2 hk2 => ?_⟩
              rw [hkey] at hk2
              cases hk2
              show (left kl && !kl.sameKey kl) = false
              rw [WideAt.sameKey_self (nameC.law.key hkey)]
              simp
          · rintro ⟨h3, h4, h5⟩
            obtain ⟨k2, hk2⟩ := nameV_key x h3
            have h6 : (left k2 && !k2.sameKey kl) = false := h5 k2 hk2
            by_cases he : k2 = kl
            · subst he
              exact .inr (nameC.inj _ _ (nameC.law.inj hk2 hkey))
            · rw [Maps.sameKey_ne he] at h6
              refine .inl ⟨h3, h4, fun k3 hk3 => ?_⟩
              rw [hk2] at hk3
              cases hk3
              simpa using h6
      change (Instr.entry (.pointer (some ⟨W.heap.size, 0, none⟩))).run Try.prog w2 = .ok (.tuple #[.agg #[.int .u32 x1, .int .u64 x2], c]) w2 at hen
      change (Instr.yield l #[.agg #[.int .u32 x1, .int .u64 x2]]).run Try.prog (w2.alloc (.cells #[.int .u32 x1, .int .u64 x2] 62)) = _ at hy
      simp only [show nameV (x1, x2) = .agg #[.int .u32 x1, .int .u64 x2] from rfl]
      have HY := hy
      have hrgA := ranges_of_heap (w' := w2.alloc (.cells #[.int .u32 x1, .int .u64 x2] 62)) hrg2 (Below.heap_alloc _ _ _ (by obtain ⟨_, _, _, _, _, h1, _⟩ := hrg2; exact (Array.getElem?_eq_some_iff.1 h1).1)) (Below.heap_alloc _ _ _ (by obtain ⟨_, _, _, _, _, _, _, _, _, h5, _⟩ := hrg2; exact (Array.getElem?_eq_some_iff.1 h5).1))
      have HC2 := Lib.hid hC2
      have HRA := Lib.hid hrgA
      have HRG := Lib.hid hrg
      clear hs2 hC2 hC hJs hJ2 hJ3 hkey hlk hv hat hrg2 hg2 hok hFx hrgA hrg
      gi_wp2
      refine hR.mono ?_
      rintro e W3 ⟨rfl, hJ4, hk3⟩
      gi_wp2
      have hrg3 := HRA.out.of_walks hk3
      go_roundw
      case rel => exact ⟨_, cnt2, ss ++ [(x1, x2)], hrg3, by simp; omega, HC2.out, hJ4⟩
      case measure => rw [hrg3.left_eq, HRG.out.left_eq]; exact hlt
end Go.Proofs.Ytcbbkemfgnbcpaa
