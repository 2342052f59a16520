/- The reference's map: what it holds; its contracts. -/
import Derived.Test.YtcbbkemfgnbcpaaLn4
namespace Go.Proofs.Ytcbbkemfgnbcpaa
open Go.RowKit

def plC (p : Pl) : List Value := [.int .u32 p.t, .int .u64 p.b, .int .i64 p.z, .int .i64 p.k]
def plCs (L : List Pl) : List Value := L.flatMap plC
theorem plCs_length (L : List Pl) : (plCs L).length = L.length * 4 := by
  induction L with
  | nil => rfl
  | cons p r ih => simp [plCs, plC] at ih ⊢; omega
theorem plCs_snoc (L : List Pl) (p : Pl) : plCs (L ++ [p]) = plCs L ++ plC p := by simp [plCs]
theorem plCs_one (L : List Pl) : ∀ u ∈ plCs L, u.oneCell' = true := by
  intro u hu
  obtain ⟨p, _, hp⟩ := List.mem_flatMap.1 hu
  simp only [plC, List.mem_cons, List.not_mem_nil, or_false] at hp
  rcases hp with rfl | rfl | rfl | rfl <;> rfl
def p0 : Pl := ⟨0, 0, 0, 0⟩
theorem plCs_get (L : List Pl) (i : Nat) (h : i < L.length) : (plCs L)[i * 4]? = some (.int .u32 (L.getD i p0).t) ∧ (plCs L)[i * 4 + 1]? = some (.int .u64 (L.getD i p0).b) ∧ (plCs L)[i * 4 + 2]? = some (.int .i64 (L.getD i p0).z) ∧ (plCs L)[i * 4 + 3]? = some (.int .i64 (L.getD i p0).k) := by
  induction L generalizing i with
  | nil => cases h
  | cons p r ih =>
    cases i with
    | zero => simp [plCs, plC]
    | succ i =>
      have := ih i (by simpa using h)
      rw [show (i + 1) * 4 = i * 4 + 4 by omega]
      simpa [plCs, plC] using this

/-- A map of the reference holds these places. -/
def RM (w : World) (g : Nat) (L : List Pl) : Prop := ∃ A c, Blk w g 59 #[.slice A L.length c] ∧ w.ownsRow 0 33 4 (.slice A L.length c) L.length (plCs L)

theorem own_blk {w : World} {base size n c : Nat} {A : Option Addr} {e : TypeId} {xs : List Value} (h : w.ownsRow base e size (.slice A n c) n xs) (hn : 0 < n) : ∃ b ex, A = some ⟨b, 0, none⟩ ∧ base ≤ b ∧ Blk w b e (xs ++ ex).toArray := by
  rcases h.2 with ⟨_, h0⟩ | ⟨g, cap, cur, hv, hb, hh, _, _, _, ht⟩
  · omega
  · injection hv with hA
    refine ⟨g, cur.toList.drop (n * size), hA, hb, ?_⟩
    rw [← ht, List.take_append_drop]
    exact hh

/-- What stands in a row of places. -/
structure PlRow (w : World) (r : Nat) (L : List Pl) : Prop where
  c0 : ∀ i, i < L.length → w.cell? ⟨r, i * 4, none⟩ = some (.int .u32 (L.getD i p0).t)
  c1 : ∀ i, i < L.length → w.cell? ⟨r, i * 4 + 1, none⟩ = some (.int .u64 (L.getD i p0).b)
  c2 : ∀ i, i < L.length → w.cell? ⟨r, i * 4 + 2, none⟩ = some (.int .i64 (L.getD i p0).z)
  c3 : ∀ i, i < L.length → w.cell? ⟨r, i * 4 + 3, none⟩ = some (.int .i64 (L.getD i p0).k)
theorem plrow_of {w : World} {r : Nat} {L : List Pl} {ex : List Value} (h : Blk w r 33 (plCs L ++ ex).toArray) : PlRow w r L := by
  have hl := plCs_length L
  have hg : ∀ i j, i < L.length → j < 4 → (plCs L ++ ex).toArray[i * 4 + j]? = (plCs L)[i * 4 + j]? := fun i j hi hj => by
    rw [List.getElem?_toArray, List.getElem?_append_left (by omega)]
  refine ⟨fun i hi => ?_, fun i hi => ?_, fun i hi => ?_, fun i hi => ?_⟩
  · rw [h.cell]; exact (hg i 0 hi (by omega)).trans (plCs_get L i hi).1
  · rw [h.cell]; exact (hg i 1 hi (by omega)).trans (plCs_get L i hi).2.1
  · rw [h.cell]; exact (hg i 2 hi (by omega)).trans (plCs_get L i hi).2.2.1
  · rw [h.cell]; exact (hg i 3 hi (by omega)).trans (plCs_get L i hi).2.2.2

theorem RM.cell {w : World} {g : Nat} {L : List Pl} (h : RM w g L) : ∃ A c, w.cell? ⟨g, 0, none⟩ = some (.slice A L.length c) ∧ (0 < L.length → ∃ r, A = some ⟨r, 0, none⟩ ∧ PlRow w r L) := by
  obtain ⟨A, c, hb, ho⟩ := h
  refine ⟨A, c, hb.cell 0, fun hn => ?_⟩
  obtain ⟨b, ex, rfl, _, hr⟩ := own_blk ho hn
  exact ⟨b, rfl, plrow_of hr⟩

theorem rnew_any (w : World) : Calls Try.prog 10 #[] w fun e w' => ∃ g, e = .returned (.pointer (some ⟨g, 0, none⟩)) ∧ w.heap.size ≤ g ∧ RM w' g [] ∧ Below w.heap.size w w' := by
  go_enter Try.func10, Try.ntmps10
  go_wp2
  go_ret
  refine ⟨w.heap.size, by simp, Nat.le_refl _, ⟨none, 0, Blk.new w _ _, ⟨rfl, .inl ⟨rfl, rfl⟩⟩⟩, (Below.refl _ _).alloc (Nat.le_refl _) _⟩

def lessB (a b : Pl) : Bool := if a.t = b.t then decide (a.b < b.b) else decide (a.t < b.t)

theorem less_any (w : World) (p q : Pl) : Calls Try.prog 35 #[plV p, plV q] w (Makes (.bool (lessB p q)) w) := by
  unfold plV
  obtain ⟨v, hv⟩ : ∃ v, v = lessB p q := ⟨_, rfl⟩
  rw [← hv]
  have HV := Lib.hid hv
  clear hv
  go_enter Try.func35, Try.ntmps35
  go_wp2
  all_goals
    go_ret
    refine ⟨ret_bool ?_, ((Below.refl _ _).alloc (Nat.le_refl _) _).alloc (by simp) _⟩
    rw [HV.out]
    unfold lessB
    rename_i h
    simp only [bne_iff_ne, ne_eq, bne_eq_false_iff_eq] at h
    simp only [h, if_true, if_false]
end Go.Proofs.Ytcbbkemfgnbcpaa
