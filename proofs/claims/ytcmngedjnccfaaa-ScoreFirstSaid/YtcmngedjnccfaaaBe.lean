/- Plain laws of the best of a list: the program's answer is the reference's; what is no number makes no difference. -/
import Derived.Test.YtcmngedjnccfaaaKo
namespace Go.Proofs.Ytcmngedjnccfaaa
open Go.RowKit Fl

/-- n is the first place of a greatest number among the first k; -1: there is none. -/
def IsBest (l : List Nat) (k : Nat) (n : Int) : Prop :=
  (n = -1 ∧ ∀ i, i < k → isNan (l.getD i 0) = true) ∨
  (∃ m : Nat, n = m ∧ m < k ∧ isNan (l.getD m 0) = false ∧ (∀ i, i < k → isNan (l.getD i 0) = false → key (l.getD i 0) ≤ key (l.getD m 0)) ∧ (∀ i, i < m → isNan (l.getD i 0) = false → key (l.getD i 0) < key (l.getD m 0)))

theorem IsBest.unique {l : List Nat} {k : Nat} {n n' : Int} (h : IsBest l k n) (h' : IsBest l k n') : n = n' := by
  rcases h with ⟨rfl, h⟩ | ⟨m, rfl, hm, hn, hle, hlt⟩ <;> rcases h' with ⟨rfl, h'⟩ | ⟨m', rfl, hm', hn', hle', hlt'⟩
  · rfl
  · rw [h m' hm'] at hn'; cases hn'
  · rw [h' m hm] at hn; cases hn
  · rcases Nat.lt_trichotomy m m' with hc | hc | hc
    · have := hlt' m hc hn; have := hle m' hm' hn'; omega
    · rw [hc]
    · have := hlt m' hc hn'; have := hle' m hm hn; omega

theorem rbest_is (l : List Nat) (k : Nat) : IsBest l k (rbest l k) := by
  induction k with
  | zero => exact .inl ⟨rfl, fun i hi => by omega⟩
  | succ k ih =>
    unfold rbest
    by_cases hn : isNan (l.getD k 0) = true
    · rw [if_pos hn]
      rcases ih with ⟨h1, h2⟩ | ⟨m, h1, h2, h3, h4, h5⟩
      · refine .inl ⟨h1, fun i hi => ?_⟩
        rcases Nat.lt_succ_iff_lt_or_eq.1 hi with hi | rfl
        · exact h2 i hi
        · exact hn
      · refine .inr ⟨m, h1, by omega, h3, fun i hi hni => ?_, h5⟩
        rcases Nat.lt_succ_iff_lt_or_eq.1 hi with hi | rfl
        · exact h4 i hi hni
        · rw [hn] at hni; cases hni
    · have hn' : isNan (l.getD k 0) = false := by simpa using hn
      rw [if_neg hn]
      rcases ih with ⟨h1, h2⟩ | ⟨m, h1, h2, h3, h4, h5⟩
      · rw [if_pos (by omega)]
        refine .inr ⟨k, rfl, by omega, hn', fun i hi hni => ?_, fun i hi hni => ?_⟩
        · rcases Nat.lt_succ_iff_lt_or_eq.1 hi with hi | rfl
          · rw [h2 i hi] at hni; cases hni
          · exact Int.le_refl _
        · rw [h2 i hi] at hni; cases hni
      · rw [if_neg (by omega), h1, Int.toNat_natCast, gt_key hn' h3]
        by_cases hgt : key (l.getD m 0) < key (l.getD k 0)
        · rw [if_pos (by simpa using hgt)]
          refine .inr ⟨k, rfl, by omega, hn', fun i hi hni => ?_, fun i hi hni => ?_⟩
          · rcases Nat.lt_succ_iff_lt_or_eq.1 hi with hi | rfl
            · have := h4 i hi hni; omega
            · exact Int.le_refl _
          · have := h4 i hi hni; omega
        · rw [if_neg (by simpa using hgt)]
          refine .inr ⟨m, rfl, by omega, h3, fun i hi hni => ?_, h5⟩
          rcases Nat.lt_succ_iff_lt_or_eq.1 hi with hi | rfl
          · exact h4 i hi hni
          · omega

theorem place_spec (x : Nat) (l : List Nat) (i : Int) :
    (place x l i = -1 ∧ ∀ j, j < l.length → (FloatKind.f64.format.order x (l.getD j 0) == some .eq) = false) ∨
    (∃ j : Nat, place x l i = i + j ∧ j < l.length ∧ (FloatKind.f64.format.order x (l.getD j 0) == some .eq) = true ∧ ∀ j', j' < j → (FloatKind.f64.format.order x (l.getD j' 0) == some .eq) = false) := by
  induction l generalizing i with
  | nil => exact .inl ⟨rfl, fun j hj => by simp at hj⟩
  | cons y l ih =>
    unfold place
    by_cases h : (FloatKind.f64.format.order x y == some .eq) = true
    · rw [if_pos h]
      exact .inr ⟨0, by simp, by simp, by simpa using h, fun j' hj' => by omega⟩
    · have h' : (FloatKind.f64.format.order x y == some .eq) = false := by simpa using h
      rw [if_neg h]
      rcases ih (i + 1) with ⟨h1, h2⟩ | ⟨j, h1, h2, h3, h4⟩
      · refine .inl ⟨h1, fun j hj => ?_⟩
        match j, hj with
        | 0, _ => simpa using h'
        | j + 1, hj => simpa using h2 j (by simpa using hj)
      · refine .inr ⟨j + 1, by rw [h1]; simp; omega, by simpa using h2, by simpa using h3, fun j' hj' => ?_⟩
        match j', hj' with
        | 0, _ => simpa using h'
        | j' + 1, hj' => simpa using h4 j' (by omega)

theorem most_spec (l : List Nat) (m : Nat) : (most l m = m ∨ most l m ∈ l) ∧ rank m ≤ rank (most l m) ∧ ∀ x ∈ l, rank x ≤ rank (most l m) := by
  induction l generalizing m with
  | nil => exact ⟨.inl rfl, Int.le_refl _, fun x hx => by cases hx⟩
  | cons y l ih =>
    unfold most
    have hr := ord_rank y m
    by_cases h : 0 < ord y m
    · rw [if_pos h]
      obtain ⟨h1, h2, h3⟩ := ih y
      have : rank m < rank y := by
        rw [hr] at h
        split at h
        · omega
        · split at h <;> omega
      refine ⟨.inr ?_, by omega, fun x hx => ?_⟩
      · rcases h1 with h1 | h1
        · rw [h1]; exact List.mem_cons_self
        · exact List.mem_cons_of_mem _ h1
      · rcases List.mem_cons.1 hx with rfl | hx
        · exact h2
        · exact h3 x hx
    · rw [if_neg h]
      obtain ⟨h1, h2, h3⟩ := ih m
      have : rank y ≤ rank m := by
        rw [hr] at h
        split at h
        · omega
        · split at h <;> omega
      refine ⟨?_, h2, fun x hx => ?_⟩
      · rcases h1 with h1 | h1
        · exact .inl h1
        · exact .inr (List.mem_cons_of_mem _ h1)
      · rcases List.mem_cons.1 hx with rfl | hx
        · omega
        · exact h3 x hx

theorem best_is (l : List Nat) : IsBest l l.length (bestV l) := by
  unfold bestV
  cases l with
  | nil => exact .inl ⟨rfl, fun i hi => by simp at hi⟩
  | cons a l =>
    rw [if_neg (by simp)]
    simp only [List.drop_succ_cons, List.drop_zero, List.getD_cons_zero]
    obtain ⟨h1, h2, h3⟩ := most_spec l a
    generalize most l a = m at *
    have hmem : m ∈ a :: l := by
      rcases h1 with h1 | h1
      · rw [h1]; exact List.mem_cons_self
      · exact List.mem_cons_of_mem _ h1
    have hall : ∀ x ∈ a :: l, rank x ≤ rank m := fun x hx => by
      rcases List.mem_cons.1 hx with rfl | hx
      · exact h2
      · exact h3 x hx
    generalize hL : a :: l = L at *
    clear h1 h2 h3 hL
    have hget : ∀ i, i < L.length → L.getD i 0 ∈ L := fun i hi => by
      simp [List.getD_eq_getElem?_getD, hi]
    by_cases hn : isNan m = true
    · have hnone : ∀ i, i < L.length → isNan (L.getD i 0) = true := fun i hi => by
        have := hall _ (hget i hi)
        by_cases hx : isNan (L.getD i 0) = true
        · exact hx
        · have hk := key_le _ (show isNan (L.getD i 0) = false by simpa using hx)
          unfold rank at this
          rw [if_neg hx, if_pos hn] at this
          omega
      rcases place_spec m L 0 with ⟨h1, _⟩ | ⟨j, h1, h2, h3, h4⟩
      · exact .inl ⟨h1, hnone⟩
      · rw [order_nan (.inl hn)] at h3; cases h3
    · have hn' : isNan m = false := by simpa using hn
      have hle : ∀ i, i < L.length → isNan (L.getD i 0) = false → key (L.getD i 0) ≤ key m := fun i hi hni => by
        have := hall _ (hget i hi)
        unfold rank at this
        rw [if_neg (by rw [hni]; decide), if_neg hn] at this
        exact this
      have heq : ∀ j, (FloatKind.f64.format.order m (L.getD j 0) == some .eq) = true → isNan (L.getD j 0) = false ∧ key (L.getD j 0) = key m := fun j hj => by
        by_cases hx : isNan (L.getD j 0) = true
        · rw [order_nan (.inr hx)] at hj; cases hj
        · have hx' : isNan (L.getD j 0) = false := by simpa using hx
          rw [eq_key hn' hx'] at hj
          exact ⟨hx', (of_decide_eq_true hj).symm⟩
      rcases place_spec m L 0 with ⟨h1, h2⟩ | ⟨j, h1, h2, h3, h4⟩
      · exfalso
        obtain ⟨i, hi, he⟩ := List.getElem_of_mem hmem
        have := h2 i hi
        have e : L.getD i 0 = m := by simp [List.getD_eq_getElem?_getD, hi, he]
        rw [e, eq_key hn' hn'] at this
        simp at this
      · obtain ⟨k1, k2⟩ := heq j h3
        refine .inr ⟨j, by rw [h1]; simp, h2, k1, fun i hi hni => by rw [k2]; exact hle i hi hni, fun i hi hni => ?_⟩
        have := h4 i hi
        rw [eq_key hn' hni] at this
        have h5 := hle i (by omega) hni
        rw [k2]
        have h6 : ¬ key m = key (L.getD i 0) := by simpa using this
        omega

theorem best_same (l : List Nat) : bestV l = rbest l l.length := (best_is l).unique (rbest_is l l.length)
end Go.Proofs.Ytcmngedjnccfaaa
