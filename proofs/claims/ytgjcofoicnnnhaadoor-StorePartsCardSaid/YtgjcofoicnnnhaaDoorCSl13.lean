/- The laws of Store: what part of a list was put, where there was no room for all of it; own puts. -/
import Derived.Test.YtgjcofoicnnnhaaDoorCSl12
namespace Go.Proofs.YtgjcofoicnnnhaaDoor
open Go.RowKit
set_option maxRecDepth 20000

theorem putL_part {sh : Sh} (hok : sh.ok) (f : Nat) {m : StM} {l : List Pv} (h : Good sh m) (hf : l.length ≤ f) : ∃ j, dataM (putL sh f m l).2 = (l.take j).foldl updD (dataM m) := by
  induction f generalizing m l with
  | zero => exact ⟨0, rfl⟩
  | succ f ih =>
    unfold putL
    split
    · exact ⟨0, rfl⟩
    · rename_i hl
      simp only
      obtain ⟨g1, d1, s1, _, _⟩ := ready_good (need := needM l) h
      split
      · rename_i hr
        obtain ⟨ho, hroom⟩ := ready_room h (by have := hok.facts; unfold needM; split <;> omega) hr
        generalize readyM sh m (needM l) = r at *
        obtain ⟨b1, b2, b3, b4⟩ := batch_facts (l := l) (m := r.2) hok (by omega) (by unfold needM at hroom; exact hroom)
        obtain ⟨g2, d2, s2⟩ := writeM_good (l.take (batchM sh r.2 l)) g1 ho
        obtain ⟨j, hj⟩ := ih (l := l.drop (batchM sh r.2 l)) g2 (by simp; omega)
        refine ⟨batchM sh r.2 l + j, ?_⟩
        rw [hj, d2, d1, ← List.foldl_append, ← List.take_add]
      · exact ⟨0, d1⟩
theorem putM_part {sh : Sh} (hok : sh.ok) {m : StM} (l : List Pv) (h : Good sh m) : ∃ j, dataM (putM sh m l).2 = (l.take j).foldl updD (dataM m) := by
  unfold putM
  split
  · exact putL_part hok _ h (Nat.le_refl _)
  · exact ⟨0, rfl⟩
theorem last_mem (nm : Int × Int) (l : List Pv) (o : Option Pv) (p : Pv) (h : l.foldl (lastF nm) o = some p) : o = some p ∨ (p ∈ l ∧ p.n = nm) := by
  induction l generalizing o with
  | nil => exact .inl h
  | cons q r ih =>
    rcases ih _ h with h1 | h1
    · unfold lastF at h1
      split at h1
      · rename_i hn
        obtain rfl := Option.some.inj h1
        exact .inr ⟨List.mem_cons_self .., hn.symm⟩
      · exact .inl h1
    · exact .inr ⟨List.mem_cons_of_mem _ h1.1, h1.2⟩
/-- What is told was put. -/
theorem said_any {L : List Pv} {j : Nat} {m : StM} (hm : dataM m = (L.take j).foldl updD (fun _ => none)) {nm : Int × Int} {b : List Int} (h : dataM m nm = some b) : ∃ k, k < L.length ∧ (L.getD k pv0).n = nm ∧ (L.getD k pv0).da = b := by
  rw [hm, foldl_last] at h
  cases hf : (L.take j).foldl (lastF nm) none with
  | none => rw [hf] at h; cases h
  | some p =>
    rw [hf] at h
    rcases last_mem nm _ _ p hf with h1 | ⟨h1, h2⟩
    · cases h1
    · obtain ⟨k, hk, rfl⟩ := List.getElem_of_mem (List.mem_of_mem_take h1)
      refine ⟨k, hk, ?_, ?_⟩
      · rw [List.getD_eq_getElem?_getD, List.getElem?_eq_getElem hk]; exact h2
      · rw [List.getD_eq_getElem?_getD, List.getElem?_eq_getElem hk]
        unfold valP at h
        split at h
        · cases h
        · rename_i p' e
          obtain rfl := Option.some.inj e
          split at h
          · cases h
          · exact Option.some.inj h

/-- Own puts are being made. -/
structure OwA (w wr : World) (L : List Pv) (k : Nat) (A : Option Addr) (c : Nat) (O : List Pc) : Prop where
  row : PRow wr w.heap.size A c O
  mp : O.map (·.p) = L.take k
  len : O.length = k
  br : ∀ q ∈ O, BRow wr w.heap.size q.a q.c q.p.da
  low : Below w.heap.size w wr
  nd : ∀ q ∈ O, ∀ b, (Value.slice q.a q.p.da.length q.c).ownBlock = some b → (Value.slice A O.length c).ownBlock ≠ some b
theorem OwA.step {w wr w9 w11 w12 : World} {L : List Pv} {k : Nat} {A A9 A12 : Option Addr} {c c9 c12 : Nat} {O : List Pc} {p : Pv} (h : OwA w wr L k A c O) (hk : k < L.length) (hp : L.getD k pv0 = p)
    (hb : BRow w9 (wr.heap.size + 1) A9 c9 p.da) (h11 : Below wr.heap.size wr w11) (h911 : ∀ b, wr.heap.size < b → b < w9.heap.size → w11.heap[b]? = w9.heap[b]?) (hs911 : w9.heap.size ≤ w11.heap.size)
    (hr : PRow w12 w.heap.size A12 c12 (O ++ [⟨p, A9, c9⟩])) (hk12 : Kp (fun b => (Value.slice A O.length c).ownBlock = some b) w11 w12)
    (hor : (Value.slice A12 (O.length + 1) c12).ownBlock = (Value.slice A O.length c).ownBlock ∨ (Value.slice A12 (O.length + 1) c12).ownBlock = some w11.heap.size) : OwA w w12 L (k + 1) A12 c12 (O ++ [⟨p, A9, c9⟩]) := by
  have hlow := h.low.size
  have hown : ∀ b, (Value.slice A O.length c).ownBlock = some b → w.heap.size ≤ b ∧ b < wr.heap.size := fun b hb => h.row.lt hb
  have hb11 : BRow w11 (wr.heap.size + 1) A9 c9 p.da := hb.of_block (fun b he => h911 b (by have := (hb.lt he).1; omega) (hb.lt he).2)
  refine ⟨hr, ?_, by simp [h.len], fun q hq => ?_, Kp.below (h.low.trans (h11.mono hlow)) hk12 (Nat.le_trans hlow h11.size) (fun b hb he => by have := hown b he; omega), fun q hq b he => ?_⟩
  · rw [List.map_append, h.mp, List.take_succ_eq_append_getElem hk]
    have hg : L.getD k pv0 = L[k] := by rw [List.getD_eq_getElem?_getD, List.getElem?_eq_getElem hk]; rfl
    rw [← hp, hg]
    rfl
  · rcases List.mem_append.1 hq with hq | hq
    · exact ((h.br q hq).below h11 (Nat.le_refl _)).kp hk12 (fun b he he2 => h.nd q hq b he he2)
    · obtain rfl := List.mem_singleton.1 hq
      exact (hb11.kp hk12 (fun b he he2 => by have := (hb11.lt he).1; have := hown b he2; omega)).base (by omega)
  · rw [show (O ++ [(⟨p, A9, c9⟩ : Pc)]).length = O.length + 1 by simp] at *
    intro he3
    have hblk : (Value.slice A O.length c).ownBlock ≠ some b ∧ b < w11.heap.size := by
      rcases List.mem_append.1 hq with hq | hq
      · exact ⟨h.nd q hq b he, Nat.lt_of_lt_of_le ((h.br q hq).lt he).2 h11.size⟩
      · obtain rfl := List.mem_singleton.1 hq
        have := hb.lt he
        exact ⟨fun e => by have := hown b e; omega, by omega⟩
    rcases hor with h4 | h4
    · exact hblk.1 (h4.symm.trans he3)
    · have := Option.some.inj (h4.symm.trans he3)
      omega
theorem OwA.start (w : World) (L : List Pv) : OwA w w L 0 none 0 [] :=
  ⟨World.ownsRow_nil _ _ _ _, rfl, rfl, (fun q hq => by cases hq), Below.refl _ _, (fun q hq => by cases hq)⟩
/-- Own puts whose bytes may have been turned. -/
structure OwB (w : World) (s : Nat) (wr : World) (A : Option Addr) (c : Nat) (O : List Pc) : Prop where
  row : PRow wr w.heap.size A c O
  br : ∀ q ∈ O, ∃ ys, ys.length = q.p.da.length ∧ BRow wr w.heap.size q.a q.c ys
  nd : ∀ q ∈ O, ∀ b, (Value.slice q.a q.p.da.length q.c).ownBlock = some b → (Value.slice A O.length c).ownBlock ≠ some b
  lt : ∀ q ∈ O, ∀ b, (Value.slice q.a q.p.da.length q.c).ownBlock = some b → b < s
theorem OwA.turn {w wr wn : World} {S : Nat → Prop} {L : List Pv} {k : Nat} {A : Option Addr} {c : Nat} {O : List Pc} (h : OwA w wr L k A c O) (hk : Kp S wr wn) (hs : ∀ b, S b → ¬ (w.heap.size ≤ b ∧ b < wr.heap.size)) : OwB w wr.heap.size wn A c O :=
  ⟨ownsRow_of_block h.row (fun b he => hk.block b (h.row.lt he).2 (fun hS => hs b hS (h.row.lt he))),
    fun q hq => ⟨q.p.da, rfl, (h.br q hq).kp hk (fun b he hS => hs b hS ((h.br q hq).lt he))⟩, h.nd, fun q hq b he => ((h.br q hq).lt he).2⟩
theorem OwB.drew {w wr : World} {s : Nat} {A : Option Addr} {c : Nat} {O : List Pc} (h : OwB w s wr A c O) : OwB w s wr.drew A c O := ⟨h.row, h.br, h.nd, h.lt⟩
theorem OwB.set_ {w wr : World} {s : Nat} {A : Option Addr} {c : Nat} {O : List Pc} (h : OwB w s wr A c O) {i j g : Nat} (hi : i < O.length) (hj : j < (O.getD i pc0).p.da.length) (hg : (O.getD i pc0).a = some ⟨g, 0, none⟩) (y : Int) : OwB w s (wr.setCell ⟨g, j, none⟩ (.int .u8 y)) A c O := by
  have hm := getD_mem (d := pc0) hi
  have hgo : (Value.slice (O.getD i pc0).a (O.getD i pc0).p.da.length (O.getD i pc0).c).ownBlock = some g := by rw [hg]; rfl
  refine ⟨ownsRow_of_block h.row (fun b he => Below.heap_setCell wr _ _ b (fun e => h.nd _ hm g hgo (by rw [he, e]))), fun q hq => ?_, h.nd, h.lt⟩
  obtain ⟨ys, hl, hb⟩ := h.br q hq
  by_cases hqg : (Value.slice q.a ys.length q.c).ownBlock = some g
  · have hqa : q.a = some ⟨g, 0, none⟩ := by
      rcases hb.2 with ⟨hn, _⟩ | ⟨g', cap, cur, hv, _⟩
      · rw [hn] at hqg; cases hqg
      · rw [hv] at hqg
        obtain rfl := Option.some.inj hqg
        injection hv
    refine ⟨ys.set j y, by simp [hl], ?_⟩
    rw [hqa] at hb ⊢
    have h1 := (World.ownsRow.stored hb j (.int .u8 y)).1
    show World.ownsRow _ _ _ _ _ _ _
    rw [List.length_set]
    have e : nums .u8 (ys.set j y) = (nums .u8 ys).set j (.int .u8 y) := by unfold nums; rw [List.map_set]
    rw [e]
    exact h1
  · exact ⟨ys, hl, hb.of_block (fun b he => Below.heap_setCell wr _ _ b (fun e => hqg (by rw [he, e])))⟩
/-- What a round reads of one. -/
theorem OwB.at_ {w wr : World} {s : Nat} {A : Option Addr} {c : Nat} {O : List Pc} (h : OwB w s wr A c O) {i : Nat} (hi : i < O.length) : ∃ r, A = some ⟨r, 0, none⟩ ∧ w.heap.size ≤ r ∧ r < wr.heap.size ∧ wr.cell? ⟨r, i * 4 + 3, none⟩ = some (.slice (O.getD i pc0).a (O.getD i pc0).p.da.length (O.getD i pc0).c) := by
  rcases h.row.2 with ⟨_, h0⟩ | ⟨g, cap, cur, hv, hg, hh, hnc, hcm, hcs, ht⟩
  · omega
  · injection hv with e1 e2 e3
    subst e1
    refine ⟨g, rfl, hg, (h.row.lt (b := g) rfl).2, ?_⟩
    exact (World.ownsRow.cellAt h.row (i * 4 + 3) (by omega)).trans (pcCs_get O i hi).2.2.2
theorem OwB.byte {w wr : World} {s : Nat} {A : Option Addr} {c : Nat} {O : List Pc} (h : OwB w s wr A c O) {i j : Nat} (hi : i < O.length) (hj : j < (O.getD i pc0).p.da.length) : ∃ g x, (O.getD i pc0).a = some ⟨g, 0, none⟩ ∧ w.heap.size ≤ g ∧ g < s ∧ wr.cell? ⟨g, j, none⟩ = some (.int .u8 x) ∧ wr.frozen? ⟨g, j, none⟩ = false := by
  obtain ⟨ys, hl, hb⟩ := h.br _ (getD_mem (d := pc0) hi)
  obtain ⟨g, hg, hc⟩ := hb.at_ (k := j) (by omega)
  have hl' := hb.lt (b := g) (by rw [hg]; rfl)
  have hl2 := h.lt _ (getD_mem (d := pc0) hi) g (by rw [hg]; rfl)
  rw [hg] at hb
  exact ⟨g, _, hg, hl'.1, hl2, hc, hb.frozen j⟩
end Go.Proofs.YtgjcofoicnnnhaaDoor
