/- Zones alike. -/
import Derived.Test.YtgjcofoicnnnhaaDoorCZd
import Derived.Test.YtgjcofoicnnnhaaDoorMe
import Derived.BigQuiet
namespace Go.Proofs.YtgjcofoicnnnhaaDoor
open Go.RowKit
set_option maxRecDepth 20000

theorem DataB.reads {w : World} {A : Option Addr} {b : List Int} (h : DataB w A b) : Reads w w.heap.size 1 A b.length (nums .u8 b) := by
  obtain ⟨g, cs, rfl, hB, hc⟩ := h
  refine ⟨by rw [nums_length, Nat.mul_one], fun _ => ⟨_, rfl, hB.lt, fun j u hu => ?_⟩⟩
  have hj : j < b.length := by
    have := (List.getElem?_eq_some_iff.mp hu).1
    rwa [nums_length] at this
  rw [nums_get .u8 b j hj] at hu
  rw [addz, hB.cell, hc j hj]
  exact hu
theorem BlocksB.at_ {w : World} {A : Option Addr} {bs : List (List Int)} (h : BlocksB w A bs) {k : Nat} (hk : k < bs.length) : ∃ g Aj cj, A = some ⟨g, 0, none⟩ ∧ w.cell? ⟨g, k, none⟩ = some (.slice Aj (bs.getD k []).length cj) ∧ Reads w w.heap.size 1 Aj (bs.getD k []).length (nums .u8 (bs.getD k [])) := by
  obtain ⟨g, cs, rfl, hB, hc⟩ := h (by omega)
  obtain ⟨Aj, cj, e1, hd⟩ := hc k hk
  exact ⟨g, Aj, cj, rfl, (hB.cell k).trans e1, hd.reads⟩
theorem sameblocks_any (w : World) (A B : Option Addr) (ca cb : Nat) (bs : List (List Int)) (hn : bs.length ≤ 100000) (hA : BlocksB w A bs) (hB : BlocksB w B bs) :
    Calls Tryd.prog 36 #[.slice A bs.length ca, .slice B bs.length cb] w (Gives (.bool true) w) := by
  have HA := Lib.hid hA
  have HB := Lib.hid hB
  clear hA hB
  go_enter Tryd.func36, Tryd.ntmps36
  go_wp2_with (fail)
  go_loopw [5] (fun i wr => ∃ k : Nat, k ≤ bs.length ∧ i = .int .i64 k ∧ Hid (∃ m, wr = w.drewN m)) (fun i _ => bs.length - (intOf i).toNat)
  case atStart => exact ⟨0, Nat.zero_le _, rfl, 0, rfl⟩
  case round =>
    obtain ⟨k, hk, rfl, hm⟩ := hrel
    by_cases hlt : k < bs.length
    · obtain ⟨ga, Aj, cj, rfl, h1, r1⟩ := HA.out.at_ hlt
      obtain ⟨gb, Bj, dj, rfl, h2, r2⟩ := HB.out.at_ hlt
      obtain ⟨m, hwm⟩ := hm.out
      have p1 : wr.cell? ⟨ga, k, none⟩ = some (.slice Aj (bs.getD k []).length cj) := by rw [hwm]; exact h1
      have p2 : wr.cell? ⟨gb, k, none⟩ = some (.slice Bj (bs.getD k []).length dj) := by rw [hwm]; exact h2
      have t1 : ∀ n, (convert 35 9 (.slice Aj (bs.getD k []).length cj)).run Tryd.prog (wr.drewN n) = .ok (.string (strOfNums (bs.getD k []))) (wr.drewN n) := fun n => by rw [hwm]; exact run_text _ _ Aj _ cj _ ((r1.drewN m).drewN n)
      have t2 : ∀ n, (convert 35 9 (.slice Bj (bs.getD k []).length dj)).run Tryd.prog (wr.drewN n) = .ok (.string (strOfNums (bs.getD k []))) (wr.drewN n) := fun n => by rw [hwm]; exact run_text _ _ Bj _ dj _ ((r2.drewN m).drewN n)
      have HLT := Lib.hid hlt
      have HM : Hid (∀ n, ∃ m, wr.drewN n = w.drewN m) := fun n => by
        rw [hwm]
        exact ⟨m + n, by simp [World.drewN, Nat.add_assoc]⟩
      clear h1 h2 r1 r2 hwm hm
      generalize strOfNums (bs.getD k []) = sk at *
      generalize (bs.getD k []).length = lk at *
      go_wp2_with (fail)
      go_quiet (fail)
      go_wp2
      go_roundw
      case rel => exact ⟨k + 1, HLT.out, by go_num, HM.out _⟩
      case measure => have := HLT.out; simp [intOf]; omega
    · obtain rfl : k = bs.length := by omega
      go_wp2
      go_ret
      exact ⟨rfl, hm.out⟩

/-- Zones, as they are read. -/
def ZonesR (w : World) (A : Option Addr) (P : List Part) : Prop := ∀ i, i < P.length → ∃ g Bi ci, A = some ⟨g, 0, none⟩ ∧ w.cell? ⟨g, i * 2, none⟩ = some (.slice Bi (P.getD i pt0).bs.length ci) ∧ w.cell? ⟨g, i * 2 + 1, none⟩ = some (.int .i64 (P.getD i pt0).du) ∧ BlocksB w Bi (P.getD i pt0).bs
theorem ZonesR.below {w w' : World} {A : Option Addr} {P : List Part} (h : ZonesR w A P) (hb : Below w.heap.size w w') : ZonesR w' A P := fun i hi => by
  obtain ⟨g, Bi, ci, e, h1, h2, h3⟩ := h i hi
  exact ⟨g, Bi, ci, e, below_keep hb h1, below_keep hb h2, h3.tk (Tk.below hb)⟩
theorem zqCs_get (Q : List Zq) (P : List Part) (h : Q.length = P.length) (i : Nat) (hi : i < P.length) : (zqCs Q P)[i * 2]? = some (.slice (Q.getD i zq0).a (P.getD i pt0).bs.length (Q.getD i zq0).c) ∧ (zqCs Q P)[i * 2 + 1]? = some (.int .i64 (P.getD i pt0).du) := by
  induction P generalizing Q i with
  | nil => cases hi
  | cons p r ih =>
    cases Q with
    | nil => cases h
    | cons q s =>
      cases i with
      | zero => simp [zqCs, zqC]
      | succ i =>
        have := ih s (by simpa using h) i (by simpa using hi)
        rw [show (i + 1) * 2 = i * 2 + 2 by omega]
        simpa [zqCs, zqC] using this
theorem ZOut.zonesR {w w' : World} {P : List Part} {A : Option Addr} {c : Nat} {Q : List Zq} (h : ZOut w w' P P.length A c Q) : ZonesR w' A P := fun i hi => by
  have hr := h.row
  rw [List.take_length] at hr
  obtain ⟨g, cs, e, _, hB, hc⟩ := own_blk hr (by omega)
  obtain ⟨q1, q2⟩ := zqCs_get Q P h.len i hi
  exact ⟨g, (Q.getD i zq0).a, (Q.getD i zq0).c, e, ((hB.cell _).trans (hc _ (by omega))).trans q1, ((hB.cell _).trans (hc _ (by omega))).trans q2, h.bl i hi⟩
theorem samezones_any (w : World) (A B : Option Addr) (ca cb : Nat) (P : List Part) (hn : P.length ≤ 100000) (hb : ∀ i, i < P.length → (P.getD i pt0).bs.length ≤ 100000) (hA : ZonesR w A P) (hB : ZonesR w B P) :
    Calls Tryd.prog 20 #[.slice A P.length ca, .slice B P.length cb] w (Gives (.bool true) w) := by
  have HA := Lib.hid hA
  have HB := Lib.hid hB
  have HBB := Lib.hid hb
  clear hA hB hb
  go_enter Tryd.func20, Tryd.ntmps20
  go_wp2_with (fail)
  go_loopw [5] (fun i wr => ∃ k : Nat, k ≤ P.length ∧ i = .int .i64 k ∧ Hid (∃ m, wr = w.drewN m)) (fun i _ => P.length - (intOf i).toNat)
  case atStart => exact ⟨0, Nat.zero_le _, rfl, 0, rfl⟩
  case round =>
    obtain ⟨k, hk, rfl, hm⟩ := hrel
    by_cases hlt : k < P.length
    · obtain ⟨ga, Ai, ci, rfl, h1, h1', r1⟩ := HA.out k hlt
      obtain ⟨gb, Bi, di, rfl, h2, h2', r2⟩ := HB.out k hlt
      obtain ⟨m, hwm⟩ := hm.out
      have p1 : wr.cell? ⟨ga, k * 2, none⟩ = some (.slice Ai (P.getD k pt0).bs.length ci) := by rw [hwm]; exact h1
      have p2 : wr.cell? ⟨gb, k * 2, none⟩ = some (.slice Bi (P.getD k pt0).bs.length di) := by rw [hwm]; exact h2
      have HQ : Hid (∀ n, Calls Tryd.prog 36 #[.slice Ai (P.getD k pt0).bs.length ci, .slice Bi (P.getD k pt0).bs.length di] (wr.drewN n) (fun e w'' => e = .returned (.bool true) ∧ ∃ m, w'' = wr.drewN m)) := fun n => by
        refine (sameblocks_any (wr.drewN n) Ai Bi ci di _ (HBB.out k hlt) (r1.tk (Tk.below (by rw [hwm]; exact below_drewN (below_drewN (Below.refl _ _) _) _))) (r2.tk (Tk.below (by rw [hwm]; exact below_drewN (below_drewN (Below.refl _ _) _) _)))).mono ?_
        rintro e w'' ⟨he, q, hq⟩
        exact ⟨he, n + q, by rw [hq]; simp [World.drewN, Nat.add_assoc]⟩
      have d1 : ∀ n, (wr.drewN n).cell? ⟨ga, k * 2 + 1, none⟩ = some (.int .i64 (P.getD k pt0).du) := fun n => by rw [hwm]; exact h1'
      have d2 : ∀ n, (wr.drewN n).cell? ⟨gb, k * 2 + 1, none⟩ = some (.int .i64 (P.getD k pt0).du) := fun n => by rw [hwm]; exact h2'
      have HD := Lib.hid (And.intro d1 d2)
      have HLT := Lib.hid hlt
      have HM : Hid (∀ n, ∃ m, wr.drewN n = w.drewN m) := fun n => by
        rw [hwm]
        exact ⟨m + n, by simp [World.drewN, Nat.add_assoc]⟩
      clear h1 h2 h1' h2' r1 r2 hwm hm d1 d2
      generalize (P.getD k pt0).bs.length = lk at *
      generalize (P.getD k pt0).du = du at *
      go_wp2_with (fail)
      go_quiet (first | (go_at_call 36; exact HQ.out _))
      have e1 := HD.out.1 nq
      have e2 := HD.out.2 nq
      obtain ⟨wq, hwq⟩ : ∃ wq, wr.drewN nq = wq := ⟨_, rfl⟩
      have HM2 : Hid (∀ n, ∃ m, wq.drewN n = w.drewN m) := fun n => by
        obtain ⟨q, hq⟩ := HM.out (nq + n)
        exact ⟨q, by rw [← hq, ← hwq]; simp [World.drewN, Nat.add_assoc]⟩
      rw [hwq] at e1 e2 ⊢
      clear hwq HM HQ HD
      go_wp2_with (fail)
      go_quiet (fail)
      go_wp2
      go_roundw
      case rel => exact ⟨k + 1, HLT.out, by go_num, HM2.out _⟩
      case measure => have := HLT.out; simp [intOf]; omega
    · obtain rfl : k = P.length := by omega
      go_wp2
      go_ret
      exact ⟨rfl, hm.out⟩
end Go.Proofs.YtgjcofoicnnnhaaDoor
