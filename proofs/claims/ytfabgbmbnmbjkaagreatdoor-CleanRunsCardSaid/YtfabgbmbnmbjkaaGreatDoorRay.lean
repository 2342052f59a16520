/- Joined texts: Ze Qd Qe Qf Qg Qh Qi Qj. -/
import Derived.Test.YtfabgbmbnmbjkaaGreatDoorRas
import Derived.Test.YtfabgbmbnmbjkaaGreatDoorRax
import Derived.BigQuiet
import Derived.Test.YtfabgbmbnmbjkaaGreatDoorRaq
import Derived.BigRegion
import Derived.Test.YtfabgbmbnmbjkaaGreatDoorRap
/- Pruned. -/
namespace Go.Proofs.YtfabgbmbnmbjkaaGreatDoor
open Go.RowKit
set_option maxRecDepth 20000
theorem DataB.reads {w : World} {A : Option Addr} {b : List Int} (h : DataB w A b) : Reads w w.heap.size 1 A b.length (nums .u8 b) := by
 obtain ⟨g, cs, rfl, hB, hc⟩ := h
 refine ⟨by rw [nums_length, Nat.mul_one], fun _ => ⟨_, rfl, hB.lt, fun j u hu => ?_⟩⟩
 have hj : j < b.length := by
  have := (List.getElem?_eq_some_iff.mp hu).1
  rwa [nums_length] at this
 rw [nums_get .u8 b j hj] at hu
 rw [addz, hB.cell, hc j hj]
 exact hu
theorem BlocksB.at_ {w : World} {A : Option Addr} {bs : List (List Int)} (h : BlocksB w A bs) {k : Nat} (hk : k < bs.length) : ∃ g Aj cj, A = some ⟨g, 0, none⟩ ∧ w.cell? ⟨g, k, none⟩ = some (.slice Aj (bs.getD k []).length cj) ∧ Reads w w.heap.size 1 Aj (bs.getD k []).length (nums .u8 (bs.getD k [])) := by
 obtain ⟨g, cs, rfl, hB, hc⟩ := h (by omega)
 obtain ⟨Aj, cj, e1, hd⟩ := hc k hk
 exact ⟨g, Aj, cj, rfl, (hB.cell k).trans e1, hd.reads⟩
theorem sameblocks_any (w : World) (A B : Option Addr) (ca cb : Nat) (bs : List (List Int)) (hn : bs.length <= 100000) (hA : BlocksB w A bs) (hB : BlocksB w B bs) :
    Calls Tryz.prog 156 #[.slice A bs.length ca, .slice B bs.length cb] w (Gives (.bool true) w) := by
 have HA := Lib.hid hA
 have HB := Lib.hid hB
 clear hA hB
 go_enter Tryz.func156, Tryz.ntmps156
 go_wp2_with (fail)
 go_loopw [5] (fun i wr => ∃ k : Nat, k <= bs.length ∧ i = .int .i64 k ∧ Hid (∃ m, wr = w.drewN m)) (fun i _ => bs.length - (intOf i).toNat)
 case atStart => exact ⟨0, Nat.zero_le _, rfl, 0, rfl⟩
 case round =>
  obtain ⟨k, hk, rfl, hm⟩ := hrel
  by_cases hlt : k < bs.length
  · obtain ⟨ga, Aj, cj, rfl, h1, r1⟩ := HA.out.at_ hlt
    obtain ⟨gb, Bj, dj, rfl, h2, r2⟩ := HB.out.at_ hlt
    obtain ⟨m, hwm⟩ := hm.out
    have p1 : wr.cell? ⟨ga, k, none⟩ = some (.slice Aj (bs.getD k []).length cj) := by rw [hwm]; exact h1
    have p2 : wr.cell? ⟨gb, k, none⟩ = some (.slice Bj (bs.getD k []).length dj) := by rw [hwm]; exact h2
    have t1 : ∀ n, (convert 36 9 (.slice Aj (bs.getD k []).length cj)).run Tryz.prog (wr.drewN n) = .ok (.string (strOfNums (bs.getD k []))) (wr.drewN n) := fun n => by rw [hwm]; exact run_text _ _ Aj _ cj _ ((r1.drewN m).drewN n)
    have t2 : ∀ n, (convert 36 9 (.slice Bj (bs.getD k []).length dj)).run Tryz.prog (wr.drewN n) = .ok (.string (strOfNums (bs.getD k []))) (wr.drewN n) := fun n => by rw [hwm]; exact run_text _ _ Bj _ dj _ ((r2.drewN m).drewN n)
    have HLT := Lib.hid hlt
    have HM : Hid (∀ n, ∃ m, wr.drewN n = w.drewN m) := fun n => by
     rw [hwm]
     exact ⟨m + n, by simp [World.drewN, Nat.add_assoc]⟩
    clear h1 h2 r1 r2 hwm hm
    generalize strOfNums (bs.getD k []) = sk at *
    generalize (bs.getD k []).length = lk at *
    go_wp2_with (fail)
    go_quiet (fail)
    go_wp2
    go_roundw
    case rel => exact ⟨k + 1, HLT.out, by go_num, HM.out _⟩
    case measure => have := HLT.out; simp [intOf]; omega
  · obtain rfl : k = bs.length := by omega
    go_wp2
    go_ret
    exact ⟨rfl, hm.out⟩
def ZonesR (w : World) (A : Option Addr) (P : List Part) : Prop := ∀ i, i < P.length -> ∃ g Bi ci, A = some ⟨g, 0, none⟩ ∧ w.cell? ⟨g, i * 2, none⟩ = some (.slice Bi (P.getD i pt0).bs.length ci) ∧ w.cell? ⟨g, i * 2 + 1, none⟩ = some (.int .i64 (P.getD i pt0).du) ∧ BlocksB w Bi (P.getD i pt0).bs
theorem ZonesR.below {w w' : World} {A : Option Addr} {P : List Part} (h : ZonesR w A P) (hb : Below w.heap.size w w') : ZonesR w' A P := fun i hi => by
 obtain ⟨g, Bi, ci, e, h1, h2, h3⟩ := h i hi
 exact ⟨g, Bi, ci, e, below_keep hb h1, below_keep hb h2, h3.tk (Tk.below hb)⟩
theorem zqCs_get (Q : List Zq) (P : List Part) (h : Q.length = P.length) (i : Nat) (hi : i < P.length) : (zqCs Q P)[i * 2]? = some (.slice (Q.getD i zq0).a (P.getD i pt0).bs.length (Q.getD i zq0).c) ∧ (zqCs Q P)[i * 2 + 1]? = some (.int .i64 (P.getD i pt0).du) := by
 induction P generalizing Q i with
 | nil => cases hi
 | cons p r ih =>
   cases Q with
   | nil => cases h
   | cons q s =>
     cases i with
     | zero => simp [zqCs, zqC]
     | succ i =>
       have := ih s (by simpa using h) i (by simpa using hi)
       rw [show (i + 1) * 2 = i * 2 + 2 by omega]
       simpa [zqCs, zqC] using this
theorem ZOut.zonesR {w w' : World} {P : List Part} {A : Option Addr} {c : Nat} {Q : List Zq} (h : ZOut w w' P P.length A c Q) : ZonesR w' A P := fun i hi => by
 have hr := h.row
 rw [List.take_length] at hr
 obtain ⟨g, cs, e, _, hB, hc⟩ := own_blkz hr (by omega)
 obtain ⟨q1, q2⟩ := zqCs_get Q P h.len i hi
 exact ⟨g, (Q.getD i zq0).a, (Q.getD i zq0).c, e, ((hB.cell _).trans (hc _ (by omega))).trans q1, ((hB.cell _).trans (hc _ (by omega))).trans q2, h.bl i hi⟩
theorem samezones_any (w : World) (A B : Option Addr) (ca cb : Nat) (P : List Part) (hn : P.length <= 100000) (hb : ∀ i, i < P.length -> (P.getD i pt0).bs.length <= 100000) (hA : ZonesR w A P) (hB : ZonesR w B P) :
    Calls Tryz.prog 105 #[.slice A P.length ca, .slice B P.length cb] w (Gives (.bool true) w) := by
 have HA := Lib.hid hA
 have HB := Lib.hid hB
 have HBB := Lib.hid hb
 clear hA hB hb
 go_enter Tryz.func105, Tryz.ntmps105
 go_wp2_with (fail)
 go_loopw [5] (fun i wr => ∃ k : Nat, k <= P.length ∧ i = .int .i64 k ∧ Hid (∃ m, wr = w.drewN m)) (fun i _ => P.length - (intOf i).toNat)
 case atStart => exact ⟨0, Nat.zero_le _, rfl, 0, rfl⟩
 case round =>
  obtain ⟨k, hk, rfl, hm⟩ := hrel
  by_cases hlt : k < P.length
  · obtain ⟨ga, Ai, ci, rfl, h1, h1', r1⟩ := HA.out k hlt
    obtain ⟨gb, Bi, di, rfl, h2, h2', r2⟩ := HB.out k hlt
    obtain ⟨m, hwm⟩ := hm.out
    have p1 : wr.cell? ⟨ga, k * 2, none⟩ = some (.slice Ai (P.getD k pt0).bs.length ci) := by rw [hwm]; exact h1
    have p2 : wr.cell? ⟨gb, k * 2, none⟩ = some (.slice Bi (P.getD k pt0).bs.length di) := by rw [hwm]; exact h2
    have HQ : Hid (∀ n, Calls Tryz.prog 156 #[.slice Ai (P.getD k pt0).bs.length ci, .slice Bi (P.getD k pt0).bs.length di] (wr.drewN n) (fun e w'' => e = .returned (.bool true) ∧ ∃ m, w'' = wr.drewN m)) := fun n => by
     refine (sameblocks_any (wr.drewN n) Ai Bi ci di _ (HBB.out k hlt) (r1.tk (Tk.below (by rw [hwm]; exact below_drewN (below_drewN (Below.refl _ _) _) _))) (r2.tk (Tk.below (by rw [hwm]; exact below_drewN (below_drewN (Below.refl _ _) _) _)))).mono ?_
     rintro e w'' ⟨he, q, hq⟩
     exact ⟨he, n + q, by rw [hq]; simp [World.drewN, Nat.add_assoc]⟩
    have d1 : ∀ n, (wr.drewN n).cell? ⟨ga, k * 2 + 1, none⟩ = some (.int .i64 (P.getD k pt0).du) := fun n => by rw [hwm]; exact h1'
    have d2 : ∀ n, (wr.drewN n).cell? ⟨gb, k * 2 + 1, none⟩ = some (.int .i64 (P.getD k pt0).du) := fun n => by rw [hwm]; exact h2'
    have HD := Lib.hid (And.intro d1 d2)
    have HLT := Lib.hid hlt
    have HM : Hid (∀ n, ∃ m, wr.drewN n = w.drewN m) := fun n => by
     rw [hwm]
     exact ⟨m + n, by simp [World.drewN, Nat.add_assoc]⟩
    clear h1 h2 h1' h2' r1 r2 hwm hm d1 d2
    generalize (P.getD k pt0).bs.length = lk at *
    generalize (P.getD k pt0).du = du at *
    go_wp2_with (fail)
    go_quiet (first | (go_at_call 156; exact HQ.out _))
    have e1 := HD.out.1 nq
    have e2 := HD.out.2 nq
    obtain ⟨wq, hwq⟩ : ∃ wq, wr.drewN nq = wq := ⟨_, rfl⟩
    have HM2 : Hid (∀ n, ∃ m, wq.drewN n = w.drewN m) := fun n => by
     obtain ⟨q, hq⟩ := HM.out (nq + n)
     exact ⟨q, by rw [<- hq, <- hwq]; simp [World.drewN, Nat.add_assoc]⟩
    rw [hwq] at e1 e2 ⊢
    clear hwq HM HQ HD
    go_wp2_with (fail)
    go_quiet (fail)
    go_wp2
    go_roundw
    case rel => exact ⟨k + 1, HLT.out, by go_num, HM2.out _⟩
    case measure => have := HLT.out; simp [intOf]; omega
  · obtain rfl : k = P.length := by omega
    go_wp2
    go_ret
    exact ⟨rfl, hm.out⟩
end Go.Proofs.YtfabgbmbnmbjkaaGreatDoor

/- Pruned. -/
namespace Go.Proofs.YtfabgbmbnmbjkaaGreatDoor
open Go.RowKit
set_option maxRecDepth 20000
def DataY (Y : Nat -> Prop) (w : World) (A : Option Addr) (b : List Int) : Prop := ∃ g cs, A = some ⟨g, 0, none⟩ ∧ Y g ∧ Blk w g 5 cs ∧ ∀ j, j < b.length -> cs[j]? = some (.int .u8 (b.getD j 0))
def BlocksY (Y : Nat -> Prop) (w : World) (A : Option Addr) (bs : List (List Int)) : Prop := 0 < bs.length -> ∃ g cs, A = some ⟨g, 0, none⟩ ∧ Y g ∧ Blk w g 36 cs ∧ ∀ j, j < bs.length -> ∃ Aj cj, cs[j]? = some (.slice Aj (bs.getD j []).length cj) ∧ DataY Y w Aj (bs.getD j [])
def Ky (Y Y' : Nat -> Prop) (l : Nat) (w w' : World) : Prop := ∀ g, g < w.heap.size -> Y g -> Y' g ∧ (g ≠ l -> w'.heap[g]? = w.heap[g]?)
section
variable {Y Y' : Nat -> Prop} {w w' : World} {l : Nat}
theorem Ky.blk (h : Ky Y Y' l w w') {g : Nat} {t : TypeId} {cs : Array Value} (hb : Blk w g t cs) (hy : Y g) (hl : g ≠ l) : Y' g ∧ Blk w' g t cs := ⟨(h g hb.lt hy).1, ((h g hb.lt hy).2 hl).trans hb⟩
theorem Ky.zone (h : Ky Y Y' l w w') {cl : Array Value} (hl : Blk w l 167 cl) {g : Nat} {t : TypeId} {cs : Array Value} (hb : Blk w g t cs) (hy : Y g) (ht : t ≠ 167) : Y' g ∧ Blk w' g t cs := h.blk hb hy (hb.ne_ hl ht)
theorem DataY.ky {A : Option Addr} {b : List Int} (h : DataY Y w A b) (k : Ky Y Y' l w w') {cl : Array Value} (hl : Blk w l 167 cl) : DataY Y' w' A b := by
 obtain ⟨g, cs, e, hy, hb, hc⟩ := h
 obtain ⟨h1, h2⟩ := k.zone hl hb hy (by decide)
 exact ⟨g, cs, e, h1, h2, hc⟩
theorem BlocksY.ky {A : Option Addr} {bs : List (List Int)} (h : BlocksY Y w A bs) (k : Ky Y Y' l w w') {cl : Array Value} (hl : Blk w l 167 cl) : BlocksY Y' w' A bs := fun h0 => by
 obtain ⟨g, cs, e, hy, hb, hc⟩ := h h0
 obtain ⟨h1, h2⟩ := k.zone hl hb hy (by decide)
 refine ⟨g, cs, e, h1, h2, fun j hj => ?_⟩
 obtain ⟨Aj, cj, e1, h3⟩ := hc j hj
 exact ⟨Aj, cj, e1, h3.ky k hl⟩
theorem DataY.data {A : Option Addr} {b : List Int} (h : DataY Y w A b) : DataB w A b := by
 obtain ⟨g, cs, e, _, hb, hc⟩ := h
 exact ⟨g, cs, e, hb, hc⟩
theorem BlocksY.nil (A : Option Addr) : BlocksY Y w A [] := fun h => absurd h (by simp)
theorem BlocksY.vals {A : Option Addr} {bs : List (List Int)} (h : BlocksY Y w A bs) : ∃ vs : List Value, vs.length = bs.length ∧ Reads w w.heap.size 1 A bs.length vs ∧ (∀ v ∈ vs, v.oneCell' = true) ∧ ∀ j, j < bs.length -> ∃ Aj cj, vs[j]? = some (.slice Aj (bs.getD j []).length cj) ∧ DataY Y w Aj (bs.getD j []) := by
 rcases Nat.eq_zero_or_pos bs.length with h0 | h0
 · rw [h0]
   refine ⟨[], by simp, ⟨by simp, fun h => absurd h (by omega)⟩, fun v hv => (by cases hv), fun j hj => by omega⟩
 · obtain ⟨g, cs, rfl, hy, hb, hc⟩ := h h0
   have hsz : bs.length <= cs.size := by
    obtain ⟨Aj, cj, e1, _⟩ := hc (bs.length - 1) (by omega)
    have := (Array.getElem?_eq_some_iff.1 e1).1
    omega
   have hlen : (cs.toList.take bs.length).length = bs.length := by simp; omega
   have hg : ∀ j, j < bs.length -> (cs.toList.take bs.length)[j]? = cs[j]? := fun j hj => by
    rw [List.getElem?_take, if_pos hj, Array.getElem?_toList]
   refine ⟨cs.toList.take bs.length, hlen, ⟨by rw [hlen, Nat.mul_one], fun _ => ⟨_, rfl, hb.lt, fun j u hu => ?_⟩⟩, fun v hv => ?_, fun j hj => ?_⟩
   · have hj : j < bs.length := by
      have := (List.getElem?_eq_some_iff.mp hu).1
      omega
     rw [hg j hj] at hu
     rw [add0, hb.cell, hu]
   · obtain ⟨j, hj, rfl⟩ := List.mem_iff_getElem.1 hv
     have hj' : j < bs.length := by omega
     obtain ⟨Aj, cj, e1, _⟩ := hc j hj'
     have e2 := hg j hj'
     rw [e1, List.getElem?_eq_getElem hj] at e2
     rw [Option.some.inj e2]
     rfl
   · obtain ⟨Aj, cj, e1, h3⟩ := hc j hj
     exact ⟨Aj, cj, (hg j hj).trans e1, h3⟩
theorem BlocksY.of_own {base n c : Nat} {A : Option Addr} {vs : List Value} {bs : List (List Int)} (h : w.ownsRow base 36 1 (.slice A n c) n vs) (hn : n = bs.length) (hY : ∀ b, base <= b -> Y b) (hj : ∀ j, j < bs.length -> ∃ Aj cj, vs[j]? = some (.slice Aj (bs.getD j []).length cj) ∧ DataY Y w Aj (bs.getD j [])) : BlocksY Y w A bs := fun h0 => by
 subst hn
 obtain ⟨g, cs, e, hb, hB, hc⟩ := own_blkz h h0
 refine ⟨g, cs, e, hY g hb, hB, fun j hjj => ?_⟩
 obtain ⟨Aj, cj, e1, h3⟩ := hj j hjj
 exact ⟨Aj, cj, (hc j (by omega)).trans e1, h3⟩
theorem DataY.of_row {base c : Nat} {A : Option Addr} {b : List Int} (h : BRow w base A c b) (h0 : 0 < b.length) (hY : ∀ i, base <= i -> Y i) : DataY Y w A b := by
 obtain ⟨g, cs, e, hg, hB, hc⟩ := own_blkz h h0
 exact ⟨g, cs, e, hY g hg, hB, fun j hj => by rw [hc j (by omega), nums_get .u8 _ j hj]⟩
theorem DataY.reads {A : Option Addr} {b : List Int} (h : DataY Y w A b) : Reads w w.heap.size 1 A b.length (nums .u8 b) := h.data.reads
end
structure QDev (Y : Nat -> Prop) (w : World) (d l : Nat) (s : Sh) (P : List Part) : Prop where
  top : Blk w d 136 #[.int .i64 s.z, .int .i64 s.zb, .int .i64 s.bl, .int .i64 s.rs, .slice (some ⟨l, 0, none⟩) P.length P.length]
  is : ∃ cs, Blk w l 167 cs ∧ cs.size = P.length * 2 ∧ ∀ i, i < P.length -> ∃ Ai ci, cs[i * 2]? = some (.slice Ai (P.getD i pt0).bs.length ci) ∧ cs[i * 2 + 1]? = some (.int .i64 (P.getD i pt0).du) ∧ BlocksY Y w Ai (P.getD i pt0).bs
  yd : Y d
  yl : Y l
  nw : ∀ b, w.heap.size <= b -> Y b
  sz : P.length = s.z
  ok : s.ok
  fit : ∀ i, i < P.length -> PartOk s (P.getD i pt0)
section
variable {Y Y' : Nat -> Prop} {w w' : World} {d l : Nat} {s : Sh} {P : List Part}
theorem QDev.ne_ (h : QDev Y w d l s P) : d ≠ l := by
 obtain ⟨cs, hb, _⟩ := h.is
 exact h.top.ne_ hb (by decide)
theorem QDev.llt (h : QDev Y w d l s P) : l < w.heap.size := by
 obtain ⟨cs, hb, _⟩ := h.is
 exact hb.lt
theorem QDev.move (h : QDev Y w d l s P) (hk : ∀ g, g < w.heap.size -> Y g -> Y' g ∧ w'.heap[g]? = w.heap[g]?) (hn : ∀ b, w'.heap.size <= b -> Y' b) : QDev Y' w' d l s P := by
 obtain ⟨cs, hb, hsz, hc⟩ := h.is
 have k : Ky Y Y' l w w' := fun g hg hy => ⟨(hk g hg hy).1, fun _ => (hk g hg hy).2⟩
 refine ⟨(hk d h.top.lt h.yd).2.trans h.top, ⟨cs, (hk l hb.lt h.yl).2.trans hb, hsz, fun i hi => ?_⟩, (hk d h.top.lt h.yd).1, (hk l hb.lt h.yl).1, hn, h.sz, h.ok, h.fit⟩
 obtain ⟨Ai, ci, h1, h2, h3⟩ := hc i hi
 exact ⟨Ai, ci, h1, h2, h3.ky k hb⟩
theorem QDev.below (h : QDev Y w d l s P) (hb : Below w.heap.size w w') : QDev Y w' d l s P := h.move (fun g hg hy => ⟨hy, hb.block g hg⟩) (fun b hb' => h.nw b (Nat.le_trans hb.size hb'))
theorem QDev.drew (h : QDev Y w d l s P) : QDev Y w.drew d l s P := h.below ⟨rfl, rfl, rfl, Nat.le_refl _, fun _ _ => rfl⟩
theorem QDev.t0 (h : QDev Y w d l s P) : w.cell? ⟨d, 0, none⟩ = some (.int .i64 s.z) := h.top.cell 0
theorem QDev.t1 (h : QDev Y w d l s P) : w.cell? ⟨d, 1, none⟩ = some (.int .i64 s.zb) := h.top.cell 1
theorem QDev.t2 (h : QDev Y w d l s P) : w.cell? ⟨d, 2, none⟩ = some (.int .i64 s.bl) := h.top.cell 2
theorem QDev.t3 (h : QDev Y w d l s P) : w.cell? ⟨d, 3, none⟩ = some (.int .i64 s.rs) := h.top.cell 3
theorem QDev.t4 (h : QDev Y w d l s P) : w.cell? ⟨d, 4, none⟩ = some (.slice (some ⟨l, 0, none⟩) P.length P.length) := h.top.cell 4
theorem QDev.fz (h : QDev Y w d l s P) (i : Nat) : w.frozen? ⟨l, i, none⟩ = false := by
 obtain ⟨cs, hb, _⟩ := h.is
 exact hb.frozen i
theorem QDev.at_ (h : QDev Y w d l s P) {i : Nat} (hi : i < P.length) : ∃ Ai ci, w.cell? ⟨l, i * 2, none⟩ = some (.slice Ai (P.getD i pt0).bs.length ci) ∧ w.cell? ⟨l, i * 2 + 1, none⟩ = some (.int .i64 (P.getD i pt0).du) ∧ BlocksY Y w Ai (P.getD i pt0).bs := by
 obtain ⟨cs, hb, hsz, hc⟩ := h.is
 obtain ⟨Ai, ci, h1, h2, h3⟩ := hc i hi
 exact ⟨Ai, ci, (hb.cell _).trans h1, (hb.cell _).trans h2, h3⟩
theorem QDev.len (h : QDev Y w d l s P) : P.length <= 256 := by have := h.sz; have := h.ok.facts; omega
theorem QDev.putG {w1 w2 : World} (h : QDev Y w d l s P) (hb : Below w.heap.size w w1) {z : Nat} (hz : z < P.length) {q : Part} (hq : PartOk s q) {A : Option Addr} {c : Nat} (hB : BlocksY Y w1 A q.bs) (hk1 : Kp (fun b => b = l) w1 w2)
    (h2 : ∀ cs, Blk w1 l 167 cs -> cs.size = P.length * 2 -> cs[z * 2 + 1]? = some (.int .i64 (P.getD z pt0).du) -> ∃ cs', Blk w2 l 167 cs' ∧ cs'.size = P.length * 2 ∧ cs'[z * 2]? = some (.slice A q.bs.length c) ∧ cs'[z * 2 + 1]? = some (.int .i64 q.du) ∧ ∀ j, j ≠ z * 2 -> j ≠ z * 2 + 1 -> cs'[j]? = cs[j]?) : QDev Y w2 d l s (P.set z q) ∧ Kp (fun b => b = l) w w2 := by
 have h1 := h.below hb
 obtain ⟨cs, hbl, hsz, hc⟩ := h1.is
 obtain ⟨_, _, _, hdu, _⟩ := hc z hz
 obtain ⟨cs', hrow, hsz', hc0, hc1, hcj⟩ := h2 cs hbl hsz hdu
 have hlen : (P.set z q).length = P.length := by simp
 have k : Ky Y Y l w1 w2 := fun g hg hy => ⟨hy, fun hne => hk1.block g hg hne⟩
 refine ⟨⟨by rw [hlen]; exact hk1.blk h1.top h.ne_, ⟨cs', hrow, by rw [hlen]; exact hsz', fun i hi => ?_⟩, h.yd, h.yl, fun b hb' => h1.nw b (Nat.le_trans hk1.size hb'), by rw [hlen]; exact h.sz, h.ok, fun i hi => ?_⟩, (Kp.of_below hb).trans hk1 (fun _ _ h => h)⟩
 · rw [hlen] at hi
   by_cases e : i = z
   · subst e
     rw [getD_set_same _ _ _ _ hz]
     exact ⟨A, c, hc0, hc1, hB.ky k hbl⟩
   · rw [getD_set_other _ _ _ _ _ (fun e' => e e'.symm)]
     obtain ⟨Ai, ci, g1, g2, g3⟩ := hc i hi
     exact ⟨Ai, ci, (hcj _ (by omega) (by omega)).trans g1, (hcj _ (by omega) (by omega)).trans g2, g3.ky k hbl⟩
 · rw [hlen] at hi
   by_cases e : i = z
   · subst e; rw [getD_set_same _ _ _ _ hz]; exact hq
   · rw [getD_set_other _ _ _ _ _ (fun e' => e e'.symm)]; exact h.fit i hi
theorem QDev.put {w1 w2 : World} (h : QDev Y w d l s P) (hb : Below w.heap.size w w1) {z : Nat} (hz : z < P.length) {q : Part} (hq : PartOk s q) {A : Option Addr} {c : Nat} (hB : BlocksY Y w1 A q.bs)
    (h2 : w2 = (w1.setCell ⟨l, z * 2, none⟩ (.slice A q.bs.length c)).setCell ⟨l, z * 2 + 1, none⟩ (.int .i64 q.du)) : QDev Y w2 d l s (P.set z q) ∧ Kp (fun b => b = l) w w2 := by
 subst h2
 refine h.putG hb hz hq hB (c := c) (kp_setTwo (Kp.refl (fun b => b = l) w1) (.inl rfl) (z * 2) (z * 2 + 1) _ _) (fun cs hbl hsz _ => ⟨_, (hbl.set_ (z * 2) (.slice A q.bs.length c)).set_ (z * 2 + 1) (.int .i64 q.du), by simp [hsz], ?_, ?_, fun j h0 h1 => ?_⟩)
 · rw [Array.getElem?_setIfInBounds_ne (by omega), Array.getElem?_setIfInBounds_self_of_lt (by rw [hsz]; omega)]
 · rw [Array.getElem?_setIfInBounds_self_of_lt (by simp [hsz]; omega)]
 · rw [Array.getElem?_setIfInBounds_ne (by omega), Array.getElem?_setIfInBounds_ne (by omega)]
theorem QDev.put0 {w1 w2 : World} (h : QDev Y w d l s P) (hb : Below w.heap.size w w1) {z : Nat} (hz : z < P.length) {q : Part} (hq : PartOk s q) (hdu : q.du = (P.getD z pt0).du) {A : Option Addr} {c : Nat} (hB : BlocksY Y w1 A q.bs)
    (h2 : w2 = w1.setCell ⟨l, z * 2, none⟩ (.slice A q.bs.length c)) : QDev Y w2 d l s (P.set z q) ∧ Kp (fun b => b = l) w w2 := by
 subst h2
 refine h.putG hb hz hq hB (c := c) ((Kp.refl (fun b => b = l) w1).setCell (p := ⟨l, z * 2, none⟩) (.inl rfl) _) (fun cs hbl hsz hd => ⟨_, hbl.set_ (z * 2) (.slice A q.bs.length c), by simp [hsz], ?_, ?_, fun j h0 h1 => ?_⟩)
 · rw [Array.getElem?_setIfInBounds_self_of_lt (by rw [hsz]; omega)]
 · rw [Array.getElem?_setIfInBounds_ne (by omega), hdu]; exact hd
 · rw [Array.getElem?_setIfInBounds_ne (by omega)]
theorem QDev.put1 {w1 w2 : World} (h : QDev Y w d l s P) (hb : Below w.heap.size w w1) {z : Nat} (hz : z < P.length) {du : Nat} (hdu : du <= (P.getD z pt0).bs.length)
    (h2 : w2 = w1.setCell ⟨l, z * 2 + 1, none⟩ (.int .i64 du)) : QDev Y w2 d l s (P.set z ⟨(P.getD z pt0).bs, du⟩) ∧ Kp (fun b => b = l) w w2 := by
 subst h2
 have h1 := h.below hb
 obtain ⟨cs0, hbl0, hsz0, hc0⟩ := h1.is
 obtain ⟨Az, cz, e0, _, hBz⟩ := hc0 z hz
 have hf := h.fit z hz
 refine h.putG hb hz ⟨hf.len, hf.fit, hdu, hf.byt⟩ (A := Az) (c := cz) hBz ((Kp.refl (fun b => b = l) w1).setCell (p := ⟨l, z * 2 + 1, none⟩) (.inl rfl) _) (fun cs hbl hsz hd => ⟨_, hbl.set_ (z * 2 + 1) (.int .i64 du), by simp [hsz], ?_, ?_, fun j h0 h1 => ?_⟩)
 · rw [Array.getElem?_setIfInBounds_ne (by omega), <- hbl.cell, hbl0.cell]; exact e0
 · rw [Array.getElem?_setIfInBounds_self_of_lt (by rw [hsz]; omega)]
 · rw [Array.getElem?_setIfInBounds_ne (by omega)]
end
theorem run_app_all (w : World) (B : Nat) (A : Option Addr) (n c : Nat) (vs : List Value) (hr : Reads w B 1 A n vs) (h1 : ∀ v ∈ vs, v.oneCell' = true) (hn : n <= 100000) :
    ∃ A7 c7 w7, (Builtin.append_ #[51, 51] 51 #[.slice none 0 0, .slice A n c]).run Tryz.prog w = .ok (.slice A7 n c7) w7 ∧ w7.ownsRow w.heap.size 36 1 (.slice A7 n c7) n vs ∧ Below w.heap.size w w7 := by
 obtain ⟨i0, hi0, hz0, hz1, hz2⟩ := info_parts sl_info
 obtain ⟨v', w7, hrun, hown7, hg, hor⟩ := run_append_any (P := Tryz.prog) (w := w) w.heap.size 51 51 36 i0 _ 1 24 Tryz.underlying51 hi0 hz0 hz1 hz2 rfl (by omega) (.slice none 0 0) 0 [] (World.ownsRow_nil _ _ _ _) _ _ n c vs hr h1 (by simp only [maxLen]; omega) (by omega) (Nat.le_refl _)
 rw [Nat.zero_add, List.nil_append] at hown7
 obtain ⟨A7, c7, rfl⟩ := own_form hown7
 exact ⟨A7, c7, w7, hrun, hown7, ⟨hg.os, hg.tape, hg.output, hg.size, fun g hg' => hg.block g hg' (fun e => by cases e)⟩⟩
theorem run_app_one (w : World) (base : Nat) (A : Option Addr) (n c : Nat) (vs : List Value) (h : w.ownsRow base 36 1 (.slice A n c) n vs) (Ax : Option Addr) (m cx : Nat) (hn : n <= 100000) (hbase : base <= w.heap.size) :
    ∃ A7 c7 w7, (Builtin.append_ #[51, 51] 51 #[.slice A n c, .slice (some ⟨w.heap.size, 0, none⟩) 1 1]).run Tryz.prog (w.alloc (.cells #[.slice Ax m cx] 36)) = .ok (.slice A7 (n + 1) c7) w7 ∧ w7.ownsRow base 36 1 (.slice A7 (n + 1) c7) (n + 1) (vs ++ [.slice Ax m cx]) ∧ Kp (fun g => (Value.slice A n c).ownBlock = some g) w w7 := by
 obtain ⟨i0, hi0, hz0, hz1, hz2⟩ := info_parts sl_info
 have hsrc := Blk.new w 36 #[.slice Ax m cx]
 have hr : Reads (w.alloc (.cells #[.slice Ax m cx] 36)) (w.alloc (.cells #[.slice Ax m cx] 36)).heap.size 1 (some ⟨w.heap.size, 0, none⟩) 1 [.slice Ax m cx] := ⟨rfl, fun _ => ⟨_, rfl, hsrc.lt, fun j u hj => by
  rw [add0, hsrc.cell, List.getElem?_toArray]
  exact hj⟩⟩
 have hown6 := World.ownsRow.alloc h (.cells #[.slice Ax m cx] 36)
 obtain ⟨v', w7, hrun, hown7, hg, hor⟩ := run_append_any (P := Tryz.prog) (w := w.alloc (.cells #[.slice Ax m cx] 36)) base 51 51 36 i0 _ 1 24 Tryz.underlying51 hi0 hz0 hz1 hz2 rfl (by omega) (.slice A n c) n _ hown6 _ _ 1 1 [.slice Ax m cx] hr (fun v hv => by
  obtain rfl := List.mem_singleton.1 hv
  rfl) (by simp only [maxLen]; omega) (by omega) (by simp; omega)
 obtain ⟨A7, c7, rfl⟩ := own_form hown7
 exact ⟨A7, c7, w7, hrun, hown7, ((Kp.refl (fun g => (Value.slice A n c).ownBlock = some g) w).alloc _).trans ⟨hg.os, hg.tape, hg.output, hg.size, fun g hg' hne => hg.block g hg' (fun e => hne e.symm)⟩ (fun _ _ h => h)⟩
end Go.Proofs.YtfabgbmbnmbjkaaGreatDoor

/- Pruned. -/
namespace Go.Proofs.YtfabgbmbnmbjkaaGreatDoor
open Go.RowKit
set_option maxRecDepth 20000
section
variable (Y : Nat -> Prop) (w : World) (d l : Nat) (s : Sh) (P : List Part)
theorem qshape_any (h : QDev Y w d l s P) : Calls Tryz.prog 93 #[.pointer (some ⟨d, 0, none⟩)] w (Makes (shV s) w) := by
 have h0 := h.t0
 have h1 := h.t1
 have h2 := h.t2
 have h3 := h.t3
 have hd := h.top.lt
 unfold shV
 clear h
 go_enter Tryz.func93, Tryz.ntmps93
 go_wp2
 go_returns
 exact ⟨rfl, (Below.refl _ _).alloc (Nat.le_refl _) _⟩
theorem qlent_any (B : Nat) (A : Option Addr) (c : Nat) (b : List Int) (h : Reads w B 1 A b.length (nums .u8 b)) (hn : b.length <= 100000) :
    Calls Tryz.prog 109 #[.slice A b.length c] w fun e w' => ∃ A' c', e = .returned (.slice A' b.length c') ∧ BRow w' w.heap.size A' c' b ∧ Below w.heap.size w w' := by
 have HR := Lib.hid (h.more_ (by omega))
 have HN : Hid (BRow w w.heap.size none 0 []) := BRow.nil _ _
 have HL : Hid (([] : List Int).length + b.length <= 100000000) := by unfold Hid; simp; omega
 have e0 : ([] ++ b).length = b.length := by simp
 clear h
 go_enter Tryz.func109, Tryz.ntmps109
 go_wp2_with (first
   | (at_builtin
      refine wpList_append_u8 w rfl (.tmp 4) (.tmp 5) rfl [] HN.out rfl rfl b rfl HR.out HL.out (Nat.le_refl _) ?_
      intro A1 c1 w1 hb1 hk1 _
      have H1 := Lib.hid hb1
      have H2 := Lib.hid hk1
      clear hb1 hk1))
 go_ret
 exact ⟨A1, c1, rfl, H1.out, ⟨H2.out.os, H2.out.tape, H2.out.output, H2.out.size, fun k hk => H2.out.block k hk (by simp [Value.ownBlock])⟩⟩
theorem qreset_any (z : Nat) (hz : z < P.length) (h : QDev Y w d l s P) :
    Calls Tryz.prog 94 #[.pointer (some ⟨d, 0, none⟩), .int .i64 z] w (fun e w' => e = .returned (.int .i64 0) ∧ QDev Y w' d l s (P.set z pt0) ∧ Kp (fun b => b = l) w w') := by
 obtain ⟨Ai, ci, r0, r1, _⟩ := h.at_ hz
 have t4 := h.t4
 have hf := h.fz
 have hlen := h.len
 have H := Lib.hid (h.put (Below.refl _ w) hz (PartOk.zero s) (A := none) (c := 0) (BlocksY.nil none) rfl)
 clear h
 generalize (P.getD z pt0).du = du at *
 generalize (P.getD z pt0).bs.length = n0 at *
 go_enter Tryz.func94, Tryz.ntmps94
 go_wp2
 go_ret
 exact ⟨rfl, H.out⟩
theorem qat_any (z : Nat) (hz : z < P.length) (h : QDev Y w d l s P) :
    Calls Tryz.prog 128 #[.pointer (some ⟨d, 0, none⟩), .int .i64 z] w (Makes (.tuple #[.int .i64 ((P.getD z pt0).bs.length : Nat), .int .i64 (P.getD z pt0).du]) w) := by
 obtain ⟨Ai, ci, r0, r1, _⟩ := h.at_ hz
 have t4 := h.t4
 have hlen := h.len
 clear h
 generalize (P.getD z pt0).du = du at *
 generalize (P.getD z pt0).bs.length = n0 at *
 go_enter Tryz.func128, Tryz.ntmps128
 go_wp2_with (fail)
 go_quiet (fail)
 go_wp2
 go_ret2
 exact ⟨rfl, below_drewN (Below.refl _ _) _⟩
set_option maxHeartbeats 4000000 in
theorem qread_any (z k : Nat) (hz : z < P.length) (hk : k < (P.getD z pt0).bs.length) (h : QDev Y w d l s P) :
    Calls Tryz.prog 51 #[.pointer (some ⟨d, 0, none⟩), .agg #[.int .i64 z, .int .i64 k]] w (fun e w' => ∃ A c, e = .returned (.tuple #[.slice A ((P.getD z pt0).bs.getD k []).length c, .int .i64 0]) ∧ BRow w' w.heap.size A c ((P.getD z pt0).bs.getD k []) ∧ Below w.heap.size w w') := by
 obtain ⟨Ai, ci, r0, r1, hbl⟩ := h.at_ hz
 obtain ⟨g, cs, rfl, _, hB, hc⟩ := hbl (by omega)
 obtain ⟨Aj, cj, e1, hdat⟩ := hc k hk
 have b1 : w.cell? ⟨g, k, none⟩ = some (.slice Aj ((P.getD z pt0).bs.getD k []).length cj) := (hB.cell k).trans e1
 have t4 := h.t4
 have hlen := h.len
 have hfit := (h.fit z hz).fit
 have hzb := h.ok.facts
 have hlb : ((P.getD z pt0).bs.getD k []).length <= 100000 := by rw [(h.fit z hz).len _ (getD_mem hk)]; omega
 have HR := Lib.hid hdat.reads
 have hltd := h.top.lt
 have hltl := h.llt
 have hltg := hB.lt
 clear h hbl hB hc e1 hdat hzb r1
 generalize hbb : (P.getD z pt0).bs.getD k [] = b at *
 generalize hn : (P.getD z pt0).bs.length = n0 at *
 clear hbb hn
 have HL := Lib.hid (fun u (hu : Below w.heap.size w u) => qlent_any u _ Aj cj b (HR.out.below hu) hlb)
 go_enter Tryz.func51, Tryz.ntmps51
 go_wp2_with (fail)
 go_quiet (fail)
 go_wp2_with (fail)
 obtain ⟨w1, hw1⟩ : ∃ w1, (w.alloc (.cells #[.int .i64 z, .int .i64 k] 53)).drewN nq = w1 := ⟨_, rfl⟩
 have hb1 : Below w.heap.size w w1 := by rw [<- hw1]; exact below_drewN ((Below.refl _ _).alloc (Nat.le_refl _) _) _
 have hbx : Blk w1 w.heap.size 53 #[.int .i64 z, .int .i64 k] := by rw [<- hw1]; exact (Blk.new w 53 #[.int .i64 z, .int .i64 k]).drewN nq
 rw [hw1]
 replace t4 := below_keep hb1 t4
 replace r0 := below_keep hb1 r0
 replace b1 := below_keep hb1 b1
 have x0 : w1.cell? ⟨w.heap.size, 0, none⟩ = some (.int .i64 z) := hbx.cell 0
 have x1 : w1.cell? ⟨w.heap.size, 1, none⟩ = some (.int .i64 k) := hbx.cell 1
 have hlt1 : w.heap.size < w1.heap.size := hbx.lt
 have HB1 := Lib.hid hb1
 clear hw1 hb1 hbx
 go_quiet (fail)
 go_wp2_with (fail)
 obtain ⟨w2, hw2⟩ : ∃ w2, w1.drewN nq = w2 := ⟨_, rfl⟩
 have hb2 : Below w1.heap.size w1 w2 := by rw [<- hw2]; exact below_drewN (Below.refl _ _) _
 rw [hw2]
 replace t4 := below_keep hb2 t4
 replace r0 := below_keep hb2 r0
 replace b1 := below_keep hb2 b1
 replace x0 := below_keep hb2 x0
 replace x1 := below_keep hb2 x1
 have hb0 := HB1.out.trans (hb2.mono HB1.out.size)
 have HB2 := Lib.hid hb0
 have HC2 := Lib.hid (HL.out w2.drew hb0.drew)
 clear hw2 hb2 hb0 HB1 HL
 go_region_law (first
   | (go_simp
      go_at_call 109
      with_reducible refine HC2.out.mono ?_
      rintro e w3 ⟨A3, c3, rfl, hr3, hb3⟩
      have H3 := Lib.hid (And.intro hr3 hb3)
      clear hr3 hb3))
 all_goals
  go_wp2
  go_ret2
  exact ⟨A3, c3, rfl, H3.out.1.rebase (fun q hq => Nat.le_trans HB2.out.size (H3.out.1.lt hq).1), HB2.out.drew.trans (H3.out.2.mono HB2.out.size)⟩
end
end Go.Proofs.YtfabgbmbnmbjkaaGreatDoor

/- Pruned. -/
namespace Go.Proofs.YtfabgbmbnmbjkaaGreatDoor
open Go.RowKit
set_option maxRecDepth 20000
set_option maxHeartbeats 4000000 in
theorem qappend_any (Y : Nat -> Prop) (w : World) (d l : Nat) (s : Sh) (P : List Part) (z : Nat) (hz : z < P.length) (h : QDev Y w d l s P) (B : Nat) (A : Option Addr) (c : Nat) (data : List Int)
    (hd : data.length = s.bl) (hb : ∀ x ∈ data, ByteOk x) (hr : (P.getD z pt0).bs.length < s.zb) (hA : Reads w B 1 A data.length (nums .u8 data)) :
    Calls Tryz.prog 95 #[.pointer (some ⟨d, 0, none⟩), .int .i64 z, .slice A data.length c] w
      (fun e w' => e = .returned (.tuple #[.agg #[.int .i64 z, .int .i64 ((P.getD z pt0).bs.length : Nat)], .int .i64 0]) ∧ QDev Y w' d l s (appP P z data) ∧ Kp (fun b => b = l) w w') := by
 have hrow0 := (Below.refl w.heap.size w).alloc (Nat.le_refl _) (.cells #[.int .i64 0, .int .i64 0] 53)
 have h1 : QDev (fun b => Y b ∧ b ≠ w.heap.size) (w.alloc (.cells #[.int .i64 0, .int .i64 0] 53)) d l s P := h.move (fun g hg hy => ⟨⟨hy, by omega⟩, hrow0.block g hg⟩) (fun b hb' => ⟨h.nw b (by simp at hb'; omega), by simp at hb'; omega⟩)
 have hbx := Blk.new w 53 #[.int .i64 0, .int .i64 0]
 have hA1 := (hA.more_ (by omega)).below hrow0
 have HB1 := Lib.hid hrow0
 have H := Lib.hid h
 have hzb := h.ok.facts
 have hlen := h.len
 have hfz := h.fit z hz
 have HFZ := Lib.hid hfz
 have HD := Lib.hid (And.intro hd (And.intro hb hr))
 have hlw := h.llt
 have hdw := h.top.lt
 have htd : (data.length : Int) = s.bl := by omega
 obtain ⟨w1, hw1⟩ : ∃ w1, w.alloc (.cells #[.int .i64 0, .int .i64 0] 53) = w1 := ⟨_, rfl⟩
 rw [hw1] at h1 hbx hA1
 obtain ⟨Ai, ci, r0, r1, hbl⟩ := h1.at_ hz
 obtain ⟨vs, hvl, hrv, hv1, hvj⟩ := hbl.vals
 have hn4 : (P.getD z pt0).bs.length <= 4096 := by have := hfz.fit; omega
 obtain ⟨A7, c7, w7, hap, hown7, hb7⟩ := run_app_all w1 _ Ai _ ci vs hrv hv1 (by omega)
 have t2 := h1.t2
 have t1 := h1.t1
 have t4 := h1.t4
 have hf := h1.fz
 have hlt : (((P.getD z pt0).bs.length : Nat) : Int) < s.zb := by omega
 have HL := Lib.hid (fun u (hu : Below w1.heap.size w1 u) => qlent_any u _ A c data ((hA1.more_ (by omega)).below hu) (by omega))
 have HAP := Lib.hid hap
 have HW1 := Lib.hid hw1
 clear h hA hd hb hr hA1 hfz hrv hv1 hap hrow0
 generalize hn : (P.getD z pt0).bs.length = n at *
 go_enter Tryz.func95, Tryz.ntmps95
 go_upto_region 1 with (fail)
 clear hw1
 go_wp2_with (first
   | (at_builtin
      refine wpList_append_runz rfl (.tmp 49) (.tmp 57) _ rfl rfl rfl HAP.out ?_))
 have t47 := below_keep hb7 t4
 have HL7 := Lib.hid (HL.out w7 hb7)
 clear HL
 refine HL7.out.mono ?_
 rintro e w8 ⟨A8, c8, rfl, hr8, hb8⟩
 obtain ⟨A9, c9, w9, hap9, hown9, hk9⟩ := run_app_one w8 w1.heap.size A7 n c7 vs (ownsRow_of_block hown7 (fun g he => hb8.block g (World.ownsRow.lt hown7 g he).2)) A8 data.length c8 (by omega) (Nat.le_trans hb7.size hb8.size)
 have HAP9 := Lib.hid hap9
 have hb9 : Below w1.heap.size w1 w9 := Kp.below (hb7.trans (hb8.mono hb7.size)) hk9 (Nat.le_trans hb7.size hb8.size) (fun b hb e => by have := (World.ownsRow.lt hown7 b e).1; omega)
 have hq9 := h1.below hb9
 have r09 := below_keep hb9 r0
 have t49 := below_keep hb9 t4
 have hf9 := hq9.fz
 have hbx9 := hbx.below hb9 hbx.lt
 have x0 : w9.cell? ⟨w.heap.size, 0, none⟩ = some (.int .i64 0) := hbx9.cell 0
 have x1 : w9.cell? ⟨w.heap.size, 1, none⟩ = some (.int .i64 0) := hbx9.cell 1
 have xf : ∀ i, w9.frozen? ⟨w.heap.size, i, none⟩ = false := fun i => hbx9.frozen i
 have hne : ¬ l = w.heap.size := by omega
 have HBX9 := Lib.hid hbx9
 have H9 := Lib.hid (And.intro hb9 (And.intro hown9 (And.intro hr8 (And.intro hb8 hk9))))
 have HQ1 := Lib.hid (And.intro h1 (And.intro hvl (And.intro hvj (And.intro hb7 hown7))))
 clear hb9 hq9 hbx9 hown9 hr8 hb8 hk9 hap9 r0 t4 t47 hf hbx h1 hown7 hb7 HL7 hvl hvj
 go_wp2_with (first
   | (at_builtin
      refine wpList_append_runz rfl (.tmp 59) (.tmp 62) _ rfl rfl rfl HAP9.out ?_))
 have hbz : Blk (((w9.setCell ⟨l, z * 2, none⟩ (.slice A9 (n + 1) c9)).setCell ⟨w.heap.size, 0, none⟩ (.int .i64 z)).setCell ⟨w.heap.size, 1, none⟩ (.int .i64 n)) w.heap.size 53 #[.int .i64 z, .int .i64 n] :=
  ((HBX9.out.far (p := ⟨l, z * 2, none⟩) (fun e => hne e.symm) _).set_ 0 (.int .i64 z)).set_ 1 (.int .i64 n)
 obtain ⟨W, hW⟩ : ∃ W, ((w9.setCell ⟨l, z * 2, none⟩ (.slice A9 (n + 1) c9)).setCell ⟨w.heap.size, 0, none⟩ (.int .i64 z)).setCell ⟨w.heap.size, 1, none⟩ (.int .i64 n) = W := ⟨_, rfl⟩
 have HW := Lib.hid hW
 rw [hW] at hbz ⊢
 have z0 : W.cell? ⟨w.heap.size, 0, none⟩ = some (.int .i64 z) := hbz.cell 0
 have z1 : W.cell? ⟨w.heap.size, 1, none⟩ = some (.int .i64 n) := hbz.cell 1
 clear hW hbz
 refine bodyPost_ret (by simp [results, Tryz.results95, go_sem, z0, z1]; try rfl) rfl ?_
 obtain ⟨hb9, hown9, hr8, hb8, hk9⟩ := H9.out
 obtain ⟨h1, hvl, hvj, hb7, hown7⟩ := HQ1.out
 have hb1 : Below w.heap.size w w1 := by
  have e := HW1.out
  have h1 := HB1.out
  rw [e] at h1
  exact h1
 have k19 : Ky (fun b => Y b ∧ b ≠ w.heap.size) (fun b => Y b ∧ b ≠ w.heap.size) l w1 w9 := fun g hg hy => ⟨hy, fun _ => hb9.block g hg⟩
 obtain ⟨cl, hcl, _⟩ := h1.is
 have hs1 : w.heap.size < w1.heap.size := by rw [<- HW1.out]; simp
 have hbs : (P.getD z pt0).bs.length = n := hn
 have hr9 : BRow w9 w7.heap.size A8 c8 data := hr8.kp hk9 (fun b hb e => by have := (hr8.lt hb).1; have := (World.ownsRow.lt hown7 b e).2; omega)
 have hB : BlocksY (fun b => Y b ∧ b ≠ w.heap.size) w9 A9 ((P.getD z pt0).bs ++ [data]) := by
  refine BlocksY.of_own hown9 (by rw [List.length_append, hn]; rfl) (fun b hb => ⟨H.out.nw b (by omega), by omega⟩) (fun j hj => ?_)
  rw [List.length_append, hn] at hj
  simp only [List.length_singleton] at hj
  rw [getD_snoc _ _ _ _ (by omega), hn]
  split
  · rename_i hj'
    obtain ⟨Aj, cj, e1, e2⟩ := hvj j hj'
    exact ⟨Aj, cj, by rw [List.getElem?_append_left (by omega)]; exact e1, e2.ky k19 hcl⟩
  · have : j = n := by omega
    subst this
    refine ⟨A8, c8, by rw [List.getElem?_append_right (by omega), hvl]; simp, DataY.of_row hr9 (by have := HD.out.1; have := H.out.ok.blk; omega) (fun b hb => ⟨H.out.nw b (by have := hb7.size; omega), by have := hb7.size; omega⟩)⟩
 obtain ⟨q1, q2⟩ := h1.put0 hb9 hz (q := ⟨(P.getD z pt0).bs ++ [data], (P.getD z pt0).du⟩) (HFZ.out.app HD.out.1 HD.out.2.1 (by have := HD.out.2.2; omega)) rfl (A := A9) (c := c9) hB rfl
 have e : (Part.mk ((P.getD z pt0).bs ++ [data]) (P.getD z pt0).du).bs.length = n + 1 := by
  show ((P.getD z pt0).bs ++ [data]).length = n + 1
  rw [List.length_append, hn]
  rfl
 rw [e] at q1 q2
 have hh : ∀ g, g ≠ w.heap.size -> W.heap[g]? = (w9.setCell ⟨l, z * 2, none⟩ (.slice A9 (n + 1) c9)).heap[g]? := fun g hg => by
  rw [<- HW.out]
  exact (Below.heap_setCell _ _ _ g hg).trans (Below.heap_setCell _ _ _ g hg)
 have hsz : W.heap.size = (w9.setCell ⟨l, z * 2, none⟩ (.slice A9 (n + 1) c9)).heap.size := by rw [<- HW.out]; simp [World.setCell]
 refine ⟨rfl, q1.move (fun g hg hy => ⟨hy.1, hh g hy.2⟩) (fun b hb => (q1.nw b (by omega)).1), ?_⟩
 rw [<- HW.out]
 exact (((Kp.of_below (S := fun b => b = l) hb1).trans q2 (fun _ _ h => h)).setCell (p := ⟨w.heap.size, 0, none⟩) (.inr (Nat.le_refl _)) _).setCell (p := ⟨w.heap.size, 1, none⟩) (.inr (Nat.le_refl _)) _
end Go.Proofs.YtfabgbmbnmbjkaaGreatDoor

/- Pruned. -/
namespace Go.Proofs.YtfabgbmbnmbjkaaGreatDoor
open Go.RowKit
set_option maxRecDepth 20000
set_option maxHeartbeats 4000000 in
theorem qflush_any (Y : Nat -> Prop) (w : World) (d l : Nat) (s : Sh) (P : List Part) (h : QDev Y w d l s P) :
    Calls Tryz.prog 96 #[.pointer (some ⟨d, 0, none⟩)] w (fun e w' => e = .returned (.tuple #[]) ∧ QDev Y w' d l s (flushP P) ∧ Kp (fun b => b = l) w w') := by
 have hlen := h.len
 have HH : Hid (QDev Y w d l s (flushTo P 0) ∧ Kp (fun b => b = l) w w) := ⟨by rw [flushTo_zero]; exact h, Kp.refl _ _⟩
 have HOK := Lib.hid h.ok.facts
 clear h
 obtain ⟨n, hn⟩ : ∃ n, P.length = n := ⟨_, rfl⟩
 rw [hn] at hlen
 have HN := Lib.hid hn
 clear hn
 go_enter Tryz.func96, Tryz.ntmps96
 go_wp2_with (fail)
 go_loopw [2] (fun i wr => ∃ k : Nat, k <= n ∧ i = .int .i64 k ∧ Hid (QDev Y wr d l s (flushTo P k) ∧ Kp (fun b => b = l) w wr)) (fun i _ => n - (intOf i).toNat)
 case atStart => exact ⟨0, Nat.zero_le _, rfl, HH⟩
 case round =>
  obtain ⟨k, hk, rfl, hd⟩ := hrel
  clear HH
  have t4 := hd.out.1.t4
  rw [flushTo_length, HN.out] at t4
  by_cases hlt : k < n
  · have hkP0 : k < P.length := by have := HN.out; omega
    have hkP : k < (flushTo P k).length := by rw [flushTo_length]; exact hkP0
    obtain ⟨Ai, ci, r0, r1, _⟩ := hd.out.1.at_ hkP
    have hfit := (hd.out.1.fit k hkP).fit
    have hg : (flushTo P k).getD k pt0 = P.getD k pt0 := flushTo_at P k hkP0
    have hfs := flushTo_succ P k hkP0
    rw [hg] at r0 r1 hfit
    have hf := hd.out.1.fz
    have HPUT : Hid (∀ w2, w2 = wr.setCell ⟨l, k * 2 + 1, none⟩ (.int .i64 ((P.getD k pt0).bs.length : Nat)) -> QDev Y w2 d l s (flushTo P (k + 1)) ∧ Kp (fun b => b = l) w w2) := fun w2 e => by
     have := hd.out.1.put1 (Below.refl _ wr) hkP (du := (P.getD k pt0).bs.length) (by rw [hg]; exact Nat.le_refl _) e
     rw [hg, hfs] at this
     exact ⟨this.1, hd.out.2.trans this.2 (fun _ _ h => h)⟩
    have hl5 : (P.getD k pt0).bs.length <= 100000 := by have := HOK.out; omega
    clear hd hg hfs hfit hkP hkP0
    generalize (P.getD k pt0).bs.length = nk at *
    generalize (P.getD k pt0).du = du at *
    go_wp2_with (fail)
    go_region
    all_goals
     have HP2 : Hid (QDev Y (wr.setCell ⟨l, k * 2 + 1, none⟩ (.int .i64 nk)).drew d l s (flushTo P (k + 1)) ∧ Kp (fun b => b = l) w (wr.setCell ⟨l, k * 2 + 1, none⟩ (.int .i64 nk)).drew) := ⟨(HPUT.out _ rfl).1.drew, (HPUT.out _ rfl).2.drewN 1⟩
     clear t4 r0 r1 hf HPUT
     go_wp2
     go_roundw
     case rel => exact ⟨k + 1, by omega, by go_num, HP2⟩
     case measure => simp [intOf]; omega
  · obtain rfl : k = n := by omega
    go_wp2
    go_end0
    have := hd.out
    rw [<- HN.out, flushTo_all] at this
    exact ⟨rfl, this.1, this.2⟩
theorem run_make_zones (n : Nat) (h : n <= 65536) (w : World) : (Instr.makeSlice 134 (.int .i64 (n : Int)) (.int .i64 (n : Int))).run Tryz.prog w = .ok (.slice (some ⟨w.heap.size, 0, none⟩) n n) (w.alloc (.cells (madeCells #[.slice none 0 0, .int .i64 0] (n * 2)) 167)) := by
 obtain ⟨i, hi, hz, hs, hb⟩ := info_parts zone_info
 have hr := run_make (P := Tryz.prog) w 134 167 i (.agg #[.slice none 0 0, .int .i64 0]) Tryz.underlying134 hi hz .i64 .i64 n n (by omega) (by omega) (by rw [hb]; omega) (by omega)
 simp only [Int.toNat_natCast] at hr
 rw [hr, hs]
 rfl
def QDevNew (z zb bl rs : Int) (w : World) (e : Ending) (w' : World) : Prop :=
 (rightB z zb bl rs = true -> ∃ (d l : Nat) (s : Sh), z = s.z ∧ zb = s.zb ∧ bl = s.bl ∧ rs = s.rs ∧ e = .returned (.pointer (some ⟨d, 0, none⟩)) ∧ w.heap.size <= d ∧ w.heap.size <= l ∧ ∀ Y : Nat -> Prop, (∀ b, w.heap.size <= b -> Y b) -> QDev Y w' d l s (List.replicate s.z pt0)) ∧ (rightB z zb bl rs = false -> e = .returned (.pointer none)) ∧ Below w.heap.size w w'
theorem qnewdev_any (z zb bl rs : Int) (w : World) (hz : -9223372036854775808 <= z ∧ z <= 9223372036854775807) :
    Calls Tryz.prog 44 #[.agg #[.int .i64 z, .int .i64 zb, .int .i64 bl, .int .i64 rs]] w (QDevNew z zb bl rs w) := by
 have HR := Lib.hid (fun w => refright_any z zb bl rs w hz)
 cases hr : rightB z zb bl rs with
 | false =>
   have HF := Lib.hid hr
   rw [hr] at HR
   clear hr
   go_enter Tryz.func44, Tryz.ntmps44
   go_wp2_with (fail)
   refine (HR.out _).mono ?_
   rintro e w1 ⟨rfl, hb1⟩
   go_wp2
   go_ret
   exact ⟨fun ht => absurd (ht.symm.trans HF.out) (by decide), fun _ => rfl, ((Below.refl _ _).alloc (Nat.le_refl _) _).trans (hb1.mono (by simp))⟩
 | true =>
   have HT := Lib.hid hr
   obtain ⟨s, rfl, rfl, rfl, rfl, hok⟩ := sh_of hr
   have hz256 := hok.facts.2.1
   rw [hr] at HR
   have HOK := Lib.hid hok
   have hmk := run_make_zones s.z (by omega)
   clear hr hz hok
   go_enter Tryz.func44, Tryz.ntmps44
   go_wp2_with (fail)
   refine (HR.out _).mono ?_
   rintro e w1 ⟨rfl, hb1⟩
   have hblk := (Blk.new w 23 #[.int .i64 s.z, .int .i64 s.zb, .int .i64 s.bl, .int .i64 s.rs]).below hb1 (by simp)
   have c0 : w1.cell? ⟨w.heap.size, 0, none⟩ = some (.int .i64 s.z) := hblk.cell 0
   have c1 : w1.cell? ⟨w.heap.size, 1, none⟩ = some (.int .i64 s.zb) := hblk.cell 1
   have c2 : w1.cell? ⟨w.heap.size, 2, none⟩ = some (.int .i64 s.bl) := hblk.cell 2
   have c3 : w1.cell? ⟨w.heap.size, 3, none⟩ = some (.int .i64 s.rs) := hblk.cell 3
   have hs1 : w.heap.size < w1.heap.size := by have := hb1.size; simp at this; omega
   have hbw : Below w.heap.size w w1 := ((Below.refl _ _).alloc (Nat.le_refl _) _).trans (hb1.mono (by simp))
   have HBW := Lib.hid hbw
   clear hbw hb1 HR hblk
   go_wp2_with (fail)
   go_region
   all_goals
    clear c0 c1 c2 c3 hmk
    have hp := (Blk.new w1 167 (madeCells #[.slice none 0 0, .int .i64 0] (s.z * 2))).alloc (.cells #[.int .i64 s.z, .int .i64 s.zb, .int .i64 s.bl, .int .i64 s.rs, .slice (some ⟨w1.heap.size, 0, none⟩) s.z s.z] 136)
    have hd := Blk.new (w1.alloc (.cells (madeCells #[.slice none 0 0, .int .i64 0] (s.z * 2)) 167)) 136 #[.int .i64 s.z, .int .i64 s.zb, .int .i64 s.bl, .int .i64 s.rs, .slice (some ⟨w1.heap.size, 0, none⟩) s.z s.z]
    rw [World.size_alloc] at hd
    have hbl : Below w.heap.size w ((w1.alloc (.cells (madeCells #[.slice none 0 0, .int .i64 0] (s.z * 2)) 167)).alloc (.cells #[.int .i64 s.z, .int .i64 s.zb, .int .i64 s.bl, .int .i64 s.rs, .slice (some ⟨w1.heap.size, 0, none⟩) s.z s.z] 136)).drew := ((HBW.out.alloc (by omega) _).alloc (by simp; omega) _).drew
    have hp := hp.drew
    have hd := hd.drew
    generalize ((w1.alloc (.cells (madeCells #[.slice none 0 0, .int .i64 0] (s.z * 2)) 167)).alloc (.cells #[.int .i64 s.z, .int .i64 s.zb, .int .i64 s.bl, .int .i64 s.rs, .slice (some ⟨w1.heap.size, 0, none⟩) s.z s.z] 136)).drew = w2 at *
    have HPD := Lib.hid (And.intro hp (And.intro hd hbl))
    clear hp hd hbl
    go_wp2
    go_ret
    obtain ⟨hp, hd, hbl⟩ := HPD.out
    have hg : ∀ i, (List.replicate s.z pt0).getD i pt0 = pt0 := fun i => by
     rw [List.getD_eq_getElem?_getD, List.getElem?_replicate]
     split <;> rfl
    refine ⟨fun _ => ⟨w1.heap.size + 1, w1.heap.size, s, rfl, rfl, rfl, rfl, rfl, by omega, by omega, fun Y hY => ?_⟩, fun hf => absurd (hf.symm.trans HT.out) (by decide), hbl⟩
    refine ⟨by simpa using hd, ⟨_, hp, by rw [size_madeCells]; simp, fun i hi => ?_⟩, hY _ (by omega), hY _ (by omega), fun b hb => hY b (Nat.le_trans hbl.size hb), by simp, HOK.out, fun i _ => by rw [hg]; exact PartOk.zero s⟩
    have hi' : i < s.z := by simpa using hi
    rw [hg]
    exact ⟨none, 0, (made_get _ _ _ _ hi').1, (made_get _ _ _ _ hi').2, BlocksY.nil _⟩
end Go.Proofs.YtfabgbmbnmbjkaaGreatDoor

/- Pruned. -/
namespace Go.Proofs.YtfabgbmbnmbjkaaGreatDoor
open Go.RowKit
set_option maxRecDepth 20000
theorem DataB.kpt {S : Nat -> Prop} {w w' : World} {A : Option Addr} {b : List Int} (h : DataB w A b) (hk : Kp S w w') (hs : ∀ g cs, Blk w g 5 cs -> ¬ S g) : DataB w' A b := by
 obtain ⟨g, cs, e, hb, hc⟩ := h
 exact ⟨g, cs, e, hk.blk hb (hs g cs hb), hc⟩
structure QIn (w0 W : World) (bz : Nat) (du : Int) (C : List (List Int)) : Prop where
  is : ∃ (A : Option Addr) (c : Nat) (vs : List Value), Blk W bz 167 #[.slice A C.length c, .int .i64 du] ∧ W.ownsRow (bz + 1) 36 1 (.slice A C.length c) C.length vs ∧ vs.length = C.length ∧
    ∀ j, j < C.length -> ∃ Aj cj, vs[j]? = some (.slice Aj (C.getD j []).length cj) ∧ DataB W Aj (C.getD j [])
  low : Below w0.heap.size w0 W
  bz : w0.heap.size <= bz
theorem QIn.blocks {w0 W : World} {bz : Nat} {du : Int} {C : List (List Int)} (h : QIn w0 W bz du C) : ∃ A c, Blk W bz 167 #[.slice A C.length c, .int .i64 du] ∧ BlocksB W A C := by
 obtain ⟨A, c, vs, hz, hrow, hl, hj⟩ := h.is
 refine ⟨A, c, hz, fun h0 => ?_⟩
 obtain ⟨g, cs, e, _, hB, hc⟩ := own_blkz hrow h0
 refine ⟨g, cs, e, hB, fun j hjj => ?_⟩
 obtain ⟨Aj, cj, e1, h1⟩ := hj j hjj
 exact ⟨Aj, cj, (hc j (by omega)).trans e1, h1⟩
theorem QIn.step {w0 W w5 : World} {bz : Nat} {du : Int} {C : List (List Int)} (h : QIn w0 W bz du C) {A5 : Option Addr} {c5 : Nat} {b : List Int} (h0 : 0 < b.length) (hb : BRow w5 W.heap.size A5 c5 b) (h5 : Below W.heap.size W w5) (hC : C.length <= 100000) :
    ∃ A c A7 c7 w7, W.cell? ⟨bz, 0, none⟩ = some (.slice A C.length c) ∧ (Builtin.append_ #[51, 51] 51 #[.slice A C.length c, .slice (some ⟨w5.heap.size, 0, none⟩) 1 1]).run Tryz.prog (w5.alloc (.cells #[.slice A5 b.length c5] 36)) = .ok (.slice A7 (C.length + 1) c7) w7 ∧
      (∀ i, w7.frozen? ⟨bz, i, none⟩ = false) ∧ w7.cell? ⟨bz, 0, none⟩ = some (.slice A C.length c) ∧ QIn w0 (w7.setCell ⟨bz, 0, none⟩ (.slice A7 (C.length + 1) c7)) bz du (C ++ [b]) := by
 obtain ⟨A, c, vs, hz, hrow, hl, hj⟩ := h.is
 have hrow5 := ownsRow_of_block hrow (fun g he => h5.block g (World.ownsRow.lt hrow g he).2)
 obtain ⟨A7, c7, w7, hap, hown7, hk7⟩ := run_app_one w5 (bz + 1) A C.length c vs hrow5 A5 b.length c5 hC (Nat.le_trans hz.lt h5.size)
 have hol : ∀ g, (Value.slice A C.length c).ownBlock = some g -> bz + 1 <= g ∧ g < W.heap.size := fun g he => World.ownsRow.lt hrow g he
 have hty : ∀ g cs, Blk w5 g 5 cs -> ¬ (Value.slice A C.length c).ownBlock = some g := fun g cs hB e => by
  exact own_blk_ne hrow5 hB (by decide) e
 have hz5 := hz.below h5 hz.lt
 have hz7 := hk7.blk hz5 (fun e => by have := hol bz e; omega)
 refine ⟨A, c, A7, c7, w7, hz.cell 0, hap, fun i => hz7.frozen i, hz7.cell 0, ⟨⟨A7, c7, vs ++ [.slice A5 b.length c5], ?_, ?_, by simp [hl], fun j hjj => ?_⟩, ?_, h.bz⟩⟩
 · have := hz7.set_ 0 (.slice A7 (C.length + 1) c7)
   rw [List.length_append]
   simpa using this
 · rw [List.length_append]
   exact ownsRow_of_block hown7 (fun g he => Below.heap_setCell w7 _ _ g (fun e => by
    have e' : g = bz := e
    have := (World.ownsRow.lt hown7 g he).1
    omega))
 · rw [List.length_append] at hjj
   rw [getD_snoc _ _ _ _ (by simpa using hjj)]
   split
   · rename_i hj'
     obtain ⟨Aj, cj, e1, h1⟩ := hj j hj'
     refine ⟨Aj, cj, by rw [List.getElem?_append_left (by omega)]; exact e1, ?_⟩
     exact ((h1.tk (Tk.below h5)).kpt hk7 hty).kpt ((Kp.refl (fun g => g = bz) w7).setCell (p := ⟨bz, 0, none⟩) (.inl rfl) _) (fun g cs hB e => by subst e; exact (hB.ne_ hz7 (by decide)) rfl)
   · have : j = C.length := by simp at hjj; omega
     subst this
     refine ⟨A5, c5, by rw [List.getElem?_append_right (by omega), hl]; simp, ?_⟩
     have h6 : DataB w5 A5 b := (DataY.of_row (Y := fun _ => True) hb h0 (fun _ _ => trivial)).data
     exact (h6.kpt hk7 hty).kpt ((Kp.refl (fun g => g = bz) w7).setCell (p := ⟨bz, 0, none⟩) (.inl rfl) _) (fun g cs hB e => by subst e; exact (hB.ne_ hz7 (by decide)) rfl)
 · have h1 := h.low.trans (h5.mono h.low.size)
   have h2 := Kp.below h1 hk7 h1.size (fun g hg e => by have := hol g e; have := h.bz; omega)
   exact h2.setCell (p := ⟨bz, 0, none⟩) h.bz _
structure QOut (w0 W : World) (P : List Part) (k : Nat) (A : Option Addr) (c : Nat) : Prop where
  is : ∃ vs : List Value, W.ownsRow w0.heap.size 167 2 (.slice A k c) k vs ∧ vs.length = k * 2 ∧ ∀ j, j < k -> ∃ Bj cj, vs[j * 2]? = some (.slice Bj (P.getD j pt0).bs.length cj) ∧ vs[j * 2 + 1]? = some (.int .i64 (P.getD j pt0).du) ∧ BlocksB W Bj (P.getD j pt0).bs
  low : Below w0.heap.size w0 W
theorem QOut.zero (w0 : World) (P : List Part) : QOut w0 w0 P 0 none 0 := ⟨⟨[], World.ownsRow_nil _ _ _ _, rfl, fun j hj => absurd hj (by omega)⟩, Below.refl _ _⟩
theorem QOut.zonesR {w0 W : World} {P : List Part} {A : Option Addr} {c : Nat} (h : QOut w0 W P P.length A c) : ZonesR W A P := fun i hi => by
 obtain ⟨vs, hrow, hl, hj⟩ := h.is
 obtain ⟨g, cs, e, _, hB, hc⟩ := own_blkz hrow (by omega)
 obtain ⟨Bj, cj, e1, e2, h3⟩ := hj i hi
 exact ⟨g, Bj, cj, e, ((hB.cell _).trans (hc _ (by omega))).trans e1, ((hB.cell _).trans (hc _ (by omega))).trans e2, h3⟩
theorem QOut.step {w0 W W2 : World} {P : List Part} {k : Nat} {A : Option Addr} {c : Nat} (h : QOut w0 W P k A c) (hb : Below W.heap.size W W2) {B : Option Addr} {cb : Nat} (hB : BlocksB W2 B (P.getD k pt0).bs) (hk : k <= 100000) :
    ∃ A7 c7 w7, (Builtin.append_ #[134, 134] 134 #[.slice A k c, .slice (some ⟨W2.heap.size, 0, none⟩) 1 1]).run Tryz.prog (W2.alloc (.cells #[.slice B (P.getD k pt0).bs.length cb, .int .i64 (P.getD k pt0).du] 167)) = .ok (.slice A7 (k + 1) c7) w7 ∧ QOut w0 w7 P (k + 1) A7 c7 := by
 obtain ⟨vs, hrow, hl, hj⟩ := h.is
 have hrow2 := ownsRow_of_block hrow (fun g he => hb.block g (World.ownsRow.lt hrow g he).2)
 obtain ⟨i0, hi0, hz0, hz1, hz2⟩ := info_parts zone_info
 generalize hx : Value.slice B (P.getD k pt0).bs.length cb = xb
 generalize hy : Value.int .i64 ((P.getD k pt0).du : Int) = xd
 have hsrc := Blk.new W2 167 #[xb, xd]
 have hr : Reads (W2.alloc (.cells #[xb, xd] 167)) (W2.alloc (.cells #[xb, xd] 167)).heap.size 2 (some ⟨W2.heap.size, 0, none⟩) 1 [xb, xd] := ⟨rfl, fun _ => ⟨_, rfl, hsrc.lt, fun j u hj => by
  rw [add0, hsrc.cell, List.getElem?_toArray]
  exact hj⟩⟩
 have hown6 := World.ownsRow.alloc hrow2 (.cells #[xb, xd] 167)
 obtain ⟨v', w7, hrun, hown7, hg, hor⟩ := run_append_any (P := Tryz.prog) (w := W2.alloc (.cells #[xb, xd] 167)) w0.heap.size 134 134 167 i0 _ 2 32 Tryz.underlying134 hi0 hz0 hz1 hz2 rfl (by omega) (.slice A k c) k _ hown6 _ _ 1 1 [xb, xd] hr (fun v hv => by
  simp only [List.mem_cons, List.not_mem_nil, or_false] at hv
  rcases hv with rfl | rfl
  · rw [<- hx]; rfl
  · rw [<- hy]; rfl) (by simp only [maxLen]; omega) (by omega) (by simp; have := h.low.size; have := hb.size; omega)
 obtain ⟨A7, c7, rfl⟩ := own_form hown7
 have hk7 : Kp (fun g => (Value.slice A k c).ownBlock = some g) W2 w7 := ((Kp.refl (fun g => (Value.slice A k c).ownBlock = some g) W2).alloc _).trans ⟨hg.os, hg.tape, hg.output, hg.size, fun g hg' hne => hg.block g hg' (fun e => hne e.symm)⟩ (fun _ _ h => h)
 have hkt : Tk W2 w7 := fun g cs => ⟨fun hB => hk7.blk hB (own_blk_ne hrow2 hB (by decide)), fun hB => hk7.blk hB (own_blk_ne hrow2 hB (by decide))⟩
 refine ⟨A7, c7, w7, hrun, ⟨vs ++ [xb, xd], hown7, by simp [hl]; omega, fun j hjk => ?_⟩, ?_⟩
 · by_cases hlt : j < k
   · obtain ⟨Bj, cj, e1, e2, h3⟩ := hj j hlt
     exact ⟨Bj, cj, by rw [List.getElem?_append_left (by omega)]; exact e1, by rw [List.getElem?_append_left (by omega)]; exact e2, (h3.tk (Tk.below hb)).tk hkt⟩
   · obtain rfl : j = k := by omega
     refine ⟨B, cb, ?_, ?_, hB.tk hkt⟩
     · rw [List.getElem?_append_right (by omega), hl, hx]; simp
     · rw [List.getElem?_append_right (by omega), hl, hy, show j * 2 + 1 - j * 2 = 1 by omega]; rfl
 · have h1 := h.low.trans (hb.mono h.low.size)
   exact Kp.below h1 hk7 h1.size (fun g hg e => by have := (World.ownsRow.lt hrow g e).1; omega)
end Go.Proofs.YtfabgbmbnmbjkaaGreatDoor

/- Pruned. -/
namespace Go.Proofs.YtfabgbmbnmbjkaaGreatDoor
open Go.RowKit
set_option maxRecDepth 20000
theorem upon_append_run {P : Program} {w w' : World} {o : Oper} {a : Act} {K : Act -> World -> Prop} {Q : Exit -> Act -> World -> Prop} (s x : Operand) (t : TypeId)
    (ho : o.op = .call { callee := .builtin .append, args := #[s, x], argTypes := #[t, t] }) {v vx v' : Value} (hs : a.eval s = v) (hx : a.eval x = vx)
    (hrun : (Builtin.append_ #[t, t] o.type #[v, vx]).run P w = .ok v' w') (h : K (a.put o.dst v') w') : Oper.upon P o a K Q ((execOp a.eval o).run P w) := by
 unfold execOp
 simp only [ho, resolve, invoke, builtin, Sem.run_bind, Sem.run_pure, Result.andThen_ok, List.map_toArray, List.map_cons, List.map_nil, hs, hx, hrun]
 exact h
theorem take_snoc (l : List (List Int)) (j : Nat) (h : j < l.length) : l.take (j + 1) = l.take j ++ [l.getD j []] := by
 rw [List.take_succ_eq_append_getElem h, List.getD_eq_getElem?_getD, List.getElem?_eq_getElem h]
 rfl
theorem QIn.step2 {w0 W w5 : World} {bz n : Nat} {du : Int} {C : List (List Int)} (h : QIn w0 W bz du C) (hn : C.length = n) {A : Option Addr} {c : Nat} (hcell : W.cell? ⟨bz, 0, none⟩ = some (.slice A n c)) {A5 : Option Addr} {c5 : Nat} {b : List Int} (h0 : 0 < b.length) (hb : BRow w5 W.heap.size A5 c5 b) (h5 : Below W.heap.size W w5) (hC : n <= 100000) :
    ∃ A7 c7 w7, (Builtin.append_ #[51, 51] 51 #[.slice A n c, .slice (some ⟨w5.heap.size, 0, none⟩) 1 1]).run Tryz.prog (w5.alloc (.cells #[.slice A5 b.length c5] 36)) = .ok (.slice A7 (n + 1) c7) w7 ∧
      (∀ i, w7.frozen? ⟨bz, i, none⟩ = false) ∧ w7.cell? ⟨bz, 0, none⟩ = some (.slice A n c) ∧ QIn w0 (w7.setCell ⟨bz, 0, none⟩ (.slice A7 (n + 1) c7)) bz du (C ++ [b]) := by
 subst hn
 obtain ⟨A', c', A7, c7, w7, e0, hap, hf, e1, hq⟩ := h.step h0 hb h5 hC
 rw [e0] at hcell
 obtain ⟨rfl, rfl⟩ : A' = A ∧ c' = c := by
  injection hcell with hcell
  injection hcell with h1 h2 h3
  exact ⟨h1, h3⟩
 exact ⟨A7, c7, w7, hap, hf, e1, hq⟩
theorem QIn.drew {w0 W : World} {bz : Nat} {du : Int} {C : List (List Int)} (h : QIn w0 W bz du C) : QIn w0 W.drew bz du C := by
 obtain ⟨⟨A, c, vs, h1, h2, h3, h4⟩, h5, h6⟩ := h
 exact ⟨⟨A, c, vs, h1.drew, h2, h3, fun j hj => by
  obtain ⟨Aj, cj, e, hd⟩ := h4 j hj
  exact ⟨Aj, cj, e, hd.tk (Tk.below (Below.refl _ _).drew)⟩⟩, h5.drew, h6⟩
set_option maxHeartbeats 4000000 in
theorem qlentz_any (Y : Nat -> Prop) (w : World) (d l : Nat) (s : Sh) (P : List Part) (h : QDev Y w d l s P) :
    Calls Tryz.prog 158 #[.slice (some ⟨l, 0, none⟩) P.length P.length] w (fun e w' => ∃ A c, e = .returned (.slice A P.length c) ∧ ZonesR w' A P ∧ Below w.heap.size w w') := by
 have hlen := h.len
 have H := Lib.hid h
 have HOK := Lib.hid h.ok.facts
 clear h
 obtain ⟨n, hn⟩ : ∃ n, P.length = n := ⟨_, rfl⟩
 rw [hn] at hlen ⊢
 have HN := Lib.hid hn
 have H0 := Lib.hid (QOut.zero w P)
 clear hn
 go_enter Tryz.func158, Tryz.ntmps158
 go_wp2_with (fail)
 go_loopw [3, 4] (fun o i wr => ∃ (k : Nat) (A : Option Addr) (c : Nat), k <= n ∧ i = .int .i64 k ∧ o = .slice A k c ∧ Hid (QOut w wr P k A c)) (fun _ i _ => n - (intOf i).toNat)
 case atStart => exact ⟨0, none, 0, Nat.zero_le _, rfl, rfl, H0⟩
 case round =>
  obtain ⟨k, A, c, hk, rfl, rfl, hO⟩ := hrel
  clear H0
  by_cases hlt : k < n
  · have hkP : k < P.length := by have := HN.out; omega
    have hq := H.out.below hO.out.low
    obtain ⟨Ai, ci, r0, r1, hbl⟩ := hq.at_ hkP
    have HFIT := Lib.hid (hq.fit k hkP)
    have hm : (P.getD k pt0).bs.length <= 100000 := by have := HFIT.out.fit; have := HOK.out; omega
    obtain ⟨w3, rfl⟩ : ∃ w3, w3 = wr := ⟨_, rfl⟩
    have HBL := Lib.hid hbl
    have HR0 := Lib.hid r0
    have HQI : Hid (QIn w3 (w3.alloc (.cells #[.slice none 0 0, .int .i64 (P.getD k pt0).du] 167)) w3.heap.size (P.getD k pt0).du ((P.getD k pt0).bs.take 0)) := ⟨⟨none, 0, [], Blk.new w3 _ _, World.ownsRow_nil _ _ _ _, rfl, fun j hj => absurd hj (by simp)⟩, (Below.refl _ _).alloc (Nat.le_refl _) _, Nat.le_refl _⟩
    have HK := Lib.hid hkP
    clear hq hbl hkP
    generalize hbs : (P.getD k pt0).bs.length = m at *
    have HBS := Lib.hid hbs
    clear hbs
    go_wp2_with (fail)
    go_loopw [6] (fun i W => ∃ j : Nat, j <= m ∧ i = .int .i64 j ∧ Hid (QIn w3 W w3.heap.size (P.getD k pt0).du ((P.getD k pt0).bs.take j))) (fun i _ => m - (intOf i).toNat)
    case atStart => exact ⟨0, Nat.zero_le _, rfl, HQI⟩
    case round =>
     obtain ⟨j, hj, rfl, hQ⟩ := hrel
     clear HQI
     have r0w := below_keep hQ.out.low HR0.out
     clear r0
     by_cases hjm : j < m
     · have hj' : j < (P.getD k pt0).bs.length := by have := HBS.out; omega
       obtain ⟨g, cs, rfl, _, hB, hc⟩ := HBL.out (by omega)
       obtain ⟨Aj, cj, e1, hdat⟩ := hc j hj'
       have b1 : wr.cell? ⟨g, j, none⟩ = some (.slice Aj ((P.getD k pt0).bs.getD j []).length cj) := below_keep hQ.out.low ((hB.cell j).trans e1)
       have hbl : ((P.getD k pt0).bs.getD j []).length = s.bl := HFIT.out.len _ (getD_mem hj')
       have hblm := HOK.out
       have hlc : ((P.getD k pt0).bs.take j).length = j := by rw [List.length_take]; omega
       obtain ⟨A2, c2, vs2, hz2, _⟩ := hQ.out.is
       rw [hlc] at hz2
       have z0 : wr.cell? ⟨w3.heap.size, 0, none⟩ = some (.slice A2 j c2) := hz2.cell 0
       have hzf : ∀ i, wr.frozen? ⟨w3.heap.size, i, none⟩ = false := fun i => hz2.frozen i
       have HL := Lib.hid (qlent_any wr.drew _ Aj cj ((P.getD k pt0).bs.getD j []) ((hdat.reads.below (hQ.out.low.drew)).more_ (by omega)) (by rw [hbl]; omega))
       have HT : Hid ((P.getD k pt0).bs.take j ++ [(P.getD k pt0).bs.getD j []] = (P.getD k pt0).bs.take (j + 1)) := by
        unfold Hid
        exact (take_snoc _ _ hj').symm
       have HST := Lib.hid (fun w5 A5 c5 (hb : BRow w5 wr.drew.heap.size A5 c5 ((P.getD k pt0).bs.getD j [])) (h5 : Below wr.drew.heap.size wr.drew w5) => (hQ.out.drew).step2 (n := j) hlc (A := A2) (c := c2) z0 (by rw [hbl]; omega) hb h5 (by omega))
       have hzl : w3.heap.size < wr.heap.size := hz2.lt
       have hll : l < wr.heap.size := Nat.lt_of_lt_of_le H.out.llt (Nat.le_trans hO.out.low.size hQ.out.low.size)
       have HJ := Lib.hid hjm
       have HBLN := Lib.hid hbl
       have hjw : j <= 100000 := by omega
       clear hQ hz2 hdat hc hB e1 hj' hlc hblm hbl
       generalize (P.getD k pt0).bs.getD j [] = b at *
       go_wp2_with (fail)
       go_region_law (first
         | (go_simp
            go_at_call 109
            with_reducible refine HL.out.mono ?_
            rintro e w5 ⟨A5, c5, rfl, hr5, hb5⟩
            obtain ⟨A7, c7, w7, hap, hf7, hc7, hq7⟩ := HST.out w5 A5 c5 hr5 hb5
            have HQ7 := Lib.hid hq7
            have r0v := below_keep hb5 r0w
            have z0v := below_keep hb5 z0
            have hzl5 : w3.heap.size < w5.heap.size := Nat.lt_of_lt_of_le hzl hb5.size
            have hll5 : l < w5.heap.size := Nat.lt_of_lt_of_le hll hb5.size
            clear hr5 hb5 hq7)
         | (refine upon_append_run (.tmp 30) (.tmp 40) _ rfl rfl rfl hap ?_))
       all_goals
        rw [HT.out] at HQ7
        clear hap hf7 hc7 r0v z0v HST HL
        go_wp2
        go_roundw
        case rel => exact ⟨j + 1, HJ.out, by go_num, HQ7⟩
        case measure => have := HJ.out; simp [intOf]; omega
     · obtain rfl : j = m := by omega
       have hQ2 := hQ.out
       rw [List.take_of_length_le (by have := HBS.out; omega)] at hQ2
       obtain ⟨A2, c2, hz2, hB2⟩ := hQ2.blocks
       obtain ⟨A7, c7, w7, hap, hq7⟩ := hO.out.step (hQ2.low) hB2 (cb := c2) (by omega)
       rw [HBS.out] at hz2 hap
       have z0 : wr.cell? ⟨w3.heap.size, 0, none⟩ = some (.slice A2 j c2) := hz2.cell 0
       have z1 : wr.cell? ⟨w3.heap.size, 1, none⟩ = some (.int .i64 (P.getD k pt0).du) := hz2.cell 1
       have HAP := Lib.hid hap
       have HQ7 := Lib.hid hq7
       have HLT := Lib.hid hlt
       clear hQ hQ2 hz2 hB2 hap hq7
       generalize (P.getD k pt0).du = du at *
       go_wp2_with (at_builtin; refine wpList_append_runz rfl (.tmp 43) (.tmp 45) _ rfl rfl rfl HAP.out ?_)
       go_roundw
       case rel => exact ⟨k + 1, A7, c7, HLT.out, by go_num, rfl, HQ7⟩
       case measure => have := HLT.out; simp [intOf]; omega
  · obtain rfl : k = n := by omega
    have hz : ZonesR wr A P := by
     have := hO.out
     rw [<- HN.out] at this
     exact this.zonesR
    have HZ := Lib.hid hz
    clear hz
    go_wp2
    go_ret
    exact ⟨A, c, rfl, HZ.out, hO.out.low⟩
end Go.Proofs.YtfabgbmbnmbjkaaGreatDoor

/- Pruned. -/
namespace Go.Proofs.YtfabgbmbnmbjkaaGreatDoor
open Go.RowKit
set_option maxRecDepth 20000
theorem qzones_any (Y : Nat -> Prop) (w : World) (d l : Nat) (s : Sh) (P : List Part) (h : QDev Y w d l s P) :
    Calls Tryz.prog 107 #[.pointer (some ⟨d, 0, none⟩)] w (fun e w' => ∃ A c, e = .returned (.slice A P.length c) ∧ ZonesR w' A P ∧ Below w.heap.size w w') := by
 have HL := Lib.hid (qlentz_any Y w d l s P h)
 have t4 := h.t4
 clear h
 go_enter Tryz.func107, Tryz.ntmps107
 go_wp2_with (fail)
 refine HL.out.mono ?_
 rintro e w1 ⟨A, c, rfl, hz, hb⟩
 have HZ := Lib.hid (And.intro hz hb)
 clear hz hb HL
 go_wp2
 go_ret
 exact ⟨A, c, rfl, HZ.out⟩
end Go.Proofs.YtfabgbmbnmbjkaaGreatDoor

