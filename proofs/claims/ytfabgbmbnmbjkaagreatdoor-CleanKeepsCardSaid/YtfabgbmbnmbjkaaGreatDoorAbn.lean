/- Joined texts: Dv Dw Dx. -/
import Derived.Test.YtfabgbmbnmbjkaaGreatDoorAbl
import Derived.Test.YtfabgbmbnmbjkaaGreatDoorAbm
import Derived.Test.YtfabgbmbnmbjkaaGreatDoorAay
import Derived.Test.YtfabgbmbnmbjkaaGreatDoorAbh
import Derived.Test.YtfabgbmbnmbjkaaGreatDoorAbe
import Derived.BigQuiet
import Derived.Test.YtfabgbmbnmbjkaaGreatDoorAax
import Derived.Test.YtfabgbmbnmbjkaaGreatDoorAbi
/- Pruned. -/
namespace Go.Proofs.YtfabgbmbnmbjkaaGreatDoor
open Go.RowKit
set_option maxRecDepth 20000
end Go.Proofs.YtfabgbmbnmbjkaaGreatDoor

/- Pruned. -/
namespace Go.Proofs.YtfabgbmbnmbjkaaGreatDoor
open Go.RowKit
set_option maxRecDepth 20000
def doM (sh : Sh) (m : StM) (o : Opv) : StM := if o.k % 8 = 5 then flushM m else if o.k % 8 = 6 then (markM sh m).2 else if o.k % 8 = 7 then (clearM m o.z).2 else (putM sh m (o.l.map (blockM sh.bl))).2
theorem readyM_sl (sh : Sh) (m : StM) (need : Int) : (readyM sh m need).2.sl = m.sl := by
 have h1 : (ready1 sh m need).sl = m.sl := by unfold ready1; split <;> rfl
 unfold readyM
 dsimp only
 split
 · exact h1
 · split <;> exact h1
theorem writeM_sl (sh : Sh) (m : StM) (l : List Pv) : (writeM sh m l).sl = m.sl := by
 unfold writeM
 dsimp only
 have h1 : (l.foldl stepW (headW sh m l)).sl = m.sl := (foldW_op l (headW sh m l)).2.2.2.1
 split
 · exact h1
 · exact h1
theorem putL_sl (sh : Sh) (f : Nat) (m : StM) (l : List Pv) : (putL sh f m l).2.sl = m.sl := by
 induction f generalizing m l with
 | zero => rfl
 | succ f ih =>
   unfold putL
   split
   · rfl
   · dsimp only
     split
     · rw [ih, writeM_sl, readyM_sl]
     · exact readyM_sl _ _ _
theorem Inv.put {sh : Sh} {m : StM} (hok : sh.ok) (l : List Pv) (h : Inv sh m) : Inv sh (putM sh m l).2 := by
 have h1 := h.w.putM hok l h.g h.o
 refine ⟨?_, h1.1, h1.2, ?_⟩
 · unfold putM
   split
   · exact (putL_good hok _ h.g (Nat.le_refl _)).1
   · exact h.g
 · have hs := h.s
   unfold SlOk at hs ⊢
   have : (putM sh m l).2.sl = m.sl := by
    unfold putM
    split
    · exact putL_sl _ _ _ _
    · rfl
   rw [this]
   exact hs
theorem Inv.call {sh : Sh} {m : StM} (hok : sh.ok) (o : Opv) (h : Inv sh m) : Inv sh (doM sh m o) := by
 unfold doM
 split
 · exact h.flush.1
 · split
   · exact h.mark.1
   · split
     · exact (h.clear _).1
     · exact h.put hok _
section
variable {Ya : Nat -> Prop} {w w1 w' : World} {F : StF} {Q : QF} {sh : Sh} {n n' nq nq' : Nat} {m : StM}
theorem BothS.mono (h : BothS Ya w F Q sh n nq m) (hn : n <= n') (hn' : n' <= 1000000) (hq : nq <= nq') (hq' : nq' <= 900000) : BothS Ya w F Q sh n' nq' m := ⟨h.a.mono hn hn', h.q.mono hq hq', h.lt⟩
theorem Went.mono (h : Went Ya w F Q sh n nq m w') (hn : n <= n') (hn' : n' <= 1000000) (hq : nq <= nq') (hq' : nq' <= 900000) : Went Ya w F Q sh n' nq' m w' := by
 obtain ⟨Y, h1, h2, h3⟩ := h
 exact ⟨Y, h1.mono hn hn' hq hq', h2, h3⟩
theorem Went.since (h : Went Ya w1 F Q sh n nq m w') (hb : Below w.heap.size w w1) : Went Ya w F Q sh n nq m w' := by
 obtain ⟨Y, h1, h2, h3⟩ := h
 exact ⟨Y, h1, fun b hy => (h2 b hy).imp id (fun h => Nat.le_trans hb.size h), (Kp.of_below (S := fun b => Ya b ∨ Q.T b) hb).trans h3 (fun _ _ h => h)⟩
end
theorem both_does (Ya Xa : Nat -> Prop) (w : World) (F : StF) (Q : QF) (sh : Sh) (n nq : Nat) (m : StM) (hi : Inv sh m) (h : BothS Ya w F Q sh n nq m) (o : Opv) (ho : OpIn o) (Ad : Option Addr) (cd : Nat) (hp : PutsAt Xa w Ad o.l) (hX : ∀ b, Xa b -> b < w.heap.size ∧ ¬ Ya b ∧ ¬ Q.T b) (hll : o.l.length <= 30) (hd : ∀ p ∈ o.l, p.da.length <= 200) (hn : n + 150 <= 1000000) (hnq : nq + 30 <= 100000) :
    Calls Tryz.prog 47 #[.pointer (some ⟨F.s, 0, none⟩), .pointer (some ⟨Q.r, 0, none⟩), .agg #[.int .u8 o.k, .slice Ad o.l.length cd, .int .i64 o.z]] w (fun e w' => e = .returned (.bool true) ∧ Went Ya w F Q sh (n + 150) (nq + 30) (doM sh m o) w') := by
 have hk := ho.k
 unfold doM
 by_cases h5 : o.k % 8 = 5
 · rw [if_pos h5]
   exact (does_flush Ya w F Q sh n nq m h o.k hk h5 Ad _ cd o.z).mono fun e w' h => ⟨h.1, h.2.mono (by omega) hn (by omega) (by omega)⟩
 · rw [if_neg h5]
   by_cases h6 : o.k % 8 = 6
   · rw [if_pos h6]
     refine (does_mark Ya w F Q sh n nq m hi (fun p hp => (h.a.lm.names p hp).1) ?_ h o.k hk h6 Ad _ cd o.z).mono fun e w' h => ⟨h.1, h.2.mono (by omega) hn (by omega) (by omega)⟩
     have := h.q.len
     omega
   · rw [if_neg h6]
     by_cases h7 : o.k % 8 = 7
     · rw [if_pos h7]
       exact (does_clear Ya w F Q sh n nq m hi.g h o.k hk h7 Ad _ cd o.z).mono fun e w' h => ⟨h.1, h.2.mono (by omega) hn (by omega) (by omega)⟩
     · rw [if_neg h7]
       refine (does_put Ya Xa w F Q sh n nq m hi h o.k hk (by omega) Ad o.l cd o.z hp hX hll ho.l hd (by omega) (by omega)).mono fun e w' h => ⟨h.1, h.2.mono (by omega) hn (by omega) (by omega)⟩
set_option maxHeartbeats 2000000 in
theorem Does_any (Ya Xa : Nat -> Prop) (w : World) (F : StF) (Q : QF) (sh : Sh) (n nq : Nat) (m : StM) (hi : Inv sh m) (h : BothS Ya w F Q sh n nq m) (o : Opv) (ho : OpIn o) (Ad : Option Addr) (cd : Nat) (hp : PutsAt Xa w Ad o.l) (hX : ∀ b, Xa b -> b < w.heap.size ∧ ¬ Ya b ∧ ¬ Q.T b) (hll : o.l.length <= 30) (hd : ∀ p ∈ o.l, p.da.length <= 200) (hn : n + 150 <= 1000000) (hnq : nq + 30 <= 100000) :
    Calls Tryz.prog 14 #[.pointer (some ⟨F.s, 0, none⟩), .pointer (some ⟨Q.r, 0, none⟩), .agg #[.int .u8 o.k, .slice Ad o.l.length cd, .int .i64 o.z]] w (fun e w' => e = .returned (.int .i64 1) ∧ Went Ya w F Q sh (n + 150) (nq + 30) (doM sh m o) w') := by
 have hal : Below w.heap.size w (w.alloc (.cells #[.int .u8 o.k, .slice Ad o.l.length cd, .int .i64 o.z] 34)) := (Below.refl _ w).alloc (Nat.le_refl _) _
 have k0 := Blk.new w 34 #[.int .u8 o.k, .slice Ad o.l.length cd, .int .i64 o.z]
 have c0 := k0.cell 0
 have c1 := k0.cell 1
 have c2 := k0.cell 2
 have HAL := Lib.hid hal
 have HD := Lib.hid (both_does Ya Xa _ F Q sh n nq m hi (h.below hal) o ho Ad cd (hp.below hal) (fun b hb => ⟨Nat.lt_of_lt_of_le (hX b hb).1 hal.size, (hX b hb).2⟩) hll hd hn hnq)
 clear hi h ho hp hX hll hd hn hnq hal k0
 generalize o.l.length = ln at *
 generalize o.k = ok at *
 generalize o.z = oz at *
 go_enter Tryz.func14, Tryz.ntmps14
 go_wp2_with (fail)
 refine HD.out.mono ?_
 rintro e w2 ⟨rfl, hw⟩
 have HW := Lib.hid (hw.since HAL.out)
 clear hw HD c0 c1 c2
 go_wp2_with (fail)
 refine (truth_any w2 true).mono ?_
 rintro e w3 ⟨rfl, rfl⟩
 simp only [if_true]
 go_wp2
 go_ret
 exact ⟨rfl, HW.out⟩
end Go.Proofs.YtfabgbmbnmbjkaaGreatDoor

/- Pruned. -/
namespace Go.Proofs.YtfabgbmbnmbjkaaGreatDoor
open Go.RowKit
set_option maxRecDepth 20000
structure DoS (w1 wr : World) (F : StF) (Q : QF) (sh : Sh) (k : Nat) (m : StM) : Prop where
  st : ∃ Ya : Nat -> Prop, BothS Ya wr F Q sh (150 * k) (30 * k) m ∧ (∀ b, Ya b -> w1.heap.size <= b) ∧ ∀ b, Q.T b -> w1.heap.size <= b
  inv : Inv sh m
  low : Below w1.heap.size w1 wr
theorem DoS.went {w1 wr wn : World} {F : StF} {Q : QF} {sh : Sh} {k : Nat} {m' : StM} {Ya : Nat -> Prop} (hy : ∀ b, Ya b -> w1.heap.size <= b) (hq : ∀ b, Q.T b -> w1.heap.size <= b) (low : Below w1.heap.size w1 wr) (hi : Inv sh m') (h : Went Ya wr F Q sh (150 * k + 150) (30 * k + 30) m' wn) : DoS w1 wn F Q sh (k + 1) m' := by
 obtain ⟨Y, h1, h2, h3⟩ := h
 refine ⟨⟨Y, ?_, fun b hb => ?_, hq⟩, hi, Kp.below low h3 low.size (fun b hb e => ?_)⟩
 · rw [show 150 * (k + 1) = 150 * k + 150 by omega, show 30 * (k + 1) = 30 * k + 30 by omega]
   exact h1
 · rcases h2 b hb with h | h
   · exact hy b h
   · exact Nat.le_trans low.size h
 · rcases e with e | e
   · have := hy b e; omega
   · have := hq b e; omega
end Go.Proofs.YtfabgbmbnmbjkaaGreatDoor

