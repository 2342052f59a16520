/- Joined texts: Pk. -/
import Derived.Test.YtfabgbmbnmbjkaaGreatDoorRbf
import Derived.Test.YtfabgbmbnmbjkaaGreatDoorRbh
import Derived.Test.YtfabgbmbnmbjkaaGreatDoorRai
/- Pruned. -/
namespace Go.Proofs.YtfabgbmbnmbjkaaGreatDoor
open Go.RowKit
set_option maxRecDepth 20000
theorem wpList_delg {P : Program} {ops : Array Oper} {Q : Exit -> Act -> World -> Prop} {rest : List Oper} {a : Act} {w : World} {m x : Operand} {ts : Array TypeId} {ty : TypeId} {pos : String} {aft : Array Edge}
    (h : wpList P ops Q ({ dst := none, op := .call { callee := .builtin .delete, args := #[m, x], argTypes := ts }, type := ty, pos := pos, after := aft, guard := none } :: rest) a w) : wpList P ops Q ({ dst := none, op := .call { callee := .builtin .delete, args := #[m, x], argTypes := ts }, type := ty, pos := pos, after := aft, guard := none } :: rest) a w := h
def Cleared (X : Nat -> Prop) (F : StF) (sh : Sh) (n : Nat) (m : StM) (z : Int) (w : World) (e : Ending) (w' : World) : Prop :=
 e = .returned (.bool (clearM m z).1) ∧ StoreIs X w' F sh n (clearM m z).2 ∧ Kp (fun b => ¬ X b) w w'
set_option maxHeartbeats 2000000 in
theorem sclear_any (X : Nat -> Prop) (w : World) (F : StF) (sh : Sh) (n : Nat) (m : StM) (z : Int) (hg : Good sh m) (h : StoreIs X w F sh n m) :
    Calls Tryz.prog 58 #[.pointer (some ⟨F.s, 0, none⟩), .int .i64 z] w (Cleared X F sh n m z w) := by
 have HS := Lib.hid (state_any _ _ _ _ _ z w h.seg.1)
 have c1 := h.c1
 have H := Lib.hid h
 by_cases hst : stateAt m.G z = 3
 · obtain ⟨hz0, hz1⟩ := stateAt_in (G := m.G) (z := z) (by rw [hst]; decide)
   obtain ⟨k, rfl⟩ := Int.eq_ofNat_of_zero_le hz0
   have hkz : k < sh.z := by have := hg.gl; omega
   rw [hst] at HS
   have HI := Lib.hid (lin_any w F.f n m.L k h.nn h.lm)
   have c2 := h.c2
   by_cases hL : ofZ k m.L = []
   · have hcb : clearB m k := ⟨hst, hL⟩
     have HC : Hid (clearM m k = (true, clearS m k)) := by unfold Hid clearM; rw [if_pos hcb]
     have HP : Hid (∀ S : List Pl, S.Perm (ofZ k m.L) -> S = []) := fun S hS => List.perm_nil.1 (by rw [hL] at hS; exact hS)
     have HK := Lib.hid (And.intro hkz (And.intro hst hg))
     have hki : (k : Int) < sh.z := by omega
     have HIO : Hid (intC.ok (k : Int)) := by
      have h9 := h.dev.ok.facts
      exact ⟨by omega, by omega⟩
     clear hcb hL hz0 hz1 hst hg h hkz
     go_enter Tryz.func58, Tryz.ntmps58
     go_wp2_with (fail)
     refine HS.out.mono ?_
     rintro e w1 ⟨rfl, rfl⟩
     go_wp2_with (fail)
     refine HI.out.mono ?_
     rintro e w2 ⟨A, c, S, rfl, _, hS, _, hb⟩
     obtain rfl := HP.out S hS
     have H2 := Lib.hid (H.out.below hb)
     have HB2 := Lib.hid hb
     have c0 := H2.out.c0
     clear hS hb c1 c2 HS HI HP
     go_wp2_with (fail)
     refine (zreset_any _ w2 F.d sh m.P k (by rw [H2.out.dev.sz]; exact HK.out.1) H2.out.dev).mono ?_
     rintro e w3 ⟨rfl, hd3, hk3⟩
     have H3 := Lib.hid (H2.out.onDev hk3 hd3)
     have HB3 := Lib.hid ((Kp.of_below (S := fun b => ¬ X b) HB2.out).trans (hk3.mono (S' := fun b => ¬ X b) (fun b _ e hx => e (.inl hx))) (fun _ _ h => h))
     have c4 := H3.out.c4
     clear hd3 hk3 c0
     go_wp2_with (with_reducible refine wpList_delg ?_; refine wpList_mapF_drop rfl _ _ 90 40 rfl H3.out.last Tryz.underlying90 (k : Int) HIO.out (fun y => if y = k then none else m.la y) (if_pos rfl) (fun y hy => if_neg hy) rfl rfl ?_; rintro w4 hl4 hk4; have c1 := (H3.out.onLast hk4 hl4 (Nat.le_refl _) H3.out.nn).c1)
     have H4 := Lib.hid (H3.out.onLast hk4 hl4 (Nat.le_refl _) H3.out.nn)
     have HB4 := Lib.hid (HB3.out.trans (hk4.mono (S' := fun b => ¬ X b) (fun b _ e hx => by subst e; exact H3.out.nx _ (.inr (.inr (.inr (.inr rfl)))) hx)) (fun _ _ h => h))
     clear hk4 hl4 c4
     refine (clear_any _ _ _ _ k w4 H4.out.seg).mono ?_
     rintro e w5 ⟨h5, _, hk5⟩
     obtain ⟨rfl, hs5⟩ := h5 HK.out.2.1
     have H5 := Lib.hid (H4.out.onSeg hk5 hs5)
     have HB5 := Lib.hid (HB4.out.trans (H4.out.segKp hk5) (fun _ _ h => h))
     clear hs5 hk5 c1
     go_wp2
     go_ret
     unfold Cleared
     rw [HC.out]
     exact ⟨rfl, H5.out, HB5.out⟩
   · have hcb : ¬ clearB m k := fun e => hL e.2
     have HC : Hid (clearM m k = (false, m)) := by unfold Hid clearM; rw [if_neg hcb]
     have HP : Hid (∀ S : List Pl, S.Perm (ofZ k m.L) -> (0 : Int) < S.length) := fun S hS => by
      have h1 := hS.length_eq
      have h2 : 0 < (ofZ k m.L).length := List.length_pos_iff.2 hL
      omega
     clear hcb hL hz0 hz1 hst hg h hkz
     go_enter Tryz.func58, Tryz.ntmps58
     go_wp2_with (fail)
     refine HS.out.mono ?_
     rintro e w1 ⟨rfl, rfl⟩
     go_wp2_with (fail)
     refine HI.out.mono ?_
     rintro e w2 ⟨A, c, S, rfl, _, hS, _, hb⟩
     have hp := HP.out S hS
     have HB2 := Lib.hid hb
     clear hS hb c1 c2 HS HI HP
     go_wp2
     go_ret
     unfold Cleared
     rw [HC.out]
     exact ⟨rfl, H.out.below HB2.out, Kp.of_below HB2.out⟩
 · have hcb : ¬ clearB m z := fun e => hst e.1
   have HC : Hid (clearM m z = (false, m)) := by unfold Hid clearM; rw [if_neg hcb]
   have hne : (stateAt m.G z == 3) = false := by rw [beq_eq_false_iff_ne]; exact hst
   clear hcb hg h
   generalize stateAt m.G z = st at *
   go_enter Tryz.func58, Tryz.ntmps58
   go_wp2_with (fail)
   refine HS.out.mono ?_
   rintro e w1 ⟨rfl, rfl⟩
   clear c1 HS
   go_wp2
   go_ret
   unfold Cleared
   rw [HC.out]
   exact ⟨rfl, H.out, Kp.refl _ _⟩
theorem sseg_any (X : Nat -> Prop) (w : World) (F : StF) (sh : Sh) (n : Nat) (m : StM) (h : StoreIs X w F sh n m) : Calls Tryz.prog 25 #[.pointer (some ⟨F.s, 0, none⟩)] w (fun e w' => e = .returned (.pointer (some ⟨F.g, 0, none⟩)) ∧ w = w') := by
 have c1 := h.c1
 clear h
 go_enter Tryz.func25, Tryz.ntmps25
 go_wp2
 go_returns
 exact ⟨rfl, rfl⟩
end Go.Proofs.YtfabgbmbnmbjkaaGreatDoor

