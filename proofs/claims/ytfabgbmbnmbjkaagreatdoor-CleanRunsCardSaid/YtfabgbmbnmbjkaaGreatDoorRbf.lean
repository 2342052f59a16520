/- Joined texts: Pj. -/
import Derived.Test.YtfabgbmbnmbjkaaGreatDoorRbc
import Derived.Test.YtfabgbmbnmbjkaaGreatDoorRbd
import Derived.Test.YtfabgbmbnmbjkaaGreatDoorRai
import Derived.Test.YtfabgbmbnmbjkaaGreatDoorRav
import Derived.Test.YtfabgbmbnmbjkaaGreatDoorRbe
/- Pruned. -/
namespace Go.Proofs.YtfabgbmbnmbjkaaGreatDoor
open Go.RowKit
set_option maxRecDepth 20000
section
variable (X : Nat -> Prop) (w : World) (F : StF) (sh : Sh) (n : Nat) (m : StM)
theorem sflush_any (h : StoreIs X w F sh n m) : Calls Tryz.prog 56 #[.pointer (some ⟨F.s, 0, none⟩)] w (fun e w' => e = .returned (.tuple #[]) ∧ StoreIs X w' F sh n (flushM m) ∧ Kp (fun b => ¬ X b) w w') := by
 have HF := Lib.hid (zflush_any _ w F.d sh m.P h.dev)
 have c0 := h.c0
 have H := Lib.hid h
 clear h
 go_enter Tryz.func56, Tryz.ntmps56
 go_wp2_with (fail)
 refine HF.out.mono ?_
 rintro e w1 ⟨rfl, hd, hk⟩
 have H1 := Lib.hid (And.intro (H.out.onDev hk hd) (hk.mono (S' := fun b => ¬ X b) (fun b _ e hx => e (.inl hx))))
 clear hd hk c0 HF
 go_wp2
 go_end0
 exact ⟨rfl, H1.out⟩
theorem slow_any (h : StoreIs X w F sh n m) : Calls Tryz.prog 76 #[.pointer (some ⟨F.s, 0, none⟩)] w (fun e w' => e = .returned (.bool (decide (frees m.G <= sh.rs))) ∧ Below w.heap.size w w') := by
 have HF := Lib.hid (low_any F.g F.gb m.G sh.rs w h.seg)
 have c1 := h.c1
 clear h
 generalize decide (frees m.G <= (sh.rs : Int)) = b at *
 go_enter Tryz.func76, Tryz.ntmps76
 go_wp2_with (fail)
 refine HF.out.mono ?_
 rintro e w1 ⟨rfl, k, hb⟩
 have HB : Hid (Below w.heap.size w w1) := by rw [hb]; exact ⟨rfl, rfl, rfl, Nat.le_refl _, fun _ _ => rfl⟩
 clear hb c1 HF
 go_wp2
 go_ret
 exact ⟨rfl, HB.out⟩
theorem slast_any (z : Int) (hz : intC.ok z) (h : StoreIs X w F sh n m) : Calls Tryz.prog 30 #[.pointer (some ⟨F.s, 0, none⟩), .int .i64 z] w (fun e w' => e = .returned (.int .u64 (lastM m z)) ∧ w = w') := by
 have c4 := h.c4
 have hlk := h.last.look (t := 90) (e := 40) Tryz.underlying90 (z := .int .u64 0) (by kernel_rfl) (a := z) hz false
 have e1 : ((m.la z).map (Value.int .u64)).getD (.int .u64 0) = .int .u64 (lastM m z) := by
  unfold lastM
  cases m.la z <;> rfl
 simp only [Bool.false_eq_true, if_false] at hlk
 rw [e1] at hlk
 have hkv : intC.kv z = .int .i64 z := rfl
 rw [hkv] at hlk
 clear h e1 hkv hz
 generalize lastM m z = v at *
 go_enter Tryz.func30, Tryz.ntmps30
 go_wp2
 go_ret
 exact ⟨rfl, rfl⟩
end
def Marked (X : Nat -> Prop) (F : StF) (sh : Sh) (n : Nat) (m : StM) (w : World) (e : Ending) (w' : World) : Prop :=
 e = .returned (.int .u16 (markM sh m).1) ∧ StoreIs X w' F sh n (markM sh m).2 ∧ Kp (fun b => ¬ X b) w w'
set_option maxHeartbeats 2000000 in
theorem smark_any (X : Nat -> Prop) (w : World) (F : StF) (sh : Sh) (n : Nat) (m : StM) (hi : Inv sh m) (hnm : ∀ p ∈ m.L, NameOk p.n) (hl5 : m.L.length <= 100000) (h : StoreIs X w F sh n m) :
    Calls Tryz.prog 57 #[.pointer (some ⟨F.s, 0, none⟩)] w (Marked X F sh n m w) := by
 have htw := riseL_twin hi.g.uq
 have hml : (riseL m.L).length = m.L.length := riseL_length hi.g.uq
 have hpk := hi.places hnm (fun z hz => (h.dev.fit (by rw [h.dev.sz]; exact hz)).fit)
 have HA : Hid (Calls Tryz.prog 22 #[.pointer (some ⟨F.f.g, 0, none⟩)] w.drew (fun e w' => ∃ A c, e = .returned (.slice A (riseL m.L).length c) ∧ OwnPl w' w.heap.size A c (riseL m.L) ∧ Below w.heap.size w.drew w')) :=
  (lall_any w.drew F.f n m.L h.nn h.drew.lm).mono (fun e w' ⟨A, c, S, h1, h2, h3, h4, h5⟩ => by
    obtain rfl : S = riseL m.L := rising_ext h4 htw.rise (h3.trans htw.perm.symm)
    exact ⟨A, c, h1, h2, h5⟩)
 have hs := hi.s
 unfold SlOk at hs
 obtain ⟨z, hz⟩ : ∃ z : Nat, (1 - m.sl).toNat = z := ⟨_, rfl⟩
 have hz2 : z < 2 := by omega
 have hwr : IntKind.i64.wrap (1 - m.sl) = (z : Int) := by rcases hs with e | e <;> (rw [e] at hz ⊢; subst hz; decide)
 have hwe : 1 - m.sl = (z : Int) := by omega
 have hsq : 0 <= m.seq ∧ m.seq <= 18446744073709551615 := by have := h.sq; have := h.nn; omega
 obtain ⟨ee, hee⟩ : ∃ ee : Int, (if manyC (riseL m.L).length (roomC sh.bl) <= sh.zb then (0 : Int) else 140) = ee := ⟨_, rfl⟩
 obtain ⟨PP, hPP⟩ : ∃ PP, (if manyC (riseL m.L).length (roomC sh.bl) <= sh.zb then saveL m.P z (encC sh.bl m.seq (riseL m.L)) else m.P) = PP := ⟨_, rfl⟩
 have HS := Lib.hid (fun u A c (hu : StoreIs X u F sh n m) (ho : OwnPl u w.heap.size A c (riseL m.L)) (hl : (riseL m.L).length <= 100000) => csave_any _ u F.d sh m.P z hz2 m.seq hsq (riseL m.L) A c ho.row (by
  rcases ho.cap with ⟨_, e, _⟩ | ⟨_, _, e, _⟩
  · rw [e]; exact Nat.zero_le _
  · exact e) hpk hl hu.dev)
 unfold CSaved at HS
 rw [hee, hPP] at HS
 have HEE := Lib.hid hee
 have HPP := Lib.hid hPP
 have H := Lib.hid h
 have ks : w.cell? ⟨F.s, 0, none⟩ = some (.pointer (some ⟨F.d, 0, none⟩)) ∧ w.cell? ⟨F.s, 2, none⟩ = some (.pointer (some ⟨F.f.g, 0, none⟩)) ∧ w.cell? ⟨F.s, 3, none⟩ = some (.int .u64 m.seq) ∧ w.cell? ⟨F.s, 6, none⟩ = some (.int .i64 m.sl) := ⟨h.c0, h.c2, h.c3, h.c6⟩
 have HL := Lib.hid (show (riseL m.L).length <= 100000 by omega)
 have HML := Lib.hid hml
 have HWE := Lib.hid hwe
 have HZ := Lib.hid hz
 have HOW : Hid (∀ u u' : World, Kp (fun b => ¬ (X b ∨ F.own b)) u u' -> ∀ i v, u.cell? ⟨F.s, i, none⟩ = some v -> u'.cell? ⟨F.s, i, none⟩ = some v) := fun u u' hk i v hv => hk.cell hv (fun e => e (.inr (.inl rfl)))
 have hsl0 : 0 <= m.sl := by omega
 have hsl1 : m.sl <= 1 := by omega
 have hm0 : (markB sh m ∧ markM sh m = (0, { m with P := saveL m.P (1 - m.sl).toNat (markE sh m), sl := 1 - m.sl })) ∨ (¬ markB sh m ∧ markM sh m = (140, m)) := by
  unfold markM
  by_cases hb : markB sh m
  · exact .inl ⟨hb, if_pos hb⟩
  · exact .inr ⟨hb, if_neg hb⟩
 have HM0 := Lib.hid hm0
 clear h htw hpk hi hs hz hwe hm0 hml hl5 hnm hsq hee hPP
 go_enter Tryz.func57, Tryz.ntmps57
 go_wp2_with (fail)
 go_region_held3 (fun u => u.cell? ⟨F.s, 0, none⟩ = some (.pointer (some ⟨F.d, 0, none⟩)) ∧ u.cell? ⟨F.s, 2, none⟩ = some (.pointer (some ⟨F.f.g, 0, none⟩)) ∧ u.cell? ⟨F.s, 3, none⟩ = some (.int .u64 m.seq) ∧ u.cell? ⟨F.s, 6, none⟩ = some (.int .i64 m.sl))
   (first | exact ks | exact ks2 | exact ks3)
   (first
     | (go_at_call 22
        with_reducible refine HA.out.mono ?_
        rintro e w2 ⟨A, c, rfl, ho, hb0⟩
        have hb : Below w.heap.size w w2 := (Below.refl w.heap.size w).drew.trans hb0
        clear hb0
        have ks2 : w2.cell? ⟨F.s, 0, none⟩ = some (.pointer (some ⟨F.d, 0, none⟩)) ∧ w2.cell? ⟨F.s, 2, none⟩ = some (.pointer (some ⟨F.f.g, 0, none⟩)) ∧ w2.cell? ⟨F.s, 3, none⟩ = some (.int .u64 m.seq) ∧ w2.cell? ⟨F.s, 6, none⟩ = some (.int .i64 m.sl) := ⟨below_keep hb ks.1, below_keep hb ks.2.1, below_keep hb ks.2.2.1, below_keep hb ks.2.2.2⟩
        have HB2 := Lib.hid (And.intro hb ho)
        clear hb ho)
     | (go_at_call 42
        refine (HS.out _ _ _ (H.out.below HB2.out.1) HB2.out.2 HL.out).mono ?_
        rintro e w3 ⟨rfl, hd3, hk3⟩
        have ks3 : w3.cell? ⟨F.s, 0, none⟩ = some (.pointer (some ⟨F.d, 0, none⟩)) ∧ w3.cell? ⟨F.s, 2, none⟩ = some (.pointer (some ⟨F.f.g, 0, none⟩)) ∧ w3.cell? ⟨F.s, 3, none⟩ = some (.int .u64 m.seq) ∧ w3.cell? ⟨F.s, 6, none⟩ = some (.int .i64 m.sl) := ⟨HOW.out _ _ hk3 _ _ ks2.1, HOW.out _ _ hk3 _ _ ks2.2.1, HOW.out _ _ hk3 _ _ ks2.2.2.1, HOW.out _ _ hk3 _ _ ks2.2.2.2⟩
        have HB3 := Lib.hid (And.intro hd3 hk3)
        clear hd3 hk3))
 all_goals
  have hq3 := (H.out.below HB2.out.1).onDev HB3.out.2 HB3.out.1
  have hf := hq3.fz 6
  have c5 := hq3.c6
  have HQ3 := Lib.hid (And.intro hq3 ((Kp.of_below (S := fun b => ¬ X b) HB2.out.1).trans (HB3.out.2.mono (S' := fun b => ¬ X b) (fun b _ e hx => e (.inl hx))) (fun _ _ h => h)))
  clear ks ks2 ks3 hq3
  rcases HM0.out with ⟨hb, hm⟩ | ⟨hb, hm⟩
  · have hb' : manyC (riseL m.L).length (roomC sh.bl) <= sh.zb := by rw [HML.out]; exact hb
    have HM := Lib.hid hm
    have h1 := HEE.out
    have h2 := HPP.out
    rw [if_pos hb'] at h1 h2
    subst h1 h2
    have HE : Hid (encC sh.bl m.seq (riseL m.L) = markE sh m) := rfl
    clear hm hb hb' HM0
    go_wp2
    go_ret
    unfold Marked
    rw [HM.out]
    have ht := HQ3.out.1.top.set_ 6 (.int .i64 z)
    have hk := (Kp.refl (fun b => b = F.s) w3).setCell (p := ⟨F.s, 6, none⟩) (.inl rfl) (.int .i64 z)
    have ho := HQ3.out.1.onTop (seq := m.seq) (op := m.op) (sl := (z : Int)) hk (by simpa using ht) (Nat.le_refl _) HQ3.out.1.nn HQ3.out.1.sq HQ3.out.1.opr
    refine ⟨rfl, ?_, HQ3.out.2.trans (hk.mono (S' := fun b => ¬ X b) (fun b _ e hx => by subst e; exact HQ3.out.1.nx _ (.inl rfl) hx)) (fun _ _ h => h)⟩
    rw [HZ.out, HWE.out]
    exact ho
  · have hb' : ¬ manyC (riseL m.L).length (roomC sh.bl) <= sh.zb := by rw [HML.out]; exact hb
    have HM := Lib.hid hm
    have h1 := HEE.out
    have h2 := HPP.out
    rw [if_neg hb'] at h1 h2
    subst h1 h2
    clear hm hb hb' HM0
    go_wp2
    go_ret
    unfold Marked
    rw [HM.out]
    exact ⟨rfl, HQ3.out⟩
end Go.Proofs.YtfabgbmbnmbjkaaGreatDoor

