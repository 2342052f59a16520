/- Joined texts: Dv Dw Dx. -/
import Derived.Test.YtfabgbmbnmbjkaaGreatDoorMbl
import Derived.Test.YtfabgbmbnmbjkaaGreatDoorMbm
import Derived.Test.YtfabgbmbnmbjkaaGreatDoorMay
import Derived.Test.YtfabgbmbnmbjkaaGreatDoorMbh
import Derived.Test.YtfabgbmbnmbjkaaGreatDoorMbe
import Derived.BigQuiet
import Derived.Test.YtfabgbmbnmbjkaaGreatDoorMax
import Derived.Test.YtfabgbmbnmbjkaaGreatDoorMbi
/- Do both stores hold the same (coaminglaw16's same): printed by gen_same.py. -/
namespace Go.Proofs.YtfabgbmbnmbjkaaGreatDoor
open Go.RowKit
set_option maxRecDepth 20000

set_option maxHeartbeats 8000000 in
theorem both_same (Ya : Nat → Prop) (w : World) (F : StF) (Q : QF) (sh : Sh) (n nq : Nat) (m : StM) (hg : Good sh m) (h : BothS Ya w F Q sh n nq m) :
    Calls Tryz.prog 48 #[.pointer (some ⟨F.s, 0, none⟩), .pointer (some ⟨Q.r, 0, none⟩)] w (fun e w' => e = .returned (.bool true) ∧ Below w.heap.size w w') := by
  have hok := h.a.dev.ok
  have hfc := hok.facts
  have HFC := Lib.hid hfc
  have H0 := Lib.hid h
  have HG := Lib.hid hg
  have h00 : Hid (Below w.heap.size w w) := Below.refl _ _
  clear h hg hok
  go_enter Tryz.func48, Tryz.ntmps48
  go_wp2_with (fail)
  go_loopw [5] (fun i wr => ∃ k : Nat, k ≤ sh.z ∧ i = .int .i64 k ∧ Hid (Below w.heap.size w wr)) (fun i _ => sh.z - (intOf i).toNat)
  case atStart => exact ⟨0, Nat.zero_le _, rfl, h00⟩
  case round =>
    obtain ⟨k, hk, rfl, hr⟩ := hrel
    clear h00
    have H := Lib.hid (H0.out.below hr.out)
    have r0 := H.out.q.top.cell 0
    have r1 := H.out.q.top.cell 1
    have d0 := H.out.q.dev.top.cell 0
    by_cases hlt : k < sh.z
    · have HDN : Hid (∀ x, BothS Ya (wr.drewN x) F Q sh n nq m) := fun x => H.out.below (below_drewN (Below.refl _ _) x)
      have HL1 : Hid (∀ x, Calls Tryz.prog 30 #[.pointer (some ⟨F.s, 0, none⟩), .int .i64 k] (wr.drewN x) (fun e w' => e = .returned (.int .u64 (lastM m k)) ∧ w' = wr.drewN x)) := fun x => (slast_any _ _ F sh _ m (k : Int) ⟨by omega, by omega⟩ (HDN.out x).a).mono (fun e w' h => ⟨h.1, h.2.symm⟩)
      have HL2 : Hid (∀ x, Calls Tryz.prog 69 #[.pointer (some ⟨Q.r, 0, none⟩), .int .i64 k] (wr.drewN x) (fun e w' => e = .returned (.int .u64 (lastM m k)) ∧ w' = wr.drewN x)) := fun x => (qslast_any _ _ Q sh _ m (k : Int) (fun h => by omega) (HDN.out x).q).mono (fun e w' h => ⟨h.1, h.2.symm⟩)
      have HS1 : Hid (∀ x, Calls Tryz.prog 25 #[.pointer (some ⟨F.s, 0, none⟩)] (wr.drewN x) (fun e w' => e = .returned (.pointer (some ⟨F.g, 0, none⟩)) ∧ w' = wr.drewN x)) := fun x => (sseg_any _ _ _ _ _ _ (HDN.out x).a).mono (fun e w' h => ⟨h.1, h.2.symm⟩)
      have HT1 : Hid (∀ x, Calls Tryz.prog 26 #[.pointer (some ⟨F.g, 0, none⟩), .int .i64 k] (wr.drewN x) (fun e w' => e = .returned (.int .u8 (stateAt m.G k)) ∧ w' = wr.drewN x)) := fun x => (state_any _ _ _ _ _ _ _ (HDN.out x).a.seg.1).mono (fun e w' h => ⟨h.1, h.2.symm⟩)
      have HT2 : Hid (∀ x, Calls Tryz.prog 102 #[.pointer (some ⟨Q.g, 0, none⟩), .int .i64 k] (wr.drewN x) (fun e w' => e = .returned (.int .u8 (stateAt m.G k)) ∧ w' = wr.drewN x)) := fun x => (refstate_any _ _ _ _ _ _ _ _ _ _ _ (HDN.out x).q.seg).mono (fun e w' h => ⟨h.1, h.2.symm⟩)
      have HNX : Hid (∀ x, Below w.heap.size w (wr.drewN x)) := fun x => below_drewN hr.out x
      have HLT := Lib.hid hlt
      clear HDN
      generalize lastM m (k : Int) = la at *
      generalize stateAt m.G (k : Int) = sa at *
      go_wp2_with (fail)
      go_quiet (first
        | (go_at_call 30; with_reducible exact Calls.quiet_of_same (HL1.out _))
        | (go_at_call 69; with_reducible exact Calls.quiet_of_same (HL2.out _))
        | (go_at_call 25; with_reducible exact Calls.quiet_of_same (HS1.out _))
        | (go_at_call 26; with_reducible exact Calls.quiet_of_same (HT1.out _))
        | (go_at_call 102; with_reducible exact Calls.quiet_of_same (HT2.out _)))
      go_wp2
      go_roundw
      case rel => exact ⟨k + 1, HLT.out, by go_num, HNX.out _⟩
      case measure => have := HLT.out; simp [intOf]; omega
    · obtain rfl : k = sh.z := by omega
      have HP : Hid (m.P.length ≤ 100000 ∧ ∀ i, i < m.P.length → (m.P.getD i pt0).bs.length ≤ 100000) := ⟨by have h1 := H.out.a.dev.sz; omega, fun i hi => by have h1 := (H.out.a.dev.fit hi).fit; omega⟩
      go_wp2_with (fail)
      refine wp_region_rel (fun i v w => match i with | 0 => (v = .pointer (some ⟨F.s, 0, none⟩)) | 1 => (v = .int .u64 m.seq) | 2 => (v = .pointer (some ⟨Q.r, 0, none⟩)) | 3 => (v = .pointer (some ⟨Q.r, 0, none⟩)) | 4 => (v = .pointer (some ⟨Q.r, 3, none⟩)) | 5 => (v = .int .u64 m.seq) | 6 => (v = .bool true) | 7 => (v = .bool true) | 8 => (v = .pointer (some ⟨F.s, 0, none⟩)) | 9 => (v = .bool (decide (frees m.G ≤ sh.rs))) | 10 => (v = .pointer (some ⟨Q.r, 0, none⟩)) | 11 => (v = .bool (decide (frees m.G ≤ sh.rs))) | 12 => (v = .bool true) | 13 => (v = .bool true) | 14 => (v = .bool true) | 15 => (v = .pointer (some ⟨F.s, 0, none⟩)) | 16 => (v = .pointer (some ⟨F.f.g, 0, none⟩)) | 17 => (∃ A c b, v = .slice A (riseL m.L).length c ∧ OwnPl w b A c (riseL m.L)) | 18 => (v = .pointer (some ⟨Q.r, 0, none⟩)) | 19 => (v = .pointer (some ⟨Q.r, 0, none⟩)) | 20 => (v = .pointer (some ⟨Q.r, 2, none⟩)) | 21 => (v = .pointer (some ⟨Q.mm, 0, none⟩)) | 22 => (∃ A c b, v = .slice A (riseL m.L).length c ∧ OwnPl w b A c (riseL m.L)) | 23 => (v = .bool true) | 24 => (v = .bool true) | 25 => (v = .bool true) | 26 => (v = .pointer (some ⟨F.s, 0, none⟩)) | 27 => (v = .pointer (some ⟨F.d, 0, none⟩)) | 28 => (∃ A c, v = .slice A m.P.length c ∧ ZonesR w A m.P) | 29 => (v = .pointer (some ⟨Q.r, 0, none⟩)) | 30 => (v = .pointer (some ⟨Q.r, 0, none⟩)) | 31 => (v = .pointer (some ⟨Q.r, 0, none⟩)) | 32 => (v = .pointer (some ⟨Q.d, 0, none⟩)) | 33 => (∃ A c, v = .slice A m.P.length c ∧ ZonesR w A m.P) | 34 => (v = .bool true) | 35 => (v = .bool true) | 36 => (v = .bool true) | _ => False) (by kernel_rfl) (by kernel_rfl) ?st ?op ?fin
      case st =>
        intro i v w w' h hb
        match i, h with
        | 0, h => exact h
        | 1, h => exact h
        | 2, h => exact h
        | 3, h => exact h
        | 4, h => exact h
        | 5, h => exact h
        | 6, h => exact h
        | 7, h => exact h
        | 8, h => exact h
        | 9, h => exact h
        | 10, h => exact h
        | 11, h => exact h
        | 12, h => exact h
        | 13, h => exact h
        | 14, h => exact h
        | 15, h => exact h
        | 16, h => exact h
        | 17, h => obtain ⟨A, c, b, e, h⟩ := h; exact ⟨A, c, b, e, h.below hb⟩
        | 18, h => exact h
        | 19, h => exact h
        | 20, h => exact h
        | 21, h => exact h
        | 22, h => obtain ⟨A, c, b, e, h⟩ := h; exact ⟨A, c, b, e, h.below hb⟩
        | 23, h => exact h
        | 24, h => exact h
        | 25, h => exact h
        | 26, h => exact h
        | 27, h => exact h
        | 28, h => obtain ⟨A, c, e, h⟩ := h; exact ⟨A, c, e, h.below hb⟩
        | 29, h => exact h
        | 30, h => exact h
        | 31, h => exact h
        | 32, h => exact h
        | 33, h => obtain ⟨A, c, e, h⟩ := h; exact ⟨A, c, e, h.below hb⟩
        | 34, h => exact h
        | 35, h => exact h
        | 36, h => exact h
        | _ + 37, h => exact h.elim
      case op =>
        refine ⟨?_, ?_, ?_, ?_, ?_, ?_, ?_, ?_, ?_, ?_, ?_, ?_, ?_, ?_, ?_, ?_, ?_, ?_, ?_, ?_, ?_, ?_, ?_, ?_, ?_, ?_, ?_, ?_, ?_, ?_, ?_, ?_, ?_, ?_, ?_, ?_, ?_, trivial⟩
        · intro a w hb hd hn K hK
          exact st_if (wanted_none rfl) (st_move (.inl rfl) (ev ((hn 0 (by kernel_rfl)).trans rfl)) (hK _ _ rfl (Below.refl _ _)))
        · intro a w hb hd hn K hK
          obtain ⟨_, e38, rfl⟩ := hd 0 38 (by kernel_rfl) (by kernel_rfl)
          refine st_if (wanted_none rfl) (st_call (vs := #[.pointer (some ⟨F.s, 0, none⟩)]) (R := fun v w' => (v = .int .u64 m.seq) ∧ Below w.heap.size w w') Tryz.func32 (by kernel_rfl) (by kernel_rfl) rfl (by simp only [List.map_toArray, List.map_cons, List.map_nil, (ev e38)]) ?_ (fun v w' h => hK v w' h.1 h.2))
          have hh := H.out.below hb
          refine (seq_any _ w F sh _ m hh.a).mono ?_
          rintro e w' ⟨rfl, rfl⟩
          exact ⟨_, rfl, rfl, Below.refl _ _⟩
        · intro a w hb hd hn K hK
          exact st_if (wanted_none rfl) (st_move (.inl rfl) (ev ((hn 1 (by kernel_rfl)).trans rfl)) (hK _ _ rfl (Below.refl _ _)))
        · intro a w hb hd hn K hK
          obtain ⟨_, e40, rfl⟩ := hd 2 40 (by kernel_rfl) (by kernel_rfl)
          exact st_if (wanted_none rfl) (st_nil rfl (ev e40) (hK _ _ rfl (Below.refl _ _)))
        · intro a w hb hd hn K hK
          obtain ⟨_, e41, rfl⟩ := hd 3 41 (by kernel_rfl) (by kernel_rfl)
          exact st_if (wanted_none rfl) (st_field rfl (ev e41) (by go_simp; try rfl) (hK _ _ rfl (Below.refl _ _)))
        · intro a w hb hd hn K hK
          obtain ⟨_, e42, rfl⟩ := hd 4 42 (by kernel_rfl) (by kernel_rfl)
          have hc := (H.out.below hb).q.top.cell 3
          exact st_if (wanted_none rfl) (st_load rfl (ev e42) (by go_simp) (hK _ _ rfl (Below.refl _ _)))
        · intro a w hb hd hn K hK
          obtain ⟨_, e39, rfl⟩ := hd 1 39 (by kernel_rfl) (by kernel_rfl)
          obtain ⟨_, e43, rfl⟩ := hd 5 43 (by kernel_rfl) (by kernel_rfl)
          exact st_if (wanted_none rfl) (st_op rfl (ev e39) (ev e43) (by go_simp) (hK _ _ rfl (Below.refl _ _)))
        · intro a w hb hd hn K hK
          obtain ⟨_, e44, rfl⟩ := hd 6 44 (by kernel_rfl) (by kernel_rfl)
          exact st_if (wanted_none rfl) (st_move (.inl rfl) (ev e44) (hK _ _ rfl (Below.refl _ _)))
        · intro a w hb hd hn K hK
          obtain ⟨_, eg, rfl⟩ := hd 7 45 (by kernel_rfl) (by kernel_rfl)
          exact st_if (wanted_at rfl (by kernel_rfl) eg) (st_move (.inl rfl) (ev ((hn 0 (by kernel_rfl)).trans rfl)) (hK _ _ rfl (Below.refl _ _)))
        · intro a w hb hd hn K hK
          obtain ⟨_, eg, rfl⟩ := hd 7 45 (by kernel_rfl) (by kernel_rfl)
          obtain ⟨_, e46, rfl⟩ := hd 8 46 (by kernel_rfl) (by kernel_rfl)
          refine st_if (wanted_at rfl (by kernel_rfl) eg) (st_call (vs := #[.pointer (some ⟨F.s, 0, none⟩)]) (R := fun v w' => (v = .bool (decide (frees m.G ≤ sh.rs))) ∧ Below w.heap.size w w') Tryz.func76 (by kernel_rfl) (by kernel_rfl) rfl (by simp only [List.map_toArray, List.map_cons, List.map_nil, (ev e46)]) ?_ (fun v w' h => hK v w' h.1 h.2))
          have hh := H.out.below hb
          refine (slow_any _ w F sh _ m hh.a).mono ?_
          rintro e w' ⟨rfl, hw'⟩
          exact ⟨_, rfl, rfl, hw'⟩
        · intro a w hb hd hn K hK
          obtain ⟨_, eg, rfl⟩ := hd 7 45 (by kernel_rfl) (by kernel_rfl)
          exact st_if (wanted_at rfl (by kernel_rfl) eg) (st_move (.inl rfl) (ev ((hn 1 (by kernel_rfl)).trans rfl)) (hK _ _ rfl (Below.refl _ _)))
        · intro a w hb hd hn K hK
          obtain ⟨_, eg, rfl⟩ := hd 7 45 (by kernel_rfl) (by kernel_rfl)
          obtain ⟨_, e48, rfl⟩ := hd 10 48 (by kernel_rfl) (by kernel_rfl)
          refine st_if (wanted_at rfl (by kernel_rfl) eg) (st_call (vs := #[.pointer (some ⟨Q.r, 0, none⟩)]) (R := fun v w' => (v = .bool (decide (frees m.G ≤ sh.rs))) ∧ Below w.heap.size w w') Tryz.func77 (by kernel_rfl) (by kernel_rfl) rfl (by simp only [List.map_toArray, List.map_cons, List.map_nil, (ev e48)]) ?_ (fun v w' h => hK v w' h.1 h.2))
          have hh := H.out.below hb
          refine (qslow_any _ w Q sh _ m hh.q HG.out.gl).mono ?_
          rintro e w' ⟨rfl, hw'⟩
          exact ⟨_, rfl, rfl, hw'⟩
        · intro a w hb hd hn K hK
          obtain ⟨_, eg, rfl⟩ := hd 7 45 (by kernel_rfl) (by kernel_rfl)
          obtain ⟨_, e47, rfl⟩ := hd 9 47 (by kernel_rfl) (by kernel_rfl)
          obtain ⟨_, e49, rfl⟩ := hd 11 49 (by kernel_rfl) (by kernel_rfl)
          exact st_if (wanted_at rfl (by kernel_rfl) eg) (st_op rfl (ev e47) (ev e49) (by go_simp) (hK _ _ rfl (Below.refl _ _)))
        · intro a w hb hd hn K hK
          obtain ⟨_, e45, rfl⟩ := hd 7 45 (by kernel_rfl) (by kernel_rfl)
          obtain ⟨_, e50, rfl⟩ := hd 12 50 (by kernel_rfl) (by kernel_rfl)
          exact st_if (wanted_none rfl) (st_pick rfl (ev e45) (by first | rfl | exact (ev e50)) (hK _ _ rfl (Below.refl _ _)))
        · intro a w hb hd hn K hK
          obtain ⟨_, e51, rfl⟩ := hd 13 51 (by kernel_rfl) (by kernel_rfl)
          exact st_if (wanted_none rfl) (st_move (.inl rfl) (ev e51) (hK _ _ rfl (Below.refl _ _)))
        · intro a w hb hd hn K hK
          obtain ⟨_, eg, rfl⟩ := hd 14 52 (by kernel_rfl) (by kernel_rfl)
          exact st_if (wanted_at rfl (by kernel_rfl) eg) (st_move (.inl rfl) (ev ((hn 0 (by kernel_rfl)).trans rfl)) (hK _ _ rfl (Below.refl _ _)))
        · intro a w hb hd hn K hK
          obtain ⟨_, eg, rfl⟩ := hd 14 52 (by kernel_rfl) (by kernel_rfl)
          obtain ⟨_, e53, rfl⟩ := hd 15 53 (by kernel_rfl) (by kernel_rfl)
          refine st_if (wanted_at rfl (by kernel_rfl) eg) (st_call (vs := #[.pointer (some ⟨F.s, 0, none⟩)]) (R := fun v w' => (v = .pointer (some ⟨F.f.g, 0, none⟩)) ∧ Below w.heap.size w w') Tryz.func21 (by kernel_rfl) (by kernel_rfl) rfl (by simp only [List.map_toArray, List.map_cons, List.map_nil, (ev e53)]) ?_ (fun v w' h => hK v w' h.1 h.2))
          have hh := H.out.below hb
          refine (map_any _ w F sh _ m hh.a).mono ?_
          rintro e w' ⟨rfl, rfl⟩
          exact ⟨_, rfl, rfl, Below.refl _ _⟩
        · intro a w hb hd hn K hK
          obtain ⟨_, eg, rfl⟩ := hd 14 52 (by kernel_rfl) (by kernel_rfl)
          obtain ⟨_, e54, rfl⟩ := hd 16 54 (by kernel_rfl) (by kernel_rfl)
          refine st_if (wanted_at rfl (by kernel_rfl) eg) (st_call (vs := #[.pointer (some ⟨F.f.g, 0, none⟩)]) (R := fun v w' => (∃ A c b, v = .slice A (riseL m.L).length c ∧ OwnPl w' b A c (riseL m.L)) ∧ Below w.heap.size w w') Tryz.func22 (by kernel_rfl) (by kernel_rfl) rfl (by simp only [List.map_toArray, List.map_cons, List.map_nil, (ev e54)]) ?_ (fun v w' h => hK v w' h.1 h.2))
          have hh := H.out.below hb
          refine (lall_any w F.f _ m.L hh.a.nn hh.a.lm).mono ?_
          rintro e w' ⟨A, c, S, rfl, ho, hp, hr, hw'⟩
          obtain rfl := twin_rise HG.out.uq ⟨hp, hr⟩
          exact ⟨_, rfl, ⟨A, c, _, rfl, ho⟩, hw'⟩
        · intro a w hb hd hn K hK
          obtain ⟨_, eg, rfl⟩ := hd 14 52 (by kernel_rfl) (by kernel_rfl)
          exact st_if (wanted_at rfl (by kernel_rfl) eg) (st_move (.inl rfl) (ev ((hn 1 (by kernel_rfl)).trans rfl)) (hK _ _ rfl (Below.refl _ _)))
        · intro a w hb hd hn K hK
          obtain ⟨_, eg, rfl⟩ := hd 14 52 (by kernel_rfl) (by kernel_rfl)
          obtain ⟨_, e56, rfl⟩ := hd 18 56 (by kernel_rfl) (by kernel_rfl)
          exact st_if (wanted_at rfl (by kernel_rfl) eg) (st_nil rfl (ev e56) (hK _ _ rfl (Below.refl _ _)))
        · intro a w hb hd hn K hK
          obtain ⟨_, eg, rfl⟩ := hd 14 52 (by kernel_rfl) (by kernel_rfl)
          obtain ⟨_, e57, rfl⟩ := hd 19 57 (by kernel_rfl) (by kernel_rfl)
          exact st_if (wanted_at rfl (by kernel_rfl) eg) (st_field rfl (ev e57) (by go_simp; try rfl) (hK _ _ rfl (Below.refl _ _)))
        · intro a w hb hd hn K hK
          obtain ⟨_, eg, rfl⟩ := hd 14 52 (by kernel_rfl) (by kernel_rfl)
          obtain ⟨_, e58, rfl⟩ := hd 20 58 (by kernel_rfl) (by kernel_rfl)
          have hc := (H.out.below hb).q.top.cell 2
          exact st_if (wanted_at rfl (by kernel_rfl) eg) (st_load rfl (ev e58) (by go_simp) (hK _ _ rfl (Below.refl _ _)))
        · intro a w hb hd hn K hK
          obtain ⟨_, eg, rfl⟩ := hd 14 52 (by kernel_rfl) (by kernel_rfl)
          obtain ⟨_, e59, rfl⟩ := hd 21 59 (by kernel_rfl) (by kernel_rfl)
          refine st_if (wanted_at rfl (by kernel_rfl) eg) (st_call (vs := #[.pointer (some ⟨Q.mm, 0, none⟩)]) (R := fun v w' => (∃ A c b, v = .slice A (riseL m.L).length c ∧ OwnPl w' b A c (riseL m.L)) ∧ Below w.heap.size w w') Tryz.func104 (by kernel_rfl) (by kernel_rfl) rfl (by simp only [List.map_toArray, List.map_cons, List.map_nil, (ev e59)]) ?_ (fun v w' h => hK v w' h.1 h.2))
          have hh := H.out.below hb
          obtain ⟨M, hM, hmp⟩ := hh.q.mp
          obtain rfl := twin_rise HG.out.uq hM
          refine (rall_any w Q.mm _ (by have := riseL_length HG.out.uq; have := hh.q.len; omega) hmp.rm).mono ?_
          rintro e w' ⟨A, c, rfl, ho, hw'⟩
          exact ⟨_, rfl, ⟨A, c, _, rfl, ho⟩, hw'⟩
        · intro a w hb hd hn K hK
          obtain ⟨_, eg, rfl⟩ := hd 14 52 (by kernel_rfl) (by kernel_rfl)
          obtain ⟨_, e55, ⟨A17, c17, b17, rfl, h17⟩⟩ := hd 17 55 (by kernel_rfl) (by kernel_rfl)
          obtain ⟨_, e60, ⟨A22, c22, b22, rfl, h22⟩⟩ := hd 22 60 (by kernel_rfl) (by kernel_rfl)
          refine st_if (wanted_at rfl (by kernel_rfl) eg) (st_call (vs := #[.slice A17 (riseL m.L).length c17, .slice A22 (riseL m.L).length c22]) (R := fun v w' => (v = .bool true) ∧ Below w.heap.size w w') Tryz.func103 (by kernel_rfl) (by kernel_rfl) rfl (by simp only [List.map_toArray, List.map_cons, List.map_nil, (ev e55), (ev e60)]) ?_ (fun v w' h => hK v w' h.1 h.2))
          have hh := H.out.below hb
          refine (samepl_any w A17 A22 c17 c22 (riseL m.L) (by have := riseL_length HG.out.uq; have := hh.q.len; omega) h17.row h22.row).mono ?_
          rintro e w' ⟨rfl, x, rfl⟩
          exact ⟨_, rfl, rfl, below_drewN (Below.refl _ _) x⟩
        · intro a w hb hd hn K hK
          obtain ⟨_, e52, rfl⟩ := hd 14 52 (by kernel_rfl) (by kernel_rfl)
          obtain ⟨_, e61, rfl⟩ := hd 23 61 (by kernel_rfl) (by kernel_rfl)
          exact st_if (wanted_none rfl) (st_pick rfl (ev e52) (by first | rfl | exact (ev e61)) (hK _ _ rfl (Below.refl _ _)))
        · intro a w hb hd hn K hK
          obtain ⟨_, e62, rfl⟩ := hd 24 62 (by kernel_rfl) (by kernel_rfl)
          exact st_if (wanted_none rfl) (st_move (.inl rfl) (ev e62) (hK _ _ rfl (Below.refl _ _)))
        · intro a w hb hd hn K hK
          obtain ⟨_, eg, rfl⟩ := hd 25 63 (by kernel_rfl) (by kernel_rfl)
          exact st_if (wanted_at rfl (by kernel_rfl) eg) (st_move (.inl rfl) (ev ((hn 0 (by kernel_rfl)).trans rfl)) (hK _ _ rfl (Below.refl _ _)))
        · intro a w hb hd hn K hK
          obtain ⟨_, eg, rfl⟩ := hd 25 63 (by kernel_rfl) (by kernel_rfl)
          obtain ⟨_, e64, rfl⟩ := hd 26 64 (by kernel_rfl) (by kernel_rfl)
          refine st_if (wanted_at rfl (by kernel_rfl) eg) (st_call (vs := #[.pointer (some ⟨F.s, 0, none⟩)]) (R := fun v w' => (v = .pointer (some ⟨F.d, 0, none⟩)) ∧ Below w.heap.size w w') Tryz.func27 (by kernel_rfl) (by kernel_rfl) rfl (by simp only [List.map_toArray, List.map_cons, List.map_nil, (ev e64)]) ?_ (fun v w' h => hK v w' h.1 h.2))
          have hh := H.out.below hb
          refine (dev_any _ w F sh _ m hh.a).mono ?_
          rintro e w' ⟨rfl, rfl⟩
          exact ⟨_, rfl, rfl, Below.refl _ _⟩
        · intro a w hb hd hn K hK
          obtain ⟨_, eg, rfl⟩ := hd 25 63 (by kernel_rfl) (by kernel_rfl)
          obtain ⟨_, e65, rfl⟩ := hd 27 65 (by kernel_rfl) (by kernel_rfl)
          refine st_if (wanted_at rfl (by kernel_rfl) eg) (st_call (vs := #[.pointer (some ⟨F.d, 0, none⟩)]) (R := fun v w' => (∃ A c, v = .slice A m.P.length c ∧ ZonesR w' A m.P) ∧ Below w.heap.size w w') Tryz.func106 (by kernel_rfl) (by kernel_rfl) rfl (by simp only [List.map_toArray, List.map_cons, List.map_nil, (ev e65)]) ?_ (fun v w' h => hK v w' h.1 h.2))
          have hh := H.out.below hb
          refine (zones_any _ w F.d sh m.P hh.a.dev).mono ?_
          rintro e w' ⟨A, c, q, rfl, hz⟩
          exact ⟨_, rfl, ⟨A, c, rfl, hz.zonesR⟩, hz.low⟩
        · intro a w hb hd hn K hK
          obtain ⟨_, eg, rfl⟩ := hd 25 63 (by kernel_rfl) (by kernel_rfl)
          exact st_if (wanted_at rfl (by kernel_rfl) eg) (st_move (.inl rfl) (ev ((hn 1 (by kernel_rfl)).trans rfl)) (hK _ _ rfl (Below.refl _ _)))
        · intro a w hb hd hn K hK
          obtain ⟨_, eg, rfl⟩ := hd 25 63 (by kernel_rfl) (by kernel_rfl)
          obtain ⟨_, e67, rfl⟩ := hd 29 67 (by kernel_rfl) (by kernel_rfl)
          exact st_if (wanted_at rfl (by kernel_rfl) eg) (st_nil rfl (ev e67) (hK _ _ rfl (Below.refl _ _)))
        · intro a w hb hd hn K hK
          obtain ⟨_, eg, rfl⟩ := hd 25 63 (by kernel_rfl) (by kernel_rfl)
          obtain ⟨_, e68, rfl⟩ := hd 30 68 (by kernel_rfl) (by kernel_rfl)
          exact st_if (wanted_at rfl (by kernel_rfl) eg) (st_field rfl (ev e68) (by go_simp; try rfl) (hK _ _ rfl (Below.refl _ _)))
        · intro a w hb hd hn K hK
          obtain ⟨_, eg, rfl⟩ := hd 25 63 (by kernel_rfl) (by kernel_rfl)
          obtain ⟨_, e69, rfl⟩ := hd 31 69 (by kernel_rfl) (by kernel_rfl)
          have hc := (H.out.below hb).q.top.cell 0
          exact st_if (wanted_at rfl (by kernel_rfl) eg) (st_load rfl (ev e69) (by go_simp) (hK _ _ rfl (Below.refl _ _)))
        · intro a w hb hd hn K hK
          obtain ⟨_, eg, rfl⟩ := hd 25 63 (by kernel_rfl) (by kernel_rfl)
          obtain ⟨_, e70, rfl⟩ := hd 32 70 (by kernel_rfl) (by kernel_rfl)
          refine st_if (wanted_at rfl (by kernel_rfl) eg) (st_call (vs := #[.pointer (some ⟨Q.d, 0, none⟩)]) (R := fun v w' => (∃ A c, v = .slice A m.P.length c ∧ ZonesR w' A m.P) ∧ Below w.heap.size w w') Tryz.func107 (by kernel_rfl) (by kernel_rfl) rfl (by simp only [List.map_toArray, List.map_cons, List.map_nil, (ev e70)]) ?_ (fun v w' h => hK v w' h.1 h.2))
          have hh := H.out.below hb
          refine (qzones_any _ w Q.d Q.l sh m.P hh.q.dev).mono ?_
          rintro e w' ⟨A, c, rfl, hz, hw'⟩
          exact ⟨_, rfl, ⟨A, c, rfl, hz⟩, hw'⟩
        · intro a w hb hd hn K hK
          obtain ⟨_, eg, rfl⟩ := hd 25 63 (by kernel_rfl) (by kernel_rfl)
          obtain ⟨_, e66, ⟨A28, c28, rfl, h28⟩⟩ := hd 28 66 (by kernel_rfl) (by kernel_rfl)
          obtain ⟨_, e71, ⟨A33, c33, rfl, h33⟩⟩ := hd 33 71 (by kernel_rfl) (by kernel_rfl)
          refine st_if (wanted_at rfl (by kernel_rfl) eg) (st_call (vs := #[.slice A28 m.P.length c28, .slice A33 m.P.length c33]) (R := fun v w' => (v = .bool true) ∧ Below w.heap.size w w') Tryz.func105 (by kernel_rfl) (by kernel_rfl) rfl (by simp only [List.map_toArray, List.map_cons, List.map_nil, (ev e66), (ev e71)]) ?_ (fun v w' h => hK v w' h.1 h.2))
          refine (samezones_any w A28 A33 c28 c33 m.P HP.out.1 HP.out.2 h28 h33).mono ?_
          rintro e w' ⟨rfl, x, rfl⟩
          exact ⟨_, rfl, rfl, below_drewN (Below.refl _ _) x⟩
        · intro a w hb hd hn K hK
          obtain ⟨_, e63, rfl⟩ := hd 25 63 (by kernel_rfl) (by kernel_rfl)
          obtain ⟨_, e72, rfl⟩ := hd 34 72 (by kernel_rfl) (by kernel_rfl)
          exact st_if (wanted_none rfl) (st_pick rfl (ev e63) (by first | rfl | exact (ev e72)) (hK _ _ rfl (Below.refl _ _)))
        · intro a w hb hd hn K hK
          obtain ⟨_, e73, rfl⟩ := hd 35 73 (by kernel_rfl) (by kernel_rfl)
          exact st_if (wanted_none rfl) (st_move (.inr rfl) (ev e73) (hK _ _ rfl (Below.refl _ _)))
      case fin =>
        intro vs a w' ha hb hR hn ho hs hd
        have h4 : a.tmps[4]? = some (.bool true) := (hn 36 4 (by kernel_rfl)).trans (congrArg some (hR 36 (by decide)))
        have HB6 := Lib.hid (hr.out.trans (hb.mono hr.out.size))
        obtain ⟨tm, df⟩ := a
        have hd' : df = [] := hd
        subst hd'
        clear ha hR hn ho hs hd hb
        go_wp2
        go_ret
        refine ⟨congrArg Ending.returned ?_, HB6.out⟩
        rw [Array.getD_eq_getD_getElem?, h4]
        rfl
end Go.Proofs.YtfabgbmbnmbjkaaGreatDoor

/- One call on both stores, whatever it is; do both hold the same. -/
namespace Go.Proofs.YtfabgbmbnmbjkaaGreatDoor
open Go.RowKit
set_option maxRecDepth 20000

/-- What a call does to a store. -/
def doM (sh : Sh) (m : StM) (o : Opv) : StM := if o.k % 8 = 5 then flushM m else if o.k % 8 = 6 then (markM sh m).2 else if o.k % 8 = 7 then (clearM m o.z).2 else (putM sh m (o.l.map (blockM sh.bl))).2
theorem readyM_sl (sh : Sh) (m : StM) (need : Int) : (readyM sh m need).2.sl = m.sl := by
  have h1 : (ready1 sh m need).sl = m.sl := by unfold ready1; split <;> rfl
  unfold readyM
  dsimp only
  split
  · exact h1
  · split <;> exact h1
theorem writeM_sl (sh : Sh) (m : StM) (l : List Pv) : (writeM sh m l).sl = m.sl := by
  unfold writeM
  dsimp only
  have h1 : (l.foldl stepW (headW sh m l)).sl = m.sl := (foldW_op l (headW sh m l)).2.2.2.1
  split
  · exact h1
  · exact h1
theorem putL_sl (sh : Sh) (f : Nat) (m : StM) (l : List Pv) : (putL sh f m l).2.sl = m.sl := by
  induction f generalizing m l with
  | zero => rfl
  | succ f ih =>
    unfold putL
    split
    · rfl
    · dsimp only
      split
      · rw [ih, writeM_sl, readyM_sl]
      · exact readyM_sl _ _ _
theorem Inv.put {sh : Sh} {m : StM} (hok : sh.ok) (l : List Pv) (h : Inv sh m) : Inv sh (putM sh m l).2 := by
  have h1 := h.w.putM hok l h.g h.o
  refine ⟨?_, h1.1, h1.2, ?_⟩
  · unfold putM
    split
    · exact (putL_good hok _ h.g (Nat.le_refl _)).1
    · exact h.g
  · have hs := h.s
    unfold SlOk at hs ⊢
    have : (putM sh m l).2.sl = m.sl := by
      unfold putM
      split
      · exact putL_sl _ _ _ _
      · rfl
    rw [this]
    exact hs
theorem Inv.call {sh : Sh} {m : StM} (hok : sh.ok) (o : Opv) (h : Inv sh m) : Inv sh (doM sh m o) := by
  unfold doM
  split
  · exact h.flush.1
  · split
    · exact h.mark.1
    · split
      · exact (h.clear _).1
      · exact h.put hok _

section
variable {Ya : Nat → Prop} {w w1 w' : World} {F : StF} {Q : QF} {sh : Sh} {n n' nq nq' : Nat} {m : StM}
theorem BothS.mono (h : BothS Ya w F Q sh n nq m) (hn : n ≤ n') (hn' : n' ≤ 1000000) (hq : nq ≤ nq') (hq' : nq' ≤ 900000) : BothS Ya w F Q sh n' nq' m := ⟨h.a.mono hn hn', h.q.mono hq hq', h.lt⟩
theorem Went.mono (h : Went Ya w F Q sh n nq m w') (hn : n ≤ n') (hn' : n' ≤ 1000000) (hq : nq ≤ nq') (hq' : nq' ≤ 900000) : Went Ya w F Q sh n' nq' m w' := by
  obtain ⟨Y, h1, h2, h3⟩ := h
  exact ⟨Y, h1.mono hn hn' hq hq', h2, h3⟩
theorem Went.since (h : Went Ya w1 F Q sh n nq m w') (hb : Below w.heap.size w w1) : Went Ya w F Q sh n nq m w' := by
  obtain ⟨Y, h1, h2, h3⟩ := h
  exact ⟨Y, h1, fun b hy => (h2 b hy).imp id (fun h => Nat.le_trans hb.size h), (Kp.of_below (S := fun b => Ya b ∨ Q.T b) hb).trans h3 (fun _ _ h => h)⟩
end

theorem both_does (Ya Xa : Nat → Prop) (w : World) (F : StF) (Q : QF) (sh : Sh) (n nq : Nat) (m : StM) (hi : Inv sh m) (h : BothS Ya w F Q sh n nq m) (o : Opv) (ho : OpIn o) (Ad : Option Addr) (cd : Nat) (hp : PutsAt Xa w Ad o.l) (hX : ∀ b, Xa b → b < w.heap.size ∧ ¬ Ya b ∧ ¬ Q.T b) (hll : o.l.length ≤ 30) (hd : ∀ p ∈ o.l, p.da.length ≤ 200) (hn : n + 150 ≤ 1000000) (hnq : nq + 30 ≤ 100000) :
    Calls Tryz.prog 47 #[.pointer (some ⟨F.s, 0, none⟩), .pointer (some ⟨Q.r, 0, none⟩), .agg #[.int .u8 o.k, .slice Ad o.l.length cd, .int .i64 o.z]] w (fun e w' => e = .returned (.bool true) ∧ Went Ya w F Q sh (n + 150) (nq + 30) (doM sh m o) w') := by
  have hk := ho.k
  unfold doM
  by_cases h5 : o.k % 8 = 5
  · rw [if_pos h5]
    exact (does_flush Ya w F Q sh n nq m h o.k hk h5 Ad _ cd o.z).mono fun e w' h => ⟨h.1, h.2.mono (by omega) hn (by omega) (by omega)⟩
  · rw [if_neg h5]
    by_cases h6 : o.k % 8 = 6
    · rw [if_pos h6]
      refine (does_mark Ya w F Q sh n nq m hi (fun p hp => (h.a.lm.names p hp).1) ?_ h o.k hk h6 Ad _ cd o.z).mono fun e w' h => ⟨h.1, h.2.mono (by omega) hn (by omega) (by omega)⟩
      have := h.q.len
      omega
    · rw [if_neg h6]
      by_cases h7 : o.k % 8 = 7
      · rw [if_pos h7]
        exact (does_clear Ya w F Q sh n nq m hi.g h o.k hk h7 Ad _ cd o.z).mono fun e w' h => ⟨h.1, h.2.mono (by omega) hn (by omega) (by omega)⟩
      · rw [if_neg h7]
        refine (does_put Ya Xa w F Q sh n nq m hi h o.k hk (by omega) Ad o.l cd o.z hp hX hll ho.l hd (by omega) (by omega)).mono fun e w' h => ⟨h.1, h.2.mono (by omega) hn (by omega) (by omega)⟩

set_option maxHeartbeats 2000000 in
theorem Does_any (Ya Xa : Nat → Prop) (w : World) (F : StF) (Q : QF) (sh : Sh) (n nq : Nat) (m : StM) (hi : Inv sh m) (h : BothS Ya w F Q sh n nq m) (o : Opv) (ho : OpIn o) (Ad : Option Addr) (cd : Nat) (hp : PutsAt Xa w Ad o.l) (hX : ∀ b, Xa b → b < w.heap.size ∧ ¬ Ya b ∧ ¬ Q.T b) (hll : o.l.length ≤ 30) (hd : ∀ p ∈ o.l, p.da.length ≤ 200) (hn : n + 150 ≤ 1000000) (hnq : nq + 30 ≤ 100000) :
    Calls Tryz.prog 14 #[.pointer (some ⟨F.s, 0, none⟩), .pointer (some ⟨Q.r, 0, none⟩), .agg #[.int .u8 o.k, .slice Ad o.l.length cd, .int .i64 o.z]] w (fun e w' => e = .returned (.int .i64 1) ∧ Went Ya w F Q sh (n + 150) (nq + 30) (doM sh m o) w') := by
  have hal : Below w.heap.size w (w.alloc (.cells #[.int .u8 o.k, .slice Ad o.l.length cd, .int .i64 o.z] 34)) := (Below.refl _ w).alloc (Nat.le_refl _) _
  have k0 := Blk.new w 34 #[.int .u8 o.k, .slice Ad o.l.length cd, .int .i64 o.z]
  have c0 := k0.cell 0
  have c1 := k0.cell 1
  have c2 := k0.cell 2
  have HAL := Lib.hid hal
  have HD := Lib.hid (both_does Ya Xa _ F Q sh n nq m hi (h.below hal) o ho Ad cd (hp.below hal) (fun b hb => ⟨Nat.lt_of_lt_of_le (hX b hb).1 hal.size, (hX b hb).2⟩) hll hd hn hnq)
  clear hi h ho hp hX hll hd hn hnq hal k0
  generalize o.l.length = ln at *
  generalize o.k = ok at *
  generalize o.z = oz at *
  go_enter Tryz.func14, Tryz.ntmps14
  go_wp2_with (fail)
  refine HD.out.mono ?_
  rintro e w2 ⟨rfl, hw⟩
  have HW := Lib.hid (hw.since HAL.out)
  clear hw HD c0 c1 c2
  go_wp2_with (fail)
  refine (truth_any w2 true).mono ?_
  rintro e w3 ⟨rfl, rfl⟩
  simp only [if_true]
  go_wp2
  go_ret
  exact ⟨rfl, HW.out⟩

set_option maxHeartbeats 2000000 in
theorem Same_any (Ya : Nat → Prop) (w : World) (F : StF) (Q : QF) (sh : Sh) (n nq : Nat) (m : StM) (hg : Good sh m) (h : BothS Ya w F Q sh n nq m) :
    Calls Tryz.prog 15 #[.pointer (some ⟨F.s, 0, none⟩), .pointer (some ⟨Q.r, 0, none⟩)] w (fun e w' => e = .returned (.int .i64 1) ∧ Below w.heap.size w w') := by
  have HS := Lib.hid (both_same Ya w F Q sh n nq m hg h)
  clear h hg
  go_enter Tryz.func15, Tryz.ntmps15
  go_wp2_with (fail)
  refine HS.out.mono ?_
  rintro e w2 ⟨rfl, hb⟩
  have HB := Lib.hid hb
  clear hb HS
  go_wp2_with (fail)
  refine (truth_any w2 true).mono ?_
  rintro e w3 ⟨rfl, rfl⟩
  simp only [if_true]
  go_wp2
  go_ret
  exact ⟨rfl, HB.out⟩
end Go.Proofs.YtfabgbmbnmbjkaaGreatDoor

/- StoreDoes: the walk. -/
namespace Go.Proofs.YtfabgbmbnmbjkaaGreatDoor
open Go.RowKit
set_option maxRecDepth 20000

/-- Both stores behind some calls; nothing of W has changed. -/
structure DoS (w1 wr : World) (F : StF) (Q : QF) (sh : Sh) (k : Nat) (m : StM) : Prop where
  st : ∃ Ya : Nat → Prop, BothS Ya wr F Q sh (150 * k) (30 * k) m ∧ (∀ b, Ya b → w1.heap.size ≤ b) ∧ ∀ b, Q.T b → w1.heap.size ≤ b
  inv : Inv sh m
  low : Below w1.heap.size w1 wr
theorem DoS.below {w1 wr wn : World} {F : StF} {Q : QF} {sh : Sh} {k : Nat} {m : StM} (h : DoS w1 wr F Q sh k m) (hb : Below wr.heap.size wr wn) : DoS w1 wn F Q sh k m := by
  obtain ⟨Ya, h1, h2⟩ := h.st
  exact ⟨⟨Ya, h1.below hb, h2⟩, h.inv, h.low.trans (hb.mono h.low.size)⟩
theorem DoS.went {w1 wr wn : World} {F : StF} {Q : QF} {sh : Sh} {k : Nat} {m' : StM} {Ya : Nat → Prop} (hy : ∀ b, Ya b → w1.heap.size ≤ b) (hq : ∀ b, Q.T b → w1.heap.size ≤ b) (low : Below w1.heap.size w1 wr) (hi : Inv sh m') (h : Went Ya wr F Q sh (150 * k + 150) (30 * k + 30) m' wn) : DoS w1 wn F Q sh (k + 1) m' := by
  obtain ⟨Y, h1, h2, h3⟩ := h
  refine ⟨⟨Y, ?_, fun b hb => ?_, hq⟩, hi, Kp.below low h3 low.size (fun b hb e => ?_)⟩
  · rw [show 150 * (k + 1) = 150 * k + 150 by omega, show 30 * (k + 1) = 30 * k + 30 by omega]
    exact h1
  · rcases h2 b hb with h | h
    · exact hy b h
    · exact Nat.le_trans low.size h
  · rcases e with e | e
    · have := hy b e; omega
    · have := hq b e; omega
theorem dataM_byte {sh : Sh} {m : StM} (hg : Good sh m) (hf : ∀ i, i < m.P.length → PartOk sh (m.P.getD i pt0)) {nm : Int × Int} {b : List Int} (h : dataM m nm = some b) : ∀ x ∈ b, ByteOk x := by
  unfold dataM at h
  cases ha : atOf m.L nm with
  | none => rw [ha] at h; cases h
  | some a =>
    rw [ha] at h
    obtain ⟨p, hp, _, rfl⟩ := (atOf_some hg.uq).1 ha
    obtain ⟨a1, a2, a3, a4⟩ := hg.at_ p hp
    have hb : (m.P.getD p.z.toNat pt0).bs.getD p.k.toNat [] = b := Option.some.inj h
    rw [← hb]
    exact (hf p.z.toNat (by have := hg.pl; omega)).byt _ (getD_mem (d := []) a4)
theorem Got.nay {sh : Sh} {m : StM} {nm : Int × Int} {w w' : World} {e : Ending} (h : Got sh m nm w e w') (hd : dataM m nm = none) : e = .returned (.tuple #[.slice none 0 0, .bool false]) ∧ Below w.heap.size w w' := ⟨h.1 hd, h.2.2⟩
theorem Got.yea {sh : Sh} {m : StM} {nm : Int × Int} {w w' : World} {e : Ending} {b : List Int} (h : Got sh m nm w e w') (hd : dataM m nm = some b) :
    ∃ A c, e = .returned (.tuple #[.slice A sh.bl c, .bool true]) ∧ Reads w' w'.heap.size 1 A sh.bl (nums .u8 b) ∧ Below w.heap.size w w' := by
  obtain ⟨A, c, e1, h1, h2⟩ := h.2.1 b hd
  have hr := h1.reads
  rw [h2] at hr
  exact ⟨A, c, e1, hr, h.2.2⟩

set_option maxHeartbeats 8000000 in
theorem does_law (w : World) (z zb bl rs : Int) (hz : -9223372036854775808 ≤ z ∧ z ≤ 9223372036854775807) (hb : -9223372036854775808 ≤ bl ∧ bl ≤ 9223372036854775807) (A : Option Addr) (c : Nat) (l : List Opv) (_hc : l.length ≤ c) (hp : SOpsAt (fun b => b < w.heap.size) w A l) (hv : ∀ o ∈ l, OpIn o) :
    Calls Tryz.prog 3 #[.agg #[.int .i64 z, .int .i64 zb, .int .i64 bl, .int .i64 rs], .slice A l.length c] w (Makes (.bool true) w) := by
  have HNW := Lib.hid (fun u => snew_any z zb bl rs u hz hb)
  have HQW := Lib.hid (fun u => qsnew_any z zb bl rs u hz)
  have HK := Lib.hid (fun u => known_any u)
  have HV := Lib.hid hv
  have HSB := Lib.hid (Blk.new w 23 #[.int .i64 z, .int .i64 zb, .int .i64 bl, .int .i64 rs])
  have HBW : Hid (Below w.heap.size w (w.alloc (.cells #[.int .i64 z, .int .i64 zb, .int .i64 bl, .int .i64 rs] 23))) := (Below.refl _ _).alloc (Nat.le_refl _) _
  have HP := Lib.hid (hp.below HBW.out)
  have HH := Lib.hid (heavys_any _ (w.alloc (.cells #[.int .i64 z, .int .i64 zb, .int .i64 bl, .int .i64 rs] 23)) z zb bl rs A c l HP.out)
  clear hp hv hz hb _hc
  go_enter Tryz.func3, Tryz.ntmps3
  cases hh : heavysM z zb bl l with
  | true =>
    rw [hh] at HH
    simp only [if_true] at HH
    clear hh
    go_wp2_with (fail)
    refine HH.out.mono ?_
    rintro e w2 ⟨rfl, hb2⟩
    have HB2 := Lib.hid (HBW.out.trans (hb2.mono HBW.out.size))
    clear hb2
    go_wp2_with (fail)
    refine (HK.out _).mono ?_
    rintro e w3 ⟨rfl, hb3⟩
    have HB3 := Lib.hid (HB2.out.trans (hb3.mono HB2.out.size))
    clear hb3
    go_wp2
    go_ret
    exact ⟨rfl, HB3.out⟩
  | false =>
    rw [hh] at HH
    simp only [Bool.false_eq_true, if_false] at HH
    have HHV := Lib.hid hh
    clear hh
    go_wp2_with (fail)
    generalize w.alloc (.cells #[.int .i64 z, .int .i64 zb, .int .i64 bl, .int .i64 rs] 23) = w1 at *
    refine HH.out.mono ?_
    rintro e w2 ⟨rfl, hb2⟩
    have HB2 := Lib.hid hb2
    clear hb2 HH
    go_wp2_with (fail)
    refine (HK.out _).mono ?_
    rintro e w3 ⟨rfl, hb3⟩
    have HB3 : Hid (Below w1.heap.size w1 w3) := HB2.out.trans (hb3.mono HB2.out.size)
    have hsb := HSB.out.below HB3.out HSB.out.lt
    have s0 : w3.cell? ⟨w.heap.size, 0, none⟩ = some (.int .i64 z) := hsb.cell 0
    have s1 : w3.cell? ⟨w.heap.size, 1, none⟩ = some (.int .i64 zb) := hsb.cell 1
    have s2 : w3.cell? ⟨w.heap.size, 2, none⟩ = some (.int .i64 bl) := hsb.cell 2
    have s3 : w3.cell? ⟨w.heap.size, 3, none⟩ = some (.int .i64 rs) := hsb.cell 3
    clear hb3 hsb HB2
    go_wp2_with (fail)
    refine (HNW.out w3).mono ?_
    rintro e w4 ⟨hy, hn, hb4⟩
    have HB4 : Hid (Below w1.heap.size w1 w4) := HB3.out.trans (hb4.mono HB3.out.size)
    have hsb := HSB.out.below HB4.out HSB.out.lt
    have s0 : w4.cell? ⟨w.heap.size, 0, none⟩ = some (.int .i64 z) := hsb.cell 0
    have s1 : w4.cell? ⟨w.heap.size, 1, none⟩ = some (.int .i64 zb) := hsb.cell 1
    have s2 : w4.cell? ⟨w.heap.size, 2, none⟩ = some (.int .i64 bl) := hsb.cell 2
    have s3 : w4.cell? ⟨w.heap.size, 3, none⟩ = some (.int .i64 rs) := hsb.cell 3
    have HY := Lib.hid hy
    have HN := Lib.hid hn
    have H34 := Lib.hid hb4
    clear hb4 hsb hy hn
    cases hr : rightB z zb bl rs with
    | false =>
      obtain rfl := HN.out hr
      go_wp2_with (fail)
      refine (HQW.out w4).mono ?_
      rintro e w5 ⟨_, hn5, hb5⟩
      obtain rfl := hn5 hr
      have HE : Hid (Below w.heap.size w w5) := HBW.out.trans ((HB4.out.trans (hb5.mono HB4.out.size)).mono HBW.out.size)
      clear hr hb5 hn5 s0 s1 s2 s3
      go_wp2
      go_ret
      exact ⟨rfl, HE.out⟩
    | true =>
      obtain ⟨F, sh, rfl, rfl, rfl, rfl, rfl, hst, hown, hgood⟩ := HY.out hr
      have HST := Lib.hid (And.intro hst hown)
      have hok := hst.dev.ok
      have hbk := hok.blk
      have hfa := hok.facts
      have HOK := Lib.hid (And.intro hok hfa)
      have HR := Lib.hid hr
      clear hr hst hown
      go_wp2_with (fail)
      refine (HQW.out w4).mono ?_
      rintro e w5 ⟨hy5, _, hb5⟩
      obtain ⟨Q, sh', e1, e2, e3, e4, rfl, hT, hqs⟩ := hy5 HR.out
      obtain rfl : sh' = sh := by
        obtain ⟨a1, a2, a3, a4⟩ := sh
        obtain ⟨b1, b2, b3, b4⟩ := sh'
        simp only at e1 e2 e3 e4
        congr 1 <;> omega
      have HB5 : Hid (Below w1.heap.size w1 w5) := HB4.out.trans (hb5.mono HB4.out.size)
      have h3s : w1.heap.size ≤ w3.heap.size := HB3.out.size
      have h4s : w3.heap.size ≤ w4.heap.size := H34.out.size
      have h5s : w4.heap.size ≤ w5.heap.size := hb5.size
      have HS5 : Hid (DoS w1 w5 F Q sh' 0 (newM sh' (P0 sh'))) := by
        have hwk := Wk.new sh' HOK.out.1
        refine ⟨⟨fun b => w3.heap.size ≤ b ∧ b < w4.heap.size, ⟨HST.out.1.step hb5 (fun b hx => ⟨hx.1, ?_⟩), hqs.move (fun i hi hy => ⟨fun e => ?_, rfl⟩) (fun b hb e => ?_) (Nat.le_refl _), fun b hy => ?_⟩, fun b hy => ?_, fun b hT' => ?_⟩, ⟨hgood, hwk.1, hwk.2, .inl rfl⟩, HB5.out⟩
        · by_cases h : b < w4.heap.size
          · refine .inl ?_
            have h1 := hx.2
            show b < w3.heap.size
            omega
          · exact .inr (by omega)
        · have hy' : w4.heap.size ≤ i := hy
          omega
        · omega
        · omega
        · omega
        · have := hT b hT'
          omega
      have hll : l.length ≤ 40 := (heavys_false HHV.out).2.1
      clear hy5 hb5 hT hqs HST HNW HQW HK s0 s1 s2 s3 hgood HY HN e1 e2 e3 e4
      go_wp2_with (fail)
      go_loopw [7] (fun i wr => ∃ (k : Nat) (m : StM), k ≤ l.length ∧ i = .int .i64 k ∧ Hid (DoS w1 wr F Q sh' k m)) (fun i _ => l.length - (intOf i).toNat)
      case atStart => exact ⟨0, _, Nat.zero_le _, rfl, HS5⟩
      case round =>
        clear HS5
        obtain ⟨k, m, hk, rfl, hr⟩ := hrel
        by_cases hlt : k < l.length
        · have HLT := Lib.hid hlt
          obtain ⟨ad, Ad, cd, rfl, hat⟩ := HP.out k hlt
          obtain ⟨o, ho⟩ : ∃ o, l.getD k op0 = o := ⟨_, rfl⟩
          have hol := (heavys_false HHV.out).2.2 _ (getD_mem (d := op0) hlt)
          have HOI := Lib.hid (HV.out _ (getD_mem (d := op0) hlt))
          rw [ho] at hat hol HOI
          have HOL := Lib.hid hol
          have hx1 : (ad.add (k * 3)).block < w1.heap.size := Nat.lt_of_lt_of_le hat.x HBW.out.size
          have HCU : Hid (∀ u, Below w1.heap.size w1 u → u.cell? (ad.add (k * 3)) = some (.int .u8 o.k) ∧ u.cell? ⟨(ad.add (k * 3)).block, (ad.add (k * 3)).off + 1, none⟩ = some (.slice Ad o.l.length cd) ∧ u.cell? ⟨(ad.add (k * 3)).block, (ad.add (k * 3)).off + 2, none⟩ = some (.int .i64 o.z)) := fun u hu =>
            ⟨(hu.cell (p := ad.add (k * 3)) hx1).trans hat.c0, (hu.cell (p := ⟨(ad.add (k * 3)).block, (ad.add (k * 3)).off + 1, none⟩) hx1).trans hat.c1, (hu.cell (p := ⟨(ad.add (k * 3)).block, (ad.add (k * 3)).off + 2, none⟩) hx1).trans hat.c2⟩
          have HPA : Hid (∀ u, Below w1.heap.size w1 u → PutsAt (fun b => b < w1.heap.size) u Ad o.l) := fun u hu =>
            (hat.pa.more (fun b hb => Nat.lt_of_lt_of_le hb HBW.out.size)).kp (S := fun b => w1.heap.size ≤ b) ⟨hu.os, hu.tape, hu.output, hu.size, fun b hb hn => hu.block b (Nat.lt_of_not_le hn)⟩ (fun b h1 h2 => by omega)
          have HD : Hid (Calls Tryz.prog 14 #[.pointer (some ⟨F.s, 0, none⟩), .pointer (some ⟨Q.r, 0, none⟩), .agg #[.int .u8 o.k, .slice Ad o.l.length cd, .int .i64 o.z]] wr (fun e w' => e = .returned (.int .i64 1) ∧ DoS w1 w' F Q sh' (k + 1) (doM sh' m o))) := by
            obtain ⟨Ya, h1, h2, h3⟩ := hr.out.st
            have hsz := hr.out.low.size
            refine (Does_any Ya (fun b => b < w1.heap.size) wr F Q sh' (150 * k) (30 * k) m hr.out.inv h1 o HOI.out Ad cd (HPA.out wr hr.out.low) (fun b hb => ⟨by omega, fun e => by have := h2 b e; omega, fun e => by have := h3 b e; omega⟩) HOL.out.1 HOL.out.2 (by omega) (by omega)).mono ?_
            rintro e w' ⟨rfl, hw⟩
            exact ⟨rfl, DoS.went h2 h3 hr.out.low (hr.out.inv.call HOK.out.1 o) hw⟩
          obtain ⟨p0, p1, p2⟩ := HCU.out wr hr.out.low
          clear hat ho hol hx1 hr
          go_wp2_with (fail)
          refine HD.out.mono ?_
          rintro e w6 ⟨rfl, hd6⟩
          have HS6 := Lib.hid hd6
          have HSA : Hid (Calls Tryz.prog 15 #[.pointer (some ⟨F.s, 0, none⟩), .pointer (some ⟨Q.r, 0, none⟩)] w6 (fun e w' => e = .returned (.int .i64 1) ∧ Below w6.heap.size w6 w')) := by
            obtain ⟨Ya, h1, _⟩ := hd6.st
            exact Same_any Ya w6 F Q sh' _ _ _ hd6.inv.g h1
          clear hd6 HD p0 p1 p2
          go_wp2_with (fail)
          refine HSA.out.mono ?_
          rintro e w7 ⟨rfl, hb7⟩
          have HS7 := Lib.hid (HS6.out.below hb7)
          clear hb7 HSA HS6
          generalize doM sh' m o = m' at *
          obtain ⟨p0, p1, p2⟩ := HCU.out w7 HS7.out.low
          have hjl := HOL.out.1
          go_wp2_with (fail)
          go_loopw [10] (fun i wr => ∃ j : Nat, j ≤ o.l.length ∧ i = .int .i64 j ∧ Hid (Below w7.heap.size w7 wr)) (fun i _ => o.l.length - (intOf i).toNat)
          case atStart => exact ⟨0, Nat.zero_le _, rfl, Below.refl _ _⟩
          case round =>
            obtain ⟨j, hj, rfl, hr⟩ := hrel
            have HW7 : Hid (Below w1.heap.size w1 wr) := HS7.out.low.trans (hr.out.mono HS7.out.low.size)
            obtain ⟨p0, p1, p2⟩ := HCU.out wr HW7.out
            by_cases hlt2 : j < o.l.length
            · obtain ⟨ap, Ap, cp, rfl, hap⟩ := HPA.out wr HW7.out j hlt2
              have HLJ := Lib.hid hlt2
              obtain ⟨p, hp⟩ : ∃ p, o.l.getD j pv0 = p := ⟨_, rfl⟩
              have HPV := Lib.hid (HOI.out.l _ (getD_mem (d := pv0) hlt2))
              rw [hp] at hap HPV
              have hy1 : (ap.add (j * 4)).block < w1.heap.size := hap.x
              have HCP : Hid (∀ u, Below wr.heap.size wr u → u.cell? ⟨(ad.add (k * 3)).block, (ad.add (k * 3)).off + 1, none⟩ = some (.slice (some ap) o.l.length cd) ∧ u.cell? (ap.add (j * 4)) = some (.int .u32 p.t) ∧ u.cell? ⟨(ap.add (j * 4)).block, (ap.add (j * 4)).off + 1, none⟩ = some (.int .u64 p.b)) := fun u hu =>
                ⟨below_keep hu p1, below_keep hu hap.c0, below_keep hu hap.c1⟩
              have ks := HCP.out wr (Below.refl _ _)
              have HSR := Lib.hid (HS7.out.below hr.out)
              have HG1 : Hid (Calls Tryz.prog 16 #[.pointer (some ⟨F.s, 0, none⟩), .int .u32 p.t, .int .u64 p.b] wr.drew (Got sh' m' (p.t, p.b) wr.drew)) := by
                obtain ⟨Ya, h1, _⟩ := HSR.out.st
                exact get_any _ wr.drew F sh' _ m' (p.t, p.b) HPV.out.n HSR.out.inv.g h1.drew.a
              have HG2 : Hid (∀ u, Below wr.heap.size wr u → Calls Tryz.prog 17 #[.pointer (some ⟨Q.r, 0, none⟩), .int .u32 p.t, .int .u64 p.b] u.drew (Got sh' m' (p.t, p.b) u.drew)) := fun u hu => by
                obtain ⟨Ya, h1, _⟩ := HSR.out.st
                exact qsget_any _ _ Q sh' _ m' (p.t, p.b) HSR.out.inv.g (h1.below hu).drew.q
              have HBR := Lib.hid hr.out
              have HBY : Hid (∀ b, dataM m' (p.t, p.b) = some b → ∀ x ∈ b, ByteOk x) := fun b hb => by
                obtain ⟨Ya, h1, _⟩ := HSR.out.st
                exact dataM_byte HSR.out.inv.g (fun i hi => h1.a.dev.fit hi) hb
              clear hap hp hy1 hr p0 p1 p2 HSR
              obtain ⟨wk, rfl⟩ : ∃ wk, wk = wr := ⟨_, rfl⟩
              cases hd : dataM m' (p.t, p.b) with
              | none =>
                have HDa := Lib.hid hd
                clear hd
                go_wp2_with (fail)
                go_region_held3 (fun u => u.cell? ⟨(ad.add (k * 3)).block, (ad.add (k * 3)).off + 1, none⟩ = some (.slice (some ap) o.l.length cd) ∧ u.cell? (ap.add (j * 4)) = some (.int .u32 p.t) ∧ u.cell? ⟨(ap.add (j * 4)).block, (ap.add (j * 4)).off + 1, none⟩ = some (.int .u64 p.b))
                  (first | exact ks | exact ks2)
                  (first
                    | (go_at_call 16
                       with_reducible refine HG1.out.mono ?_
                       rintro e w9 hgot
                       obtain ⟨rfl, hb⟩ := hgot.nay HDa.out
                       have hbb : Below wk.heap.size wk w9 := (Below.refl _ wk).drew.trans hb
                       have ks2 := HCP.out w9 hbb
                       have HBB := Lib.hid hbb
                       clear hgot hb hbb))
                all_goals
                  have ks := HCP.out w9 HBB.out
                  have HG3 := Lib.hid (HG2.out w9 HBB.out)
                  clear ks2 HG1 HG2
                  go_wp2_with (fail)
                  go_region_held3 (fun u => u.cell? ⟨(ad.add (k * 3)).block, (ad.add (k * 3)).off + 1, none⟩ = some (.slice (some ap) o.l.length cd) ∧ u.cell? (ap.add (j * 4)) = some (.int .u32 p.t) ∧ u.cell? ⟨(ap.add (j * 4)).block, (ap.add (j * 4)).off + 1, none⟩ = some (.int .u64 p.b))
                    (first | exact ks | exact ks2)
                    (first
                      | (go_at_call 17
                         with_reducible refine HG3.out.mono ?_
                         rintro e w10 hgot
                         obtain ⟨rfl, hb⟩ := hgot.nay HDa.out
                         have hbb : Below wk.heap.size wk w10 := HBB.out.trans (((Below.refl _ w9).drew.trans hb).mono HBB.out.size)
                         have ks2 := HCP.out w10 hbb
                         have HBC := Lib.hid hbb
                         clear hgot hb hbb))
                  all_goals
                    have HB10 : Hid (∀ n, Below w7.heap.size w7 (w10.drewN n)) := fun n => below_drewN (HBR.out.trans (HBC.out.mono HBR.out.size)) n
                    have HSM : Hid (∀ n, Calls Tryz.prog 18 #[.slice none 0 0, .slice none 0 0] (w10.drewN n) (fun e w' => e = .returned (.bool true) ∧ w' = w10.drewN n)) := fun n => by
                      have hsm := same_any (w10.drewN n) none 0 0 [] none 0 0 [] Reads.none_ Reads.none_ (fun x hx => by cases hx) (fun x hx => by cases hx)
                      rw [decide_eq_true rfl] at hsm
                      exact hsm.mono (fun e w' h => ⟨h.1, h.2.symm⟩)
                    clear ks ks2 HG3 HBB HBC
                    go_wp2_with (go_at_call 18; refine (HSM.out 0).mono ?_; rintro e w11 ⟨rfl, rfl⟩)
                    go_roundw
                    case rel => exact ⟨j + 1, HLJ.out, by go_num, HB10.out 0⟩
                    case measure => have := HLJ.out; simp [intOf]; omega
              | some b =>
                have HDa := Lib.hid hd
                have HBB0 := Lib.hid (HBY.out b hd)
                clear hd
                go_wp2_with (fail)
                go_region_held3 (fun u => u.cell? ⟨(ad.add (k * 3)).block, (ad.add (k * 3)).off + 1, none⟩ = some (.slice (some ap) o.l.length cd) ∧ u.cell? (ap.add (j * 4)) = some (.int .u32 p.t) ∧ u.cell? ⟨(ap.add (j * 4)).block, (ap.add (j * 4)).off + 1, none⟩ = some (.int .u64 p.b))
                  (first | exact ks | exact ks2)
                  (first
                    | (go_at_call 16
                       with_reducible refine HG1.out.mono ?_
                       rintro e w9 hgot
                       obtain ⟨A9, c9, rfl, hrd, hb⟩ := hgot.yea HDa.out
                       have HR9 := Lib.hid hrd
                       have hbb : Below wk.heap.size wk w9 := (Below.refl _ wk).drew.trans hb
                       have ks2 := HCP.out w9 hbb
                       have HBB := Lib.hid hbb
                       clear hgot hb hbb hrd))
                all_goals
                  have ks := HCP.out w9 HBB.out
                  have HG3 := Lib.hid (HG2.out w9 HBB.out)
                  clear ks2 HG1 HG2
                  go_wp2_with (fail)
                  go_region_held3 (fun u => u.cell? ⟨(ad.add (k * 3)).block, (ad.add (k * 3)).off + 1, none⟩ = some (.slice (some ap) o.l.length cd) ∧ u.cell? (ap.add (j * 4)) = some (.int .u32 p.t) ∧ u.cell? ⟨(ap.add (j * 4)).block, (ap.add (j * 4)).off + 1, none⟩ = some (.int .u64 p.b))
                    (first | exact ks | exact ks2)
                    (first
                      | (go_at_call 17
                         with_reducible refine HG3.out.mono ?_
                         rintro e w10 hgot
                         obtain ⟨A0, c0, rfl, hrd, hb⟩ := hgot.yea HDa.out
                         have HR0 := Lib.hid (And.intro hrd (((HR9.out.below ((Below.refl _ w9).drew.trans hb)).more ((Below.refl _ w9).drew.trans hb).size)))
                         have hbb : Below wk.heap.size wk w10 := HBB.out.trans (((Below.refl _ w9).drew.trans hb).mono HBB.out.size)
                         have ks2 := HCP.out w10 hbb
                         have HBC := Lib.hid hbb
                         clear hgot hb hbb hrd))
                  all_goals
                    have HB10 : Hid (∀ n, Below w7.heap.size w7 (w10.drewN n)) := fun n => below_drewN (HBR.out.trans (HBC.out.mono HBR.out.size)) n
                    have HSM : Hid (∀ n, Calls Tryz.prog 18 #[.slice A9 sh'.bl c9, .slice A0 sh'.bl c0] (w10.drewN n) (fun e w' => e = .returned (.bool true) ∧ w' = w10.drewN n)) := fun n => by
                      have hsm := same_any (w10.drewN n) A9 sh'.bl c9 b A0 sh'.bl c0 b (HR0.out.2.drewN n) (HR0.out.1.drewN n) HBB0.out HBB0.out
                      rw [decide_eq_true rfl] at hsm
                      exact hsm.mono (fun e w' h => ⟨h.1, h.2.symm⟩)
                    clear ks ks2 HG3 HBB HBC
                    go_wp2_with (go_at_call 18; refine (HSM.out 0).mono ?_; rintro e w11 ⟨rfl, rfl⟩)
                    go_roundw
                    case rel => exact ⟨j + 1, HLJ.out, by go_num, HB10.out 0⟩
                    case measure => have := HLJ.out; simp [intOf]; omega
            · obtain rfl : j = o.l.length := by omega
              have HSE := Lib.hid (HS7.out.below hr.out)
              clear hr HS7
              go_wp2_with (fail)
              go_roundw
              case rel => exact ⟨k + 1, m', HLT.out, by go_num, HSE⟩
              case measure => have := HLT.out; simp [intOf]; omega
        · obtain rfl : k = l.length := by omega
          have HE : Hid (Below w.heap.size w wr) := HBW.out.trans (hr.out.low.mono HBW.out.size)
          clear hr
          go_wp2
          go_ret
          exact ⟨rfl, HE.out⟩
end Go.Proofs.YtfabgbmbnmbjkaaGreatDoor

