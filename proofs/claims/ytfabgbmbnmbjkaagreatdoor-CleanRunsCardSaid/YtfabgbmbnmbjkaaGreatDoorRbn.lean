/- Joined texts: Dv Dw Dx. -/
import Derived.Test.YtfabgbmbnmbjkaaGreatDoorRbl
import Derived.Test.YtfabgbmbnmbjkaaGreatDoorRbm
import Derived.Test.YtfabgbmbnmbjkaaGreatDoorRay
import Derived.Test.YtfabgbmbnmbjkaaGreatDoorRbh
import Derived.Test.YtfabgbmbnmbjkaaGreatDoorRbe
import Derived.BigQuiet
import Derived.Test.YtfabgbmbnmbjkaaGreatDoorRax
import Derived.Test.YtfabgbmbnmbjkaaGreatDoorRbi
/- Pruned. -/
namespace Go.Proofs.YtfabgbmbnmbjkaaGreatDoor
open Go.RowKit
set_option maxRecDepth 20000
set_option maxHeartbeats 8000000 in
theorem both_same (Ya : Nat -> Prop) (w : World) (F : StF) (Q : QF) (sh : Sh) (n nq : Nat) (m : StM) (hg : Good sh m) (h : BothS Ya w F Q sh n nq m) :
    Calls Tryz.prog 48 #[.pointer (some ⟨F.s, 0, none⟩), .pointer (some ⟨Q.r, 0, none⟩)] w (fun e w' => e = .returned (.bool true) ∧ Below w.heap.size w w') := by
 have hok := h.a.dev.ok
 have hfc := hok.facts
 have HFC := Lib.hid hfc
 have H0 := Lib.hid h
 have HG := Lib.hid hg
 have h00 : Hid (Below w.heap.size w w) := Below.refl _ _
 clear h hg hok
 go_enter Tryz.func48, Tryz.ntmps48
 go_wp2_with (fail)
 go_loopw [5] (fun i wr => ∃ k : Nat, k <= sh.z ∧ i = .int .i64 k ∧ Hid (Below w.heap.size w wr)) (fun i _ => sh.z - (intOf i).toNat)
 case atStart => exact ⟨0, Nat.zero_le _, rfl, h00⟩
 case round =>
  obtain ⟨k, hk, rfl, hr⟩ := hrel
  clear h00
  have H := Lib.hid (H0.out.below hr.out)
  have r0 := H.out.q.top.cell 0
  have r1 := H.out.q.top.cell 1
  have d0 := H.out.q.dev.top.cell 0
  by_cases hlt : k < sh.z
  · have HDN : Hid (∀ x, BothS Ya (wr.drewN x) F Q sh n nq m) := fun x => H.out.below (below_drewN (Below.refl _ _) x)
    have HL1 : Hid (∀ x, Calls Tryz.prog 30 #[.pointer (some ⟨F.s, 0, none⟩), .int .i64 k] (wr.drewN x) (fun e w' => e = .returned (.int .u64 (lastM m k)) ∧ w' = wr.drewN x)) := fun x => (slast_any _ _ F sh _ m (k : Int) ⟨by omega, by omega⟩ (HDN.out x).a).mono (fun e w' h => ⟨h.1, h.2.symm⟩)
    have HL2 : Hid (∀ x, Calls Tryz.prog 69 #[.pointer (some ⟨Q.r, 0, none⟩), .int .i64 k] (wr.drewN x) (fun e w' => e = .returned (.int .u64 (lastM m k)) ∧ w' = wr.drewN x)) := fun x => (qslast_any _ _ Q sh _ m (k : Int) (fun h => by omega) (HDN.out x).q).mono (fun e w' h => ⟨h.1, h.2.symm⟩)
    have HS1 : Hid (∀ x, Calls Tryz.prog 25 #[.pointer (some ⟨F.s, 0, none⟩)] (wr.drewN x) (fun e w' => e = .returned (.pointer (some ⟨F.g, 0, none⟩)) ∧ w' = wr.drewN x)) := fun x => (sseg_any _ _ _ _ _ _ (HDN.out x).a).mono (fun e w' h => ⟨h.1, h.2.symm⟩)
    have HT1 : Hid (∀ x, Calls Tryz.prog 26 #[.pointer (some ⟨F.g, 0, none⟩), .int .i64 k] (wr.drewN x) (fun e w' => e = .returned (.int .u8 (stateAt m.G k)) ∧ w' = wr.drewN x)) := fun x => (state_any _ _ _ _ _ _ _ (HDN.out x).a.seg.1).mono (fun e w' h => ⟨h.1, h.2.symm⟩)
    have HT2 : Hid (∀ x, Calls Tryz.prog 102 #[.pointer (some ⟨Q.g, 0, none⟩), .int .i64 k] (wr.drewN x) (fun e w' => e = .returned (.int .u8 (stateAt m.G k)) ∧ w' = wr.drewN x)) := fun x => (refstate_any _ _ _ _ _ _ _ _ _ _ _ (HDN.out x).q.seg).mono (fun e w' h => ⟨h.1, h.2.symm⟩)
    have HNX : Hid (∀ x, Below w.heap.size w (wr.drewN x)) := fun x => below_drewN hr.out x
    have HLT := Lib.hid hlt
    clear HDN
    generalize lastM m (k : Int) = la at *
    generalize stateAt m.G (k : Int) = sa at *
    go_wp2_with (fail)
    go_quiet (first
      | (go_at_call 30; with_reducible exact Calls.quiet_of_same (HL1.out _))
      | (go_at_call 69; with_reducible exact Calls.quiet_of_same (HL2.out _))
      | (go_at_call 25; with_reducible exact Calls.quiet_of_same (HS1.out _))
      | (go_at_call 26; with_reducible exact Calls.quiet_of_same (HT1.out _))
      | (go_at_call 102; with_reducible exact Calls.quiet_of_same (HT2.out _)))
    go_wp2
    go_roundw
    case rel => exact ⟨k + 1, HLT.out, by go_num, HNX.out _⟩
    case measure => have := HLT.out; simp [intOf]; omega
  · obtain rfl : k = sh.z := by omega
    have HP : Hid (m.P.length <= 100000 ∧ ∀ i, i < m.P.length -> (m.P.getD i pt0).bs.length <= 100000) := ⟨by have h1 := H.out.a.dev.sz; omega, fun i hi => by have h1 := (H.out.a.dev.fit hi).fit; omega⟩
    go_wp2_with (fail)
    refine wp_region_rel (fun i v w => match i with | 0 => (v = .pointer (some ⟨F.s, 0, none⟩)) | 1 => (v = .int .u64 m.seq) | 2 => (v = .pointer (some ⟨Q.r, 0, none⟩)) | 3 => (v = .pointer (some ⟨Q.r, 0, none⟩)) | 4 => (v = .pointer (some ⟨Q.r, 3, none⟩)) | 5 => (v = .int .u64 m.seq) | 6 => (v = .bool true) | 7 => (v = .bool true) | 8 => (v = .pointer (some ⟨F.s, 0, none⟩)) | 9 => (v = .bool (decide (frees m.G <= sh.rs))) | 10 => (v = .pointer (some ⟨Q.r, 0, none⟩)) | 11 => (v = .bool (decide (frees m.G <= sh.rs))) | 12 => (v = .bool true) | 13 => (v = .bool true) | 14 => (v = .bool true) | 15 => (v = .pointer (some ⟨F.s, 0, none⟩)) | 16 => (v = .pointer (some ⟨F.f.g, 0, none⟩)) | 17 => (∃ A c b, v = .slice A (riseL m.L).length c ∧ OwnPl w b A c (riseL m.L)) | 18 => (v = .pointer (some ⟨Q.r, 0, none⟩)) | 19 => (v = .pointer (some ⟨Q.r, 0, none⟩)) | 20 => (v = .pointer (some ⟨Q.r, 2, none⟩)) | 21 => (v = .pointer (some ⟨Q.mm, 0, none⟩)) | 22 => (∃ A c b, v = .slice A (riseL m.L).length c ∧ OwnPl w b A c (riseL m.L)) | 23 => (v = .bool true) | 24 => (v = .bool true) | 25 => (v = .bool true) | 26 => (v = .pointer (some ⟨F.s, 0, none⟩)) | 27 => (v = .pointer (some ⟨F.d, 0, none⟩)) | 28 => (∃ A c, v = .slice A m.P.length c ∧ ZonesR w A m.P) | 29 => (v = .pointer (some ⟨Q.r, 0, none⟩)) | 30 => (v = .pointer (some ⟨Q.r, 0, none⟩)) | 31 => (v = .pointer (some ⟨Q.r, 0, none⟩)) | 32 => (v = .pointer (some ⟨Q.d, 0, none⟩)) | 33 => (∃ A c, v = .slice A m.P.length c ∧ ZonesR w A m.P) | 34 => (v = .bool true) | 35 => (v = .bool true) | 36 => (v = .bool true) | _ => False) (by kernel_rfl) (by kernel_rfl) ?st ?op ?fin
    case st =>
     intro i v w w' h hb
     match i, h with
     | 0, h => exact h
     | 1, h => exact h
     | 2, h => exact h
     | 3, h => exact h
     | 4, h => exact h
     | 5, h => exact h
     | 6, h => exact h
     | 7, h => exact h
     | 8, h => exact h
     | 9, h => exact h
     | 10, h => exact h
     | 11, h => exact h
     | 12, h => exact h
     | 13, h => exact h
     | 14, h => exact h
     | 15, h => exact h
     | 16, h => exact h
     | 17, h => obtain ⟨A, c, b, e, h⟩ := h; exact ⟨A, c, b, e, h.below hb⟩
     | 18, h => exact h
     | 19, h => exact h
     | 20, h => exact h
     | 21, h => exact h
     | 22, h => obtain ⟨A, c, b, e, h⟩ := h; exact ⟨A, c, b, e, h.below hb⟩
     | 23, h => exact h
     | 24, h => exact h
     | 25, h => exact h
     | 26, h => exact h
     | 27, h => exact h
     | 28, h => obtain ⟨A, c, e, h⟩ := h; exact ⟨A, c, e, h.below hb⟩
     | 29, h => exact h
     | 30, h => exact h
     | 31, h => exact h
     | 32, h => exact h
     | 33, h => obtain ⟨A, c, e, h⟩ := h; exact ⟨A, c, e, h.below hb⟩
     | 34, h => exact h
     | 35, h => exact h
     | 36, h => exact h
     | _ + 37, h => exact h.elim
    case op =>
     refine ⟨?_, ?_, ?_, ?_, ?_, ?_, ?_, ?_, ?_, ?_, ?_, ?_, ?_, ?_, ?_, ?_, ?_, ?_, ?_, ?_, ?_, ?_, ?_, ?_, ?_, ?_, ?_, ?_, ?_, ?_, ?_, ?_, ?_, ?_, ?_, ?_, ?_, trivial⟩
     · intro a w hb hd hn K hK
       exact st_if (wanted_none rfl) (st_move (.inl rfl) (ev ((hn 0 (by kernel_rfl)).trans rfl)) (hK _ _ rfl (Below.refl _ _)))
     · intro a w hb hd hn K hK
       obtain ⟨_, e38, rfl⟩ := hd 0 38 (by kernel_rfl) (by kernel_rfl)
       refine st_if (wanted_none rfl) (st_call (vs := #[.pointer (some ⟨F.s, 0, none⟩)]) (R := fun v w' => (v = .int .u64 m.seq) ∧ Below w.heap.size w w') Tryz.func32 (by kernel_rfl) (by kernel_rfl) rfl (by simp only [List.map_toArray, List.map_cons, List.map_nil, (ev e38)]) ?_ (fun v w' h => hK v w' h.1 h.2))
       have hh := H.out.below hb
       refine (seq_any _ w F sh _ m hh.a).mono ?_
       rintro e w' ⟨rfl, rfl⟩
       exact ⟨_, rfl, rfl, Below.refl _ _⟩
     · intro a w hb hd hn K hK
       exact st_if (wanted_none rfl) (st_move (.inl rfl) (ev ((hn 1 (by kernel_rfl)).trans rfl)) (hK _ _ rfl (Below.refl _ _)))
     · intro a w hb hd hn K hK
       obtain ⟨_, e40, rfl⟩ := hd 2 40 (by kernel_rfl) (by kernel_rfl)
       exact st_if (wanted_none rfl) (st_nil rfl (ev e40) (hK _ _ rfl (Below.refl _ _)))
     · intro a w hb hd hn K hK
       obtain ⟨_, e41, rfl⟩ := hd 3 41 (by kernel_rfl) (by kernel_rfl)
       exact st_if (wanted_none rfl) (st_field rfl (ev e41) (by go_simp; try rfl) (hK _ _ rfl (Below.refl _ _)))
     · intro a w hb hd hn K hK
       obtain ⟨_, e42, rfl⟩ := hd 4 42 (by kernel_rfl) (by kernel_rfl)
       have hc := (H.out.below hb).q.top.cell 3
       exact st_if (wanted_none rfl) (st_load rfl (ev e42) (by go_simp) (hK _ _ rfl (Below.refl _ _)))
     · intro a w hb hd hn K hK
       obtain ⟨_, e39, rfl⟩ := hd 1 39 (by kernel_rfl) (by kernel_rfl)
       obtain ⟨_, e43, rfl⟩ := hd 5 43 (by kernel_rfl) (by kernel_rfl)
       exact st_if (wanted_none rfl) (st_op rfl (ev e39) (ev e43) (by go_simp) (hK _ _ rfl (Below.refl _ _)))
     · intro a w hb hd hn K hK
       obtain ⟨_, e44, rfl⟩ := hd 6 44 (by kernel_rfl) (by kernel_rfl)
       exact st_if (wanted_none rfl) (st_move (.inl rfl) (ev e44) (hK _ _ rfl (Below.refl _ _)))
     · intro a w hb hd hn K hK
       obtain ⟨_, eg, rfl⟩ := hd 7 45 (by kernel_rfl) (by kernel_rfl)
       exact st_if (wanted_at rfl (by kernel_rfl) eg) (st_move (.inl rfl) (ev ((hn 0 (by kernel_rfl)).trans rfl)) (hK _ _ rfl (Below.refl _ _)))
     · intro a w hb hd hn K hK
       obtain ⟨_, eg, rfl⟩ := hd 7 45 (by kernel_rfl) (by kernel_rfl)
       obtain ⟨_, e46, rfl⟩ := hd 8 46 (by kernel_rfl) (by kernel_rfl)
       refine st_if (wanted_at rfl (by kernel_rfl) eg) (st_call (vs := #[.pointer (some ⟨F.s, 0, none⟩)]) (R := fun v w' => (v = .bool (decide (frees m.G <= sh.rs))) ∧ Below w.heap.size w w') Tryz.func76 (by kernel_rfl) (by kernel_rfl) rfl (by simp only [List.map_toArray, List.map_cons, List.map_nil, (ev e46)]) ?_ (fun v w' h => hK v w' h.1 h.2))
       have hh := H.out.below hb
       refine (slow_any _ w F sh _ m hh.a).mono ?_
       rintro e w' ⟨rfl, hw'⟩
       exact ⟨_, rfl, rfl, hw'⟩
     · intro a w hb hd hn K hK
       obtain ⟨_, eg, rfl⟩ := hd 7 45 (by kernel_rfl) (by kernel_rfl)
       exact st_if (wanted_at rfl (by kernel_rfl) eg) (st_move (.inl rfl) (ev ((hn 1 (by kernel_rfl)).trans rfl)) (hK _ _ rfl (Below.refl _ _)))
     · intro a w hb hd hn K hK
       obtain ⟨_, eg, rfl⟩ := hd 7 45 (by kernel_rfl) (by kernel_rfl)
       obtain ⟨_, e48, rfl⟩ := hd 10 48 (by kernel_rfl) (by kernel_rfl)
       refine st_if (wanted_at rfl (by kernel_rfl) eg) (st_call (vs := #[.pointer (some ⟨Q.r, 0, none⟩)]) (R := fun v w' => (v = .bool (decide (frees m.G <= sh.rs))) ∧ Below w.heap.size w w') Tryz.func77 (by kernel_rfl) (by kernel_rfl) rfl (by simp only [List.map_toArray, List.map_cons, List.map_nil, (ev e48)]) ?_ (fun v w' h => hK v w' h.1 h.2))
       have hh := H.out.below hb
       refine (qslow_any _ w Q sh _ m hh.q HG.out.gl).mono ?_
       rintro e w' ⟨rfl, hw'⟩
       exact ⟨_, rfl, rfl, hw'⟩
     · intro a w hb hd hn K hK
       obtain ⟨_, eg, rfl⟩ := hd 7 45 (by kernel_rfl) (by kernel_rfl)
       obtain ⟨_, e47, rfl⟩ := hd 9 47 (by kernel_rfl) (by kernel_rfl)
       obtain ⟨_, e49, rfl⟩ := hd 11 49 (by kernel_rfl) (by kernel_rfl)
       exact st_if (wanted_at rfl (by kernel_rfl) eg) (st_op rfl (ev e47) (ev e49) (by go_simp) (hK _ _ rfl (Below.refl _ _)))
     · intro a w hb hd hn K hK
       obtain ⟨_, e45, rfl⟩ := hd 7 45 (by kernel_rfl) (by kernel_rfl)
       obtain ⟨_, e50, rfl⟩ := hd 12 50 (by kernel_rfl) (by kernel_rfl)
       exact st_if (wanted_none rfl) (st_pick rfl (ev e45) (by first | rfl | exact (ev e50)) (hK _ _ rfl (Below.refl _ _)))
     · intro a w hb hd hn K hK
       obtain ⟨_, e51, rfl⟩ := hd 13 51 (by kernel_rfl) (by kernel_rfl)
       exact st_if (wanted_none rfl) (st_move (.inl rfl) (ev e51) (hK _ _ rfl (Below.refl _ _)))
     · intro a w hb hd hn K hK
       obtain ⟨_, eg, rfl⟩ := hd 14 52 (by kernel_rfl) (by kernel_rfl)
       exact st_if (wanted_at rfl (by kernel_rfl) eg) (st_move (.inl rfl) (ev ((hn 0 (by kernel_rfl)).trans rfl)) (hK _ _ rfl (Below.refl _ _)))
     · intro a w hb hd hn K hK
       obtain ⟨_, eg, rfl⟩ := hd 14 52 (by kernel_rfl) (by kernel_rfl)
       obtain ⟨_, e53, rfl⟩ := hd 15 53 (by kernel_rfl) (by kernel_rfl)
       refine st_if (wanted_at rfl (by kernel_rfl) eg) (st_call (vs := #[.pointer (some ⟨F.s, 0, none⟩)]) (R := fun v w' => (v = .pointer (some ⟨F.f.g, 0, none⟩)) ∧ Below w.heap.size w w') Tryz.func21 (by kernel_rfl) (by kernel_rfl) rfl (by simp only [List.map_toArray, List.map_cons, List.map_nil, (ev e53)]) ?_ (fun v w' h => hK v w' h.1 h.2))
       have hh := H.out.below hb
       refine (map_any _ w F sh _ m hh.a).mono ?_
       rintro e w' ⟨rfl, rfl⟩
       exact ⟨_, rfl, rfl, Below.refl _ _⟩
     · intro a w hb hd hn K hK
       obtain ⟨_, eg, rfl⟩ := hd 14 52 (by kernel_rfl) (by kernel_rfl)
       obtain ⟨_, e54, rfl⟩ := hd 16 54 (by kernel_rfl) (by kernel_rfl)
       refine st_if (wanted_at rfl (by kernel_rfl) eg) (st_call (vs := #[.pointer (some ⟨F.f.g, 0, none⟩)]) (R := fun v w' => (∃ A c b, v = .slice A (riseL m.L).length c ∧ OwnPl w' b A c (riseL m.L)) ∧ Below w.heap.size w w') Tryz.func22 (by kernel_rfl) (by kernel_rfl) rfl (by simp only [List.map_toArray, List.map_cons, List.map_nil, (ev e54)]) ?_ (fun v w' h => hK v w' h.1 h.2))
       have hh := H.out.below hb
       refine (lall_any w F.f _ m.L hh.a.nn hh.a.lm).mono ?_
       rintro e w' ⟨A, c, S, rfl, ho, hp, hr, hw'⟩
       obtain rfl := twin_rise HG.out.uq ⟨hp, hr⟩
       exact ⟨_, rfl, ⟨A, c, _, rfl, ho⟩, hw'⟩
     · intro a w hb hd hn K hK
       obtain ⟨_, eg, rfl⟩ := hd 14 52 (by kernel_rfl) (by kernel_rfl)
       exact st_if (wanted_at rfl (by kernel_rfl) eg) (st_move (.inl rfl) (ev ((hn 1 (by kernel_rfl)).trans rfl)) (hK _ _ rfl (Below.refl _ _)))
     · intro a w hb hd hn K hK
       obtain ⟨_, eg, rfl⟩ := hd 14 52 (by kernel_rfl) (by kernel_rfl)
       obtain ⟨_, e56, rfl⟩ := hd 18 56 (by kernel_rfl) (by kernel_rfl)
       exact st_if (wanted_at rfl (by kernel_rfl) eg) (st_nil rfl (ev e56) (hK _ _ rfl (Below.refl _ _)))
     · intro a w hb hd hn K hK
       obtain ⟨_, eg, rfl⟩ := hd 14 52 (by kernel_rfl) (by kernel_rfl)
       obtain ⟨_, e57, rfl⟩ := hd 19 57 (by kernel_rfl) (by kernel_rfl)
       exact st_if (wanted_at rfl (by kernel_rfl) eg) (st_field rfl (ev e57) (by go_simp; try rfl) (hK _ _ rfl (Below.refl _ _)))
     · intro a w hb hd hn K hK
       obtain ⟨_, eg, rfl⟩ := hd 14 52 (by kernel_rfl) (by kernel_rfl)
       obtain ⟨_, e58, rfl⟩ := hd 20 58 (by kernel_rfl) (by kernel_rfl)
       have hc := (H.out.below hb).q.top.cell 2
       exact st_if (wanted_at rfl (by kernel_rfl) eg) (st_load rfl (ev e58) (by go_simp) (hK _ _ rfl (Below.refl _ _)))
     · intro a w hb hd hn K hK
       obtain ⟨_, eg, rfl⟩ := hd 14 52 (by kernel_rfl) (by kernel_rfl)
       obtain ⟨_, e59, rfl⟩ := hd 21 59 (by kernel_rfl) (by kernel_rfl)
       refine st_if (wanted_at rfl (by kernel_rfl) eg) (st_call (vs := #[.pointer (some ⟨Q.mm, 0, none⟩)]) (R := fun v w' => (∃ A c b, v = .slice A (riseL m.L).length c ∧ OwnPl w' b A c (riseL m.L)) ∧ Below w.heap.size w w') Tryz.func104 (by kernel_rfl) (by kernel_rfl) rfl (by simp only [List.map_toArray, List.map_cons, List.map_nil, (ev e59)]) ?_ (fun v w' h => hK v w' h.1 h.2))
       have hh := H.out.below hb
       obtain ⟨M, hM, hmp⟩ := hh.q.mp
       obtain rfl := twin_rise HG.out.uq hM
       refine (rall_any w Q.mm _ (by have := riseL_length HG.out.uq; have := hh.q.len; omega) hmp.rm).mono ?_
       rintro e w' ⟨A, c, rfl, ho, hw'⟩
       exact ⟨_, rfl, ⟨A, c, _, rfl, ho⟩, hw'⟩
     · intro a w hb hd hn K hK
       obtain ⟨_, eg, rfl⟩ := hd 14 52 (by kernel_rfl) (by kernel_rfl)
       obtain ⟨_, e55, ⟨A17, c17, b17, rfl, h17⟩⟩ := hd 17 55 (by kernel_rfl) (by kernel_rfl)
       obtain ⟨_, e60, ⟨A22, c22, b22, rfl, h22⟩⟩ := hd 22 60 (by kernel_rfl) (by kernel_rfl)
       refine st_if (wanted_at rfl (by kernel_rfl) eg) (st_call (vs := #[.slice A17 (riseL m.L).length c17, .slice A22 (riseL m.L).length c22]) (R := fun v w' => (v = .bool true) ∧ Below w.heap.size w w') Tryz.func103 (by kernel_rfl) (by kernel_rfl) rfl (by simp only [List.map_toArray, List.map_cons, List.map_nil, (ev e55), (ev e60)]) ?_ (fun v w' h => hK v w' h.1 h.2))
       have hh := H.out.below hb
       refine (samepl_any w A17 A22 c17 c22 (riseL m.L) (by have := riseL_length HG.out.uq; have := hh.q.len; omega) h17.row h22.row).mono ?_
       rintro e w' ⟨rfl, x, rfl⟩
       exact ⟨_, rfl, rfl, below_drewN (Below.refl _ _) x⟩
     · intro a w hb hd hn K hK
       obtain ⟨_, e52, rfl⟩ := hd 14 52 (by kernel_rfl) (by kernel_rfl)
       obtain ⟨_, e61, rfl⟩ := hd 23 61 (by kernel_rfl) (by kernel_rfl)
       exact st_if (wanted_none rfl) (st_pick rfl (ev e52) (by first | rfl | exact (ev e61)) (hK _ _ rfl (Below.refl _ _)))
     · intro a w hb hd hn K hK
       obtain ⟨_, e62, rfl⟩ := hd 24 62 (by kernel_rfl) (by kernel_rfl)
       exact st_if (wanted_none rfl) (st_move (.inl rfl) (ev e62) (hK _ _ rfl (Below.refl _ _)))
     · intro a w hb hd hn K hK
       obtain ⟨_, eg, rfl⟩ := hd 25 63 (by kernel_rfl) (by kernel_rfl)
       exact st_if (wanted_at rfl (by kernel_rfl) eg) (st_move (.inl rfl) (ev ((hn 0 (by kernel_rfl)).trans rfl)) (hK _ _ rfl (Below.refl _ _)))
     · intro a w hb hd hn K hK
       obtain ⟨_, eg, rfl⟩ := hd 25 63 (by kernel_rfl) (by kernel_rfl)
       obtain ⟨_, e64, rfl⟩ := hd 26 64 (by kernel_rfl) (by kernel_rfl)
       refine st_if (wanted_at rfl (by kernel_rfl) eg) (st_call (vs := #[.pointer (some ⟨F.s, 0, none⟩)]) (R := fun v w' => (v = .pointer (some ⟨F.d, 0, none⟩)) ∧ Below w.heap.size w w') Tryz.func27 (by kernel_rfl) (by kernel_rfl) rfl (by simp only [List.map_toArray, List.map_cons, List.map_nil, (ev e64)]) ?_ (fun v w' h => hK v w' h.1 h.2))
       have hh := H.out.below hb
       refine (dev_any _ w F sh _ m hh.a).mono ?_
       rintro e w' ⟨rfl, rfl⟩
       exact ⟨_, rfl, rfl, Below.refl _ _⟩
     · intro a w hb hd hn K hK
       obtain ⟨_, eg, rfl⟩ := hd 25 63 (by kernel_rfl) (by kernel_rfl)
       obtain ⟨_, e65, rfl⟩ := hd 27 65 (by kernel_rfl) (by kernel_rfl)
       refine st_if (wanted_at rfl (by kernel_rfl) eg) (st_call (vs := #[.pointer (some ⟨F.d, 0, none⟩)]) (R := fun v w' => (∃ A c, v = .slice A m.P.length c ∧ ZonesR w' A m.P) ∧ Below w.heap.size w w') Tryz.func106 (by kernel_rfl) (by kernel_rfl) rfl (by simp only [List.map_toArray, List.map_cons, List.map_nil, (ev e65)]) ?_ (fun v w' h => hK v w' h.1 h.2))
       have hh := H.out.below hb
       refine (zones_any _ w F.d sh m.P hh.a.dev).mono ?_
       rintro e w' ⟨A, c, q, rfl, hz⟩
       exact ⟨_, rfl, ⟨A, c, rfl, hz.zonesR⟩, hz.low⟩
     · intro a w hb hd hn K hK
       obtain ⟨_, eg, rfl⟩ := hd 25 63 (by kernel_rfl) (by kernel_rfl)
       exact st_if (wanted_at rfl (by kernel_rfl) eg) (st_move (.inl rfl) (ev ((hn 1 (by kernel_rfl)).trans rfl)) (hK _ _ rfl (Below.refl _ _)))
     · intro a w hb hd hn K hK
       obtain ⟨_, eg, rfl⟩ := hd 25 63 (by kernel_rfl) (by kernel_rfl)
       obtain ⟨_, e67, rfl⟩ := hd 29 67 (by kernel_rfl) (by kernel_rfl)
       exact st_if (wanted_at rfl (by kernel_rfl) eg) (st_nil rfl (ev e67) (hK _ _ rfl (Below.refl _ _)))
     · intro a w hb hd hn K hK
       obtain ⟨_, eg, rfl⟩ := hd 25 63 (by kernel_rfl) (by kernel_rfl)
       obtain ⟨_, e68, rfl⟩ := hd 30 68 (by kernel_rfl) (by kernel_rfl)
       exact st_if (wanted_at rfl (by kernel_rfl) eg) (st_field rfl (ev e68) (by go_simp; try rfl) (hK _ _ rfl (Below.refl _ _)))
     · intro a w hb hd hn K hK
       obtain ⟨_, eg, rfl⟩ := hd 25 63 (by kernel_rfl) (by kernel_rfl)
       obtain ⟨_, e69, rfl⟩ := hd 31 69 (by kernel_rfl) (by kernel_rfl)
       have hc := (H.out.below hb).q.top.cell 0
       exact st_if (wanted_at rfl (by kernel_rfl) eg) (st_load rfl (ev e69) (by go_simp) (hK _ _ rfl (Below.refl _ _)))
     · intro a w hb hd hn K hK
       obtain ⟨_, eg, rfl⟩ := hd 25 63 (by kernel_rfl) (by kernel_rfl)
       obtain ⟨_, e70, rfl⟩ := hd 32 70 (by kernel_rfl) (by kernel_rfl)
       refine st_if (wanted_at rfl (by kernel_rfl) eg) (st_call (vs := #[.pointer (some ⟨Q.d, 0, none⟩)]) (R := fun v w' => (∃ A c, v = .slice A m.P.length c ∧ ZonesR w' A m.P) ∧ Below w.heap.size w w') Tryz.func107 (by kernel_rfl) (by kernel_rfl) rfl (by simp only [List.map_toArray, List.map_cons, List.map_nil, (ev e70)]) ?_ (fun v w' h => hK v w' h.1 h.2))
       have hh := H.out.below hb
       refine (qzones_any _ w Q.d Q.l sh m.P hh.q.dev).mono ?_
       rintro e w' ⟨A, c, rfl, hz, hw'⟩
       exact ⟨_, rfl, ⟨A, c, rfl, hz⟩, hw'⟩
     · intro a w hb hd hn K hK
       obtain ⟨_, eg, rfl⟩ := hd 25 63 (by kernel_rfl) (by kernel_rfl)
       obtain ⟨_, e66, ⟨A28, c28, rfl, h28⟩⟩ := hd 28 66 (by kernel_rfl) (by kernel_rfl)
       obtain ⟨_, e71, ⟨A33, c33, rfl, h33⟩⟩ := hd 33 71 (by kernel_rfl) (by kernel_rfl)
       refine st_if (wanted_at rfl (by kernel_rfl) eg) (st_call (vs := #[.slice A28 m.P.length c28, .slice A33 m.P.length c33]) (R := fun v w' => (v = .bool true) ∧ Below w.heap.size w w') Tryz.func105 (by kernel_rfl) (by kernel_rfl) rfl (by simp only [List.map_toArray, List.map_cons, List.map_nil, (ev e66), (ev e71)]) ?_ (fun v w' h => hK v w' h.1 h.2))
       refine (samezones_any w A28 A33 c28 c33 m.P HP.out.1 HP.out.2 h28 h33).mono ?_
       rintro e w' ⟨rfl, x, rfl⟩
       exact ⟨_, rfl, rfl, below_drewN (Below.refl _ _) x⟩
     · intro a w hb hd hn K hK
       obtain ⟨_, e63, rfl⟩ := hd 25 63 (by kernel_rfl) (by kernel_rfl)
       obtain ⟨_, e72, rfl⟩ := hd 34 72 (by kernel_rfl) (by kernel_rfl)
       exact st_if (wanted_none rfl) (st_pick rfl (ev e63) (by first | rfl | exact (ev e72)) (hK _ _ rfl (Below.refl _ _)))
     · intro a w hb hd hn K hK
       obtain ⟨_, e73, rfl⟩ := hd 35 73 (by kernel_rfl) (by kernel_rfl)
       exact st_if (wanted_none rfl) (st_move (.inr rfl) (ev e73) (hK _ _ rfl (Below.refl _ _)))
    case fin =>
     intro vs a w' ha hb hR hn ho hs hd
     have h4 : a.tmps[4]? = some (.bool true) := (hn 36 4 (by kernel_rfl)).trans (congrArg some (hR 36 (by decide)))
     have HB6 := Lib.hid (hr.out.trans (hb.mono hr.out.size))
     obtain ⟨tm, df⟩ := a
     have hd' : df = [] := hd
     subst hd'
     clear ha hR hn ho hs hd hb
     go_wp2
     go_ret
     refine ⟨congrArg Ending.returned ?_, HB6.out⟩
     rw [Array.getD_eq_getD_getElem?, h4]
     rfl
end Go.Proofs.YtfabgbmbnmbjkaaGreatDoor

/- Pruned. -/
namespace Go.Proofs.YtfabgbmbnmbjkaaGreatDoor
open Go.RowKit
set_option maxRecDepth 20000
def doM (sh : Sh) (m : StM) (o : Opv) : StM := if o.k % 8 = 5 then flushM m else if o.k % 8 = 6 then (markM sh m).2 else if o.k % 8 = 7 then (clearM m o.z).2 else (putM sh m (o.l.map (blockM sh.bl))).2
theorem readyM_sl (sh : Sh) (m : StM) (need : Int) : (readyM sh m need).2.sl = m.sl := by
 have h1 : (ready1 sh m need).sl = m.sl := by unfold ready1; split <;> rfl
 unfold readyM
 dsimp only
 split
 · exact h1
 · split <;> exact h1
theorem writeM_sl (sh : Sh) (m : StM) (l : List Pv) : (writeM sh m l).sl = m.sl := by
 unfold writeM
 dsimp only
 have h1 : (l.foldl stepW (headW sh m l)).sl = m.sl := (foldW_op l (headW sh m l)).2.2.2.1
 split
 · exact h1
 · exact h1
theorem putL_sl (sh : Sh) (f : Nat) (m : StM) (l : List Pv) : (putL sh f m l).2.sl = m.sl := by
 induction f generalizing m l with
 | zero => rfl
 | succ f ih =>
   unfold putL
   split
   · rfl
   · dsimp only
     split
     · rw [ih, writeM_sl, readyM_sl]
     · exact readyM_sl _ _ _
theorem Inv.put {sh : Sh} {m : StM} (hok : sh.ok) (l : List Pv) (h : Inv sh m) : Inv sh (putM sh m l).2 := by
 have h1 := h.w.putM hok l h.g h.o
 refine ⟨?_, h1.1, h1.2, ?_⟩
 · unfold putM
   split
   · exact (putL_good hok _ h.g (Nat.le_refl _)).1
   · exact h.g
 · have hs := h.s
   unfold SlOk at hs ⊢
   have : (putM sh m l).2.sl = m.sl := by
    unfold putM
    split
    · exact putL_sl _ _ _ _
    · rfl
   rw [this]
   exact hs
theorem Inv.call {sh : Sh} {m : StM} (hok : sh.ok) (o : Opv) (h : Inv sh m) : Inv sh (doM sh m o) := by
 unfold doM
 split
 · exact h.flush.1
 · split
   · exact h.mark.1
   · split
     · exact (h.clear _).1
     · exact h.put hok _
section
variable {Ya : Nat -> Prop} {w w1 w' : World} {F : StF} {Q : QF} {sh : Sh} {n n' nq nq' : Nat} {m : StM}
theorem BothS.mono (h : BothS Ya w F Q sh n nq m) (hn : n <= n') (hn' : n' <= 1000000) (hq : nq <= nq') (hq' : nq' <= 900000) : BothS Ya w F Q sh n' nq' m := ⟨h.a.mono hn hn', h.q.mono hq hq', h.lt⟩
theorem Went.mono (h : Went Ya w F Q sh n nq m w') (hn : n <= n') (hn' : n' <= 1000000) (hq : nq <= nq') (hq' : nq' <= 900000) : Went Ya w F Q sh n' nq' m w' := by
 obtain ⟨Y, h1, h2, h3⟩ := h
 exact ⟨Y, h1.mono hn hn' hq hq', h2, h3⟩
theorem Went.since (h : Went Ya w1 F Q sh n nq m w') (hb : Below w.heap.size w w1) : Went Ya w F Q sh n nq m w' := by
 obtain ⟨Y, h1, h2, h3⟩ := h
 exact ⟨Y, h1, fun b hy => (h2 b hy).imp id (fun h => Nat.le_trans hb.size h), (Kp.of_below (S := fun b => Ya b ∨ Q.T b) hb).trans h3 (fun _ _ h => h)⟩
end
theorem both_does (Ya Xa : Nat -> Prop) (w : World) (F : StF) (Q : QF) (sh : Sh) (n nq : Nat) (m : StM) (hi : Inv sh m) (h : BothS Ya w F Q sh n nq m) (o : Opv) (ho : OpIn o) (Ad : Option Addr) (cd : Nat) (hp : PutsAt Xa w Ad o.l) (hX : ∀ b, Xa b -> b < w.heap.size ∧ ¬ Ya b ∧ ¬ Q.T b) (hll : o.l.length <= 30) (hd : ∀ p ∈ o.l, p.da.length <= 200) (hn : n + 150 <= 1000000) (hnq : nq + 30 <= 100000) :
    Calls Tryz.prog 47 #[.pointer (some ⟨F.s, 0, none⟩), .pointer (some ⟨Q.r, 0, none⟩), .agg #[.int .u8 o.k, .slice Ad o.l.length cd, .int .i64 o.z]] w (fun e w' => e = .returned (.bool true) ∧ Went Ya w F Q sh (n + 150) (nq + 30) (doM sh m o) w') := by
 have hk := ho.k
 unfold doM
 by_cases h5 : o.k % 8 = 5
 · rw [if_pos h5]
   exact (does_flush Ya w F Q sh n nq m h o.k hk h5 Ad _ cd o.z).mono fun e w' h => ⟨h.1, h.2.mono (by omega) hn (by omega) (by omega)⟩
 · rw [if_neg h5]
   by_cases h6 : o.k % 8 = 6
   · rw [if_pos h6]
     refine (does_mark Ya w F Q sh n nq m hi (fun p hp => (h.a.lm.names p hp).1) ?_ h o.k hk h6 Ad _ cd o.z).mono fun e w' h => ⟨h.1, h.2.mono (by omega) hn (by omega) (by omega)⟩
     have := h.q.len
     omega
   · rw [if_neg h6]
     by_cases h7 : o.k % 8 = 7
     · rw [if_pos h7]
       exact (does_clear Ya w F Q sh n nq m hi.g h o.k hk h7 Ad _ cd o.z).mono fun e w' h => ⟨h.1, h.2.mono (by omega) hn (by omega) (by omega)⟩
     · rw [if_neg h7]
       refine (does_put Ya Xa w F Q sh n nq m hi h o.k hk (by omega) Ad o.l cd o.z hp hX hll ho.l hd (by omega) (by omega)).mono fun e w' h => ⟨h.1, h.2.mono (by omega) hn (by omega) (by omega)⟩
set_option maxHeartbeats 2000000 in
theorem Does_any (Ya Xa : Nat -> Prop) (w : World) (F : StF) (Q : QF) (sh : Sh) (n nq : Nat) (m : StM) (hi : Inv sh m) (h : BothS Ya w F Q sh n nq m) (o : Opv) (ho : OpIn o) (Ad : Option Addr) (cd : Nat) (hp : PutsAt Xa w Ad o.l) (hX : ∀ b, Xa b -> b < w.heap.size ∧ ¬ Ya b ∧ ¬ Q.T b) (hll : o.l.length <= 30) (hd : ∀ p ∈ o.l, p.da.length <= 200) (hn : n + 150 <= 1000000) (hnq : nq + 30 <= 100000) :
    Calls Tryz.prog 14 #[.pointer (some ⟨F.s, 0, none⟩), .pointer (some ⟨Q.r, 0, none⟩), .agg #[.int .u8 o.k, .slice Ad o.l.length cd, .int .i64 o.z]] w (fun e w' => e = .returned (.int .i64 1) ∧ Went Ya w F Q sh (n + 150) (nq + 30) (doM sh m o) w') := by
 have hal : Below w.heap.size w (w.alloc (.cells #[.int .u8 o.k, .slice Ad o.l.length cd, .int .i64 o.z] 34)) := (Below.refl _ w).alloc (Nat.le_refl _) _
 have k0 := Blk.new w 34 #[.int .u8 o.k, .slice Ad o.l.length cd, .int .i64 o.z]
 have c0 := k0.cell 0
 have c1 := k0.cell 1
 have c2 := k0.cell 2
 have HAL := Lib.hid hal
 have HD := Lib.hid (both_does Ya Xa _ F Q sh n nq m hi (h.below hal) o ho Ad cd (hp.below hal) (fun b hb => ⟨Nat.lt_of_lt_of_le (hX b hb).1 hal.size, (hX b hb).2⟩) hll hd hn hnq)
 clear hi h ho hp hX hll hd hn hnq hal k0
 generalize o.l.length = ln at *
 generalize o.k = ok at *
 generalize o.z = oz at *
 go_enter Tryz.func14, Tryz.ntmps14
 go_wp2_with (fail)
 refine HD.out.mono ?_
 rintro e w2 ⟨rfl, hw⟩
 have HW := Lib.hid (hw.since HAL.out)
 clear hw HD c0 c1 c2
 go_wp2_with (fail)
 refine (truth_any w2 true).mono ?_
 rintro e w3 ⟨rfl, rfl⟩
 simp only [if_true]
 go_wp2
 go_ret
 exact ⟨rfl, HW.out⟩
set_option maxHeartbeats 2000000 in
theorem Same_any (Ya : Nat -> Prop) (w : World) (F : StF) (Q : QF) (sh : Sh) (n nq : Nat) (m : StM) (hg : Good sh m) (h : BothS Ya w F Q sh n nq m) :
    Calls Tryz.prog 15 #[.pointer (some ⟨F.s, 0, none⟩), .pointer (some ⟨Q.r, 0, none⟩)] w (fun e w' => e = .returned (.int .i64 1) ∧ Below w.heap.size w w') := by
 have HS := Lib.hid (both_same Ya w F Q sh n nq m hg h)
 clear h hg
 go_enter Tryz.func15, Tryz.ntmps15
 go_wp2_with (fail)
 refine HS.out.mono ?_
 rintro e w2 ⟨rfl, hb⟩
 have HB := Lib.hid hb
 clear hb HS
 go_wp2_with (fail)
 refine (truth_any w2 true).mono ?_
 rintro e w3 ⟨rfl, rfl⟩
 simp only [if_true]
 go_wp2
 go_ret
 exact ⟨rfl, HB.out⟩
end Go.Proofs.YtfabgbmbnmbjkaaGreatDoor

/- Pruned. -/
namespace Go.Proofs.YtfabgbmbnmbjkaaGreatDoor
open Go.RowKit
set_option maxRecDepth 20000
structure DoS (w1 wr : World) (F : StF) (Q : QF) (sh : Sh) (k : Nat) (m : StM) : Prop where
  st : ∃ Ya : Nat -> Prop, BothS Ya wr F Q sh (150 * k) (30 * k) m ∧ (∀ b, Ya b -> w1.heap.size <= b) ∧ ∀ b, Q.T b -> w1.heap.size <= b
  inv : Inv sh m
  low : Below w1.heap.size w1 wr
theorem DoS.went {w1 wr wn : World} {F : StF} {Q : QF} {sh : Sh} {k : Nat} {m' : StM} {Ya : Nat -> Prop} (hy : ∀ b, Ya b -> w1.heap.size <= b) (hq : ∀ b, Q.T b -> w1.heap.size <= b) (low : Below w1.heap.size w1 wr) (hi : Inv sh m') (h : Went Ya wr F Q sh (150 * k + 150) (30 * k + 30) m' wn) : DoS w1 wn F Q sh (k + 1) m' := by
 obtain ⟨Y, h1, h2, h3⟩ := h
 refine ⟨⟨Y, ?_, fun b hb => ?_, hq⟩, hi, Kp.below low h3 low.size (fun b hb e => ?_)⟩
 · rw [show 150 * (k + 1) = 150 * k + 150 by omega, show 30 * (k + 1) = 30 * k + 30 by omega]
   exact h1
 · rcases h2 b hb with h | h
   · exact hy b h
   · exact Nat.le_trans low.size h
 · rcases e with e | e
   · have := hy b e; omega
   · have := hq b e; omega
end Go.Proofs.YtfabgbmbnmbjkaaGreatDoor

