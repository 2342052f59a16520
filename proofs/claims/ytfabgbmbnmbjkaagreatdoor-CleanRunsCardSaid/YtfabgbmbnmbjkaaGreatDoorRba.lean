/- Joined texts: Pc Pd Pe. -/
import Derived.Test.YtfabgbmbnmbjkaaGreatDoorRai
import Derived.Test.YtfabgbmbnmbjkaaGreatDoorRaz
import Derived.Lib.QuietBelow
import Derived.BigQuiet
import Derived.Test.YtfabgbmbnmbjkaaGreatDoorRas
import Derived.RangeFuncNested
import Derived.RangeFuncBound
import Derived.RangeFuncCalls
import Derived.RangeFuncLeaves
import Derived.RangeFuncWrites
import Derived.Shelf.Abstract
import Derived.Shelf.RegionOpen
import Derived.WalkKit
import Derived.OwnWalkIn
import Derived.TacticsInMore
import Derived.LoopNIn
import Derived.LoopIn
import Derived.Maps.AppendAt
/- Pruned. -/
namespace Go.Proofs.YtfabgbmbnmbjkaaGreatDoor
open Go.RowKit Go.Sort
set_option maxRecDepth 20000
set_option maxHeartbeats 1000000 in
theorem ccmp_any (p q : Pl) (W : World) : Calls Tryz.prog 188 #[plV p, plV q] W (Makes (.int .i64 (byName p.n q.n)) W) := by
 obtain ⟨x1, x2, x3, x4⟩ := p
 obtain ⟨y1, y2, y3, y4⟩ := q
 have H1 := Lib.hid (fun w => cmp32_any x1 y1 w)
 have H2 := Lib.hid (fun w => cmp64_any x2 y2 w)
 have H3 := Lib.hid (fun g w => or_any (Lib.compareInt x1 y1) (Lib.compareInt x2 y2) g w)
 unfold byName plV Pl.n
 simp only
 generalize Lib.compareInt x1 y1 = c1 at *
 generalize Lib.compareInt x2 y2 = c2 at *
 have b1 := (Blk.new W 55 #[.int .u32 x1, .int .u64 x2, .int .i64 x3, .int .i64 x4]).alloc (.cells #[.int .u32 y1, .int .u64 y2, .int .i64 y3, .int .i64 y4] 55)
 have b2 := Blk.new (W.alloc (.cells #[.int .u32 x1, .int .u64 x2, .int .i64 x3, .int .i64 x4] 55)) 55 #[.int .u32 y1, .int .u64 y2, .int .i64 y3, .int .i64 y4]
 rw [World.size_alloc] at b2
 have hbl : Below W.heap.size W ((W.alloc (.cells #[.int .u32 x1, .int .u64 x2, .int .i64 x3, .int .i64 x4] 55)).alloc (.cells #[.int .u32 y1, .int .u64 y2, .int .i64 y3, .int .i64 y4] 55)) := ((Below.refl _ _).alloc (Nat.le_refl _) _).alloc (by simp) _
 go_enter Tryz.func188, Tryz.ntmps188
 go_upto_region 1 with (fail)
 generalize (W.alloc (.cells #[.int .u32 x1, .int .u64 x2, .int .i64 x3, .int .i64 x4] 55)).alloc (.cells #[.int .u32 y1, .int .u64 y2, .int .i64 y3, .int .i64 y4] 55) = w1 at *
 have HBL := Lib.hid hbl
 have ks : w1.cell? ⟨W.heap.size, 0, none⟩ = some (.int .u32 x1) ∧ w1.cell? ⟨W.heap.size, 1, none⟩ = some (.int .u64 x2) ∧ w1.cell? ⟨W.heap.size + 1, 0, none⟩ = some (.int .u32 y1) ∧ w1.cell? ⟨W.heap.size + 1, 1, none⟩ = some (.int .u64 y2) := ⟨b1.cell 0, b1.cell 1, b2.cell 0, b2.cell 1⟩
 have ks2 : (w1.drew.alloc (.cells #[.int .i64 c1, .int .i64 c2] 3)).cell? ⟨W.heap.size, 0, none⟩ = some (.int .u32 x1) ∧ (w1.drew.alloc (.cells #[.int .i64 c1, .int .i64 c2] 3)).cell? ⟨W.heap.size, 1, none⟩ = some (.int .u64 x2) ∧ (w1.drew.alloc (.cells #[.int .i64 c1, .int .i64 c2] 3)).cell? ⟨W.heap.size + 1, 0, none⟩ = some (.int .u32 y1) ∧ (w1.drew.alloc (.cells #[.int .i64 c1, .int .i64 c2] 3)).cell? ⟨W.heap.size + 1, 1, none⟩ = some (.int .u64 y2) := ⟨(b1.drew.alloc _).cell 0, (b1.drew.alloc _).cell 1, (b2.drew.alloc _).cell 0, (b2.drew.alloc _).cell 1⟩
 have b3 := Blk.new w1.drew 3 #[.int .i64 c1, .int .i64 c2]
 have HQ := Lib.hid (H3.out _ _ (b3.cell 0) (b3.cell 1))
 clear b1 b2 b3 hbl
 go_region_held3 (fun u => u.cell? ⟨W.heap.size, 0, none⟩ = some (.int .u32 x1) ∧ u.cell? ⟨W.heap.size, 1, none⟩ = some (.int .u64 x2) ∧ u.cell? ⟨W.heap.size + 1, 0, none⟩ = some (.int .u32 y1) ∧ u.cell? ⟨W.heap.size + 1, 1, none⟩ = some (.int .u64 y2))
   (first | exact ks | exact ks2)
   (first
     | (go_at_call 114
        refine (H1.out _).mono ?_
        rintro e w2 ⟨rfl, rfl⟩)
     | (go_at_call 115
        refine (H2.out _).mono ?_
        rintro e w2 ⟨rfl, rfl⟩)
     | (go_at_call 113
        refine HQ.out.mono ?_
        rintro e w2 ⟨rfl, rfl⟩))
 all_goals
  clear ks ks2
  generalize orI c1 c2 = cc at *
  go_wp2
  go_ret
  exact ⟨rfl, HBL.out.drew.alloc HBL.out.drew.size _⟩
set_option maxHeartbeats 4000000 in
theorem cmay_any (sh : Sh) (w : World) (L : List Pl) (A : Option Addr) (c : Nat) (hl : L.length <= 1000000) (h : RowAt w A L) (hok : PlacesOk sh L) :
    Calls Tryz.prog 142 #[shV sh, .slice A L.length c] w (Makes (.bool true) w) := by
 have HC := Lib.hid (fun p q u => ccmp_any p q u)
 have HOK := Lib.hid hok
 have k0 := Blk.new w 23 #[.int .i64 sh.z, .int .i64 sh.zb, .int .i64 sh.bl, .int .i64 sh.rs]
 have hb0 : Below w.heap.size w (w.alloc (.cells #[.int .i64 sh.z, .int .i64 sh.zb, .int .i64 sh.bl, .int .i64 sh.rs] 23)) := (Below.refl _ _).alloc (Nat.le_refl _) _
 have H0 := Lib.hid (And.intro k0 (And.intro hb0 h))
 unfold shV
 clear h hok k0 hb0
 go_enter Tryz.func142, Tryz.ntmps142
 go_wp2_with (fail)
 go_loopw [10] (fun i wr => ∃ k : Nat, k <= L.length ∧ i = .int .i64 k ∧ Hid (Below w.heap.size w wr ∧ Blk wr w.heap.size 23 #[.int .i64 sh.z, .int .i64 sh.zb, .int .i64 sh.bl, .int .i64 sh.rs])) (fun i _ => L.length - (intOf i).toNat)
 case atStart => exact ⟨0, Nat.zero_le _, rfl, ⟨H0.out.2.1, H0.out.1⟩⟩
 case round =>
  obtain ⟨k, hk, rfl, hr⟩ := hrel
  by_cases hlt : k < L.length
  · obtain ⟨r, rfl, pr⟩ := (H0.out.2.2.below hr.out.1) (by omega)
    have a0 := pr.c0 k hlt
    have a1 := pr.c1 k hlt
    have a2 := pr.c2 k hlt
    have a3 := pr.c3 k hlt
    have hx := HOK.out.get hlt
    obtain ⟨_, hx1, hx2, hx3, hx4⟩ := hx
    have s0 : wr.cell? ⟨w.heap.size, 0, none⟩ = some (.int .i64 sh.z) := hr.out.2.cell 0
    have s1 : wr.cell? ⟨w.heap.size, 1, none⟩ = some (.int .i64 sh.zb) := hr.out.2.cell 1
    have hki : (k : Int) < L.length := by omega
    have h1 : ¬ (L.getD k p0).z < 2 := by omega
    have h2 : ¬ (sh.z : Int) <= (L.getD k p0).z := by omega
    have h3 : ¬ (L.getD k p0).k < 0 := by omega
    have h4 : ¬ (sh.zb : Int) <= (L.getD k p0).k := by omega
    have HLT := Lib.hid hlt
    generalize hX : L.getD k p0 = x at *
    have HX := Lib.hid hX
    clear hX
    obtain ⟨xt, xb, xz, xk⟩ := x
    simp only at a0 a1 a2 a3 h1 h2 h3 h4
    have hb5 : Below wr.heap.size wr ((wr.alloc (.cells #[.int .u32 xt, .int .u64 xb, .int .i64 xz, .int .i64 xk] 55)).alloc (.cells #[.int .i64 xz, .int .i64 xk] 53)) := ((Below.refl _ _).alloc (Nat.le_refl _) _).alloc (by simp) _
    have hp5 := (Blk.new wr 55 #[.int .u32 xt, .int .u64 xb, .int .i64 xz, .int .i64 xk]).alloc (.cells #[.int .i64 xz, .int .i64 xk] 53)
    have ha5 := Blk.new (wr.alloc (.cells #[.int .u32 xt, .int .u64 xb, .int .i64 xz, .int .i64 xk] 55)) 53 #[.int .i64 xz, .int .i64 xk]
    rw [World.size_alloc] at ha5
    have HB5 := Lib.hid (And.intro hb5 (And.intro hp5 ha5))
    clear hb5 hp5 ha5 hx1 hx2 hx3 hx4
    go_upto_region 5 with (fail)
    obtain ⟨hb5, hp5, ha5⟩ := HB5.out
    clear a0 a1 a2 a3 s0 s1 HB5
    generalize (wr.alloc (.cells #[.int .u32 xt, .int .u64 xb, .int .i64 xz, .int .i64 xk] 55)).alloc (.cells #[.int .i64 xz, .int .i64 xk] 53) = w5 at *
    have hs5 := hr.out.2.below hb5 hr.out.2.lt
    have hw5 : Below w.heap.size w w5 := hr.out.1.trans (hb5.mono hr.out.1.size)
    have u0 := cell_regrown (show w5.cell? ⟨wr.heap.size + 1, 0, none⟩ = some (.int .i64 xz) from ha5.cell 0)
    have u1 := cell_regrown (show w5.cell? ⟨wr.heap.size + 1, 1, none⟩ = some (.int .i64 xk) from ha5.cell 1)
    have t0 := cell_regrown (show w5.cell? ⟨w.heap.size, 0, none⟩ = some (.int .i64 sh.z) from hs5.cell 0)
    have t1 := cell_regrown (show w5.cell? ⟨w.heap.size, 1, none⟩ = some (.int .i64 sh.zb) from hs5.cell 1)
    have HN : Hid (Below w.heap.size w w5 ∧ Blk w5 w.heap.size 23 #[.int .i64 sh.z, .int .i64 sh.zb, .int .i64 sh.bl, .int .i64 sh.rs]) := ⟨hw5, hs5⟩
    rcases Nat.eq_zero_or_pos k with rfl | hk0
    · clear hs5 hw5 hp5 ha5
      refine wp_region_quiet_below (by kernel_rfl) (by kernel_rfl) ?_
      repeat (any_goals (first | go_big_quiet_step (fail) | quiet_step (fail)))
      refine wpQuiet_nil ?_
      intro _ hw'
      obtain ⟨⟨dq, osq⟩, hw''⟩ := hw'
      subst hw''
      have hb6 := below_regrown w5 dq osq
      have HN6 : Hid (Below w.heap.size w (grow (redrawn w5 dq) osq) ∧ Blk (grow (redrawn w5 dq) osq) w.heap.size 23 #[.int .i64 sh.z, .int .i64 sh.zb, .int .i64 sh.bl, .int .i64 sh.rs]) := ⟨HN.out.1.trans (hb6.mono HN.out.1.size), HN.out.2.below hb6 HN.out.2.lt⟩
      clear u0 u1 t0 t1 hb6 HN
      go_wp2
      go_roundw
      case rel => exact ⟨1, HLT.out, rfl, HN6⟩
      case measure => have := HLT.out; simp [intOf]; omega
    · obtain ⟨j, rfl⟩ : ∃ j, k = j + 1 := ⟨k - 1, by omega⟩
      have hnx := HOK.out.next hlt
      rw [HX.out] at hnx
      obtain ⟨q, hq⟩ : ∃ q, j + 1 = q := ⟨_, rfl⟩
      obtain ⟨r', er, pr5⟩ := (H0.out.2.2.below hw5) (by omega)
      injection er with er
      injection er with er
      subst er
      have v0 := cell_regrown (pr5.c0 j (by omega))
      have v1 := cell_regrown (pr5.c1 j (by omega))
      have v2 := cell_regrown (pr5.c2 j (by omega))
      have v3 := cell_regrown (pr5.c3 j (by omega))
      have z0 := cell_regrown (show w5.cell? ⟨wr.heap.size, 0, none⟩ = some (.int .u32 xt) from hp5.cell 0)
      have z1 := cell_regrown (show w5.cell? ⟨wr.heap.size, 1, none⟩ = some (.int .u64 xb) from hp5.cell 1)
      have z2 := cell_regrown (show w5.cell? ⟨wr.heap.size, 2, none⟩ = some (.int .i64 xz) from hp5.cell 2)
      have z3 := cell_regrown (show w5.cell? ⟨wr.heap.size, 3, none⟩ = some (.int .i64 xk) from hp5.cell 3)
      have hjl : j < L.length := by omega
      generalize L.getD j p0 = y at *
      obtain ⟨yt, yb, yz, yk⟩ := y
      simp only at hnx v0 v1 v2 v3
      obtain ⟨cc, hcc⟩ : ∃ cc, byName (yt, yb) (xt, xb) = cc := ⟨_, rfl⟩
      have hc : ¬ 0 <= cc := by
       rw [<- hcc]
       unfold byName orI Lib.compareInt
       simp only
       rcases hnx with h | ⟨h, h'⟩
       · rw [if_pos h]
         simp
       · subst h
         have h9 : ¬ yt < yt := by omega
         simp [h']
      have HC2 := Lib.hid (fun d os => Calls.regrown_of (w := w5) (d := d) (os := os) (show Calls Tryz.prog 188 #[.agg #[.int .u32 yt, .int .u64 yb, .int .i64 yz, .int .i64 yk], .agg #[.int .u32 xt, .int .u64 xb, .int .i64 xz, .int .i64 xk]] (grow (redrawn w5 d) os) (fun e w' => e = .returned (.int .i64 cc) ∧ Below (grow (redrawn w5 d) os).heap.size (grow (redrawn w5 d) os) w') from by
       rw [<- hcc]
       exact HC.out ⟨yt, yb, yz, yk⟩ ⟨xt, xb, xz, xk⟩ _))
      have hq1 : (q : Int) - 1 = (j : Int) := by omega
      have hq2 : (0 : Int) < q := by omega
      have hq3 : 0 < q := by omega
      have hq4 : decide ((0 : Int) < (q : Int)) = true := decide_eq_true hq2
      have hq5 : decide (0 < q) = true := decide_eq_true hq3
      have hji : (j : Int) < L.length := by omega
      have hwr : IntKind.i64.wrap ((q : Int) - 1) = (j : Int) := by rw [hq1]; exact IntWalk.i64_in _ (by omega)
      rw [hq] at hlt hki HLT hk ⊢
      clear hq hcc hnx hs5 hw5 hp5 ha5 pr5 hk0
      refine wp_region_quiet_below (by kernel_rfl) (by kernel_rfl) ?_
      repeat (any_goals (first | go_big_quiet_step (exact HC2.out _ _) | quiet_step (exact HC2.out _ _)))
      refine wpQuiet_nil ?_
      intro _ hw'
      obtain ⟨⟨dq, osq⟩, hw''⟩ := hw'
      subst hw''
      have hb6 := below_regrown w5 dq osq
      have HN6 : Hid (Below w.heap.size w (grow (redrawn w5 dq) osq) ∧ Blk (grow (redrawn w5 dq) osq) w.heap.size 23 #[.int .i64 sh.z, .int .i64 sh.zb, .int .i64 sh.bl, .int .i64 sh.rs]) := ⟨HN.out.1.trans (hb6.mono HN.out.1.size), HN.out.2.below hb6 HN.out.2.lt⟩
      clear u0 u1 t0 t1 v0 v1 v2 v3 z0 z1 z2 z3 hb6 HN
      go_wp2
      go_roundw
      case rel => exact ⟨q + 1, HLT.out, by go_num, HN6⟩
      case measure => have := HLT.out; simp [intOf]; omega
  · obtain rfl : k = L.length := by omega
    go_wp2
    go_ret
    exact ⟨rfl, hr.out.1⟩
end Go.Proofs.YtfabgbmbnmbjkaaGreatDoor

/- Pruned. -/
namespace Go.Proofs.YtfabgbmbnmbjkaaGreatDoor
open Go.RowKit
set_option maxRecDepth 20000
def RowOff (w : World) (A : Option Addr) (L : List Pl) : Prop := 0 < L.length -> ∃ r o, A = some ⟨r, o, none⟩ ∧ ∀ i, i < L.length -> w.cell? ⟨r, o + i * 4, none⟩ = some (.int .u32 (L.getD i p0).t) ∧ w.cell? ⟨r, o + i * 4 + 1, none⟩ = some (.int .u64 (L.getD i p0).b) ∧ w.cell? ⟨r, o + i * 4 + 2, none⟩ = some (.int .i64 (L.getD i p0).z) ∧ w.cell? ⟨r, o + i * 4 + 3, none⟩ = some (.int .i64 (L.getD i p0).k)
def PartsOk (L : List Pl) : Prop := ∀ p ∈ L, NameOk p.n ∧ 0 <= p.z ∧ p.z <= 65535 ∧ 0 <= p.k ∧ p.k <= 65535
set_option maxHeartbeats 4000000 in
theorem cblock_any (s : Sh) (hs : s.ok) (at_ many seq : Int) (h1 : 0 <= at_ ∧ at_ <= 65535) (h2 : 0 <= many ∧ many <= 65535) (hq : 0 <= seq ∧ seq <= 18446744073709551615) (w : World) (L : List Pl) (A : Option Addr) (c : Nat) (hrow : RowOff w A L) (hpk : PartsOk L) (hn : L.length <= roomC s.bl) :
    Calls Tryz.prog 144 #[shV s, .agg #[.int .i64 at_, .int .i64 many, .int .u64 seq], .slice A L.length c] w
      (fun e w' => ∃ A' c', e = .returned (.slice A' s.bl c') ∧ BRow w' w.heap.size A' c' (blockC s.bl at_ many seq L) ∧ Below w.heap.size w w') := by
 have hbl := hs.blk
 have hfit := roomC_fit hn hbl.1
 have HROW := Lib.hid hrow
 have HPK := Lib.hid hpk
 obtain ⟨n, hnn⟩ : ∃ n, L.length = n := ⟨_, rfl⟩
 have HNN := Lib.hid hnn
 rw [hnn] at hn hfit ⊢
 have hn4 : n <= 4096 := by omega
 clear hrow hpk hnn
 unfold shV
 clear hs
 obtain ⟨q0, q1⟩ := hq
 have hwa : IntKind.u64.wrap at_ = at_ := IntWalk.u64_in at_ (by omega)
 have hwm : IntKind.u64.wrap many = many := IntWalk.u64_in many (by omega)
 go_enter Tryz.func144, Tryz.ntmps144
 go_wp2_with (fail)
 have hbs := (((Blk.new w 23 #[.int .i64 s.z, .int .i64 s.zb, .int .i64 s.bl, .int .i64 s.rs]).alloc (.cells #[.int .i64 at_, .int .i64 many, .int .u64 seq] 199)).alloc (.cells #[.int .i64 4, .int .i64 4, .int .i64 4, .int .i64 4, .int .i64 8, .int .i64 2] 3)).alloc (.cells #[.int .u64 1129009236, .int .u64 0, .int .u64 at_, .int .u64 many, .int .u64 seq, .int .u64 n] 40)
 have ha := (Blk.new ((w.alloc (.cells #[.int .i64 s.z, .int .i64 s.zb, .int .i64 s.bl, .int .i64 s.rs] 23)).alloc (.cells #[.int .i64 at_, .int .i64 many, .int .u64 seq] 199)) 3 #[.int .i64 4, .int .i64 4, .int .i64 4, .int .i64 4, .int .i64 8, .int .i64 2]).alloc (.cells #[.int .u64 1129009236, .int .u64 0, .int .u64 at_, .int .u64 many, .int .u64 seq, .int .u64 n] 40)
 have hb := Blk.new (((w.alloc (.cells #[.int .i64 s.z, .int .i64 s.zb, .int .i64 s.bl, .int .i64 s.rs] 23)).alloc (.cells #[.int .i64 at_, .int .i64 many, .int .u64 seq] 199)).alloc (.cells #[.int .i64 4, .int .i64 4, .int .i64 4, .int .i64 4, .int .i64 8, .int .i64 2] 3)) 40 #[.int .u64 1129009236, .int .u64 0, .int .u64 at_, .int .u64 many, .int .u64 seq, .int .u64 n]
 have hw0 : Below w.heap.size w ((((w.alloc (.cells #[.int .i64 s.z, .int .i64 s.zb, .int .i64 s.bl, .int .i64 s.rs] 23)).alloc (.cells #[.int .i64 at_, .int .i64 many, .int .u64 seq] 199)).alloc (.cells #[.int .i64 4, .int .i64 4, .int .i64 4, .int .i64 4, .int .i64 8, .int .i64 2] 3)).alloc (.cells #[.int .u64 1129009236, .int .u64 0, .int .u64 at_, .int .u64 many, .int .u64 seq, .int .u64 n] 40)) :=
  ((((Below.refl _ w).alloc (Nat.le_refl _) _).alloc (by simp) _).alloc (by simp; omega) _).alloc (by simp; omega) _
 simp only [World.size_alloc] at ha hb
 generalize (((w.alloc (.cells #[.int .i64 s.z, .int .i64 s.zb, .int .i64 s.bl, .int .i64 s.rs] 23)).alloc (.cells #[.int .i64 at_, .int .i64 many, .int .u64 seq] 199)).alloc (.cells #[.int .i64 4, .int .i64 4, .int .i64 4, .int .i64 4, .int .i64 8, .int .i64 2] 3)).alloc (.cells #[.int .u64 1129009236, .int .u64 0, .int .u64 at_, .int .u64 many, .int .u64 seq, .int .u64 n] 40) = w3 at *
 refine (pack_any w3 _ _ _ _ 6 6 [4, 4, 4, 4, 8, 2] [1129009236, 0, at_, many, seq, n] (reads_lit ha rfl) (reads_lit hb rfl) (by simp) (by simp) (by simp) (by
  intro x hx
  simp only [List.mem_cons, List.not_mem_nil, or_false] at hx
  rcases hx with rfl | rfl | rfl | rfl | rfl | rfl <;> omega)).mono ?_
 rintro e w4 ⟨A5, c5, rfl, hr4, hb4⟩
 have e0 : packS [4, 4, 4, 4, 8, 2] [1129009236, 0, at_, many, seq, n] = frontC at_ many seq L 0 := by simp [frontC, headC, HNN.out]
 rw [e0] at hr4 ⊢
 have HFL := Lib.hid (fun j (h : j <= n) => frontC_length at_ many seq L j (by rw [HNN.out]; exact h))
 have hR0 : Hid (BRow w4 (w.heap.size + 1) A5 c5 (frontC at_ many seq L 0) ∧ Blk w4 w.heap.size 23 #[.int .i64 s.z, .int .i64 s.zb, .int .i64 s.bl, .int .i64 s.rs] ∧ Below w.heap.size w w4) :=
  ⟨hr4.rebase (fun b hb => by have := (hr4.lt hb).1; have := ha.lt; omega), hbs.below hb4 hbs.lt, hw0.trans (hb4.mono hw0.size)⟩
 clear e0 hr4 hb4 ha hb hbs hw0 hwa hwm
 go_wp2_with (fail)
 go_loopw [7, 26] (fun o i wr => ∃ (j : Nat) (A5 : Option Addr) (c5 : Nat), j <= n ∧ i = .int .i64 j ∧ o = .slice A5 (frontC at_ many seq L j).length c5 ∧ Hid (BRow wr (w.heap.size + 1) A5 c5 (frontC at_ many seq L j) ∧ Blk wr w.heap.size 23 #[.int .i64 s.z, .int .i64 s.zb, .int .i64 s.bl, .int .i64 s.rs] ∧ Below w.heap.size w wr)) (fun _ i _ => n - (intOf i).toNat)
 case atStart => exact ⟨0, A5, c5, Nat.zero_le _, rfl, rfl, hR0⟩
 case round =>
  obtain ⟨j, A5, c5, hj, rfl, rfl, hR⟩ := hrel
  clear hR0
  by_cases hlt : j < n
  · have hjl : j < L.length := by rw [HNN.out]; exact hlt
    obtain ⟨r, o, rfl, pr⟩ := HROW.out (by omega)
    obtain ⟨a0, a1, a2, a3⟩ := pr j hjl
    replace a0 := below_keep hR.out.2.2 a0
    replace a1 := below_keep hR.out.2.2 a1
    replace a2 := below_keep hR.out.2.2 a2
    replace a3 := below_keep hR.out.2.2 a3
    have hx := HPK.out _ (getD_mem (d := p0) hjl)
    have HFS := Lib.hid (frontC_succ at_ many seq L j hjl)
    have HFK := Lib.hid (HFL.out j hj)
    have HJ := Lib.hid hlt
    have hwg : w.heap.size < wr.heap.size := hR.out.2.1.lt
    clear pr hjl
    generalize L.getD j p0 = x at *
    obtain ⟨xt, xb, xz, xk⟩ := x
    obtain ⟨⟨⟨hx1, hx2⟩, hx3, hx4⟩, hx5, hx6, hx7, hx8⟩ := hx
    simp only [Pl.n] at a0 a1 a2 a3 hx1 hx2 hx3 hx4 hx5 hx6 hx7 hx8 HFS
    have HB := Lib.hid (And.intro hx3 hx4)
    generalize frontC at_ many seq L j = F at *
    clear hx3 hx4 hlt hj
    have ha := ((Blk.new (wr.alloc (.cells #[.int .u32 xt, .int .u64 xb, .int .i64 xz, .int .i64 xk] 55)) 3 #[.int .i64 4, .int .i64 8, .int .i64 2, .int .i64 2]).alloc (.cells #[.int .u64 xt, .int .u64 xb, .int .u64 xz, .int .u64 xk] 40))
    have hb := Blk.new ((wr.alloc (.cells #[.int .u32 xt, .int .u64 xb, .int .i64 xz, .int .i64 xk] 55)).alloc (.cells #[.int .i64 4, .int .i64 8, .int .i64 2, .int .i64 2] 3)) 40 #[.int .u64 xt, .int .u64 xb, .int .u64 xz, .int .u64 xk]
    simp only [World.size_alloc] at ha hb
    have hw3 : Below wr.heap.size wr (((wr.alloc (.cells #[.int .u32 xt, .int .u64 xb, .int .i64 xz, .int .i64 xk] 55)).alloc (.cells #[.int .i64 4, .int .i64 8, .int .i64 2, .int .i64 2] 3)).alloc (.cells #[.int .u64 xt, .int .u64 xb, .int .u64 xz, .int .u64 xk] 40)) := (((Below.refl _ wr).alloc (Nat.le_refl _) _).alloc (by simp) _).alloc (by simp; omega) _
    have HP := Lib.hid (And.intro ha (And.intro hb hw3))
    clear ha hb hw3
    go_wp2_with (fail)
    obtain ⟨ha, hb, hw3⟩ := HP.out
    clear HP
    generalize ((wr.alloc (.cells #[.int .u32 xt, .int .u64 xb, .int .i64 xz, .int .i64 xk] 55)).alloc (.cells #[.int .i64 4, .int .i64 8, .int .i64 2, .int .i64 2] 3)).alloc (.cells #[.int .u64 xt, .int .u64 xb, .int .u64 xz, .int .u64 xk] 40) = w5 at *
    refine (pack_any w5 _ _ _ _ 4 4 [4, 8, 2, 2] [xt, xb, xz, xk] (reads_lit ha rfl) (reads_lit hb rfl) (by simp) (by simp) (by simp) (by
     have hbb := HB.out
     intro x hx
     simp only [List.mem_cons, List.not_mem_nil, or_false] at hx
     rcases hx with rfl | rfl | rfl | rfl <;> omega)).mono ?_
    rintro e w6 ⟨A6, c6, rfl, hr6, hb6⟩
    have HW6 := Lib.hid (hw3.trans (hb6.mono hw3.size))
    have HF6 : Hid (BRow w6 (w.heap.size + 1) A5 c5 F) := hR.out.1.below HW6.out (Nat.le_refl _)
    have HRD : Hid (Reads w6 w6.heap.size 1 A6 (packS [4, 8, 2, 2] [xt, xb, xz, xk]).length (nums .u8 (packS [4, 8, 2, 2] [xt, xb, xz, xk]))) := hr6.reads
    have hpl := plB_length ⟨xt, xb, xz, xk⟩
    unfold plB at hpl
    simp only at hpl
    have HL6 : Hid (F.length + (packS [4, 8, 2, 2] [xt, xb, xz, xk]).length <= 100000000) := by
     have e2 := HFK.out
     have e3 := HJ.out
     unfold Hid
     omega
    have HBS : Hid (w.heap.size + 1 <= w6.heap.size) := by have := HW6.out.size; unfold Hid; omega
    have HIT : Hid (packS [4, 8, 2, 2] [xt, xb, xz, xk] = plB ⟨xt, xb, xz, xk⟩) := rfl
    clear ha hb hw3 hr6 hb6 a0 a1 a2 a3 hpl hx1 hx2 hx5 hx6 hx7 hx8
    generalize packS [4, 8, 2, 2] [xt, xb, xz, xk] = PK at *
    go_wp2_with (first
      | (at_builtin
         refine wpList_append_u8 w6 rfl (.tmp 30) (.tmp 46) rfl F HF6.out rfl rfl PK rfl HRD.out HL6.out HBS.out ?_
         intro A7 c7 w7 h7 k7 _
         have H7 := Lib.hid h7
         have K7 := Lib.hid k7
         clear h7 k7))
    go_roundw
    case rel =>
     have e : frontC at_ many seq L (j + 1) = F ++ PK := by rw [HFS.out, HIT.out]
     have hkk : Kp (fun i => (Value.slice A5 F.length c5).ownBlock = some i) wr w7 := (Kp.of_below (S := fun i => (Value.slice A5 F.length c5).ownBlock = some i) HW6.out).trans K7.out (fun _ _ h => h)
     refine ⟨j + 1, A7, c7, HJ.out, by go_num, by rw [e]; simp, ?_⟩
     rw [e]
     exact ⟨H7.out, hkk.blk hR.out.2.1 (fun h => by have := (hR.out.1.lt h).1; omega), Kp.below hR.out.2.2 hkk hR.out.2.2.size (fun b hb h => by have := (hR.out.1.lt h).1; omega)⟩
    case measure => have := HJ.out; simp [intOf]; omega
  · obtain rfl : j = n := by omega
    have hF := HFL.out _ (Nat.le_refl _)
    have HFB := Lib.hid (frontC_bd at_ many seq L j)
    have HF0 : Hid (blockC s.bl at_ many seq L = doneB (frontC at_ many seq L j) s.bl) := by unfold Hid blockC; rw [HNN.out]
    generalize frontC at_ many seq L j = F at *
    have hF1 : 26 <= F.length := by omega
    have hF2 : F.length + 1 <= s.bl := by omega
    clear hF HFL hlt hj hfit hn
    have hFb : F.length + 1 <= s.bl := hF2
    obtain ⟨A8, c8, w8, hrun, h8, k8, _⟩ := run_append_zeros_b wr (w.heap.size + 1) c5 (s.bl - F.length) A5 F 36 hR.out.1 (by omega) (by omega) (by have := hR.out.2.1.lt; omega)
    have hsub : (s.bl : Int) - F.length = ((s.bl - F.length : Nat) : Int) := by omega
    have hl8 : (F ++ List.replicate (s.bl - F.length) (0 : Int)).length = s.bl := by simp; omega
    rw [hl8] at hrun
    obtain ⟨m, hm⟩ : ∃ m, s.bl = m + 1 := ⟨s.bl - 1, by omega⟩
    have hm1 : (s.bl : Int) - 1 = (m : Int) := by omega
    obtain ⟨g8, rfl, hc8⟩ := h8.at_ (k := m) (by omega)
    have hf8 := h8.frozen m
    have hb8 : (m : Int) < s.bl := by omega
    have hs9 := h8.set_last (k := m) (by omega) 231
    have hfill : (F ++ List.replicate (s.bl - F.length) 0).set m 231 = fillB F s.bl := by unfold fillB; rw [hm]; rfl
    rw [hfill] at hs9
    have HS9 := Lib.hid hs9
    have HM := Lib.hid hm
    clear hs9 hfill hm
    generalize (F ++ List.replicate (s.bl - F.length) 0).getD m 0 = y8 at hc8
    have HRUN := Lib.hid hrun
    have H8 := Lib.hid h8
    have K8 := Lib.hid k8
    have HL8 := Lib.hid hl8
    clear hrun h8 k8 hl8
    have hb38 : Blk w8 w.heap.size 23 #[.int .i64 s.z, .int .i64 s.zb, .int .i64 s.bl, .int .i64 s.rs] := K8.out.blk hR.out.2.1 (fun h => by have := (hR.out.1.lt h).1; omega)
    have hz8 : w8.cell? ⟨w.heap.size, 2, none⟩ = some (.int .i64 s.bl) := hb38.cell 2
    have hz7 : wr.cell? ⟨w.heap.size, 2, none⟩ = some (.int .i64 s.bl) := hR.out.2.1.cell 2
    clear hb38
    go_wp2_with (first
      | (at_builtin
         refine Lib.wpList_append_run wr rfl (.tmp 49) (.tmp 54) _ _ rfl _ _ rfl rfl _ _ HRUN.out ?_))
    clear hz8 hz7
    have hw9 : Below w.heap.size w (w8.setCell ⟨g8, m, none⟩ (.int .u8 231)) := by
     have k1 := Kp.below hR.out.2.2 K8.out hR.out.2.2.size (fun b hb h => by have := (hR.out.1.lt h).1; omega)
     exact k1.setCell (p := ⟨g8, m, none⟩) (by have := (H8.out.lt (b := g8) rfl).1; show w.heap.size <= g8; omega) _
    have HW9 := Lib.hid hw9
    clear hw9 hc8 hf8
    generalize w8.setCell ⟨g8, m, none⟩ (.int .u8 231) = w9 at *
    have hlB : (fillB F s.bl).length = s.bl := fillB_length F s.bl (by omega)
    have hbB : ∀ x ∈ fillB F s.bl, ByteOk x := fillB_bd F s.bl HFB.out
    have hcb : s.bl <= c8 := by
     rcases HS9.out.2 with ⟨_, h0⟩ | ⟨g', cap, cur, hv, _, _, hnc, _⟩
     · omega
     · injection hv with _ _ e3
       subst e3
       rw [hlB] at hnc
       exact hnc
    obtain ⟨S, hS⟩ : ∃ S, sumS 0 (fillB F s.bl) = S := ⟨_, rfl⟩
    have hSb : U32 S := by
     rw [<- hS]
     exact sumS_bd _ _ ⟨by omega, by omega⟩ hbB
    have hrd9 : Reads w9 w9.heap.size 1 (some ⟨g8, 0, none⟩) s.bl (nums .u8 (fillB F s.bl)) := by
     have := HS9.out.reads
     rw [hlB] at this
     exact this
    have HSUM : Hid (∀ u g, Below w9.heap.size w9 u -> Blk u g 36 #[.slice (some ⟨g8, 0, none⟩) s.bl c8] -> Calls Tryz.prog 181 #[.slice (some ⟨g, 0, none⟩) 1 1] u (fun e w' => e = .returned (.int .u32 S) ∧ u = w')) := fun u g hu hg => by
     have := sum_one u g _ c8 s.bl (fillB F s.bl) _ hg (hrd9.below hu) hbB (by omega)
     rw [hS] at this
     exact this
    have HSB := Lib.hid hSb
    have HS := Lib.hid hS
    have hsl : ∀ u : World, (Instr.slice 36 (.slice (some ⟨g8, 0, none⟩) s.bl c8) (some (.int .i64 4)) none none).run Tryz.prog u = .ok (.slice (if c8 = 4 then some ⟨g8, 0, none⟩ else (some (⟨g8, 0, none⟩ : Addr)).map (·.add 4)) (s.bl - 4) (c8 - 4)) u := run_back_u8 (some ⟨g8, 0, none⟩) s.bl c8 4 (by omega)
    have e4 : (if c8 = 4 then some (⟨g8, 0, none⟩ : Addr) else (some (⟨g8, 0, none⟩ : Addr)).map (·.add 4)) = some ⟨g8, 4, none⟩ := by
     rw [if_neg (by omega), Option.map_some, add0]
    rw [e4] at hsl
    have hwS : IntKind.u64.wrap S = S := IntWalk.u64_in S (by have := hSb.1; have := hSb.2; omega)
    clear hbB hS hSb e4
    have HS1 := Lib.hid (HSUM.out _ _ (two w9 3 36 #[.int .i64 4] #[.slice (some ⟨g8, 0, none⟩) s.bl c8]).2.2 (two w9 3 36 #[.int .i64 4] #[.slice (some ⟨g8, 0, none⟩) s.bl c8]).2.1)
    have HS2 := Lib.hid (HSUM.out _ _ (two w9 36 3 #[.slice (some ⟨g8, 0, none⟩) s.bl c8] #[.int .i64 4]).2.2 (two w9 36 3 #[.slice (some ⟨g8, 0, none⟩) s.bl c8] #[.int .i64 4]).1)
    have HS3 := Lib.hid (HSUM.out (w9.alloc (.cells #[.slice (some ⟨g8, 0, none⟩) s.bl c8] 36)).drew w9.heap.size ((Below.refl _ _).alloc (Nat.le_refl _) _).drew (Blk.new w9 _ _).drew)
    have HP1 := Lib.hid (pack_sum w9 _ _ _ S HSB.out (three w9 3 36 40 #[.int .i64 4] #[.slice (some ⟨g8, 0, none⟩) s.bl c8] #[.int .u64 S]).1 (three w9 3 36 40 #[.int .i64 4] #[.slice (some ⟨g8, 0, none⟩) s.bl c8] #[.int .u64 S]).2.2.1 (three w9 3 36 40 #[.int .i64 4] #[.slice (some ⟨g8, 0, none⟩) s.bl c8] #[.int .u64 S]).2.2.2)
    have HP2 := Lib.hid (pack_sum w9 _ _ _ S HSB.out (three w9 36 3 40 #[.slice (some ⟨g8, 0, none⟩) s.bl c8] #[.int .i64 4] #[.int .u64 S]).2.1 (three w9 36 3 40 #[.slice (some ⟨g8, 0, none⟩) s.bl c8] #[.int .i64 4] #[.int .u64 S]).2.2.1 (three w9 36 3 40 #[.slice (some ⟨g8, 0, none⟩) s.bl c8] #[.int .i64 4] #[.int .u64 S]).2.2.2)
    have HP3 := Lib.hid (pack_sum w9 _ _ _ S HSB.out (three w9 36 40 3 #[.slice (some ⟨g8, 0, none⟩) s.bl c8] #[.int .u64 S] #[.int .i64 4]).2.2.1 (three w9 36 40 3 #[.slice (some ⟨g8, 0, none⟩) s.bl c8] #[.int .u64 S] #[.int .i64 4]).2.1 (three w9 36 40 3 #[.slice (some ⟨g8, 0, none⟩) s.bl c8] #[.int .u64 S] #[.int .i64 4]).2.2.2)
    have HB8 : Hid (8 <= (fillB F s.bl).length) := by unfold Hid; rw [hlB]; omega
    go_region_held3 (fun _ => True) (trivial)
      (first
        | (go_at_call 181
           with_reducible refine HS1.out.mono ?_
           rintro e w10 ⟨rfl, rfl⟩)
        | (go_at_call 181
           with_reducible refine HS2.out.mono ?_
           rintro e w10 ⟨rfl, rfl⟩)
        | (go_at_call 181
           with_reducible refine HS3.out.mono ?_
           rintro e w10 ⟨rfl, rfl⟩)
        | (go_at_call 186
           with_reducible refine HP1.out.mono ?_
           rintro e w11 ⟨A11, c11, rfl, hrd, h911⟩
           obtain ⟨w12, hcp, hb12, hk12⟩ := run_copy_sum w11 _ g8 c8 _ (HS9.out.below h911 (Nat.le_refl _)) HB8.out _ c11 S _ hrd 3
           rw [hlB] at hcp
           have H12 := Lib.hid (And.intro hb12 (And.intro hk12 h911))
           clear h911 hrd hb12 hk12)
        | (go_at_call 186
           with_reducible refine HP2.out.mono ?_
           rintro e w11 ⟨A11, c11, rfl, hrd, h911⟩
           obtain ⟨w12, hcp, hb12, hk12⟩ := run_copy_sum w11 _ g8 c8 _ (HS9.out.below h911 (Nat.le_refl _)) HB8.out _ c11 S _ hrd 3
           rw [hlB] at hcp
           have H12 := Lib.hid (And.intro hb12 (And.intro hk12 h911))
           clear h911 hrd hb12 hk12)
        | (go_at_call 186
           with_reducible refine HP3.out.mono ?_
           rintro e w11 ⟨A11, c11, rfl, hrd, h911⟩
           obtain ⟨w12, hcp, hb12, hk12⟩ := run_copy_sum w11 _ g8 c8 _ (HS9.out.below h911 (Nat.le_refl _)) HB8.out _ c11 S _ hrd 3
           rw [hlB] at hcp
           have H12 := Lib.hid (And.intro hb12 (And.intro hk12 h911))
           clear h911 hrd hb12 hk12))
    all_goals
     clear hcp
     go_wp2
     go_ret
     have he : blockC s.bl at_ many seq L = sumB (fillB F s.bl) S := by rw [HF0.out]; unfold doneB; rw [HS.out]
     rw [he]
     refine ⟨some ⟨g8, 0, none⟩, c8, rfl, H12.out.1.rebase (fun b hb => by have := (H12.out.1.lt hb).1; omega), ?_⟩
     have h1 := HW9.out.trans (H12.out.2.2.mono HW9.out.size)
     exact Kp.below h1 H12.out.2.1 h1.size (fun b hb e => by have := (HS9.out.lt (b := g8) rfl).1; omega)
end Go.Proofs.YtfabgbmbnmbjkaaGreatDoor

/- Pruned. -/
namespace Go.Proofs.YtfabgbmbnmbjkaaGreatDoor
open Go.RowKit Go.Shelf
set_option maxRecDepth 20000
attribute [local go_sem] Oper.semAt_some
def chL (n R k : Nat) : Nat := min R (n - k * R)
def chP (A : Option Addr) (n R k : Nat) : Value := .slice (A.map (·.add (k * R * 4))) (chL n R k) (chL n R k)
theorem elem_plc : Tryz.prog.underlying 47 = some (.slice (Tryz.prog.elem 47)) := by kernel_rfl
theorem size_pl (u : World) : (sizeOf (Tryz.prog.elem 47)).run Tryz.prog u = .ok 4 u := by kernel_rfl
theorem run_from_pl (A : Option Addr) (n c i : Nat) (h : i <= n) (u : World) :
    (Instr.slice 47 (.slice A n c) (some (.int .i64 (i : Int))) none none).run Tryz.prog u = .ok (.slice (if c = i then A else A.map (·.add (i * 4))) (n - i) (c - i)) u := by
 rw [run_slice_l u _ A n c elem_plc .i64 (i : Int) (by omega) (by omega), size_pl]
 simp only [Result.andThen, sliced, Int.toNat_natCast]
theorem run_chunk_pl (A : Option Addr) (n c i m : Nat) (h : i + m <= c) (hb : 1 <= m) (u : World) :
    (Instr.slice 47 (.slice A n c) (some (.int .i64 (i : Int))) (some (.int .i64 ((i : Int) + m))) (some (.int .i64 ((i : Int) + m)))).run Tryz.prog u = .ok (.slice (A.map (·.add (i * 4))) m m) u := by
 rw [run_slice_lhm u _ A n c elem_plc .i64 .i64 .i64 (i : Int) ((i : Int) + m) ((i : Int) + m) (by omega) (by omega) (by omega) (by omega), size_pl]
 have e : ((i : Int) + m).toNat = i + m := by omega
 have e2 : i + m - i = m := by omega
 have e3 : ¬ i + m = i := by omega
 simp only [Result.andThen, sliced, Int.toNat_natCast, e, e2, if_neg e3]
set_option maxRecDepth 100000 in
set_option maxHeartbeats 4000000 in
theorem chunkp1_in (F : Fence) (n : Nat) (hf : F.fn 189) (hro : F.round = none) (hn : 1 <= n) (l B1 B2 : Nat) (A : Option Addr) (tot R cnt c : Nat) (hR : 1 <= R) (hR2 : R <= 65536) (htot : tot <= 100000) (hc : tot <= c) (hcnt : tot <= cnt * R) (hfit : ∀ k, k < cnt -> k * R < tot) (J Jx : List (Fin cnt) -> World -> Prop)
    (hY : ∀ pre (x : Fin cnt) W, J pre W -> pre.length < cnt -> YieldAt F (n - 1) Tryz.prog l #[chP A tot R x.1] W fun e W' =>
      (e = .returned (.bool true) ∧ J (pre ++ [x]) W' ∧ ChKp B1 B2 W W') ∨ (e = .returned (.bool false) ∧ Jx (pre ++ [x]) W'))
    (W : World) (hJ : AbidesFrom W.heap.size J) (h1 : W.cell? ⟨B1, 0, none⟩ = some (.slice A tot c)) (h2 : W.cell? ⟨B2, 0, none⟩ = some (.int .i64 R)) (h0 : J [] W) :
    CallsIn F n Tryz.prog 189 #[.func (.yield l) #[] #[], .pointer (some ⟨B1, 0, none⟩), .pointer (some ⟨B2, 0, none⟩)] W fun e W' => (∃ v, e = .returned v) ∧
      ((∃ xs, xs = List.finRange cnt ∧ J xs W') ∨ (∃ pre, True ∧ Jx pre W')) := by
 refine callsIn_of_wp Tryz.func189 rfl hf ?_ hro
 simp only [Tryz.ntmps189, List.size_toArray, List.length_cons, List.length_nil, Nat.reduceAdd, Nat.reduceSub, Array.replicate_succ, Array.replicate_zero, List.push_toArray, List.append_toArray, List.nil_append, List.cons_append]
 gi_wp2
 gi_loopw [4] (fun i wr => ∃ k : Nat, k <= cnt ∧ i = .int .i64 ((k * R : Nat) : Int) ∧ J ((List.finRange cnt).take k) wr ∧ ChKp B1 B2 W wr) (fun i _ => cnt * R - (intOf i).toNat)
 case atStart => exact ⟨0, Nat.zero_le _, by simp, by simpa using h0, fun _ h => h, fun _ h => h⟩
 case round =>
  obtain ⟨k, hk, rfl, hJs, hkp⟩ := hrel
  have g1 := hkp.1 _ h1
  have g2 := hkp.2 _ h2
  by_cases hlt : k < cnt
  · have hft := hfit k hlt
    have hle : k * R + R <= cnt * R := by
     have := Nat.mul_le_mul_right R (show k + 1 <= cnt from hlt)
     rw [Nat.succ_mul] at this
     exact this
    have hcl : chL tot R k = min R (tot - k * R) := rfl
    have hs1 := run_from_pl A tot c (k * R) (by omega)
    have hs2 := run_chunk_pl A tot c (k * R) (chL tot R k) (by omega) (by omega)
    have hJd : J ((List.finRange cnt).take k) wr.drew := hJ _ wr wr.drew none hJs ⟨rfl, rfl, rfl, Nat.le_refl _, fun _ _ _ => rfl⟩ (fun r e => by cases e)
    obtain ⟨fn, tmps, assign, body, hy, hRR⟩ := hY _ ⟨k, hlt⟩ wr.drew hJd (by simp; omega)
    unfold chP at hy
    dsimp only at hy
    obtain ⟨AK, hAK⟩ : ∃ AK, A.map (·.add (k * R * 4)) = AK := ⟨_, rfl⟩
    rw [hAK] at hs2 hy
    obtain ⟨m, hm⟩ : ∃ m, chL tot R k = m := ⟨_, rfl⟩
    rw [hm] at hs2 hy hcl
    have hcase : (((tot - k * R : Nat) : Int) < R ∧ m = tot - k * R) ∨ (¬ ((tot - k * R : Nat) : Int) < R ∧ m = R) := by omega
    have hi0 : ((k * R : Nat) : Int) < (tot : Int) := by omega
    have hnext : ((k * R : Nat) : Int) + R = (((k + 1) * R : Nat) : Int) := by rw [Nat.succ_mul]; omega
    have HNX := Lib.hid hnext
    have HFT := Lib.hid (fin_take_succ cnt k hlt)
    have HLE := Lib.hid hle
    have HKP := Lib.hid hkp
    have HLT := Lib.hid hlt
    have hk9 : k * R <= 100000 := by omega
    clear hAK hJd hnext hkp hft hm hcl
    obtain ⟨A1, hA1⟩ : ∃ A1, (if c = k * R then A else A.map (·.add (k * R * 4))) = A1 := ⟨_, rfl⟩
    rw [hA1] at hs1
    clear hA1
    generalize k * R = i0 at *
    have ht9 : i0 + (tot - i0) <= 100000 := by omega
    generalize tot - i0 = t1 at *
    rcases hcase with ⟨hmin, rfl⟩ | ⟨hmin, rfl⟩
    · have hw1 : IntKind.i64.wrap ((i0 : Int) + m) = (i0 : Int) + m := by rw [IntKind.wrap_i64]; omega
      have hmin2 : min (R : Int) (m : Int) = (m : Int) := by omega
      have hmin3 : (m : Int) <= (R : Int) := by omega
      clear hle hmin
      gi_wp2
      gi_region
      all_goals
       gi_wp2
       refine hRR.mono ?_
       rintro e W3 (⟨rfl, hJ3, hk3⟩ | ⟨rfl, hJx3⟩)
       · have g1' : W3.cell? ⟨B1, 0, none⟩ = some (.slice A tot c) := hk3.1 _ g1
         have g2' : W3.cell? ⟨B2, 0, none⟩ = some (.int .i64 R) := hk3.2 _ g2
         have HK3 : Hid (ChKp B1 B2 W W3) := ⟨fun v hv => hk3.1 v (HKP.out.1 v hv), fun v hv => hk3.2 v (HKP.out.2 v hv)⟩
         have HJ3 := Lib.hid hJ3
         clear hk3 hJ3
         gi_wp2
         go_roundw
         case rel => exact ⟨k + 1, HLT.out, by rw [HNX.out], by rw [HFT.out]; exact HJ3.out, HK3.out⟩
         case measure => have := HLE.out; simp [intOf]; omega
       · gi_wp2
         refine bodyPost_ret (results_none rfl _ _ _) rfl ?_
         exact ⟨⟨_, rfl⟩, .inr ⟨_, True.intro, hJx3⟩⟩
    · have hw1 : IntKind.i64.wrap ((i0 : Int) + m) = (i0 : Int) + m := by rw [IntKind.wrap_i64]; omega
      have hmin2 : min (m : Int) (t1 : Int) = (m : Int) := by omega
      have hmin3 : (m : Int) <= (t1 : Int) := by omega
      clear hle hmin
      gi_wp2
      gi_region
      all_goals
       gi_wp2
       refine hRR.mono ?_
       rintro e W3 (⟨rfl, hJ3, hk3⟩ | ⟨rfl, hJx3⟩)
       · have g1' : W3.cell? ⟨B1, 0, none⟩ = some (.slice A tot c) := hk3.1 _ g1
         have g2' : W3.cell? ⟨B2, 0, none⟩ = some (.int .i64 m) := hk3.2 _ g2
         have HK3 : Hid (ChKp B1 B2 W W3) := ⟨fun v hv => hk3.1 v (HKP.out.1 v hv), fun v hv => hk3.2 v (HKP.out.2 v hv)⟩
         have HJ3 := Lib.hid hJ3
         clear hk3 hJ3
         gi_wp2
         go_roundw
         case rel => exact ⟨k + 1, HLT.out, by rw [HNX.out], by rw [HFT.out]; exact HJ3.out, HK3.out⟩
         case measure => have := HLE.out; simp [intOf]; omega
       · gi_wp2
         refine bodyPost_ret (results_none rfl _ _ _) rfl ?_
         exact ⟨⟨_, rfl⟩, .inr ⟨_, True.intro, hJx3⟩⟩
  · obtain rfl : k = cnt := by omega
    have hge : ¬ ((k * R : Nat) : Int) < (tot : Int) := by omega
    generalize k * R = i0 at *
    gi_wp2
    go_end0
    rw [List.take_of_length_le (by simp)] at hJs
    exact ⟨⟨_, rfl⟩, .inl hJs⟩
theorem chunkp_in (F : Fence) (n : Nat) (hf : F.fn 145) (hro : F.round = none) (A : Option Addr) (len cap R : Nat) (hR : 1 <= R) (w : World) :
    CallsIn F n Tryz.prog 145 #[.slice A len cap, .int .i64 R] w fun e w' => e = .returned (.func (.func 189) #[] #[.pointer (some ⟨w.heap.size, 0, none⟩), .pointer (some ⟨w.heap.size + 1, 0, none⟩)]) ∧
      w' = (w.alloc (.cells #[.slice A len cap] 47)).alloc (.cells #[.int .i64 R] 3) := by
 refine callsIn_of_wp Tryz.func145 rfl hf ?_ hro
 simp only [Tryz.ntmps145, List.size_toArray, List.length_cons, List.length_nil, Nat.reduceAdd, Nat.reduceSub, Array.replicate_succ, Array.replicate_zero, List.push_toArray, List.append_toArray, List.nil_append, List.cons_append]
 have h1 : ¬ (R : Int) < 1 := by omega
 gi_wp2
 go_ret
 exact ⟨rfl, rfl⟩
theorem chunkp_stops (F : Fence) (n : Nat) (hf : F.fn 189) (hro : F.round = none) (hn : 1 <= n) (B1 B2 : Nat) (A : Option Addr) (tot R cnt c : Nat) (hR : 1 <= R) (hR2 : R <= 65536) (htot : tot <= 100000) (hc : tot <= c) (hcnt : tot <= cnt * R) (hfit : ∀ k, k < cnt -> k * R < tot) (w : World)
    (h1 : w.cell? ⟨B1, 0, none⟩ = some (.slice A tot c)) (h2 : w.cell? ⟨B2, 0, none⟩ = some (.int .i64 R)) :
    SeqStopsK F n Tryz.prog 189 #[.pointer (some ⟨B1, 0, none⟩), .pointer (some ⟨B2, 0, none⟩)] (fun x : Fin cnt => #[chP A tot R x.1]) (ChKp B1 B2) (fun xs => xs = List.finRange cnt) (fun _ => True) cnt w := fun l J Jx W hW hJ _ hY h0 =>
 chunkp1_in F n hf hro hn l B1 B2 A tot R cnt c hR hR2 htot hc hcnt hfit J Jx hY W hJ (below_keep hW h1) (below_keep hW h2) h0
end Go.Proofs.YtfabgbmbnmbjkaaGreatDoor

