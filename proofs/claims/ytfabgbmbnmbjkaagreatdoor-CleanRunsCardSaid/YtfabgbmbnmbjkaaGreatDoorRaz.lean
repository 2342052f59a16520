/- Joined texts: Qk Co. -/
import Derived.Test.YtfabgbmbnmbjkaaGreatDoorRar
import Derived.Test.YtfabgbmbnmbjkaaGreatDoorRay
/- Pruned. -/
namespace Go.Proofs.YtfabgbmbnmbjkaaGreatDoor
open Go.RowKit
set_option maxRecDepth 20000
theorem RowAt.below {w w' : World} {A : Option Addr} {L : List Pl} (h : RowAt w A L) (hb : Below w.heap.size w w') : RowAt w' A L := fun h0 => by
 obtain ⟨r, rfl, p⟩ := h h0
 exact ⟨r, rfl, ⟨fun i hi => below_keep hb (p.c0 i hi), fun i hi => below_keep hb (p.c1 i hi), fun i hi => below_keep hb (p.c2 i hi), fun i hi => below_keep hb (p.c3 i hi)⟩⟩
set_option maxHeartbeats 2000000 in
theorem qrises_any (w : World) (sh : Sh) (L : List Pl) (A : Option Addr) (c : Nat) (hl : L.length <= 1000000) (h : RowAt w A L) (hok : PlacesOk sh L) :
    Calls Tryz.prog 149 #[.slice A L.length c] w (Makes (.bool true) w) := by
 have H := Lib.hid h
 have HN := Lib.hid (fun k (hk : k + 1 < L.length) => hok.next hk)
 clear h hok
 go_enter Tryz.func149, Tryz.ntmps149
 go_wp2_with (fail)
 go_loopw [3] (fun i wr => ∃ q : Nat, i = .int .i64 q ∧ 1 <= q ∧ q <= L.length + 1 ∧ Hid (Below w.heap.size w wr)) (fun i _ => L.length + 1 - (intOf i).toNat)
 case atStart => exact ⟨1, rfl, by omega, by omega, (Below.refl _ _)⟩
 case round =>
  obtain ⟨q, rfl, hq1, hq2, hb⟩ := hrel
  by_cases hlt : q < L.length
  · obtain ⟨k, hk⟩ : ∃ k, q = k + 1 := ⟨q - 1, by omega⟩
    have hk1 : (q : Int) - 1 = (k : Int) := by omega
    have hkl : k < L.length := by omega
    obtain ⟨r, rfl, p⟩ := (H.out.below hb.out) (by omega)
    have a0 := p.c0 k (by omega)
    have a1 := p.c1 k (by omega)
    have a2 := p.c2 k (by omega)
    have a3 := p.c3 k (by omega)
    have b0 := p.c0 q hlt
    have b1 := p.c1 q hlt
    have b2 := p.c2 q hlt
    have b3 := p.c3 q hlt
    have hn := HN.out k (by omega)
    rw [<- hk] at hn
    have HKQ := Lib.hid hk
    clear hk
    generalize L.getD k p0 = x at *
    generalize L.getD q p0 = y at *
    obtain ⟨xt, xb, xz, xk⟩ := x
    obtain ⟨yt, yb, yz, yk⟩ := y
    simp only at a0 a1 a2 a3 b0 b1 b2 b3 hn
    have hal : Below wr.heap.size wr (wr.alloc (.cells #[.int .u32 xt, .int .u64 xb, .int .i64 xz, .int .i64 xk] 55)) := (Below.refl _ wr).alloc (Nat.le_refl _) _
    replace b0 := below_keep hal b0
    replace b1 := below_keep hal b1
    replace b2 := below_keep hal b2
    replace b3 := below_keep hal b3
    clear hal
    clear p
    rcases hn with hn | ⟨rfl, hn⟩
    · have h1 : ¬ yt < xt := by omega
      have h2 : (xt == yt) = false := by rw [beq_eq_false_iff_ne]; omega
      clear hn
      go_wp2
      go_roundw
      case rel => exact ⟨q + 1, by go_num, by omega, by omega, (hb.out.alloc hb.out.size _).alloc (by simp; have := hb.out.size; omega) _⟩
      case measure => simp [intOf]; omega
    · have h1 : ¬ yb <= xb := by omega
      clear hn
      go_wp2
      go_roundw
      case rel => exact ⟨q + 1, by go_num, by omega, by omega, (hb.out.alloc hb.out.size _).alloc (by simp; have := hb.out.size; omega) _⟩
      case measure => simp [intOf]; omega
  · go_wp2
    go_ret
    exact ⟨rfl, hb.out⟩
end Go.Proofs.YtfabgbmbnmbjkaaGreatDoor

/- Pruned. -/
namespace Go.Proofs.YtfabgbmbnmbjkaaGreatDoor
open Go.RowKit
set_option maxRecDepth 20000
structure BsO (W : World) (base : Nat) (A : Option Addr) (c : Nat) (L : List (List Int)) : Prop where
  is : ∃ vs : List Value, W.ownsRow base 36 1 (.slice A L.length c) L.length vs ∧ vs.length = L.length ∧ ∀ j, j < L.length -> ∃ Aj cj, vs[j]? = some (.slice Aj (L.getD j []).length cj) ∧ DataY (fun b => base <= b) W Aj (L.getD j [])
theorem BsO.nil (W : World) (base : Nat) : BsO W base none 0 [] := ⟨[], World.ownsRow_nil _ _ _ _, rfl, fun j hj => absurd hj (by simp)⟩
theorem DataY.below {Y : Nat -> Prop} {w w' : World} {A : Option Addr} {b : List Int} (h : DataY Y w A b) (hb : Below w.heap.size w w') : DataY Y w' A b := by
 obtain ⟨g, cs, e, hy, hB, hc⟩ := h
 exact ⟨g, cs, e, hy, hB.below hb hB.lt, hc⟩
theorem DataY.kpt {Y : Nat -> Prop} {S : Nat -> Prop} {w w' : World} {A : Option Addr} {b : List Int} (h : DataY Y w A b) (hk : Kp S w w') (hs : ∀ g cs, Blk w g 5 cs -> ¬ S g) : DataY Y w' A b := by
 obtain ⟨g, cs, e, hy, hb, hc⟩ := h
 exact ⟨g, cs, e, hy, hk.blk hb (hs g cs hb), hc⟩
theorem BsO.below {W W' : World} {base c : Nat} {A : Option Addr} {L : List (List Int)} (h : BsO W base A c L) (hb : Below W.heap.size W W') : BsO W' base A c L := by
 obtain ⟨vs, h1, h2, h3⟩ := h.is
 refine ⟨vs, ownsRow_of_block h1 (fun g he => hb.block g (World.ownsRow.lt h1 g he).2), h2, fun j hj => ?_⟩
 obtain ⟨Aj, cj, e, hd⟩ := h3 j hj
 exact ⟨Aj, cj, e, hd.below hb⟩
theorem BsO.lt {W : World} {base c : Nat} {A : Option Addr} {L : List (List Int)} (h : BsO W base A c L) {g : Nat} (hg : (Value.slice A L.length c).ownBlock = some g) : base <= g ∧ g < W.heap.size := by
 obtain ⟨vs, h1, _⟩ := h.is
 exact World.ownsRow.lt h1 g hg
theorem BsO.app {w5 : World} {base c : Nat} {A : Option Addr} {L : List (List Int)} (h : BsO w5 base A c L) {base5 c5 : Nat} {A5 : Option Addr} {b : List Int} (hb : BRow w5 base5 A5 c5 b) (h0 : 0 < b.length) (h5 : base <= base5) (hl : L.length <= 100000) (hbase : base <= w5.heap.size) :
    ∃ A7 c7 w7, (Builtin.append_ #[51, 51] 51 #[.slice A L.length c, .slice (some ⟨w5.heap.size, 0, none⟩) 1 1]).run Tryz.prog (w5.alloc (.cells #[.slice A5 b.length c5] 36)) = .ok (.slice A7 (L.length + 1) c7) w7 ∧
      BsO w7 base A7 c7 (L ++ [b]) ∧ Kp (fun g => (Value.slice A L.length c).ownBlock = some g) w5 w7 := by
 obtain ⟨vs, h1, h2, h3⟩ := h.is
 obtain ⟨A7, c7, w7, hrun, hown, hk⟩ := run_app_one w5 base A L.length c vs h1 A5 b.length c5 hl hbase
 have hty : ∀ g cs, Blk w5 g 5 cs -> ¬ (Value.slice A L.length c).ownBlock = some g := fun g cs hB e => own_blk_ne h1 hB (by decide) e
 refine ⟨A7, c7, w7, hrun, ⟨vs ++ [.slice A5 b.length c5], ?_, by simp [h2], fun j hj => ?_⟩, hk⟩
 · have e : (L ++ [b]).length = L.length + 1 := by simp
   rw [e]
   exact hown
 · rw [List.length_append] at hj
   rw [getD_snoc _ _ _ _ (by simpa using hj)]
   split
   · rename_i hj'
     obtain ⟨Aj, cj, e, hd⟩ := h3 j hj'
     exact ⟨Aj, cj, by rw [List.getElem?_append_left (by omega)]; exact e, hd.kpt hk hty⟩
   · have : j = L.length := by simp at hj; omega
     subst this
     refine ⟨A5, c5, by rw [List.getElem?_append_right (by omega), h2]; simp, ?_⟩
     exact (DataY.of_row (Y := fun i => base <= i) hb h0 (fun i hi => Nat.le_trans h5 hi)).kpt hk hty
theorem BsO.blocksY {W : World} {base c : Nat} {A : Option Addr} {L : List (List Int)} (h : BsO W base A c L) : BlocksY (fun b => base <= b) W A L := by
 obtain ⟨vs, h1, h2, h3⟩ := h.is
 exact BlocksY.of_own h1 rfl (fun b hb => hb) h3
theorem DataY.mono_ {Y Y' : Nat -> Prop} {W : World} {A : Option Addr} {b : List Int} (h : DataY Y W A b) (hY : ∀ i, Y i -> Y' i) : DataY Y' W A b := by
 obtain ⟨g, cs, e, hy, hB, hc⟩ := h
 exact ⟨g, cs, e, hY _ hy, hB, hc⟩
theorem BlocksY.mono_ {Y Y' : Nat -> Prop} {W : World} {A : Option Addr} {L : List (List Int)} (h : BlocksY Y W A L) (hY : ∀ i, Y i -> Y' i) : BlocksY Y' W A L := fun h0 => by
 obtain ⟨g, cs, e, hy, hB, hc⟩ := h h0
 refine ⟨g, cs, e, hY _ hy, hB, fun j hj => ?_⟩
 obtain ⟨Aj, cj, e1, hd⟩ := hc j hj
 exact ⟨Aj, cj, e1, hd.mono_ hY⟩
end Go.Proofs.YtfabgbmbnmbjkaaGreatDoor

