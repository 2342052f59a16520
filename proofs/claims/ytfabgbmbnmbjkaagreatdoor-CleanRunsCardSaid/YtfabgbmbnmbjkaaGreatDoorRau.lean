/- Joined texts: St St2 St3 St4. -/
import Derived.Test.YtfabgbmbnmbjkaaGreatDoorRaq
import Derived.Test.YtfabgbmbnmbjkaaGreatDoorRao
import Derived.Test.YtfabgbmbnmbjkaaGreatDoorRae
import Derived.Test.YtfabgbmbnmbjkaaGreatDoorRat
/- Pruned. -/
namespace Go.Proofs.YtfabgbmbnmbjkaaGreatDoor
open Go.RowKit
set_option maxRecDepth 20000
def IntOk (z : Int) : Prop := -9223372036854775808 <= z ∧ z <= 9223372036854775807
def intC : KeyCode Tryz.prog 3 Int where
  law := Maps.int_keyed Tryz.underlying3
  kv := .int .i64
  ok := IntOk
  isKey := fun t h => ⟨_, Maps.keyOf_int_mk Tryz.underlying3 (WalkArith.wf_i64 h)⟩
  inj := by
   intro a b h
   injection h
structure StF where
  s : Nat
  d : Nat
  g : Nat
  gb : Nat
  f : LFp
  b : Nat
def StF.own (F : StF) (i : Nat) : Prop := i = F.s ∨ i = F.g ∨ i = F.gb ∨ F.f.S i ∨ i = F.b
structure StNe (F : StF) : Prop where
  sg : F.s ≠ F.g
  sb : F.s ≠ F.gb
  m : ∀ i, F.f.S i -> i ≠ F.s ∧ i ≠ F.g ∧ i ≠ F.gb ∧ i ≠ F.b
  bs : F.b ≠ F.s
  bg : F.b ≠ F.g
  bb : F.b ≠ F.gb
structure StM where
  P : List Part
  G : List Int
  L : List Pl
  seq : Int
  la : Int -> Option Int
  op : Int
  sl : Int
structure StoreIs (X : Nat -> Prop) (w : World) (F : StF) (sh : Sh) (n : Nat) (m : StM) : Prop where
  top : Blk w F.s 92 #[.pointer (some ⟨F.d, 0, none⟩), .pointer (some ⟨F.g, 0, none⟩), .pointer (some ⟨F.f.g, 0, none⟩), .int .u64 m.seq, .map (some F.b), .int .i64 m.op, .int .i64 m.sl]
  dev : DevIs (fun i => X i ∨ F.own i) w F.d sh m.P
  seg : SegOk w F.g F.gb m.G sh.rs
  lm : LM w F.f n m.L
  last : MapF intC (Value.int .u64) w F.b n m.la
  ne : StNe F
  nx : ∀ i, F.own i -> ¬ X i
  sq : 0 <= m.seq ∧ m.seq <= 9000000000000000000 + n
  nn : n <= 1000000
  opr : -1 <= m.op ∧ m.op < sh.z
section
variable {X X' S : Nat -> Prop} {w w' : World} {F : StF} {sh : Sh} {n n' : Nat} {m : StM}
theorem StoreIs.own_lt (h : StoreIs X w F sh n m) {i : Nat} (hi : F.own i) : i < w.heap.size := by
 rcases hi with rfl | rfl | rfl | hi | rfl
 · exact h.top.lt
 · exact h.seg.1.top.lt
 · exact h.seg.1.row.lt
 · exact h.lm.lt hi
 · exact h.last.lt
theorem StoreIs.xlt (h : StoreIs X w F sh n m) {i : Nat} (hi : X i) : i < w.heap.size := h.dev.cl i (.inl hi)
theorem StoreIs.step (h : StoreIs X w F sh n m) (hb : Below w.heap.size w w') (hx : ∀ b, X' b -> b < w'.heap.size ∧ (X b ∨ w.heap.size <= b)) : StoreIs X' w' F sh n m :=
 ⟨h.top.below hb h.top.lt, h.dev.move (fun b hlt _ => hb.block b hlt) (fun b hx'' => by
     rcases hx'' with hx' | ho
     · rcases hx b hx' with ⟨h1, h2 | h2⟩
       · exact ⟨h1, .inl (.inl h2)⟩
       · exact ⟨h1, .inr h2⟩
     · exact ⟨Nat.lt_of_lt_of_le (h.own_lt ho) hb.size, .inl (.inr ho)⟩),
   ⟨h.seg.1.below hb, h.seg.2⟩, h.lm.below hb, h.last.kp (S := fun _ => False) (Kp.of_below hb) (fun e => e), h.ne, fun i hi hx' => by
    rcases (hx i hx').2 with h2 | h2
    · exact h.nx i hi h2
    · have := h.own_lt hi; omega, h.sq, h.nn, h.opr⟩
theorem StoreIs.below (h : StoreIs X w F sh n m) (hb : Below w.heap.size w w') : StoreIs X w' F sh n m :=
 h.step hb (fun _ hx => ⟨Nat.lt_of_lt_of_le (h.xlt hx) hb.size, .inl hx⟩)
theorem StoreIs.less (h : StoreIs X w F sh n m) (hx : ∀ b, X' b -> X b) : StoreIs X' w F sh n m := h.step (Below.refl _ _) (fun b hb => ⟨h.xlt (hx b hb), .inl (hx b hb)⟩)
theorem StoreIs.drew (h : StoreIs X w F sh n m) : StoreIs X w.drew F sh n m := h.below (Below.refl _ _).drew
theorem StoreIs.alloc (h : StoreIs X w F sh n m) (o : Obj) : StoreIs X (w.alloc o) F sh n m := h.below ((Below.refl _ _).alloc (Nat.le_refl _) o)
theorem StoreIs.mono (h : StoreIs X w F sh n m) (hn : n <= n') (hm : n' <= 1000000) : StoreIs X w F sh n' m := ⟨h.top, h.dev, h.seg, h.lm.mono hn, h.last.mono hn, h.ne, h.nx, ⟨h.sq.1, Int.le_trans h.sq.2 (by omega)⟩, hm, h.opr⟩
theorem StoreIs.far (h : StoreIs X w F sh n m) (hk : Kp S w w') (hs : ∀ b, S b -> X b) : StoreIs X w' F sh n m := by
 have nt : ∀ i, F.own i -> ¬ S i := fun i hi hs' => h.nx i hi (hs i hs')
 exact ⟨hk.blk h.top (nt _ (.inl rfl)), h.dev.kp hk (fun b hb => .inl (hs b hb)), ⟨h.seg.1.kp hk (nt _ (.inr (.inl rfl))) (nt _ (.inr (.inr (.inl rfl)))), h.seg.2⟩,
   h.lm.kp hk (fun i hi => nt i (.inr (.inr (.inr (.inl hi))))), h.last.kp hk (nt _ (.inr (.inr (.inr (.inr rfl))))), h.ne, h.nx, h.sq, h.nn, h.opr⟩
theorem StoreIs.onSeg (h : StoreIs X w F sh n m) {G' : List Int} (hk : Kp (fun x => x = F.g ∨ x = F.gb) w w') (hg : SegOk w' F.g F.gb G' sh.rs) : StoreIs X w' F sh n { m with G := G' } := by
 have ne := h.ne
 exact ⟨hk.blk h.top (fun e => e.elim ne.sg ne.sb), h.dev.kp hk (fun b hb => .inr (by rcases hb with rfl | rfl; exact .inr (.inl rfl); exact .inr (.inr (.inl rfl)))), hg,
   h.lm.kp hk (fun i hi e => e.elim (ne.m i hi).2.1 (ne.m i hi).2.2.1), h.last.kp hk (fun e => e.elim ne.bg ne.bb), h.ne, h.nx, h.sq, h.nn, h.opr⟩
theorem StoreIs.onMap (h : StoreIs X w F sh n m) {L' : List Pl} (hk : Kp F.f.T w w') (hl : LM w' F.f n' L') (hn : n <= n') (hm : n' <= 1000000) : StoreIs X w' F sh n' { m with L := L' } := by
 have ne := h.ne
 exact ⟨hk.blk h.top (fun e => (ne.m _ (.inr e)).1 rfl), h.dev.kp hk (fun b hb => .inr (.inr (.inr (.inr (.inl (.inr hb)))))), ⟨h.seg.1.kp hk (fun e => (ne.m _ (.inr e)).2.1 rfl) (fun e => (ne.m _ (.inr e)).2.2.1 rfl), h.seg.2⟩,
   hl, (h.last.kp hk (fun e => (ne.m _ (.inr e)).2.2.2 rfl)).mono hn, h.ne, h.nx, ⟨h.sq.1, Int.le_trans h.sq.2 (by omega)⟩, hm, h.opr⟩
theorem StoreIs.onDev (h : StoreIs X w F sh n m) {P' : List Part} (hk : Kp (fun b => ¬ (X b ∨ F.own b)) w w') (hd : DevIs (fun i => X i ∨ F.own i) w' F.d sh P') : StoreIs X w' F sh n { m with P := P' } :=
 ⟨hk.blk h.top (fun e => e (.inr (.inl rfl))), hd, ⟨h.seg.1.kp hk (fun e => e (.inr (.inr (.inl rfl)))) (fun e => e (.inr (.inr (.inr (.inl rfl))))), h.seg.2⟩,
   h.lm.kp hk (fun _ hi e => e (.inr (.inr (.inr (.inr (.inl hi)))))), h.last.kp hk (fun e => e (.inr (.inr (.inr (.inr (.inr rfl)))))), h.ne, h.nx, h.sq, h.nn, h.opr⟩
theorem StoreIs.onLast (h : StoreIs X w F sh n m) {la' : Int -> Option Int} (hk : Kp (fun x => x = F.b) w w') (hl : MapF intC (Value.int .u64) w' F.b n' la') (hn : n <= n') (hm : n' <= 1000000) : StoreIs X w' F sh n' { m with la := la' } := by
 have ne := h.ne
 exact ⟨hk.blk h.top (fun e => ne.bs e.symm), h.dev.kp hk (fun b hb => .inr (.inr (.inr (.inr (.inr hb))))), ⟨h.seg.1.kp hk (fun e => ne.bg e.symm) (fun e => ne.bb e.symm), h.seg.2⟩,
   (h.lm.kp hk (fun i hi e => (ne.m i hi).2.2.2 e)).mono hn, hl, h.ne, h.nx, ⟨h.sq.1, Int.le_trans h.sq.2 (by omega)⟩, hm, h.opr⟩
theorem StoreIs.onTop (h : StoreIs X w F sh n m) {seq op sl : Int} (hk : Kp (fun x => x = F.s) w w')
    (ht : Blk w' F.s 92 #[.pointer (some ⟨F.d, 0, none⟩), .pointer (some ⟨F.g, 0, none⟩), .pointer (some ⟨F.f.g, 0, none⟩), .int .u64 seq, .map (some F.b), .int .i64 op, .int .i64 sl])
    (hn : n <= n') (hm : n' <= 1000000) (hq : 0 <= seq ∧ seq <= 9000000000000000000 + n') (ho : -1 <= op ∧ op < sh.z) : StoreIs X w' F sh n' { m with seq := seq, op := op, sl := sl } := by
 have ne := h.ne
 exact ⟨ht, h.dev.kp hk (fun b hb => .inr (.inl hb)), ⟨h.seg.1.kp hk (fun e => ne.sg e.symm) (fun e => ne.sb e.symm), h.seg.2⟩,
   (h.lm.kp hk (fun i hi e => (ne.m i hi).1 e)).mono hn, (h.last.kp hk ne.bs).mono hn, h.ne, h.nx, hq, hm, ho⟩
theorem StoreIs.c0 (h : StoreIs X w F sh n m) : w.cell? ⟨F.s, 0, none⟩ = some (.pointer (some ⟨F.d, 0, none⟩)) := h.top.cell 0
theorem StoreIs.c1 (h : StoreIs X w F sh n m) : w.cell? ⟨F.s, 1, none⟩ = some (.pointer (some ⟨F.g, 0, none⟩)) := h.top.cell 1
theorem StoreIs.c2 (h : StoreIs X w F sh n m) : w.cell? ⟨F.s, 2, none⟩ = some (.pointer (some ⟨F.f.g, 0, none⟩)) := h.top.cell 2
theorem StoreIs.c3 (h : StoreIs X w F sh n m) : w.cell? ⟨F.s, 3, none⟩ = some (.int .u64 m.seq) := h.top.cell 3
theorem StoreIs.c4 (h : StoreIs X w F sh n m) : w.cell? ⟨F.s, 4, none⟩ = some (.map (some F.b)) := h.top.cell 4
theorem StoreIs.c5 (h : StoreIs X w F sh n m) : w.cell? ⟨F.s, 5, none⟩ = some (.int .i64 m.op) := h.top.cell 5
theorem StoreIs.c6 (h : StoreIs X w F sh n m) : w.cell? ⟨F.s, 6, none⟩ = some (.int .i64 m.sl) := h.top.cell 6
theorem StoreIs.fz (h : StoreIs X w F sh n m) (i : Nat) : w.frozen? ⟨F.s, i, none⟩ = false := h.top.frozen i
end
end Go.Proofs.YtfabgbmbnmbjkaaGreatDoor

/- Pruned. -/
namespace Go.Proofs.YtfabgbmbnmbjkaaGreatDoor
open Go.RowKit
set_option maxRecDepth 20000
section
variable {X : Nat -> Prop} {w w' : World} {F : StF} {sh : Sh} {n : Nat} {m : StM}
theorem StoreIs.segKp (h : StoreIs X w F sh n m) (hk : Kp (fun x => x = F.g ∨ x = F.gb) w w') : Kp (fun b => ¬ X b) w w' :=
 hk.mono fun b _ e => by
  rcases e with rfl | rfl
  · exact h.nx _ (.inr (.inl rfl))
  · exact h.nx _ (.inr (.inr (.inl rfl)))
end
theorem field_sh1 (a b c d : Int) (w : World) : (Instr.field 23 (.agg #[.int .i64 a, .int .i64 b, .int .i64 c, .int .i64 d]) 1).run Tryz.prog w = .ok (.int .i64 b) w := by kernel_rfl
theorem field_sh2 (a b c d : Int) (w : World) : (Instr.field 23 (.agg #[.int .i64 a, .int .i64 b, .int .i64 c, .int .i64 d]) 2).run Tryz.prog w = .ok (.int .i64 c) w := by kernel_rfl
theorem left_any (X : Nat -> Prop) (w : World) (F : StF) (sh : Sh) (n : Nat) (m : StM) (z : Nat) (hz : m.op = z) (h : StoreIs X w F sh n m) :
    Calls Tryz.prog 135 #[.pointer (some ⟨F.s, 0, none⟩)] w (Makes (.int .i64 ((sh.zb : Int) - ((m.P.getD z pt0).bs.length : Nat))) w) := by
 have hsz := h.dev.sz
 have hop := h.opr
 have hzP : z < m.P.length := by omega
 have hfit := (h.dev.fit hzP).fit
 have hzb := h.dev.ok.facts
 have HA := Lib.hid (fun u (hu : StoreIs X u F sh n m) => zat_any _ u F.d sh m.P z hzP hu.dev)
 have HS := Lib.hid (fun u (hu : StoreIs X u F sh n m) => shape_any _ u F.d sh m.P hu.dev)
 have ks : w.cell? ⟨F.s, 0, none⟩ = some (.pointer (some ⟨F.d, 0, none⟩)) ∧ w.cell? ⟨F.s, 5, none⟩ = some (.int .i64 z) := ⟨h.c0, by rw [<- hz]; exact h.c5⟩
 have H := Lib.hid h
 have HA1 := Lib.hid (HA.out _ h.drew)
 have hl1 : (m.P.getD z pt0).bs.length <= 4096 := by omega
 have hl2 : sh.zb <= 4096 := by omega
 clear h hz hsz hop hzP hfit hzb HA
 unfold shV at HS
 have hfl := field_sh1 sh.z sh.zb sh.bl sh.rs
 generalize (m.P.getD z pt0).bs.length = k at *
 generalize (m.P.getD z pt0).du = du at *
 go_enter Tryz.func135, Tryz.ntmps135
 go_wp2_with (fail)
 go_region_held3 (fun u => u.cell? ⟨F.s, 0, none⟩ = some (.pointer (some ⟨F.d, 0, none⟩)) ∧ u.cell? ⟨F.s, 5, none⟩ = some (.int .i64 z))
   (first | exact ks | exact ks2)
   (first
     | (go_at_call 28
        with_reducible refine HA1.out.mono ?_
        rintro e w1 ⟨rfl, hb⟩
        have ks2 : w1.cell? ⟨F.s, 0, none⟩ = some (.pointer (some ⟨F.d, 0, none⟩)) ∧ w1.cell? ⟨F.s, 5, none⟩ = some (.int .i64 z) := ⟨below_keep hb ks.1, below_keep hb ks.2⟩
        have HB := Lib.hid ((Below.refl _ w).drew.trans hb)
        clear hb))
 all_goals
  have h1 := H.out.below HB.out
  have c0 := h1.c0
  have HS1 := Lib.hid (HS.out _ h1)
  clear ks ks2 h1
  go_wp2_with (fail)
  refine HS1.out.mono ?_
  rintro e w2 ⟨rfl, hb2⟩
  have HB2 := Lib.hid (HB.out.trans (hb2.mono HB.out.size))
  clear hb2 c0
  go_wp2
  go_ret
  exact ⟨rfl, HB2.out⟩
def fillM (m : StM) : StM := { m with G := turnL m.G m.op 3, op := -1 }
theorem sfill_any (X : Nat -> Prop) (w : World) (F : StF) (sh : Sh) (n : Nat) (m : StM) (z : Nat) (hz : m.op = z) (hst : stateAt m.G z = 2) (h : StoreIs X w F sh n m) :
    Calls Tryz.prog 136 #[.pointer (some ⟨F.s, 0, none⟩)] w (fun e w' => e = .returned (.tuple #[]) ∧ StoreIs X w' F sh n (fillM m) ∧ Kp (fun b => ¬ X b) w w') := by
 have HF := Lib.hid (fill_any F.g F.gb m.G sh.rs z w.drew h.drew.seg)
 have ks : w.cell? ⟨F.s, 1, none⟩ = some (.pointer (some ⟨F.g, 0, none⟩)) ∧ w.cell? ⟨F.s, 5, none⟩ = some (.int .i64 z) := ⟨h.c1, by rw [<- hz]; exact h.c5⟩
 have H := Lib.hid h
 have HZ := Lib.hid (And.intro hz hst)
 clear h hz hst
 go_enter Tryz.func136, Tryz.ntmps136
 go_wp2_with (fail)
 go_region_held3 (fun u => u.cell? ⟨F.s, 1, none⟩ = some (.pointer (some ⟨F.g, 0, none⟩)) ∧ u.cell? ⟨F.s, 5, none⟩ = some (.int .i64 z))
   (first | exact ks | exact ks2)
   (first
     | (go_at_call 179
        refine HF.out.mono ?_
        rintro e w1 ⟨h1, _, hk⟩
        obtain ⟨rfl, hs1⟩ := h1 HZ.out.2
        have hst := H.out.drew.onSeg hk hs1
        have ks2 : w1.cell? ⟨F.s, 1, none⟩ = some (.pointer (some ⟨F.g, 0, none⟩)) ∧ w1.cell? ⟨F.s, 5, none⟩ = some (.int .i64 z) := ⟨hst.c1, by rw [<- HZ.out.1]; exact hst.c5⟩
        have HST := Lib.hid (And.intro hst (H.out.drew.segKp hk))
        clear hst hk hs1 h1))
 all_goals
  have hfz := HST.out.1.fz 5
  have c5 := HST.out.1.c5
  clear ks ks2
  go_wp2
  go_end0
  have ht := HST.out.1.top.set_ 5 (.int .i64 (-1))
  have hk := (Kp.refl (fun b => b = F.s) w1).setCell (p := ⟨F.s, 5, none⟩) (.inl rfl) (.int .i64 (-1))
  have e : fillM m = { m with G := turnL m.G z 3, seq := m.seq, op := -1, sl := m.sl } := by unfold fillM; rw [HZ.out.1]
  rw [e]
  refine ⟨rfl, HST.out.1.onTop hk (by simpa using ht) (Nat.le_refl _) HST.out.1.nn HST.out.1.sq (by omega), ?_⟩
  exact kp_undrew (HST.out.2.trans (hk.mono (S' := fun b => ¬ X b) (fun b _ e => by rw [e]; exact H.out.nx _ (.inl rfl))) (fun _ _ h => h))
end Go.Proofs.YtfabgbmbnmbjkaaGreatDoor

/- Pruned. -/
namespace Go.Proofs.YtfabgbmbnmbjkaaGreatDoor
open Go.RowKit
set_option maxRecDepth 20000
def leftM (sh : Sh) (m : StM) : Int := (sh.zb : Int) - ((m.P.getD m.op.toNat pt0).bs.length : Nat)
def ready1 (sh : Sh) (m : StM) (need : Int) : StM := if 0 <= m.op ∧ leftM sh m < need then fillM m else m
def readyM (sh : Sh) (m : StM) (need : Int) : Bool × StM :=
 let m1 := ready1 sh m need
 if 0 <= m1.op then (true, m1) else if placeI 1 m1.G 0 = -1 then (false, m1) else (true, { m1 with G := turnL m1.G (placeI 1 m1.G 0) 2, op := placeI 1 m1.G 0 })
theorem ready_end (X : Nat -> Prop) (w : World) (F : StF) (sh : Sh) (n : Nat) (m1 : StM) (h : StoreIs X w F sh n m1) (hl : m1.G.length = sh.z) :
    Calls Tryz.prog 137 #[.pointer (some ⟨F.g, 0, none⟩)] w (fun e w' => ∃ z b, e = .returned (.tuple #[.int .i64 z, .bool b]) ∧ StoreIs X w' F sh n { m1 with G := (if placeI 1 m1.G 0 = -1 then m1.G else turnL m1.G (placeI 1 m1.G 0) 2) } ∧
      Kp (fun b => ¬ X b) w w' ∧ b = !decide (placeI 1 m1.G 0 = -1) ∧ (b = true -> z = placeI 1 m1.G 0 ∧ -1 <= z ∧ z < sh.z)) := by
 refine (take_any F.g F.gb m1.G sh.rs w h.seg).mono ?_
 rintro e w' ⟨h1, h2, hk⟩
 by_cases hp : placeI 1 m1.G 0 = -1
 · obtain ⟨rfl, hs⟩ := h2 hp
   refine ⟨0, false, rfl, ?_, h.segKp hk, by simp [hp], fun e => by cases e⟩
   rw [if_pos hp]
   exact h.onSeg hk hs
 · obtain ⟨rfl, hs⟩ := h1 hp
   refine ⟨placeI 1 m1.G 0, true, rfl, ?_, h.segKp hk, by simp [hp], fun _ => ⟨rfl, ?_⟩⟩
   · rw [if_neg hp]
     exact h.onSeg hk hs
   · have hst := placeI_state hp
     unfold stateAt at hst
     split at hst
     · omega
     · omega
theorem ready_any (X : Nat -> Prop) (w : World) (F : StF) (sh : Sh) (n : Nat) (m : StM) (need : Int) (h : StoreIs X w F sh n m) (hop : 0 <= m.op -> stateAt m.G m.op = 2) (hl : m.G.length = sh.z) :
    Calls Tryz.prog 79 #[.pointer (some ⟨F.s, 0, none⟩), .int .i64 need] w (fun e w' => e = .returned (.bool (readyM sh m need).1) ∧ StoreIs X w' F sh n (readyM sh m need).2 ∧ Kp (fun b => ¬ X b) w w') := by
 by_cases ho : 0 <= m.op
 · obtain ⟨z, hz⟩ := Int.eq_ofNat_of_zero_le ho
   have HL := Lib.hid (left_any X w F sh n m z hz h)
   have HF := Lib.hid (fun u (hu : StoreIs X u F sh n m) => sfill_any X u F sh n m z hz (by rw [<- hz]; exact hop ho) hu)
   have H := Lib.hid h
   have c5 := h.c5
   rw [hz] at c5
   by_cases hlt : leftM sh m < need
   · have hr : ready1 sh m need = fillM m := if_pos ⟨ho, hlt⟩
     have HR := Lib.hid hr
     have hd : (sh.zb : Int) - ((m.P.getD z pt0).bs.length : Nat) < need := by unfold leftM at hlt; rw [hz] at hlt; exact hlt
     have HG : Hid ((fillM m).G.length = sh.z) := by unfold Hid fillM turnL; simpa using hl
     clear h hop hr hlt hl
     generalize (sh.zb : Int) - ((m.P.getD z pt0).bs.length : Nat) = lf at *
     go_enter Tryz.func79, Tryz.ntmps79
     go_wp2_with (fail)
     refine HL.out.mono ?_
     rintro e w1 ⟨rfl, hb1⟩
     have H1 := Lib.hid (And.intro (H.out.below hb1) hb1)
     clear hb1 c5
     go_wp2_with (fail)
     refine (HF.out _ H1.out.1).mono ?_
     rintro e w2 ⟨rfl, h2, hk2⟩
     have c5 := h2.c5
     have c1 := h2.c1
     have hm1 : (fillM m).op = -1 := rfl
     rw [hm1] at c5
     have H2 := Lib.hid (And.intro h2 ((Kp.of_below (S := fun b => ¬ X b) H1.out.2).trans hk2 (fun _ _ h => h)))
     have HT := Lib.hid (ready_end X w2 F sh n (fillM m) h2 HG.out)
     clear h2 hk2 H1 hm1 HL HF
     go_wp2_with (fail)
     refine HT.out.mono ?_
     rintro e w3 ⟨zz, b, rfl, h3, hk3, hb, hzb⟩
     have HK3 := Lib.hid (H2.out.2.trans hk3 (fun _ _ h => h))
     have HB := Lib.hid hb
     have HZB := Lib.hid hzb
     have HRM : Hid (readyM sh m need = if placeI 1 (fillM m).G 0 = -1 then (false, fillM m) else (true, { (fillM m) with G := turnL (fillM m).G (placeI 1 (fillM m).G 0) 2, op := placeI 1 (fillM m).G 0 })) := by
      unfold Hid readyM
      rw [HR.out]
      simp only
      rw [if_neg (by show ¬ (0 : Int) <= -1; decide)]
     clear hk3 hb hzb HT c5 c1
     cases b with
     | false =>
       have hp : placeI 1 (fillM m).G 0 = -1 := by simpa using HB.out
       rw [if_pos hp] at h3
       have H3 := Lib.hid h3
       have HP := Lib.hid hp
       clear h3 hp
       go_wp2
       go_ret
       rw [HRM.out, if_pos HP.out]
       exact ⟨rfl, H3.out, HK3.out⟩
     | true =>
       have hp : ¬ placeI 1 (fillM m).G 0 = -1 := by simpa using HB.out
       rw [if_neg hp] at h3
       obtain ⟨hzz, hz1, hz2⟩ := HZB.out rfl
       have c5 := h3.c5
       have fz := h3.fz 5
       have H3 := Lib.hid h3
       have HP := Lib.hid (And.intro hp (And.intro hzz (And.intro hz1 hz2)))
       clear h3 hp hzz hz1 hz2
       go_wp2
       go_ret
       rw [HRM.out, if_neg HP.out.1, <- HP.out.2.1]
       have ht := H3.out.top.set_ 5 (.int .i64 zz)
       have hk := (Kp.refl (fun b => b = F.s) w3).setCell (p := ⟨F.s, 5, none⟩) (.inl rfl) (.int .i64 zz)
       have h4 := H3.out.onTop (seq := (fillM m).seq) (op := zz) (sl := (fillM m).sl) hk (by simpa using ht) (Nat.le_refl _) H3.out.nn H3.out.sq HP.out.2.2
       rw [<- HP.out.2.1] at h4
       refine ⟨rfl, h4, ?_⟩
       exact HK3.out.trans (hk.mono (S' := fun b => ¬ X b) (fun b _ e => by rw [e]; exact H3.out.nx _ (.inl rfl))) (fun _ _ h => h)
   · have hr : ready1 sh m need = m := if_neg (fun e => hlt e.2)
     have hd : ¬ (sh.zb : Int) - ((m.P.getD z pt0).bs.length : Nat) < need := by unfold leftM at hlt; rw [hz] at hlt; exact hlt
     have HRM : Hid (readyM sh m need = (true, m)) := by
      unfold Hid readyM
      rw [hr]
      exact if_pos ho
     clear h hop hr hlt hl HF
     generalize (sh.zb : Int) - ((m.P.getD z pt0).bs.length : Nat) = lf at *
     go_enter Tryz.func79, Tryz.ntmps79
     go_wp2_with (fail)
     refine HL.out.mono ?_
     rintro e w1 ⟨rfl, hb1⟩
     have H1 := Lib.hid (And.intro (H.out.below hb1) hb1)
     have c5 : w1.cell? ⟨F.s, 5, none⟩ = some (.int .i64 z) := below_keep hb1 c5
     clear hb1 HL
     go_wp2
     go_ret
     rw [HRM.out]
     exact ⟨rfl, H1.out.1, Kp.of_below H1.out.2⟩
 · have hr : ready1 sh m need = m := if_neg (fun e => ho e.1)
   have HR := Lib.hid hr
   have HO := Lib.hid ho
   have hm1 : m.op = -1 := by have := h.opr.1; omega
   have c5 := h.c5
   have c1 := h.c1
   rw [hm1] at c5
   have H2 := Lib.hid (And.intro h (Kp.refl (fun b => ¬ X b) w))
   have HT := Lib.hid (ready_end X w F sh n m h hl)
   clear h hop hl hr ho hm1
   go_enter Tryz.func79, Tryz.ntmps79
   go_wp2_with (fail)
   refine HT.out.mono ?_
   rintro e w3 ⟨zz, b, rfl, h3, hk3, hb, hzb⟩
   have HK3 := Lib.hid (H2.out.2.trans hk3 (fun _ _ h => h))
   have HB := Lib.hid hb
   have HZB := Lib.hid hzb
   have HRM : Hid (readyM sh m need = if placeI 1 (m).G 0 = -1 then (false, m) else (true, { (m) with G := turnL (m).G (placeI 1 (m).G 0) 2, op := placeI 1 (m).G 0 })) := by
    unfold Hid readyM
    rw [HR.out]
    simp only
    rw [if_neg (by have := HO.out; omega)]
   clear hk3 hb hzb HT c5 c1
   cases b with
   | false =>
     have hp : placeI 1 (m).G 0 = -1 := by simpa using HB.out
     rw [if_pos hp] at h3
     have H3 := Lib.hid h3
     have HP := Lib.hid hp
     clear h3 hp
     go_wp2
     go_ret
     rw [HRM.out, if_pos HP.out]
     exact ⟨rfl, H3.out, HK3.out⟩
   | true =>
     have hp : ¬ placeI 1 (m).G 0 = -1 := by simpa using HB.out
     rw [if_neg hp] at h3
     obtain ⟨hzz, hz1, hz2⟩ := HZB.out rfl
     have c5 := h3.c5
     have fz := h3.fz 5
     have H3 := Lib.hid h3
     have HP := Lib.hid (And.intro hp (And.intro hzz (And.intro hz1 hz2)))
     clear h3 hp hzz hz1 hz2
     go_wp2
     go_ret
     rw [HRM.out, if_neg HP.out.1, <- HP.out.2.1]
     have ht := H3.out.top.set_ 5 (.int .i64 zz)
     have hk := (Kp.refl (fun b => b = F.s) w3).setCell (p := ⟨F.s, 5, none⟩) (.inl rfl) (.int .i64 zz)
     have h4 := H3.out.onTop (seq := (m).seq) (op := zz) (sl := (m).sl) hk (by simpa using ht) (Nat.le_refl _) H3.out.nn H3.out.sq HP.out.2.2
     rw [<- HP.out.2.1] at h4
     refine ⟨rfl, h4, ?_⟩
     exact HK3.out.trans (hk.mono (S' := fun b => ¬ X b) (fun b _ e => by rw [e]; exact H3.out.nx _ (.inl rfl))) (fun _ _ h => h)
end Go.Proofs.YtfabgbmbnmbjkaaGreatDoor

/- Pruned. -/
namespace Go.Proofs.YtfabgbmbnmbjkaaGreatDoor
open Go.RowKit
set_option maxRecDepth 20000
structure Pv where
  t : Int
  b : Int
  d : Bool
  da : List Int
def pv0 : Pv := ⟨0, 0, false, []⟩
def Pv.n (p : Pv) : Int × Int := (p.t, p.b)
structure PutAt (X : Nat -> Prop) (w : World) (a : Addr) (p : Pv) (Ad : Option Addr) (cd : Nat) : Prop where
  x : X a.block
  c0 : w.cell? a = some (.int .u32 p.t)
  c1 : w.cell? ⟨a.block, a.off + 1, none⟩ = some (.int .u64 p.b)
  c2 : w.cell? ⟨a.block, a.off + 2, none⟩ = some (.bool p.d)
  c3 : w.cell? ⟨a.block, a.off + 3, none⟩ = some (.slice Ad p.da.length cd)
  rd : Reads w w.heap.size 1 Ad p.da.length (nums .u8 p.da)
  xd : ∀ ad, Ad = some ad -> 0 < p.da.length -> X ad.block
  cap : p.da.length <= cd
structure PvOk (p : Pv) : Prop where
  n : NameOk p.n
  by_ : ∀ x ∈ p.da, ByteOk x
  len : p.da.length <= 100000000
def PutsAt (X : Nat -> Prop) (w : World) (A : Option Addr) (l : List Pv) : Prop := ∀ i, i < l.length -> ∃ ad Ad cd, A = some ad ∧ PutAt X w (ad.add (i * 4)) (l.getD i pv0) Ad cd
section
variable {X X' S : Nat -> Prop} {w w' : World} {a : Addr} {p : Pv} {Ad A : Option Addr} {cd : Nat} {l : List Pv}
theorem PutAt.kp (h : PutAt X w a p Ad cd) (hk : Kp S w w') (hs : ∀ b, S b -> ¬ X b) : PutAt X w' a p Ad cd := by
 have nx : ∀ b, X b -> ¬ S b := fun b hx hs' => hs b hs' hx
 refine ⟨h.x, hk.cell h.c0 (nx _ h.x), hk.cell h.c1 (nx _ h.x), hk.cell h.c2 (nx _ h.x), hk.cell h.c3 (nx _ h.x), ⟨h.rd.1, fun h0 => ?_⟩, h.xd, h.cap⟩
 obtain ⟨ad, e, hb, hc⟩ := h.rd.2 h0
 exact ⟨ad, e, Nat.lt_of_lt_of_le hb hk.size, fun j u hu => hk.cell (hc j u hu) (by rw [block_of_add]; exact nx _ (h.xd ad e h0))⟩
theorem PutsAt.kp (h : PutsAt X w A l) (hk : Kp S w w') (hs : ∀ b, S b -> ¬ X b) : PutsAt X w' A l := fun i hi => by
 obtain ⟨ad, Ad, cd, e, hp⟩ := h i hi
 exact ⟨ad, Ad, cd, e, hp.kp hk hs⟩
theorem PutsAt.kx (h : PutsAt X w A l) (hk : Kp (fun b => ¬ X b) w w') : PutsAt X w' A l := h.kp hk (fun _ h => h)
theorem PutsAt.below (h : PutsAt X w A l) (hb : Below w.heap.size w w') : PutsAt X w' A l := h.kp (S := fun _ => False) (Kp.of_below hb) (fun _ e => e.elim)
theorem PutAt.more (h : PutAt X w a p Ad cd) (hx : ∀ b, X b -> X' b) : PutAt X' w a p Ad cd := ⟨hx _ h.x, h.c0, h.c1, h.c2, h.c3, h.rd, fun ad e h0 => hx _ (h.xd ad e h0), h.cap⟩
theorem PutsAt.more (h : PutsAt X w A l) (hx : ∀ b, X b -> X' b) : PutsAt X' w A l := fun i hi => by
 obtain ⟨ad, Ad, cd, e, hp⟩ := h i hi
 exact ⟨ad, Ad, cd, e, hp.more hx⟩
theorem PutsAt.front (h : PutsAt X w A l) (k c : Nat) (hk : k <= l.length) (hc : l.length <= c) : PutsAt X w (if c = 0 then A else A.map (·.add 0)) (l.take k) := fun i hi => by
 have hi' : i < k := by simp at hi; omega
 obtain ⟨ad, Ad, cd, e, hp⟩ := h i (by omega)
 have e2 : (l.take k).getD i pv0 = l.getD i pv0 := by simp [List.getD_eq_getElem?_getD, hi']
 rw [e2]
 subst e
 refine ⟨ad, Ad, cd, ?_, hp⟩
 split
 · omega
 · simp [Addr.add]
theorem PutsAt.back (h : PutsAt X w A l) (k c : Nat) (hc : l.length <= c) : PutsAt X w (if c = k then A else A.map (·.add (k * 4))) (l.drop k) := fun i hi => by
 have hi' : k + i < l.length := by simp at hi; omega
 obtain ⟨ad, Ad, cd, e, hp⟩ := h (k + i) hi'
 have e2 : (l.drop k).getD i pv0 = l.getD (k + i) pv0 := by simp [List.getD_eq_getElem?_getD]
 rw [e2]
 subst e
 refine ⟨ad.add (k * 4), Ad, cd, by rw [if_neg (by omega), Option.map_some], ?_⟩
 rw [add_of_add, <- Nat.add_mul]
 exact hp
end
def itemM (p : Pv) : It := if p.d then ⟨p.t, p.b, 2, 0, 0⟩ else ⟨p.t, p.b, 1, sumS 0 p.da, endsN p.da⟩
theorem endsN_le (l : List Int) : endsN l <= l.length := endsTo_le l l.length
theorem itemM_ok (p : Pv) (h : PvOk p) (hl : p.d = false -> p.da.length <= 4096) : ItOk (itemM p) := by
 unfold itemM
 split
 · exact ⟨h.n.1, h.n.2, .inr ⟨rfl, rfl, rfl⟩, by simp, by simp⟩
 · rename_i hd
   have h1 := sumS_bd p.da 0 ⟨by omega, by omega⟩ h.by_
   have h2 := endsN_le p.da
   have h3 := hl (by simpa using hd)
   exact ⟨h.n.1, h.n.2, .inl ⟨rfl, by show ((endsN p.da : Nat) : Int) <= 4096; omega⟩, h1, by show 0 <= ((endsN p.da : Nat) : Int) ∧ ((endsN p.da : Nat) : Int) <= 65535; omega⟩
theorem cell_set5 {w : World} {g : Nat} {c0 c1 c2 c3 c4 : Value} {p : Addr} (hp : p.block ≠ g) : (((((w.setCell ⟨g, 0, none⟩ c0).setCell ⟨g, 1, none⟩ c1).setCell ⟨g, 2, none⟩ c2).setCell ⟨g, 3, none⟩ c3).setCell ⟨g, 4, none⟩ c4).cell? p = w.cell? p := by
 have ne : ∀ i, (⟨g, i, none⟩ : Addr) ≠ p := fun i e => hp (by rw [<- e])
 rw [World.cell?_setCell_other _ _ _ _ (ne 4), World.cell?_setCell_other _ _ _ _ (ne 3), World.cell?_setCell_other _ _ _ _ (ne 2), World.cell?_setCell_other _ _ _ _ (ne 1), World.cell?_setCell_other _ _ _ _ (ne 0)]
theorem blk_set5 {w : World} {g : Nat} {t : TypeId} {a0 a1 a2 a3 a4 : Value} (h : Blk w g t #[a0, a1, a2, a3, a4]) (c0 c1 c2 c3 c4 : Value) :
    Blk (((((w.setCell ⟨g, 0, none⟩ c0).setCell ⟨g, 1, none⟩ c1).setCell ⟨g, 2, none⟩ c2).setCell ⟨g, 3, none⟩ c3).setCell ⟨g, 4, none⟩ c4) g t #[c0, c1, c2, c3, c4] := by
 have := ((((h.set_ 0 c0).set_ 1 c1).set_ 2 c2).set_ 3 c3).set_ 4 c4
 simpa using this
theorem kp_set5 {S : Nat -> Prop} {w0 w : World} {g : Nat} (h : Kp S w0 w) (hg : S g ∨ w0.heap.size <= g) (c0 c1 c2 c3 c4 : Value) :
    Kp S w0 (((((w.setCell ⟨g, 0, none⟩ c0).setCell ⟨g, 1, none⟩ c1).setCell ⟨g, 2, none⟩ c2).setCell ⟨g, 3, none⟩ c3).setCell ⟨g, 4, none⟩ c4) :=
 (kp_set4 h hg c0 c1 c2 c3).setCell (p := ⟨g, 4, none⟩) hg _
theorem item_any (p : Pv) (hp : PvOk p) (hl : p.d = false -> p.da.length <= 4096) (Ad : Option Addr) (cd : Nat) (w : World) (hr : Reads w w.heap.size 1 Ad p.da.length (nums .u8 p.da)) (hc : p.da.length <= cd) :
    Calls Tryz.prog 139 #[.agg #[.int .u32 p.t, .int .u64 p.b, .bool p.d, .slice Ad p.da.length cd]] w (Makes (itV (itemM p)) w) := by
 obtain ⟨t, b, d, da⟩ := p
 simp only at hr hc hl ⊢
 cases d with
 | true =>
   unfold itemM itV
   simp only [if_true]
   go_enter Tryz.func139, Tryz.ntmps139
   go_wp2
   go_returns
   exact ⟨rfl, ((Below.refl _ _).alloc (Nat.le_refl _) _).alloc (by simp) _⟩
 | false =>
   have hl4 := hl rfl
   have hby := hp.by_
   simp only at hby
   have he : (endsN da : Nat) <= 4096 := Nat.le_trans (endsN_le da) hl4
   have HI : Hid (itemM ⟨t, b, false, da⟩ = ⟨t, b, 1, sumS 0 da, (endsN da : Nat)⟩) := rfl
   have k0 := (Blk.new w 42 #[.int .u32 t, .int .u64 b, .bool false, .slice Ad da.length cd]).alloc (.cells #[.int .u32 0, .int .u64 0, .int .u8 0, .int .u32 0, .int .u16 0] 192)
   have k1 := Blk.new (w.alloc (.cells #[.int .u32 t, .int .u64 b, .bool false, .slice Ad da.length cd] 42)) 192 #[.int .u32 0, .int .u64 0, .int .u8 0, .int .u32 0, .int .u16 0]
   rw [World.size_alloc] at k1
   have hw : Below w.heap.size w ((w.alloc (.cells #[.int .u32 t, .int .u64 b, .bool false, .slice Ad da.length cd] 42)).alloc (.cells #[.int .u32 0, .int .u64 0, .int .u8 0, .int .u32 0, .int .u16 0] 192)) := ((Below.refl _ _).alloc (Nat.le_refl _) _).alloc (by simp) _
   have HW := Lib.hid (And.intro k0 (And.intro k1 hw))
   clear k0 k1 hw
   go_enter Tryz.func139, Tryz.ntmps139
   go_wp2_with (fail)
   generalize (w.alloc (.cells #[.int .u32 t, .int .u64 b, .bool false, .slice Ad da.length cd] 42)).alloc (.cells #[.int .u32 0, .int .u64 0, .int .u8 0, .int .u32 0, .int .u16 0] 192) = w1 at *
   have hrd1 := hr.below HW.out.2.2
   have hsz1 : w.heap.size + 1 < w1.heap.size := HW.out.2.1.lt
   have ks : w1.cell? ⟨w.heap.size, 0, none⟩ = some (.int .u32 t) ∧ w1.cell? ⟨w.heap.size, 1, none⟩ = some (.int .u64 b) ∧ w1.cell? ⟨w.heap.size, 3, none⟩ = some (.slice Ad da.length cd) := ⟨HW.out.1.cell 0, HW.out.1.cell 1, HW.out.1.cell 3⟩
   have hb2 : Below w1.heap.size w1 (w1.alloc (.cells #[.slice Ad da.length cd] 36)) := (Below.refl _ _).alloc (Nat.le_refl _) _
   have ks1 : (w1.alloc (.cells #[.slice Ad da.length cd] 36)).cell? ⟨w.heap.size, 0, none⟩ = some (.int .u32 t) ∧ (w1.alloc (.cells #[.slice Ad da.length cd] 36)).cell? ⟨w.heap.size, 1, none⟩ = some (.int .u64 b) ∧ (w1.alloc (.cells #[.slice Ad da.length cd] 36)).cell? ⟨w.heap.size, 3, none⟩ = some (.slice Ad da.length cd) := ⟨below_keep hb2 ks.1, below_keep hb2 ks.2.1, below_keep hb2 ks.2.2⟩
   have ksd : w1.drew.cell? ⟨w.heap.size, 0, none⟩ = some (.int .u32 t) ∧ w1.drew.cell? ⟨w.heap.size, 1, none⟩ = some (.int .u64 b) ∧ w1.drew.cell? ⟨w.heap.size, 3, none⟩ = some (.slice Ad da.length cd) := ks
   have ks1d : (w1.alloc (.cells #[.slice Ad da.length cd] 36)).drew.cell? ⟨w.heap.size, 0, none⟩ = some (.int .u32 t) ∧ (w1.alloc (.cells #[.slice Ad da.length cd] 36)).drew.cell? ⟨w.heap.size, 1, none⟩ = some (.int .u64 b) ∧ (w1.alloc (.cells #[.slice Ad da.length cd] 36)).drew.cell? ⟨w.heap.size, 3, none⟩ = some (.slice Ad da.length cd) := ks1
   have hitem := (HW.out.2.1.below hb2 HW.out.2.1.lt).drew
   have HIT := Lib.hid hitem
   have HSUM := Lib.hid (sum_one (w1.alloc (.cells #[.slice Ad da.length cd] 36)).drew w1.heap.size Ad cd da.length da w.heap.size (Blk.new w1 _ _).drew (hrd1.alloc (Nat.le_of_lt (by omega)) _) hby (by omega))
   have HE1 := Lib.hid (ends_any w1.drew w.heap.size Ad cd da (hrd1.drew) hc (by omega) hby)
   have HE2 := Lib.hid (ends_any (w1.alloc (.cells #[.slice Ad da.length cd] 36)).drew w.heap.size Ad cd da (hrd1.alloc (Nat.le_of_lt (by omega)) _).drew hc (by omega) hby)
   have HW2 : Hid (Below w.heap.size w (w1.alloc (.cells #[.slice Ad da.length cd] 36)).drew) := (HW.out.2.2.trans (hb2.mono HW.out.2.2.size)).drew
   have hwr : IntKind.u16.wrap ((endsN da : Nat) : Int) = (endsN da : Nat) := by rw [IntKind.wrap_u16]; omega
   have HKS1 := Lib.hid ks1
   clear hitem hb2 hrd1 hby hr
   generalize endsN da = en at *
   generalize sumS 0 da = sm at *
   clear hp hl
   go_region_held3 (fun u => u.cell? ⟨w.heap.size, 0, none⟩ = some (.int .u32 t) ∧ u.cell? ⟨w.heap.size, 1, none⟩ = some (.int .u64 b) ∧ u.cell? ⟨w.heap.size, 3, none⟩ = some (.slice Ad da.length cd))
     (first | with_reducible exact ks | with_reducible exact ksd | with_reducible exact ks1 | with_reducible exact ks1d | with_reducible exact ks2 | with_reducible exact ks3)
     (first
       | (go_at_call 181
          with_reducible refine HSUM.out.mono ?_
          rintro e w2 ⟨rfl, hw2⟩
          have hx := HIT.out
          have ks2 : w2.cell? ⟨w.heap.size, 0, none⟩ = some (.int .u32 t) ∧ w2.cell? ⟨w.heap.size, 1, none⟩ = some (.int .u64 b) ∧ w2.cell? ⟨w.heap.size, 3, none⟩ = some (.slice Ad da.length cd) := by rw [<- hw2]; exact HKS1.out
          have ks3 : (((((w2.setCell ⟨w.heap.size + 1, 0, none⟩ (.int .u32 t)).setCell ⟨w.heap.size + 1, 1, none⟩ (.int .u64 b)).setCell ⟨w.heap.size + 1, 2, none⟩ (.int .u8 1)).setCell ⟨w.heap.size + 1, 3, none⟩ (.int .u32 sm)).setCell ⟨w.heap.size + 1, 4, none⟩ (.int .u16 en)).cell? ⟨w.heap.size, 0, none⟩ = some (.int .u32 t) ∧
              (((((w2.setCell ⟨w.heap.size + 1, 0, none⟩ (.int .u32 t)).setCell ⟨w.heap.size + 1, 1, none⟩ (.int .u64 b)).setCell ⟨w.heap.size + 1, 2, none⟩ (.int .u8 1)).setCell ⟨w.heap.size + 1, 3, none⟩ (.int .u32 sm)).setCell ⟨w.heap.size + 1, 4, none⟩ (.int .u16 en)).cell? ⟨w.heap.size, 1, none⟩ = some (.int .u64 b) ∧
              (((((w2.setCell ⟨w.heap.size + 1, 0, none⟩ (.int .u32 t)).setCell ⟨w.heap.size + 1, 1, none⟩ (.int .u64 b)).setCell ⟨w.heap.size + 1, 2, none⟩ (.int .u8 1)).setCell ⟨w.heap.size + 1, 3, none⟩ (.int .u32 sm)).setCell ⟨w.heap.size + 1, 4, none⟩ (.int .u16 en)).cell? ⟨w.heap.size, 3, none⟩ = some (.slice Ad da.length cd) :=
           ⟨(cell_set5 (by simp)).trans ks2.1, (cell_set5 (by simp)).trans ks2.2.1, (cell_set5 (by simp)).trans ks2.2.2⟩
          have HE3 := HE2.out
          have HW3 := HW2.out
          rw [hw2] at hx HE3 HW3
          have HE3 := Lib.hid HE3
          have HW3 := Lib.hid HW3
          have HIT3 := Lib.hid hx
          have hf : ∀ i, w2.frozen? ⟨w.heap.size + 1, i, none⟩ = false := fun i => hx.frozen i
          have z0 : w2.cell? ⟨w.heap.size + 1, 0, none⟩ = some (.int .u32 0) := hx.cell 0
          have z1 : w2.cell? ⟨w.heap.size + 1, 1, none⟩ = some (.int .u64 0) := hx.cell 1
          have z2 : w2.cell? ⟨w.heap.size + 1, 2, none⟩ = some (.int .u8 0) := hx.cell 2
          have z3 : w2.cell? ⟨w.heap.size + 1, 3, none⟩ = some (.int .u32 0) := hx.cell 3
          have z4 : w2.cell? ⟨w.heap.size + 1, 4, none⟩ = some (.int .u16 0) := hx.cell 4
          clear hw2 hx)
       | (go_at_call 182
          with_reducible refine HE3.out.mono ?_
          rintro e w2 ⟨rfl, rfl⟩)
       | (go_at_call 182
          with_reducible refine HE1.out.mono ?_
          rintro e w2 ⟨rfl, rfl⟩)
       | (go_at_call 182
          with_reducible refine HE2.out.mono ?_
          rintro e w2 ⟨rfl, rfl⟩))
   all_goals
    have b5 := blk_set5 HIT3.out (.int .u32 t) (.int .u64 b) (.int .u8 1) (.int .u32 sm) (.int .u16 en)
    have k5 := kp_set5 (Kp.of_below (S := fun _ => False) HW3.out) (.inr (Nat.le_succ w.heap.size)) (.int .u32 t) (.int .u64 b) (.int .u8 1) (.int .u32 sm) (.int .u16 en)
    clear ks ksd ks1 ks1d ks2 ks3 hf z0 z1 z2 z3 z4 hsz1
    generalize World.setCell _ ⟨w.heap.size + 1, 4, none⟩ _ = w5 at *
    have d0 : w5.cell? ⟨w.heap.size + 1, 0, none⟩ = some (.int .u32 t) := b5.cell 0
    have d1 : w5.cell? ⟨w.heap.size + 1, 1, none⟩ = some (.int .u64 b) := b5.cell 1
    have d2 : w5.cell? ⟨w.heap.size + 1, 2, none⟩ = some (.int .u8 1) := b5.cell 2
    have d3 : w5.cell? ⟨w.heap.size + 1, 3, none⟩ = some (.int .u32 sm) := b5.cell 3
    have d4 : w5.cell? ⟨w.heap.size + 1, 4, none⟩ = some (.int .u16 en) := b5.cell 4
    have HK5 := Lib.hid k5
    clear b5 k5
    go_wp2
    refine bodyPost_ret (v := .agg #[.int .u32 t, .int .u64 b, .int .u8 1, .int .u32 sm, .int .u16 en]) (by simp [results, Tryz.results139, go_sem, d0, d1, d2, d3, d4]) rfl ?_
    exact ⟨by rw [HI.out]; rfl, kp_none HK5.out⟩
end Go.Proofs.YtfabgbmbnmbjkaaGreatDoor

