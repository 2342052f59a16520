/- Joined texts: Bo Ds Dt Du. -/
import Derived.Test.YtfabgbmbnmbjkaaGreatDoorRbj
import Derived.Test.YtfabgbmbnmbjkaaGreatDoorRbi
import Derived.Test.YtfabgbmbnmbjkaaGreatDoorRbk
import Derived.Test.YtfabgbmbnmbjkaaGreatDoorRbh
import Derived.Test.YtfabgbmbnmbjkaaGreatDoorRax
/- Pruned. -/
namespace Go.Proofs.YtfabgbmbnmbjkaaGreatDoor
open Go.RowKit
set_option maxRecDepth 20000
theorem StoreIs.farUp {X X' S : Nat -> Prop} {w w' : World} {F : StF} {sh : Sh} {n : Nat} {m : StM} (h : StoreIs X w F sh n m) (hk : Kp S w w') (hs : ∀ b, S b -> X b) (hx : ∀ b, X' b -> b < w'.heap.size ∧ (X b ∨ w.heap.size <= b)) : StoreIs X' w' F sh n m := by
 have nt : ∀ i, F.own i -> ¬ S i := fun i hi hs' => h.nx i hi (hs i hs')
 exact ⟨hk.blk h.top (nt _ (.inl rfl)), h.dev.move (fun b hlt hn => hk.block b hlt (fun e => hn (.inl (hs b e)))) (fun b hx'' => by
     rcases hx'' with hx' | ho
     · rcases hx b hx' with ⟨h1, h2 | h2⟩
       · exact ⟨h1, .inl (.inl h2)⟩
       · exact ⟨h1, .inr h2⟩
     · exact ⟨Nat.lt_of_lt_of_le (h.own_lt ho) hk.size, .inl (.inr ho)⟩), ⟨h.seg.1.kp hk (nt _ (.inr (.inl rfl))) (nt _ (.inr (.inr (.inl rfl)))), h.seg.2⟩,
   h.lm.kp hk (fun i hi => nt i (.inr (.inr (.inr (.inl hi))))), h.last.kp hk (nt _ (.inr (.inr (.inr (.inr rfl))))), h.ne, fun i hi hx' => by
    rcases (hx i hx').2 with h2 | h2
    · exact h.nx i hi h2
    · have := h.own_lt hi; omega, h.sq, h.nn, h.opr⟩
structure BothS (Ya : Nat -> Prop) (W : World) (F : StF) (Q : QF) (sh : Sh) (n nq : Nat) (m : StM) : Prop where
  a : StoreIs (Out W Ya) W F sh n m
  q : QSto (fun b => ¬ Ya b) W Q sh nq m
  lt : ∀ b, Ya b -> b < W.heap.size
theorem BothS.below {Ya : Nat -> Prop} {W W' : World} {F : StF} {Q : QF} {sh : Sh} {n nq : Nat} {m : StM} (h : BothS Ya W F Q sh n nq m) (hb : Below W.heap.size W W') : BothS Ya W' F Q sh n nq m :=
 ⟨h.a.step hb (fun b hx => ⟨hx.1, by
  by_cases hlt : b < W.heap.size
  · exact .inl ⟨hlt, hx.2⟩
  · exact .inr (by omega)⟩), h.q.below hb, fun b hy => Nat.lt_of_lt_of_le (h.lt b hy) hb.size⟩
theorem BothS.drew {Ya : Nat -> Prop} {W : World} {F : StF} {Q : QF} {sh : Sh} {n nq : Nat} {m : StM} (h : BothS Ya W F Q sh n nq m) : BothS Ya W.drew F Q sh n nq m := h.below (Below.refl _ _).drew
structure MidS (Ya : Nat -> Prop) (W : World) (F : StF) (Q : QF) (sh : Sh) (n nq : Nat) (m mq : StM) : Prop where
  a : StoreIs (Out W Ya) W F sh n m
  q : QSto (fun b => ¬ Ya b) W Q sh nq mq
  lt : ∀ b, Ya b -> b < W.heap.size
theorem BothS.onA {Ya : Nat -> Prop} {W W' : World} {F : StF} {Q : QF} {sh : Sh} {n n' nq : Nat} {m m' : StM} (h : BothS Ya W F Q sh n nq m) (hk : Kp (fun b => ¬ Out W Ya b) W W') (hs : StoreIs (Out W Ya) W' F sh n' m') : MidS (More W W' Ya) W' F Q sh n' nq m' m := by
 refine ⟨hs.less (fun b hb => ?_), h.q.move (fun i hi hy => ⟨fun e => ?_, hk.block i hi (fun e => e ⟨hi, hy⟩)⟩) (fun b hb e => ?_) hk.size, fun b hy => ?_⟩
 · refine ⟨?_, fun e => hb.2 (.inl e)⟩
   by_cases hlt : b < W.heap.size
   · exact hlt
   · exact absurd (.inr ⟨by omega, hb.1⟩) hb.2
 · rcases e with e | e
   · exact hy e
   · omega
 · rcases e with e | e
   · have := h.lt b e
     have := hk.size
     omega
   · omega
 · rcases hy with e | e
   · exact Nat.lt_of_lt_of_le (h.lt b e) hk.size
   · exact e.2
theorem QSto.t_y {Y : Nat -> Prop} {W : World} {Q : QF} {sh : Sh} {n : Nat} {m : StM} (h : QSto Y W Q sh n m) {b : Nat} (hb : Q.T b) : Y b ∧ b < W.heap.size := by
 obtain ⟨M, _, hm⟩ := h.mp
 obtain ⟨cs, hl, _⟩ := h.dev.is
 obtain ⟨A, c, hr, _⟩ := hm.rm
 rcases hb with rfl | rfl | rfl | rfl | rfl
 · exact ⟨h.yr, h.top.lt⟩
 · exact ⟨h.dev.yl.1, hl.lt⟩
 · exact ⟨h.yb, h.seg.row.lt⟩
 · exact ⟨hm.y, hr.lt⟩
 · exact ⟨h.ye, h.ends.lt⟩
theorem MidS.onB {Ya : Nat -> Prop} {W W' : World} {F : StF} {Q : QF} {sh : Sh} {n nq nq' : Nat} {m mq : StM} (h : MidS Ya W F Q sh n nq m mq) (hk : Kp Q.T W W') (hq : QSto (fun b => ¬ Ya b) W' Q sh nq' m) : BothS Ya W' F Q sh n nq' m :=
 ⟨h.a.farUp hk (fun b hb => ⟨(h.q.t_y hb).2, (h.q.t_y hb).1⟩) (fun b hb => ⟨hb.1, by
  by_cases hlt : b < W.heap.size
  · exact .inl ⟨hlt, hb.2⟩
  · exact .inr (by omega)⟩), hq, fun b hy => Nat.lt_of_lt_of_le (h.lt b hy) hk.size⟩
end Go.Proofs.YtfabgbmbnmbjkaaGreatDoor

/- Pruned. -/
namespace Go.Proofs.YtfabgbmbnmbjkaaGreatDoor
open Go.RowKit
set_option maxRecDepth 20000
def Went (Ya : Nat -> Prop) (w : World) (F : StF) (Q : QF) (sh : Sh) (n nq : Nat) (m' : StM) (w' : World) : Prop :=
 ∃ Ya', BothS Ya' w' F Q sh n nq m' ∧ (∀ b, Ya' b -> Ya b ∨ w.heap.size <= b) ∧ Kp (fun b => Ya b ∨ Q.T b) w w'
theorem BothS.went {Ya : Nat -> Prop} {w W1 W2 W3 : World} {F : StF} {Q : QF} {sh : Sh} {n n' nq nq' : Nat} {m m' : StM} (h : BothS Ya W1 F Q sh n nq m) (hb : Below w.heap.size w W1) (hk : Kp (fun b => ¬ Out W1 Ya b) W1 W2) (hs : StoreIs (Out W1 Ya) W2 F sh n' m') (hk2 : Kp Q.T W2 W3) (hq : QSto (fun b => ¬ More W1 W2 Ya b) W3 Q sh nq' m') : Went Ya w F Q sh n' nq' m' W3 := by
 have hm := h.onA hk hs
 refine ⟨_, ⟨hm.a.farUp hk2 (fun b hb => ⟨(hm.q.t_y hb).2, (hm.q.t_y hb).1⟩) (fun b hb => ⟨hb.1, ?_⟩), hq, fun b hy => Nat.lt_of_lt_of_le (hm.lt b hy) hk2.size⟩, fun b hy => ?_, ?_⟩
 · by_cases hlt : b < W2.heap.size
   · exact .inl ⟨hlt, hb.2⟩
   · exact .inr (by omega)
 · rcases hy with e | e
   · exact .inl e
   · have := hb.size
     exact .inr (by omega)
 · refine ((Kp.of_below (S := fun b => Ya b ∨ Q.T b) hb).trans (hk.mono (S' := fun b => Ya b ∨ Q.T b) (fun b hlt hn => ?_)) (fun _ _ h => h)).trans (hk2.mono (S' := fun b => Ya b ∨ Q.T b) (fun b _ e => .inr e)) (fun _ _ h => h)
   by_cases hy : Ya b
   · exact .inl hy
   · exact absurd ⟨hlt, hy⟩ hn
set_option maxHeartbeats 2000000 in
theorem does_flush (Ya : Nat -> Prop) (w : World) (F : StF) (Q : QF) (sh : Sh) (n nq : Nat) (m : StM) (h : BothS Ya w F Q sh n nq m) (k : Int) (hk0 : 0 <= k ∧ k <= 255) (hk : k % 8 = 5) (Ad : Option Addr) (ln cd : Nat) (z : Int) :
    Calls Tryz.prog 47 #[.pointer (some ⟨F.s, 0, none⟩), .pointer (some ⟨Q.r, 0, none⟩), .agg #[.int .u8 k, .slice Ad ln cd, .int .i64 z]] w (fun e w' => e = .returned (.bool true) ∧ Went Ya w F Q sh n nq (flushM m) w') := by
 have HAL : Hid (Below w.heap.size w (w.alloc (.cells #[.int .u8 k, .slice Ad ln cd, .int .i64 z] 34))) := (Below.refl _ w).alloc (Nat.le_refl _) _
 have k0 := Blk.new w 34 #[.int .u8 k, .slice Ad ln cd, .int .i64 z]
 have c0 : (w.alloc (.cells #[.int .u8 k, .slice Ad ln cd, .int .i64 z] 34)).cell? ⟨w.heap.size, 0, none⟩ = some (.int .u8 k) := k0.cell 0
 have H := Lib.hid h
 have hk1 : k.tmod 8 = 5 := by rw [Int.tmod_eq_emod_of_nonneg hk0.1]; exact hk
 clear h k0
 go_enter Tryz.func47, Tryz.ntmps47
 go_wp2_with (fail)
 have h1 := H.out.below HAL.out
 have H1 := Lib.hid h1
 refine (sflush_any _ _ F sh n m h1.a).mono ?_
 rintro e w2 ⟨rfl, hs, hk2⟩
 have H2 := Lib.hid (And.intro hs hk2)
 have HM := Lib.hid (h1.onA hk2 hs)
 clear hs hk2 h1 c0
 go_wp2_with (fail)
 refine (qsflush_any _ w2 Q sh nq m HM.out.q).mono ?_
 rintro e w3 ⟨rfl, hq, hk3⟩
 have HW := Lib.hid (H1.out.went HAL.out H2.out.2 H2.out.1 hk3 hq)
 clear hq hk3
 go_wp2
 go_ret
 exact ⟨rfl, HW.out⟩
set_option maxHeartbeats 2000000 in
theorem does_mark (Ya : Nat -> Prop) (w : World) (F : StF) (Q : QF) (sh : Sh) (n nq : Nat) (m : StM) (hi : Inv sh m) (hnm : ∀ p ∈ m.L, NameOk p.n) (hl5 : m.L.length <= 100000) (h : BothS Ya w F Q sh n nq m) (k : Int) (hk0 : 0 <= k ∧ k <= 255) (hk : k % 8 = 6) (Ad : Option Addr) (ln cd : Nat) (z : Int) :
    Calls Tryz.prog 47 #[.pointer (some ⟨F.s, 0, none⟩), .pointer (some ⟨Q.r, 0, none⟩), .agg #[.int .u8 k, .slice Ad ln cd, .int .i64 z]] w (fun e w' => e = .returned (.bool true) ∧ Went Ya w F Q sh n nq (markM sh m).2 w') := by
 have HAL : Hid (Below w.heap.size w (w.alloc (.cells #[.int .u8 k, .slice Ad ln cd, .int .i64 z] 34))) := (Below.refl _ w).alloc (Nat.le_refl _) _
 have k0 := Blk.new w 34 #[.int .u8 k, .slice Ad ln cd, .int .i64 z]
 have c0 : (w.alloc (.cells #[.int .u8 k, .slice Ad ln cd, .int .i64 z] 34)).cell? ⟨w.heap.size, 0, none⟩ = some (.int .u8 k) := k0.cell 0
 have H := Lib.hid h
 have hk1 : k.tmod 8 = 6 := by rw [Int.tmod_eq_emod_of_nonneg hk0.1]; exact hk
 have HS := Lib.hid (fun X u (hu : StoreIs X u F sh n m) => smark_any X u F sh n m hi hnm hl5 hu)
 have HQ := Lib.hid (fun Y u (hu : QSto Y u Q sh nq m) => qsmark_any Y u Q sh nq m hi hnm hl5 hu)
 unfold Marked at HS
 unfold QMarked at HQ
 obtain ⟨m', hm'⟩ : ∃ m', (markM sh m).2 = m' := ⟨_, rfl⟩
 obtain ⟨ee, hee⟩ : ∃ ee, (markM sh m).1 = ee := ⟨_, rfl⟩
 have he9 : 0 <= ee ∧ ee <= 140 := by
  rw [<- hee]
  unfold markM
  split <;> exact ⟨by simp, by simp⟩
 rw [hm', hee] at HS HQ
 rw [hm']
 have hwr : IntKind.i64.wrap ee = ee := by rw [IntKind.wrap_i64]; omega
 clear h k0 hi hnm hl5 hm' hee
 go_enter Tryz.func47, Tryz.ntmps47
 go_wp2_with (fail)
 have h1 := H.out.below HAL.out
 have H1 := Lib.hid h1
 refine (HS.out _ _ h1.a).mono ?_
 rintro e w2 ⟨rfl, hs, hk2⟩
 have H2 := Lib.hid (And.intro hs hk2)
 have HM := Lib.hid (h1.onA hk2 hs)
 clear hs hk2 h1 c0
 go_wp2_with (fail)
 refine (HQ.out _ w2 HM.out.q).mono ?_
 rintro e w3 ⟨rfl, hq, hk3⟩
 have HW := Lib.hid (H1.out.went HAL.out H2.out.2 H2.out.1 hk3 hq)
 clear hq hk3
 go_wp2
 go_ret
 exact ⟨rfl, HW.out⟩
end Go.Proofs.YtfabgbmbnmbjkaaGreatDoor

/- Pruned. -/
namespace Go.Proofs.YtfabgbmbnmbjkaaGreatDoor
open Go.RowKit
set_option maxRecDepth 20000
set_option maxHeartbeats 2000000 in
theorem does_clear (Ya : Nat -> Prop) (w : World) (F : StF) (Q : QF) (sh : Sh) (n nq : Nat) (m : StM) (hg : Good sh m) (h : BothS Ya w F Q sh n nq m) (k : Int) (hk0 : 0 <= k ∧ k <= 255) (hk : k % 8 = 7) (Ad : Option Addr) (ln cd : Nat) (z : Int) :
    Calls Tryz.prog 47 #[.pointer (some ⟨F.s, 0, none⟩), .pointer (some ⟨Q.r, 0, none⟩), .agg #[.int .u8 k, .slice Ad ln cd, .int .i64 z]] w (fun e w' => e = .returned (.bool true) ∧ Went Ya w F Q sh n nq (clearM m z).2 w') := by
 have hal : Below w.heap.size w (w.alloc (.cells #[.int .u8 k, .slice Ad ln cd, .int .i64 z] 34)) := (Below.refl _ w).alloc (Nat.le_refl _) _
 have k0 := Blk.new w 34 #[.int .u8 k, .slice Ad ln cd, .int .i64 z]
 have c0 : (w.alloc (.cells #[.int .u8 k, .slice Ad ln cd, .int .i64 z] 34)).cell? ⟨w.heap.size, 0, none⟩ = some (.int .u8 k) := k0.cell 0
 have hk1 : k.tmod 8 = 7 := by rw [Int.tmod_eq_emod_of_nonneg hk0.1]; exact hk
 have HS := Lib.hid (fun X u (hu : StoreIs X u F sh n m) => sclear_any X u F sh n m z hg hu)
 have HQ := Lib.hid (fun Y u (hu : QSto Y u Q sh nq m) => qsclear_any Y u Q sh nq m z hg hu)
 unfold Cleared at HS
 unfold QCleared at HQ
 have H1 : Hid (BothS Ya ((w.alloc (.cells #[.int .u8 k, .slice Ad ln cd, .int .i64 z] 34)).drew) F Q sh n nq m ∧ Below w.heap.size w ((w.alloc (.cells #[.int .u8 k, .slice Ad ln cd, .int .i64 z] 34)).drew)) := ⟨(h.below hal).drew, hal.drew⟩
 have HN : Hid (¬ Ya w.heap.size) := fun hy => by have := h.lt _ hy; omega
 have HNQ : Hid (¬ Q.T w.heap.size) := fun e => by have := (h.q.t_y e).2; omega
 have HLT := Lib.hid k0.lt
 have ks : (w.alloc (.cells #[.int .u8 k, .slice Ad ln cd, .int .i64 z] 34)).cell? ⟨w.heap.size, 2, none⟩ = some (.int .i64 z) := k0.cell 2
 obtain ⟨m', hm'⟩ : ∃ m', (clearM m z).2 = m' := ⟨_, rfl⟩
 obtain ⟨ee, hee⟩ : ∃ ee, (clearM m z).1 = ee := ⟨_, rfl⟩
 rw [hm', hee] at HS HQ
 rw [hm']
 clear h k0 hg hm' hee hal
 go_enter Tryz.func47, Tryz.ntmps47
 go_wp2_with (fail)
 obtain ⟨w1, hw1⟩ : ∃ w1, w.alloc (.cells #[.int .u8 k, .slice Ad ln cd, .int .i64 z] 34) = w1 := ⟨_, rfl⟩
 rw [hw1] at ks H1 HLT c0 ⊢
 clear hw1 c0
 go_region_held3 (fun u => u.cell? ⟨w.heap.size, 2, none⟩ = some (.int .i64 z))
   (first | exact ks | exact ks2 | exact ks3)
   (first
     | (go_at_call 58
        with_reducible refine (HS.out _ _ H1.out.1.a).mono ?_
        rintro e w2 ⟨rfl, hs, hk2⟩
        have ks2 : w2.cell? ⟨w.heap.size, 2, none⟩ = some (.int .i64 z) := hk2.cell ks (fun e => e ⟨HLT.out, HN.out⟩)
        have H2 := Lib.hid (And.intro hs (And.intro hk2 (H1.out.1.onA hk2 hs)))
        clear hs hk2)
     | (go_at_call 74
        refine (HQ.out _ _ H2.out.2.2.q).mono ?_
        rintro e w3 ⟨rfl, hq, hk3⟩
        have ks3 : w3.cell? ⟨w.heap.size, 2, none⟩ = some (.int .i64 z) := hk3.cell ks2 HNQ.out
        have HW := Lib.hid (H1.out.1.went H1.out.2 H2.out.2.1 H2.out.1 hk3 hq)
        clear hq hk3))
 all_goals
  clear ks ks2 ks3
  go_wp2
  go_ret
  exact ⟨by simp, HW.out⟩
end Go.Proofs.YtfabgbmbnmbjkaaGreatDoor

/- Pruned. -/
namespace Go.Proofs.YtfabgbmbnmbjkaaGreatDoor
open Go.RowKit
set_option maxRecDepth 20000
structure MadeP (Xa : Nat -> Prop) (W w5 : World) (A5 : Option Addr) (c5 : Nat) (L : List Pv) : Prop where
  low : Below W.heap.size W w5
  pa : PutsAt (fun b => Xa b ∨ (W.heap.size <= b ∧ b < w5.heap.size)) w5 A5 L
  cap : L.length <= c5
theorem BlInv.made {Xa : Nat -> Prop} {w w5 : World} {bl : Nat} {l : List Pv} {A5 : Option Addr} {c5 : Nat} {O : List Pc} (h : BlInv Xa w w5 bl l l.length A5 c5 O) : O.length = (l.map (blockM bl)).length ∧ MadeP Xa w w5 A5 c5 (l.map (blockM bl)) := by
 have hmp := h.mp
 rw [List.take_length] at hmp
 have hlen : O.length = (l.map (blockM bl)).length := by rw [List.length_map]; exact h.len
 refine ⟨hlen, h.low, ?_, ?_⟩
 · have := h.row.puts (X := fun b => Xa b ∨ (w.heap.size <= b ∧ b < w5.heap.size)) (fun b h1 h2 => .inr ⟨h1, h2⟩) (fun q hq => by
    have h := h.ok q hq
    exact ⟨h.rd, fun ad e h0 => by
     rcases h.xd ad e h0 with hx | hx
     · exact .inl hx
     · obtain ⟨ad2, e2, hb, _⟩ := h.rd.2 h0
       obtain rfl := Option.some.inj (e.symm.trans e2)
       exact .inr ⟨hx, hb⟩, h.cap⟩)
   rw [hmp] at this
   exact this
 · have := h.row.cap
   rw [hlen] at this
   exact this
theorem putL_code (sh : Sh) (f : Nat) (m : StM) (l : List Pv) : (putL sh f m l).1 = 0 ∨ (putL sh f m l).1 = 160 := by
 induction f generalizing m l with
 | zero => exact .inl rfl
 | succ f ih =>
   unfold putL
   split
   · exact .inl rfl
   · dsimp only
     split
     · exact ih _ _
     · exact .inr rfl
theorem putM_code (sh : Sh) (m : StM) (l : List Pv) : 0 <= (putM sh m l).1 ∧ (putM sh m l).1 <= 160 := by
 unfold putM
 split
 · rcases putL_code sh l.length m l with h | h <;> rw [h] <;> omega
 · exact ⟨by simp, by simp⟩
set_option maxHeartbeats 4000000 in
theorem does_put (Ya Xa : Nat -> Prop) (w : World) (F : StF) (Q : QF) (sh : Sh) (n nq : Nat) (m : StM) (hi : Inv sh m) (h : BothS Ya w F Q sh n nq m) (k : Int) (hk0 : 0 <= k ∧ k <= 255) (hk : k % 8 <= 4) (Ad : Option Addr) (l : List Pv) (cd : Nat) (z : Int) (hp : PutsAt Xa w Ad l) (hX : ∀ b, Xa b -> b < w.heap.size ∧ ¬ Ya b ∧ ¬ Q.T b) (hll : l.length <= 30) (hv : ∀ p ∈ l, PvIn p) (hd : ∀ p ∈ l, p.da.length <= 200) (hn : n + 5 * l.length <= 1000000) (hnq : nq + l.length <= 900000) :
    Calls Tryz.prog 47 #[.pointer (some ⟨F.s, 0, none⟩), .pointer (some ⟨Q.r, 0, none⟩), .agg #[.int .u8 k, .slice Ad l.length cd, .int .i64 z]] w (fun e w' => e = .returned (.bool true) ∧ Went Ya w F Q sh (n + 5 * l.length) (nq + l.length) (putM sh m (l.map (blockM sh.bl))).2 w') := by
 have hal : Below w.heap.size w (w.alloc (.cells #[.int .u8 k, .slice Ad l.length cd, .int .i64 z] 34)) := (Below.refl _ w).alloc (Nat.le_refl _) _
 have k0 := Blk.new w 34 #[.int .u8 k, .slice Ad l.length cd, .int .i64 z]
 have hk1 : k.tmod 8 ≠ 5 ∧ k.tmod 8 ≠ 6 ∧ k.tmod 8 ≠ 7 := by rw [Int.tmod_eq_emod_of_nonneg hk0.1]; omega
 obtain ⟨hk5, hk6, hk7⟩ := hk1
 have e5 : (k % 8 == 5) = false := by rw [beq_eq_false_iff_ne]; omega
 have e6 : (k % 8 == 6) = false := by rw [beq_eq_false_iff_ne]; omega
 have e7 : (k % 8 == 7) = false := by rw [beq_eq_false_iff_ne]; omega
 have hok := h.a.dev.ok
 have hbk := hok.blk
 have H1 : Hid (BothS Ya (w.alloc (.cells #[.int .u8 k, .slice Ad l.length cd, .int .i64 z] 34)) F Q sh n nq m) := h.below hal
 have HB1 := Lib.hid hal
 have HSZ : Hid (w.heap.size < (w.alloc (.cells #[.int .u8 k, .slice Ad l.length cd, .int .i64 z] 34)).heap.size) := k0.lt
 have HXA := Lib.hid hX
 have HT : Hid (∀ b, Q.T b -> b < w.heap.size) := fun b e => (h.q.t_y e).2
 have HYA : Hid (∀ b, Ya b -> b < w.heap.size) := h.lt
 have HBS := Lib.hid (blocks_any Xa (w.alloc (.cells #[.int .u8 k, .slice Ad l.length cd, .int .i64 z] 34)).drew sh.bl (by omega) Ad cd l ((hp.below hal).below (Below.refl _ _).drew) (by omega) (fun p hp => by have := hd p hp; omega) (fun b hb => Nat.lt_of_lt_of_le (hX b hb).1 hal.size))
 have HPV : Hid (∀ p ∈ l.map (blockM sh.bl), PvOk p) := fun p hp => by
  obtain ⟨q, hq, rfl⟩ := List.mem_map.1 hp
  exact blockM_ok (by omega) ((hv q hq).ok (by have := hd q hq; omega))
 have HI := Lib.hid hi
 have HNN := Lib.hid (And.intro hll (And.intro hn hnq))
 have c0 := k0.cell 0
 have c1 := k0.cell 1
 have r0 := H1.out.q.top.cell 0
 have d2 := H1.out.q.dev.top.cell 2
 have ks : (w.alloc (.cells #[.int .u8 k, .slice Ad l.length cd, .int .i64 z] 34)).cell? ⟨w.heap.size, 1, none⟩ = some (.slice Ad l.length cd) ∧ (w.alloc (.cells #[.int .u8 k, .slice Ad l.length cd, .int .i64 z] 34)).cell? ⟨Q.r, 0, none⟩ = some (.pointer (some ⟨Q.d, 0, none⟩)) ∧ (w.alloc (.cells #[.int .u8 k, .slice Ad l.length cd, .int .i64 z] 34)).cell? ⟨Q.d, 2, none⟩ = some (.int .i64 sh.bl) := ⟨c1, r0, d2⟩
 have HLM : Hid ((l.map (blockM sh.bl)).length = l.length) := List.length_map _
 have HPU := Lib.hid (fun X u A c L (hl : L.length <= 100000) hc hp hv hn (hu : StoreIs X u F sh n m) => put_any X u F sh n m A c L hl hc hp hv hi.g hn hu)
 have HQU := Lib.hid (fun Y X u A c L (hl : L.length <= 100000) hc hp hT hv hn (hu : QSto Y u Q sh nq m) => qsput_any Y X u Q sh nq m A c L hl hc hp hT hv hi hn hu)
 obtain ⟨L, hL⟩ : ∃ L, l.map (blockM sh.bl) = L := ⟨_, rfl⟩
 rw [hL] at HPV HLM ⊢
 have HLE := Lib.hid hL
 obtain ⟨m', hm'⟩ : ∃ m', (putM sh m L).2 = m' := ⟨_, rfl⟩
 obtain ⟨ee, hee⟩ : ∃ ee, (putM sh m L).1 = ee := ⟨_, rfl⟩
 have he9 : 0 <= ee ∧ ee <= 160 := by rw [<- hee]; exact putM_code sh m L
 have hwr : IntKind.i64.wrap ee = ee := by rw [IntKind.wrap_i64]; omega
 rw [hm']
 have HM' := Lib.hid hm'
 have HEE := Lib.hid hee
 clear h hk hi hp hX hll hv hd hn hnq hal hok c1 r0 d2 k0 hL hm' hee
 go_enter Tryz.func47, Tryz.ntmps47
 go_wp2_with (fail)
 obtain ⟨w1, hw1⟩ : ∃ w1, w.alloc (.cells #[.int .u8 k, .slice Ad l.length cd, .int .i64 z] 34) = w1 := ⟨_, rfl⟩
 rw [hw1] at ks H1 HB1 HSZ HBS c0 ⊢
 clear hw1 c0
 go_region_held3 (fun u => u.cell? ⟨w.heap.size, 1, none⟩ = some (.slice Ad l.length cd) ∧ u.cell? ⟨Q.r, 0, none⟩ = some (.pointer (some ⟨Q.d, 0, none⟩)) ∧ u.cell? ⟨Q.d, 2, none⟩ = some (.int .i64 sh.bl))
   (first | exact ks | exact ks5)
   (first
     | (go_at_call 101
        with_reducible refine HBS.out.mono ?_
        rintro e w5 ⟨A5, c5, O, rfl, hinv⟩
        have ks5 : w5.cell? ⟨w.heap.size, 1, none⟩ = some (.slice Ad l.length cd) ∧ w5.cell? ⟨Q.r, 0, none⟩ = some (.pointer (some ⟨Q.d, 0, none⟩)) ∧ w5.cell? ⟨Q.d, 2, none⟩ = some (.int .i64 sh.bl) := ⟨below_keep hinv.low ks.1, below_keep hinv.low ks.2.1, below_keep hinv.low ks.2.2⟩
        have hm := hinv.made
        rw [HLE.out] at hm
        rw [hm.1]
        have H5 := Lib.hid hm.2
        clear hinv hm))
 all_goals
  clear ks ks5 HBS
  have hb15 : Below w1.heap.size w1 w5 := (Below.refl _ w1).drew.trans H5.out.low
  have hlow : Below w.heap.size w w5 := HB1.out.trans (hb15.mono HB1.out.size)
  have h5 := H1.out.below hb15
  have hX5 : ∀ b, (Xa b ∨ (w1.drew.heap.size <= b ∧ b < w5.heap.size)) -> Out w5 Ya b ∧ ¬ Q.T b := fun b hb => by
   rcases hb with hb | hb
   · have h1 := HXA.out b hb
     have h2 := hlow.size
     exact ⟨⟨by omega, h1.2.1⟩, h1.2.2⟩
   · have h1 : w1.heap.size <= b := hb.1
     have h2 := HSZ.out
     exact ⟨⟨hb.2, fun hy => by have := HYA.out b hy; omega⟩, fun ht => by have := HT.out b ht; omega⟩
  have hlL : L.length <= 100000 := by have := HNN.out; have := HLM.out; omega
  have hn5 : n + 5 * L.length <= 1000000 ∧ nq + L.length <= 900000 := by have := HNN.out; have := HLM.out; omega
  have HP5 := Lib.hid (HPU.out (Out w5 Ya) w5 A5 c5 L hlL H5.out.cap (H5.out.pa.more (fun b hb => (hX5 b hb).1)) HPV.out hn5.1 h5.a)
  have HX5 := Lib.hid hX5
  have H15 := Lib.hid (And.intro hlow (And.intro h5 (And.intro hlL hn5)))
  clear hb15 hlow h5 hX5 hlL hn5 HPU
  rw [HM'.out, HEE.out] at HP5
  go_wp2_with (fail)
  refine HP5.out.mono ?_
  rintro e w6 ⟨rfl, hs, hk6⟩
  have HM := Lib.hid (H15.out.2.1.onA hk6 hs)
  have HP6 : Hid (PutsAt (fun b => Xa b ∨ (w1.drew.heap.size <= b ∧ b < w5.heap.size)) w6 A5 L) := H5.out.pa.kp hk6 (fun b hb hx => hb (HX5.out b hx).1)
  have HQ6 := Lib.hid (HQU.out (fun b => ¬ More w5 w6 Ya b) (fun b => Xa b ∨ (w1.drew.heap.size <= b ∧ b < w5.heap.size)) w6 A5 c5 L H15.out.2.2.1 H5.out.cap HP6.out (fun b ht hx => (HX5.out b hx).2 ht) HPV.out H15.out.2.2.2.2 HM.out.q)
  rw [HM'.out, HEE.out] at HQ6
  have H6 := Lib.hid (And.intro hs hk6)
  clear hs hk6 HP5 HQU
  go_wp2_with (fail)
  refine HQ6.out.mono ?_
  rintro e w7 ⟨rfl, hq, hk7⟩
  have HW := Lib.hid (H15.out.2.1.went H15.out.1 H6.out.2 H6.out.1 hk7 hq)
  clear hq hk7
  go_wp2
  go_ret
  have hw := HW.out
  rw [HLM.out] at hw
  exact ⟨by simp, hw⟩
end Go.Proofs.YtfabgbmbnmbjkaaGreatDoor

