/- StoreOwn: the walk. -/
import Derived.Test.YtgjcofoicnnnhaaDoorCSl13
import Derived.BigQuiet
import Derived.StillTailTactics
namespace Go.Proofs.YtgjcofoicnnnhaaDoor
open Go.RowKit
set_option maxRecDepth 20000

theorem BRow.cap {w : World} {B c : Nat} {A : Option Addr} {xs : List Int} (h : BRow w B A c xs) : xs.length ≤ c := by
  rcases h.2 with ⟨hv, h0⟩ | ⟨g, cap, cur, hv, hg, hh, hnc, hcm, hcs, ht⟩
  · omega
  · injection hv with e1 e2 e3
    omega
/-- A store, and the list whose blocks were put: whatever was made since. -/
structure OwS (X5 : Nat → Prop) (w wr : World) (F : StF) (sh : Sh) (n : Nat) (m : StM) (A : Option Addr) (L : List Pv) : Prop where
  st : ∃ X, (∀ b, X5 b → X b) ∧ StoreIs X wr F sh n m
  pa : PutsAt X5 wr A L
  low : Below w.heap.size w wr
theorem OwS.below {X5 : Nat → Prop} {w wr wn : World} {F : StF} {sh : Sh} {n : Nat} {m : StM} {A : Option Addr} {L : List Pv} (h : OwS X5 w wr F sh n m A L) (hb : Below wr.heap.size wr wn) : OwS X5 w wn F sh n m A L := by
  obtain ⟨X, hx, hst⟩ := h.st
  exact ⟨⟨X, hx, hst.below hb⟩, h.pa.below hb, h.low.trans (hb.mono h.low.size)⟩
/-- What is new may be turned. -/
theorem OwS.turn {X5 : Nat → Prop} {w wr w2 wn : World} {F : StF} {sh : Sh} {n : Nat} {m : StM} {A : Option Addr} {L : List Pv} (h : OwS X5 w wr F sh n m A L) (hb : Below wr.heap.size wr w2) {g : Nat} (hg : wr.heap.size ≤ g ∧ g < w2.heap.size) (hk : Kp (fun b => b = g) w2 wn) : OwS X5 w wn F sh n m A L := by
  obtain ⟨X, hx, hst⟩ := h.st
  have h5 : ∀ b, X5 b → b < wr.heap.size := fun b hb' => hst.xlt (hx b hb')
  have hst2 := hst.step (X' := fun b => X b ∨ (wr.heap.size ≤ b ∧ b < w2.heap.size)) hb (fun b hb' => by
    rcases hb' with h' | h'
    · exact ⟨Nat.lt_of_lt_of_le (hst.xlt h') hb.size, .inl h'⟩
    · exact ⟨h'.2, .inr h'.1⟩)
  refine ⟨⟨_, fun b hb' => .inl (hx b hb'), hst2.far hk (fun b e => .inr (by subst e; exact hg))⟩, (h.pa.below hb).kp hk (fun b e hx' => by have := h5 b hx'; omega), Kp.below (h.low.trans (hb.mono h.low.size)) hk (Nat.le_trans h.low.size hb.size) (fun b hb' e => by have := h.low.size; omega)⟩
theorem BRow.set_ {w : World} {B c g : Nat} {xs : List Int} (h : BRow w B (some ⟨g, 0, none⟩) c xs) (j : Nat) (y : Int) : BRow (w.setCell ⟨g, j, none⟩ (.int .u8 y)) B (some ⟨g, 0, none⟩) c (xs.set j y) := by
  have h1 := (World.ownsRow.stored h j (.int .u8 y)).1
  show World.ownsRow _ _ _ _ _ _ _
  rw [List.length_set]
  have e : nums .u8 (xs.set j y) = (nums .u8 xs).set j (.int .u8 y) := by unfold nums; rw [List.map_set]
  rw [e]
  exact h1
theorem OwS.two {X5 : Nat → Prop} {w wr : World} {F : StF} {sh : Sh} {n : Nat} {m : StM} {ad : Addr} {L : List Pv} (h : OwS X5 w wr F sh n m (some ad) L) {k : Nat} (hk : k < L.length) {p : Pv} (hp : L.getD k pv0 = p) :
    wr.cell? (ad.add (k * 4)) = some (.int .u32 p.t) ∧ wr.cell? ⟨(ad.add (k * 4)).block, (ad.add (k * 4)).off + 1, none⟩ = some (.int .u64 p.b) := by
  obtain ⟨ad', Ad, cd, e, hat⟩ := h.pa k hk
  obtain rfl := Option.some.inj e
  rw [hp] at hat
  exact ⟨hat.c0, hat.c1⟩
theorem OwS.get {X5 : Nat → Prop} {w wr : World} {F : StF} {sh : Sh} {n : Nat} {m : StM} {A : Option Addr} {L : List Pv} (h : OwS X5 w wr F sh n m A L) (hg : Good sh m) (t b : Int) (hn : NameOk (t, b)) :
    Calls Tryd.prog 13 #[.pointer (some ⟨F.s, 0, none⟩), .int .u32 t, .int .u64 b] wr (Got sh m (t, b) wr) := by
  obtain ⟨X, hx, hst⟩ := h.st
  exact get_any X wr F sh n m (t, b) hn hg hst
theorem OwS.drew {X5 : Nat → Prop} {w wr : World} {F : StF} {sh : Sh} {n : Nat} {m : StM} {A : Option Addr} {L : List Pv} (h : OwS X5 w wr F sh n m A L) : OwS X5 w wr.drew F sh n m A L := h.below (Below.refl _ _).drew
theorem Got.none_ {sh : Sh} {m : StM} {nm : Int × Int} {w w' : World} {e : Ending} (h : Got sh m nm w e w') (hd : dataM m nm = none) : e = .returned (.tuple #[.slice none 0 0, .bool false]) ∧ Below w.heap.size w w' := ⟨h.1 hd, h.2.2⟩
theorem Got.some_ {sh : Sh} {m : StM} {nm : Int × Int} {w w' : World} {e : Ending} {b : List Int} (h : Got sh m nm w e w') (hd : dataM m nm = some b) (h64 : 64 ≤ sh.bl) :
    ∃ g c, e = .returned (.tuple #[.slice (some ⟨g, 0, none⟩) sh.bl c, .bool true]) ∧ (BRow w' w.heap.size (some ⟨g, 0, none⟩) c b ∧ b.length = sh.bl ∧ w.heap.size ≤ g ∧ g < w'.heap.size ∧ Reads w' w'.heap.size 1 (some ⟨g, 0, none⟩) sh.bl (nums .u8 b)) ∧ Below w.heap.size w w' := by
  obtain ⟨A, c, e1, h1, h2⟩ := h.2.1 b hd
  obtain ⟨g, rfl, _⟩ := h1.at_ (k := 0) (by omega)
  have hr := h1.reads
  rw [h2] at hr
  exact ⟨g, c, e1, ⟨h1, h2, (h1.lt (b := g) rfl).1, (h1.lt (b := g) rfl).2, hr⟩, h.2.2⟩
def saidB (L : List Pv) (nm : Int × Int) (b : List Int) (j : Nat) : Bool := (L.take j).any (fun p => decide (p.n = nm) && decide (p.da = b))
theorem saidB_step (L : List Pv) (nm : Int × Int) (b : List Int) (j : Nat) (h : j < L.length) : saidB L nm b (j + 1) = (saidB L nm b j || (decide ((L.getD j pv0).n = nm) && decide ((L.getD j pv0).da = b))) := by
  unfold saidB
  rw [List.take_succ_eq_append_getElem h, List.any_append]
  have hg : L.getD j pv0 = L[j] := by rw [List.getD_eq_getElem?_getD, List.getElem?_eq_getElem h]; rfl
  rw [hg]
  simp
theorem saidB_all {L : List Pv} {nm : Int × Int} {b : List Int} (h : ∃ k, k < L.length ∧ (L.getD k pv0).n = nm ∧ (L.getD k pv0).da = b) : saidB L nm b L.length = true := by
  obtain ⟨k, hk, h1, h2⟩ := h
  unfold saidB
  rw [List.take_length]
  exact List.any_eq_true.2 ⟨_, getD_mem (d := pv0) hk, by rw [decide_eq_true h1, decide_eq_true h2]; rfl⟩

set_option maxHeartbeats 8000000 in
theorem own_law (w : World) (z zb bl rs : Int) (hz : -9223372036854775808 ≤ z ∧ z ≤ 9223372036854775807) (hb : -9223372036854775808 ≤ bl ∧ bl ≤ 9223372036854775807) (A : Option Addr) (c : Nat) (l : List Pv) (hc : l.length ≤ c) (hp : PutsAt (fun b => b < w.heap.size) w A l) (hv : ∀ p ∈ l, PvIn p) :
    Calls Tryd.prog 4 #[.agg #[.int .i64 z, .int .i64 zb, .int .i64 bl, .int .i64 rs], .slice A l.length c] w (Makes (.bool true) w) := by
  have HP := Lib.hid hp
  have HV := Lib.hid hv
  have HC := Lib.hid hc
  have HNW := Lib.hid (fun u => snew_any z zb bl rs u hz hb)
  have HK := Lib.hid (fun u => known_any u)
  have hS : Below w.heap.size w (w.alloc (.cells #[.int .i64 z, .int .i64 zb, .int .i64 bl, .int .i64 rs] 23)) := (Below.refl _ _).alloc (Nat.le_refl _) _
  have hO : Below w.heap.size w ((w.alloc (.cells #[.int .i64 z, .int .i64 zb, .int .i64 bl, .int .i64 rs] 23)).alloc (.cells #[.int .u8 0, .slice A l.length c, .int .i64 0] 27)) := hS.alloc hS.size _
  have hg := Blk.new (w.alloc (.cells #[.int .i64 z, .int .i64 zb, .int .i64 bl, .int .i64 rs] 23)) 27 #[.int .u8 0, .slice A l.length c, .int .i64 0]
  simp only [World.size_alloc] at hg
  have HH := Lib.hid (heavy_any _ _ z zb bl rs A c (w.heap.size + 1) l (hp.below hO) hg)
  have HSB : Hid (Blk ((w.alloc (.cells #[.int .i64 z, .int .i64 zb, .int .i64 bl, .int .i64 rs] 23)).alloc (.cells #[.int .u8 0, .slice A l.length c, .int .i64 0] 27)) w.heap.size 23 #[.int .i64 z, .int .i64 zb, .int .i64 bl, .int .i64 rs]) := (Blk.new w _ _).alloc _
  have HB := Lib.hid (And.intro hS hO)
  clear hp hv hc hz hb hS hO hg
  cases hh : heavyM z zb bl l with
  | true =>
    rw [hh] at HH
    simp only [if_true] at HH
    clear hh
    go_enter Tryd.func4, Tryd.ntmps4
    go_wp2_with (fail)
    refine HH.out.mono ?_
    rintro e w2 ⟨rfl, hb2⟩
    have HB2 := Lib.hid (HB.out.2.trans (hb2.mono HB.out.2.size))
    clear hb2
    go_wp2_with (fail)
    refine (HK.out _).mono ?_
    rintro e w3 ⟨rfl, hb3⟩
    have HB3 := Lib.hid (HB2.out.trans (hb3.mono HB2.out.size))
    clear hb3
    go_wp2
    go_ret
    exact ⟨rfl, HB3.out⟩
  | false =>
    rw [hh] at HH
    simp only [Bool.false_eq_true, if_false] at HH
    have HHV := Lib.hid hh
    clear hh
    go_enter Tryd.func4, Tryd.ntmps4
    go_wp2_with (fail)
    refine HH.out.mono ?_
    rintro e w2 ⟨rfl, hb2⟩
    have HB2 := Lib.hid (And.intro (HB.out.2.trans (hb2.mono HB.out.2.size)) (HSB.out.below hb2 HSB.out.lt))
    clear hb2 HH HSB HB
    go_wp2_with (fail)
    refine (HK.out _).mono ?_
    rintro e w3 ⟨rfl, hb3⟩
    have hsb := HB2.out.2.below hb3 HB2.out.2.lt
    have s0 : w3.cell? ⟨w.heap.size, 0, none⟩ = some (.int .i64 z) := hsb.cell 0
    have s1 : w3.cell? ⟨w.heap.size, 1, none⟩ = some (.int .i64 zb) := hsb.cell 1
    have s2 : w3.cell? ⟨w.heap.size, 2, none⟩ = some (.int .i64 bl) := hsb.cell 2
    have s3 : w3.cell? ⟨w.heap.size, 3, none⟩ = some (.int .i64 rs) := hsb.cell 3
    have HB3 := Lib.hid (And.intro (HB2.out.1.trans (hb3.mono HB2.out.1.size)) hsb)
    clear hb3 hsb HB2
    go_wp2_with (fail)
    refine (HNW.out w3).mono ?_
    rintro e w4 ⟨hy, hn, hb4⟩
    have hsb4 := HB3.out.2.below hb4 HB3.out.2.lt
    have HB4 := Lib.hid (And.intro (HB3.out.1.trans (hb4.mono HB3.out.1.size)) (And.intro hsb4 hb4))
    cases hr : rightB z zb bl rs with
    | false =>
      obtain rfl := hn hr
      clear hy hn hr hb4 hsb4 s0 s1 s2 s3
      go_wp2
      go_ret
      exact ⟨rfl, HB4.out.1⟩
    | true =>
      obtain ⟨F, sh, rfl, rfl, rfl, rfl, rfl, hst, hown, hgood⟩ := hy hr
      have HST := Lib.hid (And.intro hst (And.intro hown hgood))
      have s2 : w4.cell? ⟨w.heap.size, 2, none⟩ = some (.int .i64 sh.bl) := hsb4.cell 2
      have hok := hst.dev.ok
      have hbk := hok.blk
      have HBS := Lib.hid (blocks_any (fun b => b < w.heap.size) w4 sh.bl (by omega) A c l ((HP.out.below HB4.out.1)) (by have := (heavy_false HHV.out).2.1; omega) (fun p hp => by have := (heavy_false HHV.out).2.2 p hp; omega) (fun b hb => Nat.lt_of_lt_of_le hb HB4.out.1.size))
      clear hy hn hr hb4 hsb4 hst hown hgood s0 s1 s3 hok
      go_wp2_with (fail)
      refine HBS.out.mono ?_
      rintro e w5 ⟨A5, c5, O, rfl, hinv⟩
      have hsz := HB4.out.1.size
      have hst5 := HST.out.1.step (X' := fun b => b < w.heap.size ∨ (w4.heap.size ≤ b ∧ b < w5.heap.size)) hinv.low (fun b hx => by
        have := hinv.low.size
        rcases hx with h | h
        · exact ⟨by omega, .inl (by have := HB3.out.1.size; show b < w3.heap.size; omega)⟩
        · exact ⟨h.2, .inr h.1⟩)
      have hpa5 : PutsAt (fun b => b < w.heap.size ∨ (w4.heap.size ≤ b ∧ b < w5.heap.size)) w5 A5 (O.map (·.p)) := hinv.row.puts (fun b h1 h2 => .inr ⟨h1, h2⟩) (fun q hq => by
        have h := hinv.ok q hq
        exact ⟨h.rd, fun ad e h0 => by
          rcases h.xd ad e h0 with hx | hx
          · exact .inl hx
          · obtain ⟨ad2, e2, hb, _⟩ := h.rd.2 h0
            obtain rfl := Option.some.inj (e.symm.trans e2)
            exact .inr ⟨hx, hb⟩, h.cap⟩)
      have hmp := hinv.mp
      rw [List.take_length] at hmp
      rw [hmp] at hpa5
      have hlen : O.length = (l.map (blockM sh.bl)).length := by rw [List.length_map]; exact hinv.len
      have hcap := hinv.row.cap
      rw [hlen] at hcap ⊢
      have hvL : ∀ p ∈ l.map (blockM sh.bl), PvOk p := fun p hp => by
        obtain ⟨q, hq, rfl⟩ := List.mem_map.1 hp
        exact blockM_ok (by omega) ((HV.out q hq).ok (by have := (heavy_false HHV.out).2.2 q hq; omega))
      have hLL : (l.map (blockM sh.bl)).length ≤ 30 := by rw [List.length_map]; exact (heavy_false HHV.out).2.1
      have hs5 := HB4.out.2.1.below hinv.low HB4.out.2.1.lt
      have H5 := Lib.hid (And.intro hst5 (And.intro hpa5 (And.intro hcap (And.intro hvL (And.intro hs5 (HB4.out.1.trans (hinv.low.mono hsz)))))))
      clear hst5 hpa5 hcap hvL hs5 hmp hlen hinv hsz s2 HBS
      generalize l.map (blockM sh.bl) = L at *
      go_wp2_with (fail)
      have hX5 : Hid (∀ b, (b < w.heap.size ∨ (w4.heap.size ≤ b ∧ b < w5.heap.size)) → b < w5.heap.size) := fun b hb => H5.out.1.xlt hb
      obtain ⟨X5, hX5e⟩ : ∃ X5 : Nat → Prop, X5 = (fun b => b < w.heap.size ∨ (w4.heap.size ≤ b ∧ b < w5.heap.size)) := ⟨_, rfl⟩
      rw [← hX5e] at H5
      have HX5 : Hid (∀ b, X5 b → b < w5.heap.size) := fun b hb => hX5.out b (by rw [hX5e] at hb; exact hb)
      have HX5w : Hid (∀ b, b < w.heap.size → X5 b) := fun b hb => by rw [hX5e]; exact .inl hb
      clear hX5 hX5e
      go_loopw [6, 7] (fun s i wr => ∃ (k : Nat) (A' : Option Addr) (c' : Nat) (O : List Pc), k ≤ L.length ∧ s = .slice A' k c' ∧ i = .int .i64 k ∧ Hid (OwA w5 wr L k A' c' O)) (fun _ i _ => L.length - (intOf i).toNat)
      case atStart => exact ⟨0, none, 0, [], Nat.zero_le _, rfl, rfl, OwA.start _ _⟩
      case round =>
        obtain ⟨k, A', c', O, hk, rfl, rfl, hr⟩ := hrel
        by_cases hlt : k < L.length
        · obtain ⟨ad, Ad, cd, rfl, hat⟩ := H5.out.2.1.below hr.out.low k hlt
          have HPV := Lib.hid (H5.out.2.2.2.1 _ (getD_mem (d := pv0) hlt))
          have HLT := Lib.hid hlt
          obtain ⟨p, hp⟩ : ∃ p, L.getD k pv0 = p := ⟨_, rfl⟩
          have HEQ := Lib.hid hp
          rw [hp] at hat HPV
          have p0 := hat.c0
          have p1 := hat.c1
          have p2 := hat.c2
          have p3 := hat.c3
          have HLB := Lib.hid (lent_any (wr.alloc (.cells #[.int .u32 p.t, .int .u64 p.b, .bool p.d, .slice Ad p.da.length cd] 37)) Ad p.da.length cd p.da ((hat.rd.alloc (Nat.le_refl _) _).more (by simp)) HPV.out.len)
          clear hat hp
          go_wp2_with (fail)
          refine HLB.out.mono ?_
          rintro e w9 ⟨A9, c9, rfl, hb9, hl9⟩
          rw [World.size_alloc] at hb9 hl9
          have hblk := (Blk.new wr 37 #[.int .u32 p.t, .int .u64 p.b, .bool p.d, .slice Ad p.da.length cd]).below hl9 (by omega)
          have z0 : w9.cell? ⟨wr.heap.size, 0, none⟩ = some (.int .u32 p.t) := hblk.cell 0
          have z1 : w9.cell? ⟨wr.heap.size, 1, none⟩ = some (.int .u64 p.b) := hblk.cell 1
          have z2 : w9.cell? ⟨wr.heap.size, 2, none⟩ = some (.bool p.d) := hblk.cell 2
          have z3 : w9.cell? ⟨wr.heap.size, 3, none⟩ = some (.slice Ad p.da.length cd) := hblk.cell 3
          have hf : ∀ i, w9.frozen? ⟨wr.heap.size, i, none⟩ = false := fun i => hblk.frozen i
          have h9s := hl9.size
          rw [World.size_alloc] at h9s
          have h911 : ∀ b, wr.heap.size < b → b < w9.heap.size → ((w9.setCell ⟨wr.heap.size, 3, none⟩ (.slice A9 p.da.length c9)).alloc (.cells #[.int .u32 p.t, .int .u64 p.b, .bool p.d, .slice A9 p.da.length c9] 37)).heap[b]? = w9.heap[b]? := fun b h1 h2 =>
            (Below.heap_alloc _ _ b (by rw [World.size_setCell]; exact h2)).trans (Below.heap_setCell w9 _ _ b (by show b ≠ wr.heap.size; omega))
          have h11 : Below wr.heap.size wr ((w9.setCell ⟨wr.heap.size, 3, none⟩ (.slice A9 p.da.length c9)).alloc (.cells #[.int .u32 p.t, .int .u64 p.b, .bool p.d, .slice A9 p.da.length c9] 37)) :=
            ((((Below.refl wr.heap.size wr).alloc (Nat.le_refl _) _).trans (hl9.mono (by omega))).setCell (p := ⟨wr.heap.size, 3, none⟩) (Nat.le_refl _) _).alloc (by rw [World.size_setCell]; omega) _
          have hsrc := Blk.new (w9.setCell ⟨wr.heap.size, 3, none⟩ (.slice A9 p.da.length c9)) 37 #[.int .u32 p.t, .int .u64 p.b, .bool p.d, .slice A9 p.da.length c9]
          rw [World.size_setCell] at hsrc
          have hlow := hr.out.low.size
          obtain ⟨A12, c12, w12, hap, hrow12, hk12, hor12⟩ := run_append_pc _ 24 O ⟨p, A9, c9⟩ (hr.out.row.below h11 (Nat.le_refl _)) hsrc (by have := hr.out.len; omega) (Nat.le_trans hlow h11.size)
          have HN : Hid (OwA w5 w12 L (k + 1) A12 c12 (O ++ [⟨p, A9, c9⟩])) := OwA.step hr.out HLT.out HEQ.out hb9 h11 h911 (by rw [World.size_alloc, World.size_setCell]; omega) hrow12 hk12 hor12
          rw [hr.out.len] at hap
          clear hb9 hl9 hblk h9s h911 h11 hsrc hlow hrow12 hk12 hor12 hr p0 p1 p2 p3
          go_wp2_with (at_builtin; refine wpList_append_run rfl (.tmp 53) (.tmp 55) _ rfl rfl rfl hap ?_)
          go_roundw
          case rel => exact ⟨k + 1, A12, c12, _, HLT.out, rfl, by go_num, HN⟩
          case measure => have := HLT.out; simp [intOf]; omega
        · obtain rfl : k = L.length := by omega
          have hmp := hr.out.mp
          rw [List.take_length] at hmp
          have hlow := hr.out.low.size
          have hst7 := H5.out.1.step (X' := fun b => X5 b ∨ (w5.heap.size ≤ b ∧ b < wr.heap.size)) hr.out.low (fun b hx => by
            rcases hx with h | h
            · exact ⟨Nat.lt_of_lt_of_le (HX5.out b h) hlow, .inl h⟩
            · exact ⟨h.2, .inr h.1⟩)
          have hpa7 : PutsAt (fun b => X5 b ∨ (w5.heap.size ≤ b ∧ b < wr.heap.size)) wr A' (O.map (·.p)) := hr.out.row.puts (fun b h1 h2 => .inr ⟨h1, h2⟩) (fun q hq => ⟨(hr.out.br q hq).reads, fun ad e h0 => .inr (by
            rcases (hr.out.br q hq).2 with ⟨_, h0'⟩ | ⟨g, cap, cur, hv, _⟩
            · omega
            · injection hv with e1
              rw [e1] at e
              obtain rfl := Option.some.inj e
              exact (hr.out.br q hq).lt (b := g) (by rw [e1]; rfl)), (hr.out.br q hq).cap⟩)
          rw [hmp] at hpa7
          have hcap := hr.out.row.cap
          rw [hr.out.len] at hcap
          have hput := put_any _ _ F sh 0 (newM sh (P0 sh)) A' c' L (by omega) hcap hpa7 H5.out.2.2.2.1 HST.out.2.2 (by omega) hst7
          have HM2 : Hid (Good sh (putM sh (newM sh (P0 sh)) L).2 ∧ ∃ j, dataM (putM sh (newM sh (P0 sh)) L).2 = (L.take j).foldl updD (fun _ => none)) := ⟨putM_good hst7.dev.ok L HST.out.2.2, putM_part hst7.dev.ok L HST.out.2.2⟩
          have HPUT := Lib.hid hput
          have HR := Lib.hid hr.out
          have HOL : Hid (O.length = L.length) := hr.out.len
          have HMP : Hid (O.map (·.p) = L) := hmp
          clear hmp hlow hst7 hpa7 hcap hput hr
          go_wp2_with (fail)
          refine HPUT.out.mono ?_
          rintro e w8 ⟨rfl, hst8, hk8⟩
          have HB8 := Lib.hid (HR.out.turn hk8 (fun b hS h => hS (.inr h)))
          have HS8 : Hid (StoreIs (fun b => X5 b ∨ (w5.heap.size ≤ b ∧ b < wr.heap.size)) w8 F sh (0 + 5 * L.length) (putM sh (newM sh (P0 sh)) L).2 ∧ PutsAt X5 w8 A5 L ∧ Below w.heap.size w w8) := by
            have h1 := H5.out.2.2.2.2.2.trans (HR.out.low.mono H5.out.2.2.2.2.2.size)
            exact ⟨hst8, (H5.out.2.1.below HR.out.low).kp hk8 (fun b hS hx => hS (.inl hx)), Kp.below h1 hk8 h1.size (fun b hb h => h (.inl (HX5w.out b hb)))⟩
          have HWS : Hid (w5.heap.size ≤ wr.heap.size) := HR.out.low.size
          clear hst8 hk8 HPUT
          generalize (putM sh (newM sh (P0 sh)) L).2 = m2 at *
          generalize (putM sh (newM sh (P0 sh)) L).1 = code at *
          generalize 0 + 5 * L.length = n2 at *
          obtain ⟨s7, hs7⟩ : ∃ s7, wr.heap.size = s7 := ⟨_, rfl⟩
          rw [hs7] at HS8 HWS HB8
          have HVL := Lib.hid H5.out.2.2.2.1
          have HOKK := Lib.hid HS8.out.1.dev.ok.blk
          clear hs7 HR HST H5
          go_wp2_with (fail)
          go_loopw [9] (fun i wr => ∃ k : Nat, k ≤ L.length ∧ i = .int .i64 k ∧ Hid (Kp (fun b => w5.heap.size ≤ b ∧ b < s7) w8 wr ∧ OwB w5 s7 wr A' c' O)) (fun i _ => L.length - (intOf i).toNat)
          case atStart => exact ⟨0, Nat.zero_le _, rfl, Kp.refl _ _, HB8⟩
          case round =>
            obtain ⟨k, hk, rfl, hr⟩ := hrel
            by_cases hlt : k < L.length
            · have HLT := Lib.hid hlt
              obtain ⟨q, hq⟩ : ∃ q, O.getD k pc0 = q := ⟨_, rfl⟩
              have HQ := Lib.hid hq
              have hql : q.p.da.length ≤ 100000000 := by
                rw [← hq]
                have hm : (O.getD k pc0).p ∈ O.map (·.p) := List.mem_map.2 ⟨_, getD_mem (d := pc0) (by rw [HOL.out]; exact HLT.out), rfl⟩
                rw [HMP.out] at hm
                exact (HVL.out _ hm).len
              clear hq
              go_wp2_with (fail)
              go_loopw [10] (fun i wr => ∃ j : Nat, j ≤ q.p.da.length ∧ i = .int .i64 j ∧ Hid (Kp (fun b => w5.heap.size ≤ b ∧ b < s7) w8 wr ∧ OwB w5 s7 wr A' c' O)) (fun i _ => q.p.da.length - (intOf i).toNat)
              case atStart => exact ⟨0, Nat.zero_le _, rfl, hr.out⟩
              case round =>
                clear hr
                obtain ⟨j, hj, rfl, hr⟩ := hrel
                obtain ⟨r, rfl, hr1, hr2, hc3⟩ := hr.out.2.at_ (i := k) (by rw [HOL.out]; exact HLT.out)
                rw [HQ.out] at hc3
                by_cases hlt2 : j < q.p.da.length
                · obtain ⟨g, x, hga, hg1, hg2, hcx, hfx⟩ := hr.out.2.byte (i := k) (j := j) (by rw [HOL.out]; exact HLT.out) (by rw [HQ.out]; exact hlt2)
                  have HN : Hid (∀ y, Kp (fun b => w5.heap.size ≤ b ∧ b < s7) w8 (wr.setCell ⟨g, j, none⟩ (.int .u8 y)).drew ∧ OwB w5 s7 (wr.setCell ⟨g, j, none⟩ (.int .u8 y)).drew (some ⟨r, 0, none⟩) c' O) := fun y => ⟨(hr.out.1.setCell (p := ⟨g, j, none⟩) (.inl ⟨hg1, hg2⟩) _).drewN 1, (hr.out.2.set_ (i := k) (by rw [HOL.out]; exact HLT.out) (by rw [HQ.out]; exact hlt2) hga y).drew⟩
                  have HLT2 := Lib.hid hlt2
                  rw [HQ.out] at hga
                  rw [hga] at hc3
                  clear hr hga hg1 hg2
                  generalize q.p.da.length = dn at *
                  go_wp2_with (fail)
                  go_region
                  all_goals
                    go_wp2
                    go_roundw
                    case rel => exact ⟨j + 1, HLT2.out, by go_num, HN.out _⟩
                    case measure => have := HLT2.out; simp [intOf]; omega
                · have HRR := hr
                  obtain rfl : j = q.p.da.length := by omega
                  clear hr hr1 hr2
                  generalize q.p.da.length = dn at *
                  go_wp2
                  go_roundw
                  case rel => exact ⟨k + 1, HLT.out, by go_num, HRR⟩
                  case measure => have := HLT.out; simp [intOf]; omega
            · obtain rfl : k = L.length := by omega
              have HC : Hid (OwS X5 w wr F sh n2 m2 A5 L) := ⟨⟨_, fun b hb => .inl hb, HS8.out.1.far hr.out.1 (fun b hS => .inr hS)⟩, HS8.out.2.1.kp hr.out.1 (fun b hS hx => by have := HX5.out b hx; omega),
                Kp.below HS8.out.2.2 hr.out.1 HS8.out.2.2.size (fun b hb hS => by have := HX5.out b (HX5w.out b hb); omega)⟩
              clear hr HS8 HB8 HOL HX5 HX5w HMP
              go_wp2_with (fail)
              go_loopw [11] (fun i wr => ∃ k : Nat, k ≤ L.length ∧ i = .int .i64 k ∧ Hid (OwS X5 w wr F sh n2 m2 A5 L)) (fun i _ => L.length - (intOf i).toNat)
              case atStart => exact ⟨0, Nat.zero_le _, rfl, HC⟩
              case round =>
                clear HC
                obtain ⟨k, hk, rfl, hr⟩ := hrel
                by_cases hlt : k < L.length
                · obtain ⟨ad, Ad, cd, rfl, _⟩ := hr.out.pa k hlt
                  have HLT := Lib.hid hlt
                  obtain ⟨p, hp⟩ : ∃ p, L.getD k pv0 = p := ⟨_, rfl⟩
                  have HEQ := Lib.hid hp
                  have HPV := Lib.hid (HVL.out _ (getD_mem (d := pv0) hlt))
                  rw [hp] at HPV
                  have ks := hr.out.two hlt hp
                  have HG1 := Lib.hid (hr.out.drew.get HM2.out.1 p.t p.b HPV.out.n)
                  clear hp
                  obtain ⟨wk, rfl⟩ : ∃ wk, wk = wr := ⟨_, rfl⟩
                  cases hd : dataM m2 (p.t, p.b) with
                  | none =>
                    have HD := Lib.hid hd
                    clear hd
                    go_wp2_with (fail)
                    go_region_held3 (fun u => u.cell? (ad.add (k * 4)) = some (.int .u32 p.t) ∧ u.cell? ⟨(ad.add (k * 4)).block, (ad.add (k * 4)).off + 1, none⟩ = some (.int .u64 p.b))
                      (first | exact ks | exact ks2)
                      (first
                        | (go_at_call 13
                           with_reducible refine HG1.out.mono ?_
                           rintro e w9 hgot
                           obtain ⟨rfl, hb⟩ := hgot.none_ HD.out
                           have hbb := And.intro hb True.intro
                           have ks2 : w9.cell? (ad.add (k * 4)) = some (.int .u32 p.t) ∧ w9.cell? ⟨(ad.add (k * 4)).block, (ad.add (k * 4)).off + 1, none⟩ = some (.int .u64 p.b) := ⟨below_keep hbb.1 ks.1, below_keep hbb.1 ks.2⟩
                           have HBB := Lib.hid hbb
                           clear hgot hbb))
                    all_goals
                      have H9 := Lib.hid (hr.out.below ((Below.refl _ wk).drew.trans HBB.out.1))
                      clear ks ks2 HBB HG1
                      go_wp2_with (fail)
                      refine (lent_any w9 none 0 0 [] Reads.none_ (by omega)).mono ?_
                      rintro e w10 ⟨Aw, cw, rfl, hw10, hb10⟩
                      have H10 := Lib.hid (H9.out.below hb10)
                      have HW10 := Lib.hid hw10
                      clear H9 hw10 hb10
                      go_wp2_with (fail)
                      go_loopw [15] (fun i wr => i = .int .i64 0 ∧ wr = w10) (fun _ _ => 0)
                      case atStart => exact ⟨rfl, rfl⟩
                      case round =>
                        obtain ⟨rfl, rfl⟩ := hrel
                        have ks := H10.out.two HLT.out HEQ.out
                        have HG1 := Lib.hid (H10.out.drew.get HM2.out.1 p.t p.b HPV.out.n)
                        go_wp2_with (fail)
                        go_region_held3 (fun u => u.cell? (ad.add (k * 4)) = some (.int .u32 p.t) ∧ u.cell? ⟨(ad.add (k * 4)).block, (ad.add (k * 4)).off + 1, none⟩ = some (.int .u64 p.b))
                          (first | exact ks | exact ks2)
                          (first
                            | (go_at_call 13
                               with_reducible refine HG1.out.mono ?_
                               rintro e w11 hgot
                               obtain ⟨rfl, hb⟩ := hgot.none_ HD.out
                               have hbb := And.intro hb True.intro
                               have ks2 : w11.cell? (ad.add (k * 4)) = some (.int .u32 p.t) ∧ w11.cell? ⟨(ad.add (k * 4)).block, (ad.add (k * 4)).off + 1, none⟩ = some (.int .u64 p.b) := ⟨below_keep hbb.1 ks.1, below_keep hbb.1 ks.2⟩
                               have HBB := Lib.hid hbb
                               clear hgot hbb))
                        all_goals
                          have hsm := same_any w11 none 0 0 [] Aw 0 cw [] Reads.none_ (by have := (HW10.out.below ((Below.refl _ wr).drew.trans HBB.out.1) (Nat.le_refl _)).reads; exact this) (fun x hx => by cases hx) (fun x hx => by cases hx)
                          rw [decide_eq_true rfl] at hsm
                          have HSM := Lib.hid hsm
                          have H11 := Lib.hid (H10.out.below ((Below.refl _ wr).drew.trans HBB.out.1))
                          clear ks ks2 HBB HG1 hsm
                          go_wp2_with (fail)
                          refine HSM.out.mono ?_
                          rintro e w12 ⟨rfl, rfl⟩
                          go_wp2_with (fail)
                          go_loopw [18, 19] (fun s i wr => ∃ j : Nat, j ≤ L.length ∧ s = .bool true ∧ i = .int .i64 j ∧ Hid (Below w11.heap.size w11 wr)) (fun _ i _ => L.length - (intOf i).toNat)
                          case atStart => exact ⟨0, Nat.zero_le _, rfl, rfl, Below.refl _ _⟩
                          case round =>
                            obtain ⟨j, hj, rfl, rfl, hrr⟩ := hrel
                            by_cases hlt2 : j < L.length
                            · have HLT2 := Lib.hid hlt2
                              have HRR : Hid (∀ n, Below w11.heap.size w11 (wr.drewN n)) := fun n => below_drewN hrr.out n
                              clear hrr
                              go_wp2_with (fail)
                              go_quiet (fail)
                              go_wp2
                              go_roundw
                              case rel => exact ⟨j + 1, HLT2.out, rfl, by go_num, HRR.out _⟩
                              case measure => have := HLT2.out; simp [intOf]; omega
                            · have H12 := Lib.hid (H11.out.below hrr.out)
                              have hjl : (j : Int) = L.length := by omega
                              clear hrr
                              go_wp2
                              go_roundw
                              case rel => exact ⟨k + 1, HLT.out, by go_num, H12⟩
                              case measure => have := HLT.out; simp [intOf]; omega
                  | some b =>
                    have HD := Lib.hid hd
                    clear hd
                    go_wp2_with (fail)
                    go_region_held3 (fun u => u.cell? (ad.add (k * 4)) = some (.int .u32 p.t) ∧ u.cell? ⟨(ad.add (k * 4)).block, (ad.add (k * 4)).off + 1, none⟩ = some (.int .u64 p.b))
                      (first | exact ks | exact ks2)
                      (first
                        | (go_at_call 13
                           with_reducible refine HG1.out.mono ?_
                           rintro e w9 hgot
                           obtain ⟨g9, c9, rfl, hrow, hb⟩ := hgot.some_ HD.out HOKK.out.1
                           have hbb := And.intro hb hrow
                           have ks2 : w9.cell? (ad.add (k * 4)) = some (.int .u32 p.t) ∧ w9.cell? ⟨(ad.add (k * 4)).block, (ad.add (k * 4)).off + 1, none⟩ = some (.int .u64 p.b) := ⟨below_keep hbb.1 ks.1, below_keep hbb.1 ks.2⟩
                           have HBB := Lib.hid hbb
                           clear hgot hbb))
                    all_goals
                      have HN9 := Lib.hid HBB.out.2
                      have HB9 : Hid (Below wk.heap.size wk w9) := (Below.refl _ wk).drew.trans HBB.out.1
                      have HLN := Lib.hid (lent_any w9 (some ⟨g9, 0, none⟩) sh.bl c9 b HN9.out.2.2.2.2 (by have := HOKK.out; omega))
                      clear ks ks2 HBB HG1
                      go_wp2_with (fail)
                      refine HLN.out.mono ?_
                      rintro e w10 ⟨Aw, cw, rfl, hw10, hb10⟩
                      have H10 : Hid (BRow w10 wk.drew.heap.size (some ⟨g9, 0, none⟩) c9 b ∧ BRow w10 w9.heap.size Aw cw b ∧ Below wk.heap.size wk w10 ∧ g9 < w9.heap.size ∧ w9.heap.size ≤ w10.heap.size) := ⟨HN9.out.1.below hb10 (Nat.le_refl _), hw10, HB9.out.trans (hb10.mono HB9.out.size), HN9.out.2.2.2.1, hb10.size⟩
                      clear hw10 hb10 HLN
                      go_wp2_with (fail)
                      go_loopw [15] (fun i wr => ∃ (j : Nat) (xs : List Int), j ≤ sh.bl ∧ i = .int .i64 j ∧ Hid (xs.length = sh.bl ∧ BRow wr wk.drew.heap.size (some ⟨g9, 0, none⟩) c9 xs ∧ Kp (fun x => x = g9) w10 wr)) (fun i _ => sh.bl - (intOf i).toNat)
                      case atStart => exact ⟨0, b, Nat.zero_le _, rfl, HN9.out.2.1, H10.out.1, Kp.refl _ _⟩
                      case round =>
                        obtain ⟨j, xs, hj, rfl, hrr⟩ := hrel
                        by_cases hlt2 : j < sh.bl
                        · obtain ⟨g', hg', hc⟩ := hrr.out.2.1.at_ (k := j) (by rw [hrr.out.1]; exact hlt2)
                          obtain rfl : g9 = g' := by injection hg' with e; injection e
                          have hfz := hrr.out.2.1.frozen j
                          have HN : Hid (∀ y, (xs.set j y).length = sh.bl ∧ BRow (wr.setCell ⟨g9, j, none⟩ (.int .u8 y)) wk.drew.heap.size (some ⟨g9, 0, none⟩) c9 (xs.set j y) ∧ Kp (fun x => x = g9) w10 (wr.setCell ⟨g9, j, none⟩ (.int .u8 y))) :=
                            fun y => ⟨by rw [List.length_set]; exact hrr.out.1, hrr.out.2.1.set_ j y, hrr.out.2.2.setCell (p := ⟨g9, j, none⟩) (.inl rfl) _⟩
                          have HLT2 := Lib.hid hlt2
                          generalize xs.getD j 0 = x at *
                          clear hrr hg'
                          go_wp2
                          go_roundw
                          case rel => exact ⟨j + 1, _, HLT2.out, by go_num, HN.out _⟩
                          case measure => have := HLT2.out; simp [intOf]; omega
                        · have hjb : (j : Int) = sh.bl := by omega
                          have H12 : Hid (OwS X5 w wr F sh n2 m2 (some ad) L) := hr.out.turn H10.out.2.2.1 (g := g9) ⟨HN9.out.2.2.1, Nat.lt_of_lt_of_le H10.out.2.2.2.1 H10.out.2.2.2.2⟩ hrr.out.2.2
                          have HW12 : Hid (BRow wr w9.heap.size Aw cw b) := H10.out.2.1.kp hrr.out.2.2 (fun x he e => by have := (H10.out.2.1.lt he).1; have := H10.out.2.2.2.1; omega)
                          have ks := H12.out.two HLT.out HEQ.out
                          have HG1 := Lib.hid (H12.out.drew.get HM2.out.1 p.t p.b HPV.out.n)
                          clear hrr
                          go_wp2_with (fail)
                          go_region_held3 (fun u => u.cell? (ad.add (k * 4)) = some (.int .u32 p.t) ∧ u.cell? ⟨(ad.add (k * 4)).block, (ad.add (k * 4)).off + 1, none⟩ = some (.int .u64 p.b))
                            (first | exact ks | exact ks2)
                            (first
                              | (go_at_call 13
                                 with_reducible refine HG1.out.mono ?_
                                 rintro e w13 hgot
                                 obtain ⟨g3, c3, rfl, hrow, hb⟩ := hgot.some_ HD.out HOKK.out.1
                                 have hbb := And.intro hb hrow
                                 have ks2 : w13.cell? (ad.add (k * 4)) = some (.int .u32 p.t) ∧ w13.cell? ⟨(ad.add (k * 4)).block, (ad.add (k * 4)).off + 1, none⟩ = some (.int .u64 p.b) := ⟨below_keep hbb.1 ks.1, below_keep hbb.1 ks.2⟩
                                 have HBB := Lib.hid hbb
                                 clear hgot hbb))
                          all_goals
                            have HB13 : Hid (Below wr.heap.size wr w13) := (Below.refl _ wr).drew.trans HBB.out.1
                            have HR3 := Lib.hid HBB.out.2.2.2.2.2
                            have hrw := (HW12.out.below HB13.out (Nat.le_refl _)).reads
                            rw [HN9.out.2.1] at hrw
                            have HPB : Hid (∀ x ∈ b, ByteOk x) := by
                              obtain ⟨kb, hkb, _, hkd⟩ := said_any HM2.out.2.choose_spec HD.out
                              rw [← hkd]
                              exact (HVL.out _ (getD_mem (d := pv0) hkb)).by_
                            have hsm := same_any w13 (some ⟨g3, 0, none⟩) sh.bl c3 b Aw sh.bl cw b HR3.out hrw HPB.out HPB.out
                            rw [decide_eq_true rfl] at hsm
                            have HSM := Lib.hid hsm
                            have H13 := Lib.hid (H12.out.below HB13.out)
                            clear ks ks2 HBB HG1 hsm hrw
                            go_wp2_with (fail)
                            refine HSM.out.mono ?_
                            rintro e w14 ⟨rfl, rfl⟩
                            go_wp2_with (fail)
                            go_loopw [18, 19] (fun s i wr => ∃ j : Nat, j ≤ L.length ∧ s = .bool (saidB L (p.t, p.b) b j) ∧ i = .int .i64 j ∧ Hid (Below w13.heap.size w13 wr)) (fun _ i _ => L.length - (intOf i).toNat)
                            case atStart => exact ⟨0, Nat.zero_le _, by simp [saidB], rfl, Below.refl _ _⟩
                            case round =>
                              obtain ⟨j, hj, rfl, rfl, hrr⟩ := hrel
                              by_cases hlt2 : j < L.length
                              · have HLT2 := Lib.hid hlt2
                                have HRR : Hid (∀ n, Below w13.heap.size w13 (wr.drewN n)) := fun n => below_drewN hrr.out n
                                have HST := Lib.hid (saidB_step L (p.t, p.b) b j hlt2)
                                have kp := (H13.out.below hrr.out).two HLT.out HEQ.out
                                have kp0 := kp.1
                                have kp1 := kp.2
                                obtain ⟨ad', Aj, cj, e1, hat⟩ := (H13.out.below hrr.out).pa j hlt2
                                obtain rfl := Option.some.inj e1
                                have HVQ := Lib.hid (HVL.out _ (getD_mem (d := pv0) hlt2))
                                have HR3' := Lib.hid ((HR3.out.below hrr.out).more hrr.out.size)
                                obtain ⟨q, hq⟩ : ∃ q, L.getD j pv0 = q := ⟨_, rfl⟩
                                rw [hq] at hat HST HVQ
                                have r0 := hat.c0
                                have r1 := hat.c1
                                have r3 := hat.c3
                                have HSM2 : Hid (∀ n, Calls Tryd.prog 14 #[.slice (some ⟨g3, 0, none⟩) sh.bl c3, .slice Aj q.da.length cj] (wr.drewN n) (fun e w' => e = .returned (.bool (decide (b = q.da))) ∧ w' = wr.drewN n)) := fun n =>
                                  (same_any (wr.drewN n) (some ⟨g3, 0, none⟩) sh.bl c3 b Aj q.da.length cj q.da (HR3'.out.drewN n) (hat.rd.drewN n) HPB.out HVQ.out.by_).mono (fun e w' h => ⟨h.1, h.2.symm⟩)
                                clear hrr kp hat hq e1
                                cases hsj : saidB L (p.t, p.b) b j with
                                | true =>
                                  rw [hsj] at HST
                                  have HS1 : Hid (saidB L (p.t, p.b) b (j + 1) = true) := by rw [HST.out]; rfl
                                  clear hsj
                                  go_wp2_with (fail)
                                  go_quiet (fail)
                                  go_wp2
                                  go_roundw
                                  case rel => exact ⟨j + 1, HLT2.out, by rw [HS1.out], by go_num, HRR.out _⟩
                                  case measure => have := HLT2.out; simp [intOf]; omega
                                | false =>
                                  rw [hsj] at HST
                                  clear hsj
                                  by_cases ht : q.t = p.t
                                  · by_cases hb : q.b = p.b
                                    · have HS1 : Hid (saidB L (p.t, p.b) b (j + 1) = decide (b = q.da)) := by
                                        rw [HST.out, decide_eq_true (by unfold Pv.n; rw [ht, hb])]
                                        unfold Hid
                                        by_cases e : b = q.da
                                        · rw [decide_eq_true e, decide_eq_true e.symm]; rfl
                                        · rw [decide_eq_false e, decide_eq_false (fun h => e h.symm)]; rfl
                                      go_wp2_with (fail)
                                      go_quiet (first | (go_at_call 14; exact Calls.quiet_of_same (HSM2.out _)))
                                      go_wp2
                                      go_roundw
                                      case rel => exact ⟨j + 1, HLT2.out, by rw [HS1.out], by go_num, HRR.out _⟩
                                      case measure => have := HLT2.out; simp [intOf]; omega
                                    · have HS1 : Hid (saidB L (p.t, p.b) b (j + 1) = false) := by
                                        rw [HST.out, decide_eq_false (fun e => hb (congrArg Prod.snd e))]
                                        rfl
                                      go_wp2_with (fail)
                                      go_quiet (fail)
                                      go_wp2
                                      go_roundw
                                      case rel => exact ⟨j + 1, HLT2.out, by rw [HS1.out], by go_num, HRR.out _⟩
                                      case measure => have := HLT2.out; simp [intOf]; omega
                                  · have HS1 : Hid (saidB L (p.t, p.b) b (j + 1) = false) := by
                                      rw [HST.out, decide_eq_false (fun e => ht (congrArg Prod.fst e))]
                                      rfl
                                    have hdt : decide (q.t = p.t) = false := decide_eq_false ht
                                    have hdt2 : (q.t == p.t) = false := by simpa using ht
                                    clear HSM2 HST
                                    generalize q.t = qt at *
                                    generalize p.t = pt at *
                                    go_wp2_with (fail)
                                    go_quiet (fail)
                                    go_wp2
                                    go_roundw
                                    case rel => exact ⟨j + 1, HLT2.out, by rw [HS1.out], by go_num, HRR.out _⟩
                                    case measure => have := HLT2.out; simp [intOf]; omega
                              · obtain rfl : j = L.length := by omega
                                have hsa : saidB L (p.t, p.b) b L.length = true := saidB_all (said_any HM2.out.2.choose_spec HD.out)
                                have H14 := Lib.hid (H13.out.below hrr.out)
                                rw [hsa]
                                clear hrr hsa
                                go_wp2
                                go_roundw
                                case rel => exact ⟨k + 1, HLT.out, by go_num, H14⟩
                                case measure => have := HLT.out; simp [intOf]; omega
                · have HE : Hid (Below w.heap.size w wr) := hr.out.low
                  have hjl : (k : Int) = L.length := by omega
                  clear hr
                  go_wp2
                  go_ret
                  exact ⟨rfl, HE.out⟩
end Go.Proofs.YtgjcofoicnnnhaaDoor
