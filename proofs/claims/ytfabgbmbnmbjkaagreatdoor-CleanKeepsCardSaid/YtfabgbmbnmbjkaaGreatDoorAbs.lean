/- Joined texts: Cb Cc. -/
import Derived.Test.YtfabgbmbnmbjkaaGreatDoorAbr
import Derived.Test.YtfabgbmbnmbjkaaGreatDoorAbm
import Derived.Test.YtfabgbmbnmbjkaaGreatDoorAbj
import Derived.Test.YtfabgbmbnmbjkaaGreatDoorAai
import Derived.Test.YtfabgbmbnmbjkaaGreatDoorAbh
import Derived.Test.YtfabgbmbnmbjkaaGreatDoorAax
/- Pruned. -/
namespace Go.Proofs.YtfabgbmbnmbjkaaGreatDoor
open Go.RowKit
set_option maxRecDepth 20000
def fls (l : List Nat) : List Value := l.map (Value.float .f64)
theorem fls_get (l : List Nat) (k : Nat) (h : k < l.length) : (fls l)[k]? = some (.float .f64 (l.getD k 0)) := by
 unfold fls
 rw [List.getElem?_map, List.getD_eq_getElem?_getD, List.getElem?_eq_getElem h]
 rfl
theorem fls_set (l : List Nat) (i : Nat) (x : Nat) : (fls l).toArray.setIfInBounds i (.float .f64 x) = (fls (l.set i x)).toArray := by
 simp only [List.setIfInBounds_toArray, fls, List.map_set]
theorem fl_info : (Tryz.prog.info? 137).map (fun i => (i.zero, i.size, i.bytes)) = some (some (.float .f64 0), 1, 8) := by kernel_rfl
theorem run_make_fl (n : Nat) (h : n <= 65536) (w : World) : (Instr.makeSlice 119 (.int .i64 (n : Int)) (.int .i64 (n : Int))).run Tryz.prog w = .ok (.slice (some ⟨w.heap.size, 0, none⟩) n n) (w.alloc (.cells (fls (List.replicate n 0)).toArray 137)) := by
 obtain ⟨i, hi, hz, hs, hb⟩ := info_parts fl_info
 have hr := run_make (P := Tryz.prog) w 119 137 i (.float .f64 0) Tryz.underlying119 hi hz .i64 .i64 n n (by omega) (by omega) (by rw [hb]; omega) (by omega)
 simp only [Int.toNat_natCast] at hr
 rw [hr, hs, Nat.mul_one]
 congr 3
 refine Array.ext (by simp [madeCells, fls]) (fun j h1 h2 => ?_)
 have e : (Value.float FloatKind.f64 0).cells = #[Value.float FloatKind.f64 0] := rfl
 simp [madeCells, fls, e, Nat.mod_one]
theorem Blk.flAt {w : World} {g : Nat} {l : List Nat} (h : Blk w g 137 (fls l).toArray) : Sco.FlAt w (some ⟨g, 0, none⟩) l := fun k hk => ⟨_, rfl, h.lt, by
 rw [add0, h.cell, List.getElem?_toArray]
 exact fls_get l k hk⟩
theorem run_store_fl (P : Program) (w : World) (a : Addr) (m : Mode) (r : Nat) : (store a (.float .f64 r) m).run P w = stored P w a (.float .f64 r) m := run_store P w a _ m rfl
structure CwS (w wr : World) (bx g : Nat) (sh : Sh) (l : List Nat) : Prop where
  low : Below w.heap.size w wr
  box : Blk wr bx 23 #[.int .i64 sh.z, .int .i64 sh.zb, .int .i64 sh.bl, .int .i64 sh.rs]
  row : Blk wr g 137 (fls l).toArray
  len : l.length = sh.z
  gn : w.heap.size <= g
theorem CwS.below {w wr wn : World} {bx g : Nat} {sh : Sh} {l : List Nat} (h : CwS w wr bx g sh l) (hb : Below wr.heap.size wr wn) : CwS w wn bx g sh l :=
 ⟨h.low.trans (hb.mono h.low.size), h.box.below hb h.box.lt, h.row.below hb h.row.lt, h.len, h.gn⟩
theorem CwS.set {w wr : World} {bx g : Nat} {sh : Sh} {l : List Nat} (h : CwS w wr bx g sh l) (k r : Nat) : CwS w (wr.setCell ⟨g, k, none⟩ (.float .f64 r)) bx g sh (l.set k r) := by
 have hk : Kp (fun b => b = g) wr (wr.setCell ⟨g, k, none⟩ (.float .f64 r)) := Kp.setCell (S := fun b => b = g) (Kp.refl _ wr) (p := ⟨g, k, none⟩) (.inl rfl) _
 refine ⟨Kp.below h.low hk h.low.size (fun b hb e => by have := h.gn; omega), hk.blk h.box (fun e => h.box.ne_ h.row (by decide) e), ?_, by simp [h.len], h.gn⟩
 have := h.row.set_ k (.float .f64 r)
 rw [fls_set] at this
 exact this
def FcAt (wr : World) (g : Nat) (A : Option Addr) (L : List Int) : Prop := ∀ j, j < L.length -> ∃ ad, A = some ad ∧ ad.block ≠ g ∧ wr.cell? (ad.add j) = some (.int .i64 (L.getD j 0))
theorem FcAt.kp {wr wn : World} {g : Nat} {A : Option Addr} {L : List Int} (h : FcAt wr g A L) (hk : Kp (fun b => b = g) wr wn) : FcAt wn g A L := fun j hj => by
 obtain ⟨ad, e, h1, h2⟩ := h j hj
 exact ⟨ad, e, h1, hk.cell h2 (by rw [block_of_add]; exact h1)⟩
def CwL (sh : Sh) (m : StM) (j : Nat) (l : List Nat) : Prop := (∀ x ∈ (fullM m).take j, liveM m x ≠ 0) ∧ ∀ i : Nat, i < sh.z -> if (i : Int) ∈ (fullM m).take j ∧ fewM sh m i = true then Sco.Sm (l.getD i 0) (worthM sh m i) else Sco.isNan (l.getD i 0) = true
theorem CwL.all {sh : Sh} {m : StM} {l : List Nat} (h : CwL sh m (fullM m).length l) : emptyM m = none ∧ ∀ i : Nat, i < sh.z -> Sco.Sm (l.getD i 0) (worthAt sh m i) := by
 obtain ⟨h1, h2⟩ := h
 rw [List.take_length] at h1 h2
 refine ⟨List.find?_eq_none.2 fun x hx => by simpa using h1 x hx, fun i hi => ?_⟩
 have := h2 i hi
 unfold worthAt
 by_cases hc : (i : Int) ∈ fullM m ∧ fewM sh m i = true
 · rw [if_pos hc] at this
   rw [if_pos ⟨(fullM_mem m i).1 hc.1, hc.2⟩]
   exact this
 · rw [if_neg hc] at this
   rw [if_neg (fun e => hc ⟨(fullM_mem m i).2 e.1, e.2⟩)]
   exact .inr ⟨this, nanW_nan⟩
theorem CwL.found {sh : Sh} {m : StM} {j : Nat} {l : List Nat} (h : CwL sh m j l) (hj : j < (fullM m).length) (h0 : liveM m ((fullM m).getD j 0) = 0) : emptyM m = some ((fullM m).getD j 0) := by
 have e : (fullM m).getD j 0 = (fullM m)[j] := by rw [List.getD_eq_getElem?_getD, List.getElem?_eq_getElem hj]; rfl
 rw [e] at h0 ⊢
 unfold emptyM
 rw [List.find?_eq_some_iff_getElem]
 refine ⟨by simpa using h0, j, hj, rfl, fun k hk => ?_⟩
 have := h.1 (fullM m)[k] (List.mem_take_iff_getElem.2 ⟨k, by omega, rfl⟩)
 simpa using this
theorem CwL.skip {sh : Sh} {m : StM} {j : Nat} {l : List Nat} (h : CwL sh m j l) (hj : j < (fullM m).length) (h0 : liveM m ((fullM m).getD j 0) ≠ 0) (hf : fewM sh m ((fullM m).getD j 0) = false) : CwL sh m (j + 1) l := by
 have e : (fullM m).getD j 0 = (fullM m)[j] := by rw [List.getD_eq_getElem?_getD, List.getElem?_eq_getElem hj]; rfl
 rw [e] at h0 hf
 have ht : (fullM m).take (j + 1) = (fullM m).take j ++ [(fullM m)[j]] := List.take_succ_eq_append_getElem hj
 refine ⟨fun x hx => ?_, fun i hi => ?_⟩
 · rw [ht] at hx
   rcases List.mem_append.1 hx with hx | hx
   · exact h.1 x hx
   · rw [List.mem_singleton.1 hx]; exact h0
 · have := h.2 i hi
   by_cases hc : (i : Int) ∈ (fullM m).take j ∧ fewM sh m i = true
   · rw [if_pos hc] at this
     rw [if_pos ⟨by rw [ht]; exact List.mem_append_left _ hc.1, hc.2⟩]
     exact this
   · rw [if_neg hc] at this
     rw [if_neg (fun e2 => ?_)]
     · exact this
     · rw [ht] at e2
       rcases List.mem_append.1 e2.1 with hx | hx
       · exact hc ⟨hx, e2.2⟩
       · rw [List.mem_singleton.1 hx, hf] at e2
         cases e2.2
theorem CwL.write {sh : Sh} {m : StM} {j zn r : Nat} {l : List Nat} (h : CwL sh m j l) (hj : j < (fullM m).length) (hz : (fullM m).getD j 0 = zn) (hl : zn < l.length) (h0 : liveM m zn ≠ 0) (hf : fewM sh m zn = true) (hw : Sco.Sm r (worthM sh m zn)) : CwL sh m (j + 1) (l.set zn r) := by
 have e : (fullM m).getD j 0 = (fullM m)[j] := by rw [List.getD_eq_getElem?_getD, List.getElem?_eq_getElem hj]; rfl
 have ht : (fullM m).take (j + 1) = (fullM m).take j ++ [(zn : Int)] := by rw [List.take_succ_eq_append_getElem hj, <- e, hz]
 refine ⟨fun x hx => ?_, fun i hi => ?_⟩
 · rw [ht] at hx
   rcases List.mem_append.1 hx with hx | hx
   · exact h.1 x hx
   · rw [List.mem_singleton.1 hx]; exact h0
 · by_cases hi2 : i = zn
   · subst hi2
     have hs : (l.set i r).getD i 0 = r := by rw [List.getD_eq_getElem?_getD, List.getElem?_set, if_pos rfl, if_pos hl]; rfl
     rw [hs]
     rw [if_pos ⟨by rw [ht]; simp, hf⟩]
     exact hw
   · have hs : (l.set zn r).getD i 0 = l.getD i 0 := by rw [List.getD_eq_getElem?_getD, List.getD_eq_getElem?_getD, List.getElem?_set, if_neg (fun e => hi2 e.symm)]
     rw [hs]
     have := h.2 i hi
     by_cases hc : (i : Int) ∈ (fullM m).take j ∧ fewM sh m i = true
     · rw [if_pos hc] at this
       rw [if_pos ⟨by rw [ht]; exact List.mem_append_left _ hc.1, hc.2⟩]
       exact this
     · rw [if_neg hc] at this
       rw [if_neg (fun e2 => ?_)]
       · exact this
       · rw [ht] at e2
         rcases List.mem_append.1 e2.1 with hx | hx
         · exact hc ⟨hx, e2.2⟩
         · have := List.mem_singleton.1 hx
           omega
set_option maxHeartbeats 4000000 in
theorem cworth_any (X : Nat -> Prop) (w : World) (F : StF) (sh : Sh) (n : Nat) (m : StM) (hg : Good sh m) (h : StoreIs X w F sh n m) :
    Calls Tryz.prog 59 #[.pointer (some ⟨F.s, 0, none⟩)] w (fun e w' => Below w.heap.size w w' ∧ ((∃ z, emptyM m = some z ∧ e = .returned (.tuple #[.slice none 0 0, .int .i64 z])) ∨
      (emptyM m = none ∧ ∃ g l, e = .returned (.tuple #[.slice (some ⟨g, 0, none⟩) sh.z sh.z, .int .i64 (-1)]) ∧ l.length = sh.z ∧ Sco.FlAt w' (some ⟨g, 0, none⟩) l ∧ ∀ i : Nat, i < sh.z -> Sco.Sm (l.getD i 0) (worthAt sh m i)))) := by
 have hok := h.dev.ok
 have hfc := hok.facts
 have hmk := run_make_fl sh.z (by omega)
 have H := Lib.hid h
 have HG := Lib.hid hg
 have HSH := Lib.hid (shape_any _ w F.d sh m.P h.dev)
 unfold shV at HSH
 have HDV := Lib.hid (dev_any X w F sh n m h)
 have hqq : ((sh.zb : Int)).tdiv 2 = ((sh.zb / 2 : Nat) : Int) := by rw [Int.tdiv_eq_ediv_of_nonneg (by omega)]; omega
 have hsf := fun u a m r => run_store_fl Tryz.prog u a m r
 clear h hg hok
 go_enter Tryz.func59, Tryz.ntmps59
 go_wp2_with (fail)
 refine HDV.out.mono ?_
 rintro e u ⟨rfl, rfl⟩
 go_wp2_with (fail)
 refine HSH.out.mono ?_
 rintro e w2 ⟨rfl, hb2⟩
 have HB2 := Lib.hid hb2
 clear hb2
 go_wp2_with (fail)
 have hS0 : Hid (CwS w ((w2.alloc (.cells #[.int .i64 sh.z, .int .i64 sh.zb, .int .i64 sh.bl, .int .i64 sh.rs] 23)).alloc (.cells (fls (List.replicate sh.z 0)).toArray 137)) w2.heap.size (w2.heap.size + 1) sh (List.replicate sh.z 0)) := by
  have k0 := (Blk.new w2 23 #[.int .i64 sh.z, .int .i64 sh.zb, .int .i64 sh.bl, .int .i64 sh.rs]).alloc (.cells (fls (List.replicate sh.z 0)).toArray 137)
  have k1 := Blk.new (w2.alloc (.cells #[.int .i64 sh.z, .int .i64 sh.zb, .int .i64 sh.bl, .int .i64 sh.rs] 23)) 137 (fls (List.replicate sh.z 0)).toArray
  rw [World.size_alloc] at k1
  have hsz := HB2.out.size
  exact ⟨(HB2.out.alloc hsz _).alloc (by simp; omega) _, k0, k1, by simp, by omega⟩
 generalize (w2.alloc (.cells #[.int .i64 sh.z, .int .i64 sh.zb, .int .i64 sh.bl, .int .i64 sh.rs] 23)).alloc (.cells (fls (List.replicate sh.z 0)).toArray 137) = w3 at *
 generalize w2.heap.size + 1 = g at *
 generalize w2.heap.size = bx at *
 clear hmk HB2 HDV HSH
 go_loopw [18] (fun i wr => ∃ (k : Nat) (l : List Nat), k <= sh.z ∧ i = .int .i64 k ∧ Hid (CwS w wr bx g sh l ∧ ∀ j, j < k -> Sco.isNan (l.getD j 0) = true)) (fun i _ => sh.z - (intOf i).toNat)
 case atStart => exact ⟨0, _, Nat.zero_le _, rfl, ⟨hS0.out, fun j hj => by omega⟩⟩
 case round =>
  clear hS0
  obtain ⟨k, l, hk, rfl, hr⟩ := hrel
  by_cases hlt : k < sh.z
  · have HLT := Lib.hid hlt
    have c0 : wr.cell? ⟨g, k, none⟩ = some (.float .f64 (l.getD k 0)) := by rw [hr.out.1.row.cell, List.getElem?_toArray]; exact fls_get l k (by rw [hr.out.1.len]; exact hlt)
    have f0 := hr.out.1.row.frozen k
    go_wp2_with (fail)
    refine (Sco.ratio_any 0 0 wr).mono ?_
    rintro e w5 ⟨r, x, hn, rfl, rfl⟩
    have HN : Hid (CwS w ((wr.drewN x).setCell ⟨g, k, none⟩ (.float .f64 r)) bx g sh (l.set k r) ∧ ∀ j, j < k + 1 -> Sco.isNan ((l.set k r).getD j 0) = true) := by
     refine ⟨(hr.out.1.below (below_drewN (Below.refl _ _) x)).set k r, fun j hj => ?_⟩
     rw [List.getD_eq_getElem?_getD, List.getElem?_set]
     by_cases e : k = j
     · rw [if_pos e, if_pos (by have := hr.out.1.len; omega)]
       exact Sco.ratio_nan hn
     · rw [if_neg e, <- List.getD_eq_getElem?_getD]
       exact hr.out.2 j (by omega)
    have c5 : (wr.drewN x).cell? ⟨g, k, none⟩ = some (.float .f64 (l.getD k 0)) := c0
    have f5 : (wr.drewN x).frozen? ⟨g, k, none⟩ = false := f0
    clear hr hn c0 f0
    generalize wr.drewN x = w5 at *
    go_wp2_with (fail)
    go_roundw
    case rel => exact ⟨k + 1, _, HLT.out, by go_num, HN⟩
    case measure => have := HLT.out; simp [intOf]; omega
  · obtain rfl : k = sh.z := by omega
    have HC : Hid (CwS w wr bx g sh l ∧ CwL sh m 0 l) := ⟨hr.out.1, fun x hx => by simp at hx, fun i hi => by rw [if_neg (fun e => by simp at e)]; exact hr.out.2 i hi⟩
    have HST0 := Lib.hid (H.out.below hr.out.1.low)
    clear hr
    obtain ⟨w4, rfl⟩ : ∃ w4, w4 = wr := ⟨_, rfl⟩
    have HSG := Lib.hid (sseg_any _ w4 F sh n m HST0.out)
    have HLI := Lib.hid (list_any F.g F.gb m.G sh.rs _ 3 w4 HST0.out.seg.2 HST0.out.seg.1)
    rw [show listTo m.G 3 m.G.length = fullM m from rfl] at HLI
    go_wp2_with (fail)
    refine HSG.out.mono ?_
    rintro e u ⟨rfl, rfl⟩
    go_wp2_with (fail)
    refine HLI.out.mono ?_
    rintro e w5 ⟨A5, c5, rfl, hrd, hb5, had⟩
    have H0 : Hid (CwS w w5 bx g sh l ∧ CwL sh m 0 l ∧ FcAt w5 g A5 (fullM m)) := by
     refine ⟨HC.out.1.below hb5, HC.out.2, fun j hj => ?_⟩
     obtain ⟨ad, e, hlt5, hc⟩ := hrd.2 (by omega)
     refine ⟨ad, e, fun e2 => ?_, hc j _ ?_⟩
     · have h1 := had ad e
       have h2 := HC.out.1.row.lt
       omega
     · rw [List.getD_eq_getElem?_getD, List.getElem?_eq_getElem hj]
       unfold nums
       rw [List.getElem?_map, List.getElem?_eq_getElem hj]
       rfl
    clear hrd hb5 had HSG HLI HC HST0
    have hfl : (fullM m).length <= m.G.length := listTo_le _ _ _
    have hgl := HG.out.gl
    go_wp2_with (fail)
    go_loopw [30] (fun i wr => ∃ (j : Nat) (l : List Nat), j <= (fullM m).length ∧ i = .int .i64 j ∧ Hid (CwS w wr bx g sh l ∧ CwL sh m j l ∧ FcAt wr g A5 (fullM m))) (fun i _ => (fullM m).length - (intOf i).toNat)
    case atStart => exact ⟨0, l, Nat.zero_le _, rfl, H0⟩
    case round =>
     clear H0
     obtain ⟨j, l, hj, rfl, hr⟩ := hrel
     by_cases hlt : j < (fullM m).length
     · have HLT := Lib.hid hlt
       obtain ⟨ad, rfl, hne, hc0⟩ := hr.out.2.2 j hlt
       have hzz := (fullM_mem m _).1 (getD_mem (d := (0 : Int)) hlt)
       have hzi := stateAt_in (z := (fullM m).getD j 0) (G := m.G) (by rw [hzz]; decide)
       obtain ⟨zn, hzn⟩ := Int.eq_ofNat_of_zero_le hzi.1
       have HZN := Lib.hid hzn
       rw [hzn] at hc0 hzi
       have hz9 : zn < sh.z := by omega
       have HST := Lib.hid (H.out.below hr.out.1.low)
       have HMP := Lib.hid (map_any _ wr F sh n m HST.out)
       have HIN := Lib.hid (lin_any wr F.f n m.L (zn : Int) HST.out.nn HST.out.lm)
       have hlm : m.L.length <= 1000000 := by have h1 := HST.out.lm.len; have h2 := HST.out.nn; omega
       have hlv : liveM m (zn : Int) <= 1000000 := Nat.le_trans (List.length_filter_le _ _) hlm
       clear hzz hzi hne hzn
       go_wp2_with (fail)
       refine HMP.out.mono ?_
       rintro e u ⟨rfl, rfl⟩
       go_wp2_with (fail)
       refine HIN.out.mono ?_
       rintro e w6 ⟨A6, c6, S6, rfl, ho6, hp6, hs6, hb6⟩
       have hl6 : S6.length = liveM m (zn : Int) := hp6.length_eq
       rw [hl6]
       have H6 : Hid (CwS w w6 bx g sh l ∧ CwL sh m j l ∧ FcAt w6 g (some ad) (fullM m)) := ⟨hr.out.1.below hb6, hr.out.2.1, hr.out.2.2.kp (Kp.of_below hb6)⟩
       clear ho6 hp6 hs6 hb6 hl6 hr HMP HIN HST
       by_cases hl0 : liveM m (zn : Int) = 0
       · have HE : Hid (Below w.heap.size w w6 ∧ emptyM m = some (zn : Int)) := ⟨H6.out.1.low, by
          have := H6.out.2.1.found HLT.out (by rw [HZN.out]; exact hl0)
          rw [HZN.out] at this
          exact this⟩
         rw [hl0]
         go_wp2
         go_ret2
         exact ⟨HE.out.1, .inl ⟨_, HE.out.2, rfl⟩⟩
       · have HL0 := Lib.hid hl0
         have hl0' : ¬ ((liveM m (zn : Int) : Nat) : Int) = 0 := by omega
         have HFW : Hid (fewM sh m (zn : Int) = decide (liveM m (zn : Int) <= sh.zb / 2)) := rfl
         have hc1 : w6.cell? ⟨bx, 1, none⟩ = some (.int .i64 sh.zb) := H6.out.1.box.cell 1
         by_cases hfw : liveM m (zn : Int) <= sh.zb / 2
         · have HF1 : Hid (fewM sh m (zn : Int) = true) := HFW.out.trans (decide_eq_true hfw)
           have HST6 := Lib.hid (H.out.below H6.out.1.low)
           have hw1 : IntKind.u64.wrap ((liveM m (zn : Int) : Nat) : Int) = liveM m (zn : Int) := by rw [IntKind.wrap_u64]; omega
           have hw2 : IntKind.u64.wrap ((sh.zb : Nat) : Int) = sh.zb := by rw [IntKind.wrap_u64]; omega
           have hzz : (zn : Int) < sh.z := by omega
           go_wp2_with (fail)
           refine wp_region_relE (n := 16) (fun i v w => match i with | 0 => (v = .slice (some ⟨g, 0, none⟩) sh.z sh.z) | 1 => (v = .int .i64 (zn : Int)) | 2 => (v = .int .i64 (liveM m (zn : Int))) | 3 => (v = .int .u64 (liveM m (zn : Int))) | 4 => (v = .pointer (some ⟨bx, 1, none⟩)) | 5 => (v = .int .i64 sh.zb) | 6 => (v = .int .u64 sh.zb) | 7 => (v = .pointer (some ⟨F.s, 0, none⟩)) | 8 => (v = .int .u64 m.seq) | 9 => (v = .pointer (some ⟨F.s, 0, none⟩)) | 10 => (v = .int .i64 (zn : Int)) | 11 => (v = .int .u64 (lastM m (zn : Int))) | 12 => (v = .int .u64 (IntKind.u64.wrap (m.seq - lastM m (zn : Int)))) | 13 => (v = .int .u64 (ageM m (zn : Int))) | 14 => (∃ r, v = .float .f64 r ∧ Sco.WorthIs (liveM m (zn : Int)) sh.zb (ageM m (zn : Int)) r) | 15 => (v = .pointer (some ⟨g, zn, none⟩)) | _ => False) (by kernel_rfl) (by kernel_rfl) (by decide) (by kernel_rfl) ?st ?op ?fin
           case st =>
            intro i v w w' h hb
            match i, h with
            | 0, h => exact h
            | 1, h => exact h
            | 2, h => exact h
            | 3, h => exact h
            | 4, h => exact h
            | 5, h => exact h
            | 6, h => exact h
            | 7, h => exact h
            | 8, h => exact h
            | 9, h => exact h
            | 10, h => exact h
            | 11, h => exact h
            | 12, h => exact h
            | 13, h => exact h
            | 14, h => exact h
            | 15, h => exact h
            | _ + 16, h => exact h.elim
           case op =>
            refine ⟨?_, ?_, ?_, ?_, ?_, ?_, ?_, ?_, ?_, ?_, ?_, ?_, ?_, ?_, ?_, ?_, trivial⟩
            · intro a w hb hd hn K hK
              exact st_if (wanted_none rfl) (st_move (.inl rfl) (ev ((hn 5 (by kernel_rfl)).trans rfl)) (hK _ _ rfl (Below.refl _ _)))
            · intro a w hb hd hn K hK
              exact st_if (wanted_none rfl) (st_move (.inl rfl) (ev ((hn 8 (by kernel_rfl)).trans rfl)) (hK _ _ rfl (Below.refl _ _)))
            · intro a w hb hd hn K hK
              exact st_if (wanted_none rfl) (st_move (.inl rfl) (ev ((hn 9 (by kernel_rfl)).trans rfl)) (hK _ _ rfl (Below.refl _ _)))
            · intro a w hb hd hn K hK
              obtain ⟨_, e49, rfl⟩ := hd 2 49 (by kernel_rfl) (by kernel_rfl)
              exact st_if (wanted_none rfl) (st_conv rfl (ev e49) (by go_simp; try rfl) (hK _ _ rfl (Below.refl _ _)))
            · intro a w hb hd hn K hK
              exact st_if (wanted_none rfl) (st_field rfl (ev ((hn 4 (by kernel_rfl)).trans rfl)) (by go_simp; try rfl) (hK _ _ rfl (Below.refl _ _)))
            · intro a w hb hd hn K hK
              obtain ⟨_, e51, rfl⟩ := hd 4 51 (by kernel_rfl) (by kernel_rfl)
              have hc := below_keep hb hc1
              exact st_if (wanted_none rfl) (st_load rfl (ev e51) (by go_simp) (hK _ _ rfl (Below.refl _ _)))
            · intro a w hb hd hn K hK
              obtain ⟨_, e52, rfl⟩ := hd 5 52 (by kernel_rfl) (by kernel_rfl)
              exact st_if (wanted_none rfl) (st_conv rfl (ev e52) (by go_simp; try rfl) (hK _ _ rfl (Below.refl _ _)))
            · intro a w hb hd hn K hK
              exact st_if (wanted_none rfl) (st_move (.inl rfl) (ev ((hn 0 (by kernel_rfl)).trans rfl)) (hK _ _ rfl (Below.refl _ _)))
            · intro a w hb hd hn K hK
              obtain ⟨_, e54, rfl⟩ := hd 7 54 (by kernel_rfl) (by kernel_rfl)
              refine st_if (wanted_none rfl) (st_call (vs := #[.pointer (some ⟨F.s, 0, none⟩)]) (R := fun v w' => (v = .int .u64 m.seq) ∧ Below w.heap.size w w') Tryz.func32 (by kernel_rfl) (by kernel_rfl) rfl (by simp only [List.map_toArray, List.map_cons, List.map_nil, (ev e54)]) ?_ (fun v w' h => hK v w' h.1 h.2))
              have hh := HST6.out.below hb
              refine (seq_any _ w F sh _ m hh).mono ?_
              rintro e w' ⟨rfl, rfl⟩
              exact ⟨_, rfl, rfl, Below.refl _ _⟩
            · intro a w hb hd hn K hK
              exact st_if (wanted_none rfl) (st_move (.inl rfl) (ev ((hn 0 (by kernel_rfl)).trans rfl)) (hK _ _ rfl (Below.refl _ _)))
            · intro a w hb hd hn K hK
              exact st_if (wanted_none rfl) (st_move (.inl rfl) (ev ((hn 8 (by kernel_rfl)).trans rfl)) (hK _ _ rfl (Below.refl _ _)))
            · intro a w hb hd hn K hK
              obtain ⟨_, e56, rfl⟩ := hd 9 56 (by kernel_rfl) (by kernel_rfl)
              obtain ⟨_, e57, rfl⟩ := hd 10 57 (by kernel_rfl) (by kernel_rfl)
              refine st_if (wanted_none rfl) (st_call (vs := #[.pointer (some ⟨F.s, 0, none⟩), .int .i64 (zn : Int)]) (R := fun v w' => (v = .int .u64 (lastM m (zn : Int))) ∧ Below w.heap.size w w') Tryz.func30 (by kernel_rfl) (by kernel_rfl) rfl (by simp only [List.map_toArray, List.map_cons, List.map_nil, (ev e56), (ev e57)]) ?_ (fun v w' h => hK v w' h.1 h.2))
              have hh := HST6.out.below hb
              refine (slast_any _ w F sh _ m (zn : Int) ⟨by omega, by omega⟩ hh).mono ?_
              rintro e w' ⟨rfl, rfl⟩
              exact ⟨_, rfl, rfl, Below.refl _ _⟩
            · intro a w hb hd hn K hK
              obtain ⟨_, e55, rfl⟩ := hd 8 55 (by kernel_rfl) (by kernel_rfl)
              obtain ⟨_, e58, rfl⟩ := hd 11 58 (by kernel_rfl) (by kernel_rfl)
              exact st_if (wanted_none rfl) (st_op rfl (ev e55) (ev e58) (by go_simp; try rfl) (hK _ _ rfl (Below.refl _ _)))
            · intro a w hb hd hn K hK
              obtain ⟨_, e59, rfl⟩ := hd 12 59 (by kernel_rfl) (by kernel_rfl)
              exact st_if (wanted_none rfl) (st_op rfl (ev e59) rfl (by go_simp; try rfl) (hK _ _ rfl (Below.refl _ _)))
            · intro a w hb hd hn K hK
              obtain ⟨_, e50, rfl⟩ := hd 3 50 (by kernel_rfl) (by kernel_rfl)
              obtain ⟨_, e53, rfl⟩ := hd 6 53 (by kernel_rfl) (by kernel_rfl)
              obtain ⟨_, e60, rfl⟩ := hd 13 60 (by kernel_rfl) (by kernel_rfl)
              refine st_if (wanted_none rfl) (st_call (vs := #[.int .u64 (liveM m (zn : Int)), .int .u64 sh.zb, .int .u64 (ageM m (zn : Int))]) (R := fun v w' => (∃ r, v = .float .f64 r ∧ Sco.WorthIs (liveM m (zn : Int)) sh.zb (ageM m (zn : Int)) r) ∧ Below w.heap.size w w') Tryz.func118 (by kernel_rfl) (by kernel_rfl) rfl (by simp only [List.map_toArray, List.map_cons, List.map_nil, (ev e50), (ev e53), (ev e60)]) ?_ (fun v w' h => hK v w' h.1 h.2))
              refine (Sco.worth_any (liveM m (zn : Int)) sh.zb (ageM m (zn : Int)) w).mono ?_
              rintro e w' ⟨r, x, hr, rfl, rfl⟩
              exact ⟨_, rfl, ⟨r, rfl, hr⟩, below_drewN (Below.refl _ _) x⟩
            · intro a w hb hd hn K hK
              obtain ⟨_, e47, rfl⟩ := hd 0 47 (by kernel_rfl) (by kernel_rfl)
              obtain ⟨_, e48, rfl⟩ := hd 1 48 (by kernel_rfl) (by kernel_rfl)
              exact st_if (wanted_none rfl) (st_index rfl (ev e47) (ev e48) (by go_simp; try rfl) (hK _ _ rfl (Below.refl _ _)))
           case fin =>
            intro vs a w' ha hb hR
            rw [partA_fold, show pairsOf _ _ _ = [(47, 0), (48, 1), (49, 2), (50, 3), (51, 4), (52, 5), (53, 6), (54, 7), (55, 8), (56, 9), (57, 10), (58, 11), (59, 12), (60, 13), (61, 14), (62, 15)] from by kernel_rfl] at ha
            have q0 : vs 0 = .slice (some ⟨g, 0, none⟩) sh.z sh.z := hR 0 (by decide)
            have q1 : vs 1 = .int .i64 (zn : Int) := hR 1 (by decide)
            have q2 : vs 2 = .int .i64 (liveM m (zn : Int)) := hR 2 (by decide)
            have q3 : vs 3 = .int .u64 (liveM m (zn : Int)) := hR 3 (by decide)
            have q4 : vs 4 = .pointer (some ⟨bx, 1, none⟩) := hR 4 (by decide)
            have q5 : vs 5 = .int .i64 sh.zb := hR 5 (by decide)
            have q6 : vs 6 = .int .u64 sh.zb := hR 6 (by decide)
            have q7 : vs 7 = .pointer (some ⟨F.s, 0, none⟩) := hR 7 (by decide)
            have q8 : vs 8 = .int .u64 m.seq := hR 8 (by decide)
            have q9 : vs 9 = .pointer (some ⟨F.s, 0, none⟩) := hR 9 (by decide)
            have q10 : vs 10 = .int .i64 (zn : Int) := hR 10 (by decide)
            have q11 : vs 11 = .int .u64 (lastM m (zn : Int)) := hR 11 (by decide)
            have q12 : vs 12 = .int .u64 (IntKind.u64.wrap (m.seq - lastM m (zn : Int))) := hR 12 (by decide)
            have q13 : vs 13 = .int .u64 (ageM m (zn : Int)) := hR 13 (by decide)
            obtain ⟨r14, q14, h14⟩ := hR 14 (by decide)
            have q15 : vs 15 = .pointer (some ⟨g, zn, none⟩) := hR 15 (by decide)
            simp only [List.foldl_cons, List.foldl_nil, q0, q1, q2, q3, q4, q5, q6, q7, q8, q9, q10, q11, q12, q13, q14, q15] at ha
            subst ha
            clear hR q0 q1 q2 q3 q4 q5 q6 q7 q8 q9 q10 q11 q12 q13 q14 q15
            have c0 : w'.cell? ⟨g, zn, none⟩ = some (.float .f64 (l.getD zn 0)) := by rw [(H6.out.1.below hb).row.cell, List.getElem?_toArray]; exact fls_get l zn (by rw [H6.out.1.len]; exact hz9)
            have f0 := (H6.out.1.below hb).row.frozen zn
            have HN : Hid (CwS w (w'.setCell ⟨g, zn, none⟩ (.float .f64 r14)) bx g sh (l.set zn r14) ∧ CwL sh m (j + 1) (l.set zn r14) ∧ FcAt (w'.setCell ⟨g, zn, none⟩ (.float .f64 r14)) g (some ad) (fullM m)) :=
             ⟨(H6.out.1.below hb).set zn r14, H6.out.2.1.write HLT.out HZN.out (by rw [H6.out.1.len]; exact hz9) HL0.out HF1.out (h14.same (wv_is _ _ _)), (H6.out.2.2.kp (Kp.of_below hb)).kp (Kp.setCell (S := fun b => b = g) (Kp.refl _ w') (p := ⟨g, zn, none⟩) (.inl rfl) _)⟩
            clear hb h14 H6 HST6 hc1
            go_wp2_with (fail)
            go_roundw
            case rel => exact ⟨j + 1, _, HLT.out, by go_num, HN⟩
            case measure => have := HLT.out; simp [intOf]; omega
         · have HF1 : Hid (fewM sh m (zn : Int) = false) := HFW.out.trans (decide_eq_false hfw)
           have hfw' : ¬ ((liveM m (zn : Int) : Nat) : Int) <= ((sh.zb / 2 : Nat) : Int) := by omega
           go_wp2_with (fail)
           go_roundw
           case rel => exact ⟨j + 1, l, HLT.out, by go_num, H6.out.1, H6.out.2.1.skip HLT.out (by rw [HZN.out]; exact HL0.out) (by rw [HZN.out]; exact HF1.out), H6.out.2.2⟩
           case measure => have := HLT.out; simp [intOf]; omega
     · obtain rfl : j = (fullM m).length := by omega
       have HE := Lib.hid (hr.out.2.1.all)
       have HE2 := Lib.hid (And.intro hr.out.1.low (And.intro hr.out.1.len hr.out.1.row.flAt))
       clear hr
       go_wp2
       go_ret2
       exact ⟨HE2.out.1, .inr ⟨HE.out.1, g, l, rfl, HE2.out.2.1, HE2.out.2.2, HE.out.2⟩⟩
end Go.Proofs.YtfabgbmbnmbjkaaGreatDoor

/- Pruned. -/
namespace Go.Proofs.YtfabgbmbnmbjkaaGreatDoor
open Go.RowKit
set_option maxRecDepth 20000
theorem best_pick {sh : Sh} {m : StM} (he : emptyM m = none) {n : Int} (h : Sco.IsBest (worthsM sh m) sh.z n) : pickM sh m = n := by
 unfold pickM
 rw [he]
 exact (Sco.rbest_is _ _).unique h
set_option maxHeartbeats 1000000 in
theorem cpick_any (X : Nat -> Prop) (w : World) (F : StF) (sh : Sh) (n : Nat) (m : StM) (hg : Good sh m) (h : StoreIs X w F sh n m) :
    Calls Tryz.prog 24 #[.pointer (some ⟨F.s, 0, none⟩)] w (Makes (.int .i64 (pickM sh m)) w) := by
 have HW := Lib.hid (cworth_any X w F sh n m hg h)
 have hok := h.dev.ok
 have hfc := hok.facts
 clear h hg hok
 go_enter Tryz.func24, Tryz.ntmps24
 go_wp2_with (fail)
 refine HW.out.mono ?_
 rintro e w2 ⟨hb, ⟨z, hz, rfl⟩ | ⟨hz, g, l, rfl, hl, hf, hs⟩⟩
 · have hz0 : 0 <= z := by
    have hm := List.mem_of_find?_eq_some hz
    have h3 := (fullM_mem m z).1 hm
    exact (stateAt_in (z := z) (G := m.G) (by rw [h3]; decide)).1
   have HE : Hid (Below w.heap.size w w2 ∧ pickM sh m = z) := ⟨hb, by unfold pickM; rw [hz]⟩
   clear hb hz HW
   go_wp2
   go_ret
   exact ⟨ret_int HE.out.2.symm, HE.out.1⟩
 · have HB := Lib.hid (Sco.best_any (some ⟨g, 0, none⟩) sh.z l w2 (by omega) hf)
   rw [hl] at HB
   have HE : Hid (Below w.heap.size w w2 ∧ pickM sh m = Sco.bestV l) := ⟨hb, best_pick hz (by
    have h1 := Sco.best_is l
    rw [hl] at h1
    exact h1.sm (fun i hi => by rw [worthsM_get _ _ _ hi]; exact hs i hi))⟩
   clear hb hz hf hs HW
   go_wp2_with (fail)
   refine HB.out.mono ?_
   rintro e w3 ⟨rfl, rfl⟩
   go_wp2
   go_ret
   exact ⟨ret_int HE.out.2.symm, HE.out.1⟩
theorem row_cell {w : World} {base e n c : Nat} {A : Option Addr} {xs : List Value} (h : w.ownsRow base e 1 (.slice A n c) n xs) {k : Nat} (hk : k < n) : ∃ g, A = some ⟨g, 0, none⟩ ∧ g < w.heap.size ∧ w.cell? ⟨g, k, none⟩ = xs[k]? := by
 rcases h.2 with ⟨_, h0⟩ | ⟨g, cap, cur, hv, hg, hh, _⟩
 · omega
 · injection hv with h1 h2 h3
   subst h1
   exact ⟨g, rfl, (World.ownsRow.lt h g rfl).2, World.ownsRow.cellAt h k (by omega)⟩
section
variable {w5 wr wn : World} {Z : List Int} {zA vA zA' vA' : Option Addr} {zc vc zc' vc' : Nat} {V : List Nat}
end
end Go.Proofs.YtfabgbmbnmbjkaaGreatDoor

