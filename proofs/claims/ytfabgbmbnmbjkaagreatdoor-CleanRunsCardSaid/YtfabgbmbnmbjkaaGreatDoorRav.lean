/- Joined texts: St5 St6 St7 St8 St9 St10 St11 St12 St13. -/
import Derived.Test.YtfabgbmbnmbjkaaGreatDoorRau
import Derived.WalkMore
import Derived.BigQuiet
import Derived.Test.YtfabgbmbnmbjkaaGreatDoorRap
/- Pruned. -/
namespace Go.Proofs.YtfabgbmbnmbjkaaGreatDoor
open Go.RowKit
set_option maxRecDepth 20000
def batchF (room : Int) : List Pv -> Int -> Nat
  | [], _ => 0
  | p :: r, c => if p.d then 1 + batchF room r c else if c = room then 0 else 1 + batchF room r (c + 1)
def dataN (l : List Pv) : Nat := l.countP (fun p => !p.d)
theorem dataN_succ (l : List Pv) (k : Nat) (h : k < l.length) : dataN (l.take (k + 1)) = dataN (l.take k) + (if (l.getD k pv0).d then 0 else 1) := by
 unfold dataN
 rw [List.take_succ_eq_append_getElem h, List.countP_append, List.getD_eq_getElem?_getD, List.getElem?_eq_getElem h]
 simp
 by_cases hd : l[k].d = true <;> simp [hd]
theorem batchF_drop (room : Int) (l : List Pv) (k : Nat) (c : Int) (h : k < l.length) : batchF room (l.drop k) c = if (l.getD k pv0).d then 1 + batchF room (l.drop (k + 1)) c else if c = room then 0 else 1 + batchF room (l.drop (k + 1)) (c + 1) := by
 rw [List.drop_eq_getElem_cons h, List.getD_eq_getElem?_getD, List.getElem?_eq_getElem h]
 rfl
def batchM (sh : Sh) (m : StM) (l : List Pv) : Nat := batchF (leftM sh m - 1) (l.take (min l.length (roomN sh.bl))) 0
set_option maxHeartbeats 2000000 in
theorem batch_any (X : Nat -> Prop) (w : World) (F : StF) (sh : Sh) (n : Nat) (m : StM) (z : Nat) (hz : m.op = z) (A : Option Addr) (c : Nat) (l : List Pv) (hl : l.length <= 100000) (hp : PutsAt X w A l) (h : StoreIs X w F sh n m) :
    Calls Tryz.prog 80 #[.pointer (some ⟨F.s, 0, none⟩), .slice A l.length c] w (Makes (.int .i64 (batchM sh m l : Nat)) w) := by
 have hsz := h.dev.sz
 have hop := h.opr
 have hzP : z < m.P.length := by omega
 have hfit := (h.dev.fit hzP).fit
 have hok := h.dev.ok
 have hlm : leftM sh m = (sh.zb : Int) - ((m.P.getD z pt0).bs.length : Nat) := by unfold leftM; rw [hz]; rfl
 have HL := Lib.hid (left_any X w F sh n m z hz h)
 rw [<- hlm] at HL
 have hl0 : 0 <= leftM sh m := by omega
 have hl1 : leftM sh m <= 4096 := by have := hok.facts; omega
 have HS := Lib.hid (fun u (hu : StoreIs X u F sh n m) => shape_any _ u F.d sh m.P hu.dev)
 unfold shV at HS
 have HRM := Lib.hid (room_any sh hok)
 have hrm : roomN sh.bl <= 4096 := by have := hok.blk; unfold roomN; omega
 obtain ⟨most, hmo⟩ : ∃ most, min l.length (roomN sh.bl) = most := ⟨_, rfl⟩
 have hmin : min (l.length : Int) (roomN sh.bl : Nat) = most := by rw [<- hmo]; omega
 obtain ⟨room, hro⟩ : ∃ room, leftM sh m - 1 = room := ⟨_, rfl⟩
 have HBM : Hid (batchM sh m l = batchF room (l.take most) 0) := by unfold Hid batchM; rw [hro, hmo]
 have HMO : Hid (most <= l.length) := by unfold Hid; omega
 have hmo2 : most <= 4096 := by omega
 have H := Lib.hid h
 have HP := Lib.hid hp
 have hfl := field_sh2 sh.z sh.zb sh.bl sh.rs
 clear h hp hz hsz hop hzP hfit hok hlm hmo
 generalize roomN sh.bl = rn at *
 generalize leftM sh m = lf at *
 have hcase : (rn < l.length ∧ most = rn) ∨ (l.length <= rn ∧ most = l.length) := by omega
 clear hmin
 rcases hcase with ⟨hle, rfl⟩ | ⟨hle, rfl⟩
 · go_enter Tryz.func80, Tryz.ntmps80
   go_wp2_with (fail)
   go_step3
   go_wp2_with (fail)
   refine HL.out.mono ?_
   rintro e w1 ⟨rfl, hb1⟩
   have h1 := H.out.below hb1
   have c0 := h1.c0
   have HS1 := Lib.hid (HS.out _ h1)
   have HB1 := Lib.hid hb1
   clear h1 hb1 HL HS
   go_wp2_with (fail)
   refine HS1.out.mono ?_
   rintro e w2 ⟨rfl, hb2⟩
   have HB2 := Lib.hid (HB1.out.trans (hb2.mono HB1.out.size))
   clear hb2 c0 HS1
   go_wp2_with (fail)
   refine (HRM.out _).mono ?_
   rintro e w' ⟨rfl, rfl⟩
   have HP2 := Lib.hid (HP.out.below HB2.out)
   clear HRM
   go_wp2_with (fail)
   go_step3
   go_wp2_with (fail)
   go_loop [6, 7, 23] (fun d u i => ∃ k : Nat, k <= most ∧ i = .int .i64 k ∧ u = .int .i64 (most : Nat) ∧ d = .int .i64 (dataN (l.take k) : Nat) ∧ Hid (batchF room (l.take most) 0 = k + batchF room ((l.take most).drop k) (dataN (l.take k) : Nat))) (fun _ _ i => most - (intOf i).toNat)
   case atStart => exact ⟨0, Nat.zero_le _, rfl, rfl, by simp [dataN], by simp [Hid, dataN]⟩
   case round =>
    obtain ⟨k, hk, rfl, rfl, rfl, hf⟩ := hrel
    by_cases hlt : k < most
    · have hkl : k < l.length := by have := HMO.out; omega
      obtain ⟨ad, Ad, cd, rfl, hat⟩ := HP2.out k hkl
      have p2 := hat.c2
      have hgd : (l.take most).getD k pv0 = l.getD k pv0 := by simp [List.getD_eq_getElem?_getD, hlt]
      have hbd := batchF_drop room (l.take most) k (dataN (l.take k) : Nat) (by simp; omega)
      rw [hgd] at hbd
      have hds := dataN_succ l k hkl
      have hdl : dataN (l.take k) <= 4096 := by
       have h1 : dataN (l.take k) <= (l.take k).length := List.countP_le_length
       simp at h1
       omega
      have HBD := Lib.hid hbd
      have HDS := Lib.hid hds
      clear hbd hds hat hgd
      generalize l.getD k pv0 = x at *
      generalize dataN (l.take k) = dn at *
      obtain ⟨xt, xb, xd, xda⟩ := x
      simp only at p2
      cases xd with
      | true =>
        have h1 : dataN (l.take (k + 1)) = dn := by rw [HDS.out]; simp
        have h2 : batchF room (l.take most) 0 = (k + 1 : Nat) + batchF room ((l.take most).drop (k + 1)) dn := by rw [hf.out, HBD.out]; simp; omega
        have H12 := Lib.hid (And.intro h1 h2)
        clear h1 h2 hf HBD HDS
        go_wp2
        go_round
        case rel => exact ⟨k + 1, by omega, by go_num, rfl, by rw [H12.out.1], by rw [H12.out.1]; exact H12.out.2⟩
        case measure => simp [intOf]; omega
      | false =>
        by_cases hr : (dn : Int) = room
        · have h2 : batchF room (l.take most) 0 = k := by rw [hf.out, HBD.out]; simp [hr]
          have H2 := Lib.hid h2
          have hrr : ((dn : Int) == room) = true := by simp [hr]
          clear h2 hf HBD HDS hr
          go_wp2
          go_ret
          exact ⟨by rw [HBM.out, H2.out]; rfl, HB2.out⟩
        · have h1 : dataN (l.take (k + 1)) = dn + 1 := by rw [HDS.out]; simp
          have h2 : batchF room (l.take most) 0 = (k + 1 : Nat) + batchF room ((l.take most).drop (k + 1)) ((dn + 1 : Nat) : Int) := by rw [hf.out, HBD.out]; simp [hr]; omega
          have H12 := Lib.hid (And.intro h1 h2)
          have hrr : ((dn : Int) == room) = false := by simp [hr]
          clear h1 h2 hf HBD HDS hr
          go_wp2
          go_round
          case rel => exact ⟨k + 1, by omega, by go_num, rfl, by rw [H12.out.1]; go_num, by rw [H12.out.1]; exact H12.out.2⟩
          case measure => simp [intOf]; omega
    · have hk1 : k = most := by omega
      have h2 : batchF room (l.take most) 0 = most := by
       rw [hf.out, hk1, List.drop_eq_nil_of_le (by rw [List.length_take]; omega)]
       rfl
      have H2 := Lib.hid h2
      clear h2 hf
      subst hk1
      go_wp2
      go_ret
      exact ⟨by rw [HBM.out, H2.out]; rfl, HB2.out⟩
 · go_enter Tryz.func80, Tryz.ntmps80
   go_wp2_with (fail)
   go_step3
   go_wp2_with (fail)
   refine HL.out.mono ?_
   rintro e w1 ⟨rfl, hb1⟩
   have h1 := H.out.below hb1
   have c0 := h1.c0
   have HS1 := Lib.hid (HS.out _ h1)
   have HB1 := Lib.hid hb1
   clear h1 hb1 HL HS
   go_wp2_with (fail)
   refine HS1.out.mono ?_
   rintro e w2 ⟨rfl, hb2⟩
   have HB2 := Lib.hid (HB1.out.trans (hb2.mono HB1.out.size))
   clear hb2 c0 HS1
   go_wp2_with (fail)
   refine (HRM.out _).mono ?_
   rintro e w' ⟨rfl, rfl⟩
   have HP2 := Lib.hid (HP.out.below HB2.out)
   clear HRM
   go_wp2_with (fail)
   go_step3
   go_wp2_with (fail)
   go_loop [6, 7, 23] (fun d u i => ∃ k : Nat, k <= l.length ∧ i = .int .i64 k ∧ u = .int .i64 (l.length : Nat) ∧ d = .int .i64 (dataN (l.take k) : Nat) ∧ Hid (batchF room (l.take l.length) 0 = k + batchF room ((l.take l.length).drop k) (dataN (l.take k) : Nat))) (fun _ _ i => l.length - (intOf i).toNat)
   case atStart => exact ⟨0, Nat.zero_le _, rfl, rfl, by simp [dataN], by simp [Hid, dataN]⟩
   case round =>
    obtain ⟨k, hk, rfl, rfl, rfl, hf⟩ := hrel
    by_cases hlt : k < l.length
    · have hkl : k < l.length := by have := HMO.out; omega
      obtain ⟨ad, Ad, cd, rfl, hat⟩ := HP2.out k hkl
      have p2 := hat.c2
      have hgd : (l.take l.length).getD k pv0 = l.getD k pv0 := by simp [List.getD_eq_getElem?_getD, hlt]
      have hbd := batchF_drop room (l.take l.length) k (dataN (l.take k) : Nat) (by simp; omega)
      rw [hgd] at hbd
      have hds := dataN_succ l k hkl
      have hdl : dataN (l.take k) <= 4096 := by
       have h1 : dataN (l.take k) <= (l.take k).length := List.countP_le_length
       simp at h1
       omega
      have HBD := Lib.hid hbd
      have HDS := Lib.hid hds
      clear hbd hds hat hgd
      generalize l.getD k pv0 = x at *
      generalize dataN (l.take k) = dn at *
      obtain ⟨xt, xb, xd, xda⟩ := x
      simp only at p2
      cases xd with
      | true =>
        have h1 : dataN (l.take (k + 1)) = dn := by rw [HDS.out]; simp
        have h2 : batchF room (l.take l.length) 0 = (k + 1 : Nat) + batchF room ((l.take l.length).drop (k + 1)) dn := by rw [hf.out, HBD.out]; simp; omega
        have H12 := Lib.hid (And.intro h1 h2)
        clear h1 h2 hf HBD HDS
        go_wp2
        go_round
        case rel => exact ⟨k + 1, by omega, by go_num, rfl, by rw [H12.out.1], by rw [H12.out.1]; exact H12.out.2⟩
        case measure => simp [intOf]; omega
      | false =>
        by_cases hr : (dn : Int) = room
        · have h2 : batchF room (l.take l.length) 0 = k := by rw [hf.out, HBD.out]; simp [hr]
          have H2 := Lib.hid h2
          have hrr : ((dn : Int) == room) = true := by simp [hr]
          clear h2 hf HBD HDS hr
          go_wp2
          go_ret
          exact ⟨by rw [HBM.out, H2.out]; rfl, HB2.out⟩
        · have h1 : dataN (l.take (k + 1)) = dn + 1 := by rw [HDS.out]; simp
          have h2 : batchF room (l.take l.length) 0 = (k + 1 : Nat) + batchF room ((l.take l.length).drop (k + 1)) ((dn + 1 : Nat) : Int) := by rw [hf.out, HBD.out]; simp [hr]; omega
          have H12 := Lib.hid (And.intro h1 h2)
          have hrr : ((dn : Int) == room) = false := by simp [hr]
          clear h1 h2 hf HBD HDS hr
          go_wp2
          go_round
          case rel => exact ⟨k + 1, by omega, by go_num, rfl, by rw [H12.out.1]; go_num, by rw [H12.out.1]; exact H12.out.2⟩
          case measure => simp [intOf]; omega
    · have hk1 : k = l.length := by omega
      have h2 : batchF room (l.take l.length) 0 = l.length := by
       rw [hf.out, hk1, List.drop_eq_nil_of_le (by rw [List.length_take]; omega)]
       rfl
      have H2 := Lib.hid h2
      clear h2 hf
      subst hk1
      go_wp2
      go_ret
      exact ⟨by rw [HBM.out, H2.out]; rfl, HB2.out⟩
end Go.Proofs.YtfabgbmbnmbjkaaGreatDoor

/- Pruned. -/
namespace Go.Proofs.YtfabgbmbnmbjkaaGreatDoor
open Go.RowKit
set_option maxRecDepth 20000
def itC (i : It) : List Value := [.int .u32 i.t, .int .u64 i.b, .int .u8 i.k, .int .u32 i.s, .int .u16 i.e]
def itCs (L : List It) : List Value := L.flatMap itC
theorem itCs_one (L : List It) : ∀ u ∈ itCs L, u.oneCell' = true := by
 intro u hu
 obtain ⟨p, _, hp⟩ := List.mem_flatMap.1 hu
 simp only [itC, List.mem_cons, List.not_mem_nil, or_false] at hp
 rcases hp with rfl | rfl | rfl | rfl | rfl <;> rfl
theorem itCs_get (L : List It) (i : Nat) (h : i < L.length) : (itCs L)[i * 5]? = some (.int .u32 (L.getD i it0).t) ∧ (itCs L)[i * 5 + 1]? = some (.int .u64 (L.getD i it0).b) ∧ (itCs L)[i * 5 + 2]? = some (.int .u8 (L.getD i it0).k) ∧ (itCs L)[i * 5 + 3]? = some (.int .u32 (L.getD i it0).s) ∧ (itCs L)[i * 5 + 4]? = some (.int .u16 (L.getD i it0).e) := by
 induction L generalizing i with
 | nil => cases h
 | cons p r ih =>
   cases i with
   | zero => simp [itCs, itC]
   | succ i =>
     have := ih i (by simpa using h)
     rw [show (i + 1) * 5 = i * 5 + 5 by omega]
     simpa [itCs, itC] using this
theorem it_info : (Tryz.prog.info? 192).map (fun i => (i.zero, i.size, i.bytes)) = some (some (.agg #[.int .u32 0, .int .u64 0, .int .u8 0, .int .u32 0, .int .u16 0]), 5, 32) := by kernel_rfl
def IRow (w : World) (base : Nat) (A : Option Addr) (c : Nat) (O : List It) : Prop := w.ownsRow base 192 5 (.slice A O.length c) O.length (itCs O)
theorem IRow.its {w : World} {base c : Nat} {A : Option Addr} {O : List It} (h : IRow w base A c O) : ItsAt w A O := fun i hi => by
 rcases h.2 with ⟨_, h0⟩ | ⟨g, cap, cur, hv, hg, hh, hnc, hcm, hcs, ht⟩
 · omega
 · injection hv with e1 e2 e3
   subst e1
   obtain ⟨q0, q1, q2, q3, q4⟩ := itCs_get O i hi
   have hc : ∀ j, j < 5 -> w.cell? ⟨g, i * 5 + j, none⟩ = (itCs O)[i * 5 + j]? := fun j hj => World.ownsRow.cellAt h (i * 5 + j) (by omega)
   exact ⟨g, rfl, (hc 0 (by omega)).trans q0, (hc 1 (by omega)).trans q1, (hc 2 (by omega)).trans q2, (hc 3 (by omega)).trans q3, (hc 4 (by omega)).trans q4⟩
theorem IRow.lt {w : World} {base c : Nat} {A : Option Addr} {O : List It} (h : IRow w base A c O) {b : Nat} (hb : (Value.slice A O.length c).ownBlock = some b) : base <= b ∧ b < w.heap.size := World.ownsRow.lt h b hb
theorem IRow.below {w w' : World} {base c B : Nat} {A : Option Addr} {O : List It} (h : IRow w base A c O) (hb : Below B w w') (hB : w.heap.size <= B) : IRow w' base A c O :=
 ownsRow_of_block h (fun b he => hb.block b (Nat.lt_of_lt_of_le (h.lt he).2 hB))
theorem step_append_it (u : World) {ops : Array Oper} {o : Oper} {a : Act} {K : Act -> World -> Prop} {Q : Exit -> Act -> World -> Prop} {E : Prop} (hgd : o.guard = none) (s x : Operand)
    (ho : o.op = .call { callee := .builtin .append, args := #[s, x], argTypes := #[188, 188] }) {base c g : Nat} {A : Option Addr} (O : List It) (i : It)
    (hown : IRow u base A c O) {n : Nat} (hn : n = O.length) (hs : a.eval s = .slice A n c) (hx : a.eval x = .slice (some ⟨g, 0, none⟩) 1 1) (hsrc : Blk u g 192 #[.int .u32 i.t, .int .u64 i.b, .int .u8 i.k, .int .u32 i.s, .int .u16 i.e]) (hlen : O.length <= 1000000) (hbase : base <= u.heap.size)
    (h : ∀ A' c' w', IRow w' base A' c' (O ++ [i]) -> Kp (fun b => (Value.slice A O.length c).ownBlock = some b) u w' -> K (a.put o.dst (.slice A' (O ++ [i]).length c')) w') :
    if Region.wanted o (yielded ops a.tmps) = true then Oper.wp Tryz.prog o a u K Q else E := by
 subst hn
 obtain ⟨i0, hi0, hz0, hz1, hz2⟩ := info_parts it_info
 have hr : Reads u u.heap.size 5 (some ⟨g, 0, none⟩) 1 (itC i) := ⟨rfl, fun _ => ⟨_, rfl, hsrc.lt, fun j v hv => by
  rw [add0, hsrc.cell, List.getElem?_toArray]
  exact hv⟩⟩
 refine step_append_any u hgd s x _ ho base 192 i0 _ 5 32 Tryz.underlying188 hi0 hz0 hz1 hz2 rfl (by omega) (.slice A O.length c) O.length (itCs O) hs hown _ _ 1 1 (itC i) hx hr ?_ (by simp only [maxLen]; omega) (by omega) hbase ?_
 · intro v hv
   exact itCs_one [i] v (by simpa [itCs] using hv)
 · intro v' w' hown' hg _
   obtain ⟨A', c', rfl⟩ := own_form hown'
   have e : itCs O ++ itC i = itCs (O ++ [i]) := by simp [itCs]
   rw [e, show O.length + 1 = (O ++ [i]).length by simp] at hown'
   have := h A' c' w' hown' ⟨hg.os, hg.tape, hg.output, hg.size, fun b hb hn => hg.block b hb (fun e => hn e.symm)⟩
   simpa using this
def recB (sh : Sh) (m : StM) (l : List Pv) : List Int := encR (m.seq + 1) (l.map itemM) sh.bl
def headW (sh : Sh) (m : StM) (l : List Pv) : StM := { m with seq := m.seq + 1, P := appP m.P m.op.toNat (recB sh m l), la := fun z => if z = m.op then some (m.seq + 1) else m.la z }
def plM (m : StM) (p : Pv) : Pl := ⟨p.t, p.b, m.op, ((m.P.getD m.op.toNat pt0).bs.length : Nat)⟩
def stepW (m : StM) (p : Pv) : StM := if p.d then { m with L := cut m.L p.n } else { m with P := appP m.P m.op.toNat p.da, L := plM m p :: free (cut m.L (plM m p).n) (plM m p).a }
def writeM (sh : Sh) (m : StM) (l : List Pv) : StM := let m1 := l.foldl stepW (headW sh m l); if leftM sh m1 = 0 then fillM m1 else m1
theorem stepW_op (m : StM) (p : Pv) : (stepW m p).op = m.op ∧ (stepW m p).G = m.G ∧ (stepW m p).seq = m.seq ∧ (stepW m p).sl = m.sl ∧ (stepW m p).la = m.la := by
 unfold stepW
 split <;> exact ⟨rfl, rfl, rfl, rfl, rfl⟩
theorem foldW_op (l : List Pv) (m : StM) : (l.foldl stepW m).op = m.op ∧ (l.foldl stepW m).G = m.G ∧ (l.foldl stepW m).seq = m.seq ∧ (l.foldl stepW m).sl = m.sl ∧ (l.foldl stepW m).la = m.la := by
 induction l generalizing m with
 | nil => exact ⟨rfl, rfl, rfl, rfl, rfl⟩
 | cons p r ih =>
   have h1 := ih (stepW m p)
   have h2 := stepW_op m p
   exact ⟨h1.1.trans h2.1, h1.2.1.trans h2.2.1, h1.2.2.1.trans h2.2.2.1, h1.2.2.2.1.trans h2.2.2.2.1, h1.2.2.2.2.trans h2.2.2.2.2⟩
theorem foldW_take (l : List Pv) (m : StM) (k : Nat) (h : k < l.length) : (l.take (k + 1)).foldl stepW m = stepW ((l.take k).foldl stepW m) (l.getD k pv0) := by
 rw [List.take_succ_eq_append_getElem h, List.foldl_append, List.getD_eq_getElem?_getD, List.getElem?_eq_getElem h]
 rfl
theorem stepW_len (M : StM) (p : Pv) (z : Nat) (hz : M.op = z) (hzP : z < M.P.length) : ((stepW M p).P.getD z pt0).bs.length = (M.P.getD z pt0).bs.length + (if p.d then 0 else 1) ∧ (stepW M p).P.length = M.P.length := by
 cases hd : p.d with
 | true => unfold stepW; rw [if_pos hd]; simp
 | false =>
   unfold stepW
   rw [if_neg (by rw [hd]; decide), hz]
   simp only [Int.toNat_natCast]
   rw [appP_same _ _ _ hzP, appP_length]
   simp
theorem foldW_len (l : List Pv) (m : StM) (z : Nat) (hz : m.op = z) (hzP : z < m.P.length) (k : Nat) (hk : k <= l.length) : (((l.take k).foldl stepW m).P.getD z pt0).bs.length = (m.P.getD z pt0).bs.length + dataN (l.take k) ∧ ((l.take k).foldl stepW m).P.length = m.P.length := by
 induction k with
 | zero => simp [dataN]
 | succ k ih =>
   obtain ⟨h1, h2⟩ := ih (by omega)
   have hop := (foldW_op (l.take k) m).1
   rw [foldW_take l m k hk, dataN_succ l k hk]
   have h3 := stepW_len ((l.take k).foldl stepW m) (l.getD k pv0) z (hop.trans hz) (by omega)
   exact ⟨by rw [h3.1, h1, Nat.add_assoc], h3.2.trans h2⟩
end Go.Proofs.YtfabgbmbnmbjkaaGreatDoor

/- Pruned. -/
namespace Go.Proofs.YtfabgbmbnmbjkaaGreatDoor
open Go.RowKit
set_option maxRecDepth 20000
structure WriteOk (sh : Sh) (m : StM) (l : List Pv) (z : Nat) : Prop where
  op : m.op = z
  st : stateAt m.G z = 2
  zl : z < sh.z
  n0 : 0 < l.length
  nr : l.length <= roomN sh.bl
  fit : (m.P.getD z pt0).bs.length + 1 + dataN l <= sh.zb
  pv : ∀ p ∈ l, PvOk p
  da : ∀ p ∈ l, p.d = false -> p.da.length = sh.bl
theorem wrA_step {w1 w5 w6 : World} {r B k c5 : Nat} {A5 : Option Addr} {O : List It} {sq : Int} (h : Below w5.heap.size w5 w6) (h1 : IRow w5 (r + 1) A5 c5 O) (h2 : Below B w1 w5) (hB : B <= w5.heap.size) (h3 : Blk w5 r 190 #[.int .u64 sq, .slice A5 k c5]) (q : It) :
    IRow (w6.alloc (.cells #[.int .u32 q.t, .int .u64 q.b, .int .u8 q.k, .int .u32 q.s, .int .u16 q.e] 192)) (r + 1) A5 c5 O ∧ Blk (w6.alloc (.cells #[.int .u32 q.t, .int .u64 q.b, .int .u8 q.k, .int .u32 q.s, .int .u16 q.e] 192)) w6.heap.size 192 #[.int .u32 q.t, .int .u64 q.b, .int .u8 q.k, .int .u32 q.s, .int .u16 q.e] ∧
      r + 1 <= (w6.alloc (.cells #[.int .u32 q.t, .int .u64 q.b, .int .u8 q.k, .int .u32 q.s, .int .u16 q.e] 192)).heap.size ∧ Below B w1 (w6.alloc (.cells #[.int .u32 q.t, .int .u64 q.b, .int .u8 q.k, .int .u32 q.s, .int .u16 q.e] 192)) ∧
      Blk (w6.alloc (.cells #[.int .u32 q.t, .int .u64 q.b, .int .u8 q.k, .int .u32 q.s, .int .u16 q.e] 192)) r 190 #[.int .u64 sq, .slice A5 k c5] := by
 have h6 := h.alloc h.size (.cells #[.int .u32 q.t, .int .u64 q.b, .int .u8 q.k, .int .u32 q.s, .int .u16 q.e] 192)
 have := h3.lt
 have := h6.size
 exact ⟨h1.below h6 (Nat.le_refl _), Blk.new w6 _ _, by omega, h2.trans (h6.mono hB), h3.below h6 h3.lt⟩
set_option maxHeartbeats 8000000 in
theorem write_any (X : Nat -> Prop) (w : World) (F : StF) (sh : Sh) (n : Nat) (m : StM) (z : Nat) (A : Option Addr) (c : Nat) (l : List Pv) (hw : WriteOk sh m l z) (hp : PutsAt X w A l) (hn : n + 5 * l.length <= 1000000) (h : StoreIs X w F sh n m) :
    Calls Tryz.prog 81 #[.pointer (some ⟨F.s, 0, none⟩), .slice A l.length c] w (fun e w' => e = .returned (.tuple #[]) ∧ StoreIs X w' F sh (n + 5 * l.length) (writeM sh m l) ∧ Kp (fun b => ¬ X b) w w') := by
 have hok := h.dev.ok
 have hbl := hok.blk
 have hl1 : l.length <= 4096 := by have := hw.nr; unfold roomN at this; omega
 have c3 := h.c3
 have f3 := h.fz 3
 have hq0 : 0 <= m.seq := h.sq.1
 have hq1 : m.seq <= 9000000000001000000 := by have := h.sq.2; have := h.nn; omega
 have H := Lib.hid h
 have HW := Lib.hid hw
 have HP := Lib.hid hp
 have HN := Lib.hid hn
 have HOK := Lib.hid hok
 have HLZ : Hid (0 < l.length) := hw.n0
 have HSZ : Hid (m.P.length = sh.z) := h.dev.sz
 clear h hw hp hn hok hbl
 obtain ⟨sq, hsq⟩ : ∃ sq, m.seq = sq := ⟨_, rfl⟩
 rw [hsq] at c3 hq0 hq1
 have HSQ := Lib.hid hsq
 clear hsq
 go_enter Tryz.func81, Tryz.ntmps81
 go_wp2_with (fail)
 have hst1 : StoreIs X (w.setCell ⟨F.s, 3, none⟩ (.int .u64 (sq + 1))) F sh (n + 1) { m with seq := m.seq + 1 } := by
  have ht := H.out.top.set_ 3 (.int .u64 (sq + 1))
  have hk := (Kp.refl (fun b => b = F.s) w).setCell (p := ⟨F.s, 3, none⟩) (.inl rfl) (.int .u64 (sq + 1))
  rw [<- HSQ.out] at ht hk ⊢
  exact H.out.onTop (seq := m.seq + 1) (op := m.op) (sl := m.sl) hk (by simpa using ht) (Nat.le_succ _) (by have := HN.out; have := HLZ.out; omega) (by have := H.out.sq; omega) H.out.opr
 have hk1 : Kp (fun b => ¬ X b) w (w.setCell ⟨F.s, 3, none⟩ (.int .u64 (sq + 1))) := (Kp.refl _ w).setCell (p := ⟨F.s, 3, none⟩) (.inl (H.out.nx _ (.inl rfl))) _
 have hsz1 : (w.setCell ⟨F.s, 3, none⟩ (.int .u64 (sq + 1))).heap.size = w.heap.size := by simp [World.setCell]
 clear c3 f3
 generalize w.setCell ⟨F.s, 3, none⟩ (.int .u64 (sq + 1)) = w1 at *
 have HST1 := Lib.hid hst1
 have HK1 := Lib.hid hk1
 have HS1 := Lib.hid hsz1
 have hr0 : Hid (Below w.heap.size w1 (w1.alloc (.cells #[.int .u64 (sq + 1), .slice none 0 0] 190)) ∧ Blk (w1.alloc (.cells #[.int .u64 (sq + 1), .slice none 0 0] 190)) w.heap.size 190 #[.int .u64 (sq + 1), .slice none 0 0] ∧ IRow (w1.alloc (.cells #[.int .u64 (sq + 1), .slice none 0 0] 190)) (w.heap.size + 1) none 0 ((l.take 0).map itemM)) := by
  have hb := Blk.new w1 190 #[.int .u64 (sq + 1), .slice none 0 0]
  rw [hsz1] at hb
  exact ⟨(Below.refl _ _).alloc (by omega) _, hb, World.ownsRow_nil _ _ _ _⟩
 have HP1 := Lib.hid (HP.out.kx hk1)
 clear hst1 hk1 hsz1
 generalize w1.alloc (.cells #[.int .u64 (sq + 1), .slice none 0 0] 190) = w2 at *
 go_loopw [27] (fun i wr => ∃ (k : Nat) (A5 : Option Addr) (c5 : Nat), k <= l.length ∧ i = .int .i64 k ∧ Hid (Below w.heap.size w1 wr ∧ Blk wr w.heap.size 190 #[.int .u64 (sq + 1), .slice A5 k c5] ∧ IRow wr (w.heap.size + 1) A5 c5 ((l.take k).map itemM))) (fun i _ => l.length - (intOf i).toNat)
 case atStart => exact ⟨0, none, 0, Nat.zero_le _, rfl, hr0⟩
 case round =>
  obtain ⟨k, A5, c5, hk, rfl, hr⟩ := hrel
  clear hr0
  by_cases hlt : k < l.length
  · have hpw := HP1.out.below (hr.out.1.mono (show w1.heap.size <= w.heap.size by rw [HS1.out]; exact Nat.le_refl _))
    obtain ⟨ad, Ad, cd, rfl, hat⟩ := hpw k hlt
    have p0 := hat.c0
    have p1 := hat.c1
    have p2 := hat.c2
    have p3 := hat.c3
    have HAT := Lib.hid (And.intro hat.rd hat.cap)
    have HPV := Lib.hid (HW.out.pv _ (getD_mem (d := pv0) hlt))
    have HDA := Lib.hid (HW.out.da _ (getD_mem (d := pv0) hlt))
    have HTK : Hid ((l.take (k + 1)).map itemM = (l.take k).map itemM ++ [itemM (l.getD k pv0)]) := by
     unfold Hid
     rw [List.take_succ_eq_append_getElem hlt, List.map_append, List.getD_eq_getElem?_getD, List.getElem?_eq_getElem hlt]
     rfl
    have HLT := Lib.hid hlt
    have hOl : ((l.take k).map itemM).length = k := by simp; omega
    have hgs : w.heap.size < wr.heap.size := hr.out.2.1.lt
    have r1 : wr.cell? ⟨w.heap.size, 1, none⟩ = some (.slice A5 k c5) := hr.out.2.1.cell 1
    have rf : ∀ i, wr.frozen? ⟨w.heap.size, i, none⟩ = false := fun i => hr.out.2.1.frozen i
    clear hpw hat
    generalize l.getD k pv0 = p at *
    obtain ⟨O, hO⟩ : ∃ O, (l.take k).map itemM = O := ⟨_, rfl⟩
    rw [hO] at hr hOl HTK
    have HOL := Lib.hid hOl
    clear hO hOl
    obtain ⟨q, hq⟩ : ∃ q, itemM p = q := ⟨_, rfl⟩
    rw [hq] at HTK
    have HQ := Lib.hid hq
    clear hq
    go_upto_region 5 with (fail)
    have pb := Blk.new wr 42 #[.int .u32 p.t, .int .u64 p.b, .bool p.d, .slice Ad p.da.length cd]
    have hb5 : Below wr.heap.size wr (wr.alloc (.cells #[.int .u32 p.t, .int .u64 p.b, .bool p.d, .slice Ad p.da.length cd] 42)) := (Below.refl _ _).alloc (Nat.le_refl _) _
    have hs5 : (wr.alloc (.cells #[.int .u32 p.t, .int .u64 p.b, .bool p.d, .slice Ad p.da.length cd] 42)).heap.size = wr.heap.size + 1 := by simp
    have HPB := Lib.hid pb
    have HB5 := Lib.hid hb5
    have HS5 := Lib.hid hs5
    clear p0 p1 p2 p3 r1 rf
    generalize wr.alloc (.cells #[.int .u32 p.t, .int .u64 p.b, .bool p.d, .slice Ad p.da.length cd] 42) = w5 at *
    have p0 : w5.cell? ⟨wr.heap.size, 0, none⟩ = some (.int .u32 p.t) := pb.cell 0
    have p1 : w5.cell? ⟨wr.heap.size, 1, none⟩ = some (.int .u64 p.b) := pb.cell 1
    have p2 : w5.cell? ⟨wr.heap.size, 2, none⟩ = some (.bool p.d) := pb.cell 2
    have p3 : w5.cell? ⟨wr.heap.size, 3, none⟩ = some (.slice Ad p.da.length cd) := pb.cell 3
    have hrb := hr.out.2.1.below hb5 hr.out.2.1.lt
    have r1 : w5.cell? ⟨w.heap.size, 1, none⟩ = some (.slice A5 k c5) := hrb.cell 1
    have rf : ∀ i, w5.frozen? ⟨w.heap.size, i, none⟩ = false := fun i => hrb.frozen i
    have hirow := hr.out.2.2.below hb5 (Nat.le_refl _)
    have HIT : Hid (Calls Tryz.prog 139 #[.agg #[.int .u32 p.t, .int .u64 p.b, .bool p.d, .slice Ad p.da.length cd]] w5.drew (Makes (.agg #[.int .u32 q.t, .int .u64 q.b, .int .u8 q.k, .int .u32 q.s, .int .u16 q.e]) w5.drew)) := by
     have := item_any p HPV.out (fun hd => by have := HDA.out hd; have := HOK.out.blk; omega) Ad cd w5.drew (by have := (HAT.out.1.below hb5).more hb5.size; exact this) HAT.out.2
     rw [HQ.out] at this
     exact this
    have HRB := Lib.hid hrb
    have HIR := Lib.hid (And.intro hirow (hr.out.1.trans (hb5.mono (by omega))))
    clear pb hb5 hs5 hrb hirow
    generalize p.t = pt at *
    generalize p.b = pbl at *
    generalize p.d = pd at *
    generalize p.da.length = pl at *
    go_region_law (first
      | (go_simp
         go_at_call 139
         with_reducible refine HIT.out.mono ?_
         rintro e w6 ⟨rfl, hb6⟩
         have hrb := HRB.out.drew.below hb6 HRB.out.drew.lt
         have r1x : w6.cell? ⟨w.heap.size, 1, none⟩ = some (.slice A5 k c5) := hrb.cell 1
         have rfx : ∀ i, w6.frozen? ⟨w.heap.size, i, none⟩ = false := fun i => hrb.frozen i
         have h56 : Below w5.heap.size w5 w6 := (Below.refl _ w5).drew.trans hb6
         have H6 := Lib.hid (wrA_step h56 HIR.out.1 HIR.out.2 (by have := HS5.out; omega) HRB.out q)
         have r1y : (w6.alloc (.cells #[.int .u32 q.t, .int .u64 q.b, .int .u8 q.k, .int .u32 q.s, .int .u16 q.e] 192)).cell? ⟨w.heap.size, 1, none⟩ = some (.slice A5 k c5) := H6.out.2.2.2.2.cell 1
         clear hb6 hrb h56)
      | (refine step_append_it _ rfl (.tmp 32) (.tmp 35) rfl O q H6.out.1 HOL.out.symm rfl rfl H6.out.2.1 (by have := HOL.out; omega) H6.out.2.2.1 ?_
         intro A7 c7 w7 h7 k7
         have hrb7 := k7.blk H6.out.2.2.2.2 (fun h => by have := (H6.out.1.lt h).1; omega)
         have r17 : w7.cell? ⟨w.heap.size, 1, none⟩ = some (.slice A5 k c5) := hrb7.cell 1
         have rf7 : ∀ i, w7.frozen? ⟨w.heap.size, i, none⟩ = false := fun i => hrb7.frozen i
         have hw17 : Below w.heap.size w1 w7 := Kp.below H6.out.2.2.2.1 k7 (by have := H6.out.2.2.1; omega) (fun b hb h => by have := (H6.out.1.lt h).1; omega)
         have hl7 : (O ++ [q]).length = k + 1 := by have := HOL.out; simp; omega
         rw [hl7]
         have H7 := Lib.hid (And.intro h7 (And.intro hrb7 hw17))
         clear h7 k7 hrb7 hw17 hl7))
    all_goals
     have hb8 := H7.out.2.1.set_ 1 (.slice A7 (k + 1) c7)
     have hr8 : IRow (w7.setCell ⟨w.heap.size, 1, none⟩ (.slice A7 (k + 1) c7)) (w.heap.size + 1) A7 c7 (O ++ [q]) := ownsRow_of_block H7.out.1 (fun b he => Below.heap_setCell w7 _ _ b (by have := (H7.out.1.lt he).1; show b ≠ w.heap.size; omega))
     have hw8 := H7.out.2.2.setCell (p := ⟨w.heap.size, 1, none⟩) (Nat.le_refl _) (.slice A7 (k + 1) c7)
     rw [<- HTK.out] at hr8
     have HN8 : Hid (Below w.heap.size w1 (w7.setCell ⟨w.heap.size, 1, none⟩ (.slice A7 (k + 1) c7)) ∧ Blk (w7.setCell ⟨w.heap.size, 1, none⟩ (.slice A7 (k + 1) c7)) w.heap.size 190 #[.int .u64 (sq + 1), .slice A7 (k + 1) c7] ∧ IRow (w7.setCell ⟨w.heap.size, 1, none⟩ (.slice A7 (k + 1) c7)) (w.heap.size + 1) A7 c7 ((l.take (k + 1)).map itemM)) := ⟨hw8, by simpa using hb8, hr8⟩
     clear hb8 hr8 hw8 p0 p1 p2 p3 r1 rf r1x rfx r1y r17 rf7
     generalize w7.setCell ⟨w.heap.size, 1, none⟩ (.slice A7 (k + 1) c7) = w8 at *
     go_wp2
     go_roundw
     case rel => exact ⟨k + 1, A7, c7, HLT.out, by go_num, HN8⟩
     case measure => have := HLT.out; simp [intOf]; omega
  · obtain rfl : k = l.length := by omega
    have hr2 := hr.out
    rw [List.take_length] at hr2
    have hst2 := HST1.out.below (hr2.1.mono (show w1.heap.size <= w.heap.size by rw [HS1.out]; exact Nat.le_refl _))
    have hk2 : Kp (fun b => ¬ X b) w wr := HK1.out.trans (Kp.of_below (hr2.1.mono (show w1.heap.size <= w.heap.size by rw [HS1.out]; exact Nat.le_refl _))) (fun _ _ h => h)
    have hp2 := HP1.out.below (hr2.1.mono (show w1.heap.size <= w.heap.size by rw [HS1.out]; exact Nat.le_refl _))
    have k0 : wr.cell? ⟨w.heap.size, 0, none⟩ = some (.int .u64 (sq + 1)) := hr2.2.1.cell 0
    have k1 : wr.cell? ⟨w.heap.size, 1, none⟩ = some (.slice A5 l.length c5) := hr2.2.1.cell 1
    have c0 := hst2.c0
    have ks : wr.cell? ⟨F.s, 0, none⟩ = some (.pointer (some ⟨F.d, 0, none⟩)) ∧ wr.cell? ⟨w.heap.size, 0, none⟩ = some (.int .u64 (sq + 1)) ∧ wr.cell? ⟨w.heap.size, 1, none⟩ = some (.slice A5 l.length c5) := ⟨c0, k0, k1⟩
    have HST2 := Lib.hid (And.intro hst2 (And.intro hk2 hp2))
    have HIR2 := Lib.hid hr2.2.2
    have hsh := shape_any _ wr.drew F.d sh m.P hst2.drew.dev
    have hsh2 := shape_any _ wr F.d sh m.P hst2.dev
    have hfl := field_sh2 sh.z sh.zb sh.bl sh.rs
    unfold shV at hsh
    have HSH := Lib.hid hsh
    clear hr hr2 hst2 hk2 hp2 k0 k1 c0 hsh hsh2 HST1 HK1 HS1 HP1
    have hitl : (l.map itemM).length = l.length := by simp
    have hENC : ∀ u, ItsAt u A5 (l.map itemM) -> Calls Tryz.prog 140 #[.agg #[.int .u64 (sq + 1), .slice A5 l.length c5], .int .i64 sh.bl] u
        (fun e w' => ∃ A' c', e = .returned (.tuple #[.slice A' sh.bl c', .int .u16 0]) ∧ BRow w' u.heap.size A' c' (recB sh m l) ∧ Below u.heap.size u w') := fun u hu => by
     have := encode_any sh HOK.out (sq + 1) (by omega) (l.map itemM) A5 c5 u hu (fun i hi => by
      obtain ⟨p, hp, rfl⟩ := List.mem_map.1 hi
      exact itemM_ok p (HW.out.pv p hp) (fun hd => by have := HW.out.da p hp hd; have := HOK.out.blk; omega)) (by rw [hitl]; exact HLZ.out) (by rw [hitl]; exact HW.out.nr)
     rw [hitl] at this
     unfold recB
     rw [HSQ.out]
     exact this
    have HENC := Lib.hid hENC
    have HRL : Hid ((recB sh m l).length = sh.bl) := encR_length _ _ _ (by rw [hitl]; exact HW.out.nr) HOK.out.blk.1
    have HRBD : Hid (∀ x ∈ recB sh m l, ByteOk x) := encR_bd _ _ _
    clear hENC hitl
    go_wp2_with (fail)
    go_region_held3 (fun u => u.cell? ⟨F.s, 0, none⟩ = some (.pointer (some ⟨F.d, 0, none⟩)) ∧ u.cell? ⟨w.heap.size, 0, none⟩ = some (.int .u64 (sq + 1)) ∧ u.cell? ⟨w.heap.size, 1, none⟩ = some (.slice A5 l.length c5))
      (first | exact ks | exact ks2 | exact ks3)
      (first
        | (go_at_call 75
           with_reducible refine HSH.out.mono ?_
           rintro e w3 ⟨rfl, hb⟩
           have ks2 : w3.cell? ⟨F.s, 0, none⟩ = some (.pointer (some ⟨F.d, 0, none⟩)) ∧ w3.cell? ⟨w.heap.size, 0, none⟩ = some (.int .u64 (sq + 1)) ∧ w3.cell? ⟨w.heap.size, 1, none⟩ = some (.slice A5 l.length c5) := ⟨below_keep hb ks.1, below_keep hb ks.2.1, below_keep hb ks.2.2⟩
           have h03 : Below wr.heap.size wr w3 := (Below.refl _ wr).drew.trans hb
           have H3 := Lib.hid (And.intro (HIR2.out.its.below h03) h03)
           clear hb h03)
        | (go_at_call 140
           refine (HENC.out _ H3.out.1).mono ?_
           rintro e w4 ⟨A6, c6, rfl, hr6, hb⟩
           have ks3 : w4.cell? ⟨F.s, 0, none⟩ = some (.pointer (some ⟨F.d, 0, none⟩)) ∧ w4.cell? ⟨w.heap.size, 0, none⟩ = some (.int .u64 (sq + 1)) ∧ w4.cell? ⟨w.heap.size, 1, none⟩ = some (.slice A5 l.length c5) := ⟨below_keep hb ks2.1, below_keep hb ks2.2.1, below_keep hb ks2.2.2⟩
           have H4 := Lib.hid (And.intro hr6 (H3.out.2.trans (hb.mono H3.out.2.size)))
           clear hb hr6))
    all_goals
     have hst4 := HST2.out.1.below H4.out.2
     have hk4 := HST2.out.2.1.trans (Kp.of_below (S := fun b => ¬ X b) H4.out.2) (fun _ _ h => h)
     have hp4 := HST2.out.2.2.below H4.out.2
     have hzP : z < m.P.length := by have := HST2.out.1.dev.sz; have := HW.out.zl; have e : m.P.length = sh.z := HST2.out.1.dev.sz; omega
     have HA : Hid (Calls Tryz.prog 85 #[.pointer (some ⟨F.d, 0, none⟩), .int .i64 z, .slice A6 sh.bl c6] w4.drew
         (fun e w' => e = .returned (.tuple #[.agg #[.int .i64 z, .int .i64 ((m.P.getD z pt0).bs.length : Nat)], .int .u16 0]) ∧ DevIs (fun i => X i ∨ F.own i) w' F.d sh (appP m.P z (recB sh m l)) ∧ Kp (fun b => ¬ (X b ∨ F.own b)) w4.drew w')) := by
      have := zappend_any _ w4.drew F.d sh m.P z hzP hst4.drew.dev _ A6 c6 (recB sh m l) HRL.out HRBD.out (by have := HW.out.fit; omega) H4.out.1.drew.reads
      rw [HRL.out] at this
      exact this
     have c5x : w4.cell? ⟨F.s, 5, none⟩ = some (.int .i64 z) := by rw [<- HW.out.op]; exact hst4.c5
     have ks4 : w4.cell? ⟨F.s, 0, none⟩ = some (.pointer (some ⟨F.d, 0, none⟩)) ∧ w4.cell? ⟨F.s, 5, none⟩ = some (.int .i64 z) := ⟨ks3.1, c5x⟩
     have HST4 := Lib.hid (And.intro hst4 (And.intro hk4 hp4))
     clear ks ks2 ks3 hst4 hk4 hp4 hzP c5x HST2 HIR2 HSH H3 HENC hfl
     go_wp2_with (fail)
     go_region_held3 (fun u => u.cell? ⟨F.s, 0, none⟩ = some (.pointer (some ⟨F.d, 0, none⟩)) ∧ u.cell? ⟨F.s, 5, none⟩ = some (.int .i64 z))
       (first | exact ks4 | exact ks5)
       (first
         | (go_at_call 85
            with_reducible refine HA.out.mono ?_
            rintro e w5 ⟨rfl, hd5, hkd5⟩
            have hst5 := HST4.out.1.drew.onDev hkd5 hd5
            have hk5 : Kp (fun b => ¬ X b) w4.drew w5 := hkd5.mono (fun b _ h hx => h (.inl hx))
            have ks5 : w5.cell? ⟨F.s, 0, none⟩ = some (.pointer (some ⟨F.d, 0, none⟩)) ∧ w5.cell? ⟨F.s, 5, none⟩ = some (.int .i64 z) := ⟨hst5.c0, by rw [<- HW.out.op]; exact hst5.c5⟩
            have HST5 := Lib.hid (And.intro hst5 (And.intro ((HST4.out.2.1.drewN 1).trans hk5 (fun _ _ h => h)) (HST4.out.2.2.kx (kp_undrew hk5))))
            clear hst5 hk5 hd5 hkd5))
     all_goals
      clear ks4 ks5 HST4 HA
      have hst5 := HST5.out.1
      have hmx : n + 1 < maxLen := by have := hst5.nn; unfold maxLen; omega
      have hzo : IntOk (z : Int) := by have := HW.out.zl; have := HOK.out.facts; unfold IntOk; omega
      obtain ⟨w6, e6, hm6, ht6⟩ := (hst5.last.drew).store (t := 90) (e := 40) Tryz.underlying90 hmx (a := (z : Int)) hzo (sq + 1) (fun x => if x = m.op then some (m.seq + 1) else m.la x) (by rw [HW.out.op, HSQ.out]; exact if_pos rfl) (fun x hx => by rw [HW.out.op]; exact if_neg hx)
      change (Instr.mapUpdate 90 (.map (some F.b)) (.int .i64 (z : Int)) (.int .u64 (sq + 1))).run Tryz.prog w5.drew = .ok () w6 at e6
      have hk6 := grownBy_kp ht6.grown
      have hst6 := hst5.drew.onLast hk6 hm6 (Nat.le_succ _) (by have := HN.out; have := HLZ.out; omega)
      have hkx : Kp (fun b => ¬ X b) w5.drew w6 := hk6.mono (fun b _ e => by rw [e]; exact hst5.nx _ (.inr (.inr (.inr (.inr rfl)))))
      have q5 : w5.cell? ⟨F.s, 5, none⟩ = some (.int .i64 z) := by rw [<- HW.out.op]; exact hst5.c5
      have q3 : w5.cell? ⟨F.s, 3, none⟩ = some (.int .u64 (sq + 1)) := by rw [<- HSQ.out]; exact hst5.c3
      have q56 : w6.cell? ⟨F.s, 5, none⟩ = some (.int .i64 z) := by rw [<- HW.out.op]; exact hst6.c5
      have q36 : w6.cell? ⟨F.s, 3, none⟩ = some (.int .u64 (sq + 1)) := by rw [<- HSQ.out]; exact hst6.c3
      have ks5 : w5.cell? ⟨F.s, 3, none⟩ = some (.int .u64 (sq + 1)) ∧ w5.cell? ⟨F.s, 4, none⟩ = some (.map (some F.b)) ∧ w5.cell? ⟨F.s, 5, none⟩ = some (.int .i64 z) := ⟨q3, hst5.c4, q5⟩
      have ks6 : w6.cell? ⟨F.s, 3, none⟩ = some (.int .u64 (sq + 1)) ∧ w6.cell? ⟨F.s, 4, none⟩ = some (.map (some F.b)) ∧ w6.cell? ⟨F.s, 5, none⟩ = some (.int .i64 z) := ⟨q36, hst6.c4, q56⟩
      have HST6 : Hid (StoreIs X w6 F sh (n + 2) (headW sh m l) ∧ Kp (fun b => ¬ X b) w w6 ∧ PutsAt X w6 A l) := ⟨by
       have e : headW sh m l = { m with seq := m.seq + 1, P := appP m.P z (recB sh m l), la := (fun x => if x = m.op then some (m.seq + 1) else m.la x) } := by unfold headW; rw [HW.out.op]; rfl
       rw [e]
       exact hst6, (HST5.out.2.1.drewN 1).trans hkx (fun _ _ h => h), HST5.out.2.2.kx (kp_undrew hkx)⟩
      clear hst5 hst6 hkx hk6 ht6 hm6 q5 q3 q56 q36 hmx hzo HST5
      go_wp2_with (fail)
      go_region_held3 (fun u => u.cell? ⟨F.s, 3, none⟩ = some (.int .u64 (sq + 1)) ∧ u.cell? ⟨F.s, 4, none⟩ = some (.map (some F.b)) ∧ u.cell? ⟨F.s, 5, none⟩ = some (.int .i64 z))
        (first | exact ks5 | exact ks6)
        (fail)
      clear e6 ks5 ks6
      go_wp2_with (fail)
      go_loopw [74] (fun i wr => ∃ k : Nat, k <= l.length ∧ i = .int .i64 k ∧ Hid (StoreIs X wr F sh (n + 2 + 3 * k) ((l.take k).foldl stepW (headW sh m l)) ∧ Kp (fun b => ¬ X b) w wr ∧ PutsAt X wr A l)) (fun i _ => l.length - (intOf i).toNat)
      case atStart => exact ⟨0, Nat.zero_le _, rfl, HST6⟩
      case round =>
       obtain ⟨k, hk, rfl, hr⟩ := hrel
       clear HST6
       by_cases hlt : k < l.length
       · obtain ⟨ad, Ad, cd, rfl, hat⟩ := hr.out.2.2 k hlt
         have p0 := hat.c0
         have p1 := hat.c1
         have p2 := hat.c2
         have p3 := hat.c3
         have HAT := Lib.hid (And.intro hat.rd hat.xd)
         have HPV := Lib.hid (HW.out.pv _ (getD_mem (d := pv0) hlt))
         have HDA := Lib.hid (HW.out.da _ (getD_mem (d := pv0) hlt))
         have HTK := Lib.hid (foldW_take l (headW sh m l) k hlt)
         have hMo := (foldW_op (l.take k) (headW sh m l)).1
         have hMl := foldW_len l (headW sh m l) z HW.out.op (by have := hr.out.1.dev.sz; have h2 := HW.out.zl; have e : (appP m.P m.op.toNat (recB sh m l)).length = m.P.length := appP_length _ _ _; show z < (appP m.P m.op.toNat (recB sh m l)).length; rw [e]; have e2 : m.P.length = sh.z := HSZ.out; omega) k (Nat.le_of_lt hlt)
         have HLT := Lib.hid hlt
         have HML := Lib.hid hMl
         have hMop : ((l.take k).foldl stepW (headW sh m l)).op = z := hMo.trans HW.out.op
         have HMO := Lib.hid hMop
         have hdn := dataN_succ l k hlt
         have HDN := Lib.hid hdn
         clear hat hMo hMl hdn hMop
         generalize l.getD k pv0 = p at *
         generalize (l.take k).foldl stepW (headW sh m l) = M at *
         obtain ⟨pt, pbl, pd, pda⟩ := p
         simp only at p0 p1 p2 p3 HAT
         have hX : StoreIs (fun b => X b ∨ b = wr.heap.size) (wr.alloc (.cells #[.int .u32 pt, .int .u64 pbl, .bool pd, .slice Ad pda.length cd] 42)) F sh (n + 2 + 3 * k) M := hr.out.1.step ((Below.refl _ _).alloc (Nat.le_refl _) _) (fun b hx => by
          rcases hx with hx | rfl
          · have := hr.out.1.xlt hx
            exact ⟨by simp; omega, .inl hx⟩
          · exact ⟨by simp, .inr (Nat.le_refl _)⟩)
         have hpb := Blk.new wr 42 #[.int .u32 pt, .int .u64 pbl, .bool pd, .slice Ad pda.length cd]
         have hb7 : Below wr.heap.size wr (wr.alloc (.cells #[.int .u32 pt, .int .u64 pbl, .bool pd, .slice Ad pda.length cd] 42)) := (Below.refl _ _).alloc (Nat.le_refl _) _
         have H7 := Lib.hid (And.intro hX (And.intro hpb hb7))
         clear hX hpb hb7
         cases pd with
         | true =>
           go_upto_region 14 with (fail)
           clear p0 p1 p2 p3
           generalize hw7 : wr.alloc (.cells #[.int .u32 pt, .int .u64 pbl, .bool true, .slice Ad pda.length cd] 42) = w7 at *
           clear hw7
           have ks7 : w7.cell? ⟨F.s, 2, none⟩ = some (.pointer (some ⟨F.f.g, 0, none⟩)) ∧ w7.cell? ⟨wr.heap.size, 0, none⟩ = some (.int .u32 pt) ∧ w7.cell? ⟨wr.heap.size, 1, none⟩ = some (.int .u64 pbl) := ⟨H7.out.1.c2, H7.out.2.1.cell 0, H7.out.2.1.cell 1⟩
           have HDR := Lib.hid (ldrop_any w7.drew F.f (n + 2 + 3 * k) M.L (pt, pbl) HPV.out.n H7.out.1.drew.lm (by have := H7.out.1.nn; unfold maxLen; omega))
           have HPL := Lib.hid (fun e : F.f.T wr.heap.size => H7.out.1.nx _ (.inr (.inr (.inr (.inl (.inr e))))) (.inr rfl))
           have HSL := Lib.hid (fun e : F.f.T F.s => (H7.out.1.ne.m _ (.inr e)).1 rfl)
           go_region_held3 (fun u => u.cell? ⟨F.s, 2, none⟩ = some (.pointer (some ⟨F.f.g, 0, none⟩)) ∧ u.cell? ⟨wr.heap.size, 0, none⟩ = some (.int .u32 pt) ∧ u.cell? ⟨wr.heap.size, 1, none⟩ = some (.int .u64 pbl))
             (first | exact ks7 | exact ks8)
             (first
               | (go_at_call 141
                  refine HDR.out.mono ?_
                  rintro e w8 ⟨rfl, hl8, hk8⟩
                  have ks8 : w8.cell? ⟨F.s, 2, none⟩ = some (.pointer (some ⟨F.f.g, 0, none⟩)) ∧ w8.cell? ⟨wr.heap.size, 0, none⟩ = some (.int .u32 pt) ∧ w8.cell? ⟨wr.heap.size, 1, none⟩ = some (.int .u64 pbl) :=
                   ⟨hk8.cell (w := w7.drew) ks7.1 HSL.out, hk8.cell (w := w7.drew) ks7.2.1 HPL.out, hk8.cell (w := w7.drew) ks7.2.2 HPL.out⟩
                  have H8 := Lib.hid (And.intro hl8 hk8)
                  clear hl8 hk8))
           all_goals
            have hst8 := (H7.out.1.drew.onMap H8.out.2 H8.out.1 (Nat.le_succ _) (by have := HN.out; have := HLT.out; omega)).less (X' := X) (fun b hb => .inl hb)
            have hk8 : Kp (fun b => ¬ X b) w7.drew w8 := H8.out.2.mono (fun b _ e hx => H7.out.1.nx b (.inr (.inr (.inr (.inl (.inr e))))) (.inl hx))
            have hk9 : Kp (fun b => ¬ X b) w w8 := (hr.out.2.1.trans ((Kp.of_below (S := fun b => ¬ X b) H7.out.2.2).drewN 1) (fun _ _ h => h)).trans hk8 (fun _ _ h => h)
            have hp9 : PutsAt X w8 (some ad) l := ((hr.out.2.2.below H7.out.2.2).kx ((Kp.refl (fun b => ¬ X b) w7).drewN 1)).kx hk8
            have he : stepW M ⟨pt, pbl, true, pda⟩ = { M with L := cut M.L (pt, pbl) } := if_pos rfl
            rw [he] at HTK
            have HN9 : Hid (StoreIs X w8 F sh (n + 2 + 3 * (k + 1)) ((l.take (k + 1)).foldl stepW (headW sh m l)) ∧ Kp (fun b => ¬ X b) w w8 ∧ PutsAt X w8 (some ad) l) := ⟨by
             rw [HTK.out]
             exact hst8.mono (by omega) (by have := HN.out; have := HLT.out; omega), hk9, hp9⟩
            clear ks7 ks8 hst8 hk8 hk9 hp9 HTK H7 H8 HDR HPL HSL HAT HML HMO HDN hr
            go_wp2
            go_roundw
            case rel => exact ⟨k + 1, HLT.out, by go_num, HN9⟩
            case measure => have := HLT.out; simp [intOf]; omega
         | false =>
           go_upto_region 15 with (fail)
           clear p0 p1 p2 p3
           generalize hw7 : wr.alloc (.cells #[.int .u32 pt, .int .u64 pbl, .bool false, .slice Ad pda.length cd] 42) = w7 at *
           clear hw7
           have hzP : z < M.P.length := by have := HML.out.2; have h2 : (headW sh m l).P.length = m.P.length := appP_length _ _ _; have h3 := HSZ.out; have h4 := HW.out.zl; omega
           have hdl : pda.length = sh.bl := HDA.out rfl
           have hrm : (M.P.getD z pt0).bs.length < sh.zb := by
            have h1 := HML.out.1
            have h2 : ((headW sh m l).P.getD z pt0).bs.length = (m.P.getD z pt0).bs.length + 1 := by
             have e : (headW sh m l).P = appP m.P z (recB sh m l) := by unfold headW; rw [HW.out.op]; rfl
             rw [e, appP_same _ _ _ (by have := HSZ.out; have := HW.out.zl; omega)]
             simp
            have h3 := HW.out.fit
            have h4 : dataN (l.take (k + 1)) <= dataN l := List.Sublist.countP_le (List.take_sublist _ _)
            have h5 := HDN.out
            simp at h5
            omega
           have hzbm : sh.zb <= 4096 := by have := HOK.out.facts; omega
           have hzm : z <= 256 := by have := HOK.out.facts; have := HW.out.zl; omega
           have HA : Hid (∀ (Y : Nat -> Prop) (u : World), DevIs Y u F.d sh M.P -> Below wr.heap.size wr u -> Calls Tryz.prog 85 #[.pointer (some ⟨F.d, 0, none⟩), .int .i64 z, .slice Ad pda.length cd] u
               (fun e w' => e = .returned (.tuple #[.agg #[.int .i64 z, .int .i64 ((M.P.getD z pt0).bs.length : Nat)], .int .u16 0]) ∧ DevIs Y w' F.d sh (appP M.P z pda) ∧ Kp (fun b => ¬ Y b) u w')) := fun Y u hu hb =>
            zappend_any Y u F.d sh M.P z hzP hu _ Ad cd pda hdl HPV.out.by_ hrm (HAT.out.1.below hb)
           obtain ⟨kk, hkk⟩ : ∃ kk, (M.P.getD z pt0).bs.length = kk := ⟨_, rfl⟩
           rw [hkk] at HA hrm
           have HKK := Lib.hid hkk
           have hkm : kk <= 4096 := by omega
           have hb7 := H7.out.2.2
           have HA1 := Lib.hid (HA.out _ w7.drew H7.out.1.drew.dev hb7.drew)
           have hXa : StoreIs (fun b => (X b ∨ b = wr.heap.size) ∨ b = w7.heap.size) (w7.alloc (.cells #[.int .i64 0, .int .i64 0] 53)) F sh (n + 2 + 3 * k) M := H7.out.1.step ((Below.refl _ _).alloc (Nat.le_refl _) _) (fun b hx => by
            rcases hx with hx | rfl
            · have := H7.out.1.xlt hx
              exact ⟨by simp; omega, .inl hx⟩
            · exact ⟨by simp, .inr (Nat.le_refl _)⟩)
           have HA2 := Lib.hid (HA.out _ (w7.alloc (.cells #[.int .i64 0, .int .i64 0] 53)).drew hXa.drew.dev (hb7.alloc hb7.size _).drew)
           have HXA := Lib.hid (And.intro hXa (Blk.new w7 53 #[.int .i64 0, .int .i64 0]))
           have ks7 : w7.cell? ⟨F.s, 0, none⟩ = some (.pointer (some ⟨F.d, 0, none⟩)) ∧ w7.cell? ⟨F.s, 5, none⟩ = some (.int .i64 z) ∧ w7.cell? ⟨wr.heap.size, 3, none⟩ = some (.slice Ad pda.length cd) := ⟨H7.out.1.c0, by rw [<- HMO.out]; exact H7.out.1.c5, H7.out.2.1.cell 3⟩
           have ks7d : w7.drew.cell? ⟨F.s, 0, none⟩ = some (.pointer (some ⟨F.d, 0, none⟩)) ∧ w7.drew.cell? ⟨F.s, 5, none⟩ = some (.int .i64 z) ∧ w7.drew.cell? ⟨wr.heap.size, 3, none⟩ = some (.slice Ad pda.length cd) := ks7
           have ks7a : (w7.alloc (.cells #[.int .i64 0, .int .i64 0] 53)).cell? ⟨F.s, 0, none⟩ = some (.pointer (some ⟨F.d, 0, none⟩)) ∧ (w7.alloc (.cells #[.int .i64 0, .int .i64 0] 53)).cell? ⟨F.s, 5, none⟩ = some (.int .i64 z) ∧ (w7.alloc (.cells #[.int .i64 0, .int .i64 0] 53)).cell? ⟨wr.heap.size, 3, none⟩ = some (.slice Ad pda.length cd) := ⟨hXa.c0, by rw [<- HMO.out]; exact hXa.c5, (H7.out.2.1.alloc _).cell 3⟩
           have ks7ad : (w7.alloc (.cells #[.int .i64 0, .int .i64 0] 53)).drew.cell? ⟨F.s, 0, none⟩ = some (.pointer (some ⟨F.d, 0, none⟩)) ∧ (w7.alloc (.cells #[.int .i64 0, .int .i64 0] 53)).drew.cell? ⟨F.s, 5, none⟩ = some (.int .i64 z) ∧ (w7.alloc (.cells #[.int .i64 0, .int .i64 0] 53)).drew.cell? ⟨wr.heap.size, 3, none⟩ = some (.slice Ad pda.length cd) := ks7a
           clear hkk hzP hdl hrm hb7 hXa HA hzbm
           go_region_held3 (fun u => u.cell? ⟨F.s, 0, none⟩ = some (.pointer (some ⟨F.d, 0, none⟩)) ∧ u.cell? ⟨F.s, 5, none⟩ = some (.int .i64 z) ∧ u.cell? ⟨wr.heap.size, 3, none⟩ = some (.slice Ad pda.length cd))
             (first | with_reducible exact ks7 | with_reducible exact ks7a | with_reducible exact ks8 | with_reducible exact ks8a | with_reducible exact ks8b | with_reducible exact ks8z | with_reducible exact ks8y | with_reducible exact ks7d | with_reducible exact ks7ad)
             (first
               | (go_at_call 85
                  with_reducible refine HA1.out.mono ?_
                  rintro e w8 ⟨rfl, hd8, hk8⟩
                  have hst8 := H7.out.1.drew.onDev hk8 hd8
                  have hpb8 := hk8.blk (H7.out.2.1.drew) (fun e => e (.inl (.inr rfl)))
                  have ks8 : w8.cell? ⟨F.s, 0, none⟩ = some (.pointer (some ⟨F.d, 0, none⟩)) ∧ w8.cell? ⟨F.s, 5, none⟩ = some (.int .i64 z) ∧ w8.cell? ⟨wr.heap.size, 3, none⟩ = some (.slice Ad pda.length cd) := ⟨hst8.c0, by rw [<- HMO.out]; exact hst8.c5, hpb8.cell 3⟩
                  have hpb8a := hpb8.alloc (.cells #[.int .i64 z, .int .i64 kk] 53)
                  have hst8a := hst8.alloc (.cells #[.int .i64 z, .int .i64 kk] 53)
                  have ks8a : (w8.alloc (.cells #[.int .i64 z, .int .i64 kk] 53)).cell? ⟨F.s, 0, none⟩ = some (.pointer (some ⟨F.d, 0, none⟩)) ∧ (w8.alloc (.cells #[.int .i64 z, .int .i64 kk] 53)).cell? ⟨F.s, 5, none⟩ = some (.int .i64 z) ∧ (w8.alloc (.cells #[.int .i64 z, .int .i64 kk] 53)).cell? ⟨wr.heap.size, 3, none⟩ = some (.slice Ad pda.length cd) := ⟨hst8a.c0, hst8a.c5.trans (congrArg (fun v => some (Value.int .i64 v)) HMO.out), hpb8a.cell 3⟩
                  have ks8z : (w8.alloc (.cells #[.int .i64 0, .int .i64 0] 53)).cell? ⟨F.s, 0, none⟩ = some (.pointer (some ⟨F.d, 0, none⟩)) ∧ (w8.alloc (.cells #[.int .i64 0, .int .i64 0] 53)).cell? ⟨F.s, 5, none⟩ = some (.int .i64 z) ∧ (w8.alloc (.cells #[.int .i64 0, .int .i64 0] 53)).cell? ⟨wr.heap.size, 3, none⟩ = some (.slice Ad pda.length cd) := ⟨(hst8.alloc (.cells #[.int .i64 0, .int .i64 0] 53)).c0, (hst8.alloc (.cells #[.int .i64 0, .int .i64 0] 53)).c5.trans (congrArg (fun v => some (Value.int .i64 v)) HMO.out), (hpb8.alloc (.cells #[.int .i64 0, .int .i64 0] 53)).cell 3⟩
                  have ks8y : (w8.alloc (.cells #[.int .i64 z, .int .i64 0] 53)).cell? ⟨F.s, 0, none⟩ = some (.pointer (some ⟨F.d, 0, none⟩)) ∧ (w8.alloc (.cells #[.int .i64 z, .int .i64 0] 53)).cell? ⟨F.s, 5, none⟩ = some (.int .i64 z) ∧ (w8.alloc (.cells #[.int .i64 z, .int .i64 0] 53)).cell? ⟨wr.heap.size, 3, none⟩ = some (.slice Ad pda.length cd) := ⟨(hst8.alloc (.cells #[.int .i64 z, .int .i64 0] 53)).c0, (hst8.alloc (.cells #[.int .i64 z, .int .i64 0] 53)).c5.trans (congrArg (fun v => some (Value.int .i64 v)) HMO.out), (hpb8.alloc (.cells #[.int .i64 z, .int .i64 0] 53)).cell 3⟩
                  have hkx : Kp (fun b => ¬ X b) w7.drew w8 := hk8.mono (S' := fun b => ¬ X b) (fun b _ h hx => h (.inl (.inl hx)))
                  have H9 : Hid (StoreIs (fun b => X b ∨ b = wr.heap.size) (w8.alloc (.cells #[.int .i64 z, .int .i64 kk] 53)) F sh (n + 2 + 3 * k) { M with P := appP M.P z pda } ∧ Blk (w8.alloc (.cells #[.int .i64 z, .int .i64 kk] 53)) w8.heap.size 53 #[.int .i64 z, .int .i64 kk] ∧ Blk (w8.alloc (.cells #[.int .i64 z, .int .i64 kk] 53)) wr.heap.size 42 #[.int .u32 pt, .int .u64 pbl, .bool false, .slice Ad pda.length cd] ∧ Kp (fun b => ¬ X b) w (w8.alloc (.cells #[.int .i64 z, .int .i64 kk] 53)) ∧ PutsAt X (w8.alloc (.cells #[.int .i64 z, .int .i64 kk] 53)) (some ad) l ∧ ¬ F.f.T w8.heap.size) := ⟨hst8a, Blk.new w8 _ _, hpb8a,
                    ((((hr.out.2.1.trans (Kp.of_below (S := fun b => ¬ X b) H7.out.2.2) (fun _ _ h => h)).drewN 1).trans hkx (fun _ _ h => h)).trans (Kp.of_below (S := fun b => ¬ X b) ((Below.refl _ w8).alloc (Nat.le_refl _) _)) (fun _ _ h => h)),
                    (((hr.out.2.2.below H7.out.2.2).kx ((Kp.refl (fun b => ¬ X b) w7).drewN 1)).kx hkx).below ((Below.refl _ w8).alloc (Nat.le_refl _) _),
                    fun e => by have := hst8.own_lt (.inr (.inr (.inr (.inl (.inr e))))); omega⟩
                  clear hkx
                  clear hd8 hk8 hst8 hpb8 hpb8a hst8a)
               | (go_at_call 85
                  with_reducible refine HA2.out.mono ?_
                  rintro e w8 ⟨rfl, hd8, hk8⟩
                  have hst8 := HXA.out.1.drew.onDev hk8 hd8
                  have hpb8 := hk8.blk ((H7.out.2.1.alloc (.cells #[.int .i64 0, .int .i64 0] 53)).drew) (fun e => e (.inl (.inl (.inr rfl))))
                  have hbb8 := hk8.blk HXA.out.2.drew (fun e => e (.inl (.inr rfl)))
                  have ks8 : w8.cell? ⟨F.s, 0, none⟩ = some (.pointer (some ⟨F.d, 0, none⟩)) ∧ w8.cell? ⟨F.s, 5, none⟩ = some (.int .i64 z) ∧ w8.cell? ⟨wr.heap.size, 3, none⟩ = some (.slice Ad pda.length cd) := ⟨hst8.c0, by rw [<- HMO.out]; exact hst8.c5, hpb8.cell 3⟩
                  have v0 : w8.cell? ⟨w7.heap.size, 0, none⟩ = some (.int .i64 0) := hbb8.cell 0
                  have v1 : w8.cell? ⟨w7.heap.size, 1, none⟩ = some (.int .i64 0) := hbb8.cell 1
                  have vf : ∀ i, w8.frozen? ⟨w7.heap.size, i, none⟩ = false := fun i => hbb8.frozen i
                  have hkset := kp_set2 (Kp.refl (fun b => b = w7.heap.size) w8) (.inl rfl) (.int .i64 z) (.int .i64 kk)
                  have hst9 := hst8.far hkset (fun b e => .inr e)
                  have hpb9 := hkset.blk hpb8 (by have := H7.out.2.1.lt; omega)
                  have ks8b : ((w8.setCell ⟨w7.heap.size, 0, none⟩ (.int .i64 z)).setCell ⟨w7.heap.size, 1, none⟩ (.int .i64 kk)).cell? ⟨F.s, 0, none⟩ = some (.pointer (some ⟨F.d, 0, none⟩)) ∧ ((w8.setCell ⟨w7.heap.size, 0, none⟩ (.int .i64 z)).setCell ⟨w7.heap.size, 1, none⟩ (.int .i64 kk)).cell? ⟨F.s, 5, none⟩ = some (.int .i64 z) ∧ ((w8.setCell ⟨w7.heap.size, 0, none⟩ (.int .i64 z)).setCell ⟨w7.heap.size, 1, none⟩ (.int .i64 kk)).cell? ⟨wr.heap.size, 3, none⟩ = some (.slice Ad pda.length cd) := ⟨hst9.c0, hst9.c5.trans (congrArg (fun v => some (Value.int .i64 v)) HMO.out), hpb9.cell 3⟩
                  have hkx : Kp (fun b => ¬ X b) (w7.alloc (.cells #[.int .i64 0, .int .i64 0] 53)).drew w8 := hk8.mono (S' := fun b => ¬ X b) (fun b _ h hx => h (.inl (.inl (.inl hx))))
                  have hky : Kp (fun b => ¬ X b) w8 ((w8.setCell ⟨w7.heap.size, 0, none⟩ (.int .i64 z)).setCell ⟨w7.heap.size, 1, none⟩ (.int .i64 kk)) := hkset.mono (S' := fun b => ¬ X b) (fun b _ e hx => by have := H7.out.1.xlt (.inl hx); omega)
                  have hkb : Kp (fun b => ¬ X b) wr (w7.alloc (.cells #[.int .i64 0, .int .i64 0] 53)).drew := (Kp.of_below (S := fun b => ¬ X b) (H7.out.2.2.alloc H7.out.2.2.size _)).drewN 1
                  have H9 : Hid (StoreIs (fun b => X b ∨ b = wr.heap.size) ((w8.setCell ⟨w7.heap.size, 0, none⟩ (.int .i64 z)).setCell ⟨w7.heap.size, 1, none⟩ (.int .i64 kk)) F sh (n + 2 + 3 * k) { M with P := appP M.P z pda } ∧ Blk ((w8.setCell ⟨w7.heap.size, 0, none⟩ (.int .i64 z)).setCell ⟨w7.heap.size, 1, none⟩ (.int .i64 kk)) w7.heap.size 53 #[.int .i64 z, .int .i64 kk] ∧ Blk ((w8.setCell ⟨w7.heap.size, 0, none⟩ (.int .i64 z)).setCell ⟨w7.heap.size, 1, none⟩ (.int .i64 kk)) wr.heap.size 42 #[.int .u32 pt, .int .u64 pbl, .bool false, .slice Ad pda.length cd] ∧ Kp (fun b => ¬ X b) w ((w8.setCell ⟨w7.heap.size, 0, none⟩ (.int .i64 z)).setCell ⟨w7.heap.size, 1, none⟩ (.int .i64 kk)) ∧ PutsAt X ((w8.setCell ⟨w7.heap.size, 0, none⟩ (.int .i64 z)).setCell ⟨w7.heap.size, 1, none⟩ (.int .i64 kk)) (some ad) l ∧ ¬ F.f.T w7.heap.size) := ⟨hst9.less (fun b hb => .inl hb), blk_set2 hbb8 (.int .i64 z) (.int .i64 kk), hpb9,
                    ((hr.out.2.1.trans hkb (fun _ _ h => h)).trans hkx (fun _ _ h => h)).trans hky (fun _ _ h => h),
                    ((hr.out.2.2.kx hkb).kx hkx).kx hky,
                    fun e => HXA.out.1.nx _ (.inr (.inr (.inr (.inl (.inr e))))) (.inr rfl)⟩
                  clear hkx hky hkb
                  clear hd8 hk8 hst8 hpb8 hbb8 hkset hst9 hpb9))
           all_goals
            first
              | (have hb : ¬ F.f.T w8.heap.size := H9.out.2.2.2.2.2
                 clear hb
                 generalize w8.alloc (.cells #[.int .i64 z, .int .i64 kk] 53) = w9 at *
                 clear ks7 ks7a ks7d ks7ad HXA HA1 HA2 H7 hr ks8 ks8a ks8z ks8y
                 generalize w8.heap.size = b11 at *)
              | (have hb : ¬ F.f.T w7.heap.size := H9.out.2.2.2.2.2
                 clear hb
                 generalize (w8.setCell ⟨w7.heap.size, 0, none⟩ (.int .i64 z)).setCell ⟨w7.heap.size, 1, none⟩ (.int .i64 kk) = w9 at *
                 clear ks7 ks7a ks7d ks7ad HXA HA1 HA2 H7 hr ks8 ks8b v0 v1 vf
                 generalize w7.heap.size = b11 at *)
            have ks9 : w9.cell? ⟨F.s, 2, none⟩ = some (.pointer (some ⟨F.f.g, 0, none⟩)) ∧ w9.cell? ⟨wr.heap.size, 0, none⟩ = some (.int .u32 pt) ∧ w9.cell? ⟨wr.heap.size, 1, none⟩ = some (.int .u64 pbl) ∧ w9.cell? ⟨b11, 0, none⟩ = some (.int .i64 z) ∧ w9.cell? ⟨b11, 1, none⟩ = some (.int .i64 kk) := ⟨H9.out.1.c2, H9.out.2.2.1.cell 0, H9.out.2.2.1.cell 1, H9.out.2.1.cell 0, H9.out.2.1.cell 1⟩
            have HPT := Lib.hid (lput_any w9.drew F.f (n + 2 + 3 * k) M.L ⟨pt, pbl, z, kk⟩ ⟨HPV.out.n, ⟨by show -9223372036854775808 <= (z : Int); omega, by show (z : Int) <= 9223372036854775807; omega⟩, by show -9223372036854775808 <= (kk : Int); omega, by show (kk : Int) <= 9223372036854775807; omega⟩ H9.out.1.drew.lm (by have := H9.out.1.nn; unfold maxLen; omega))
            have HSL := Lib.hid (fun e : F.f.T F.s => (H9.out.1.ne.m _ (.inr e)).1 rfl)
            have HPL := Lib.hid (fun e : F.f.T wr.heap.size => H9.out.1.nx _ (.inr (.inr (.inr (.inl (.inr e))))) (.inr rfl))
            have HBL := Lib.hid H9.out.2.2.2.2.2
            go_wp2_with (fail)
            go_region_held3 (fun u => u.cell? ⟨F.s, 2, none⟩ = some (.pointer (some ⟨F.f.g, 0, none⟩)) ∧ u.cell? ⟨wr.heap.size, 0, none⟩ = some (.int .u32 pt) ∧ u.cell? ⟨wr.heap.size, 1, none⟩ = some (.int .u64 pbl) ∧ u.cell? ⟨b11, 0, none⟩ = some (.int .i64 z) ∧ u.cell? ⟨b11, 1, none⟩ = some (.int .i64 kk))
              (first | exact ks9 | exact ks10)
              (first
                | (go_at_call 89
                   refine HPT.out.mono ?_
                   rintro e w10 ⟨rfl, hl10, hk10⟩
                   have ks10 : w10.cell? ⟨F.s, 2, none⟩ = some (.pointer (some ⟨F.f.g, 0, none⟩)) ∧ w10.cell? ⟨wr.heap.size, 0, none⟩ = some (.int .u32 pt) ∧ w10.cell? ⟨wr.heap.size, 1, none⟩ = some (.int .u64 pbl) ∧ w10.cell? ⟨b11, 0, none⟩ = some (.int .i64 z) ∧ w10.cell? ⟨b11, 1, none⟩ = some (.int .i64 kk) :=
                    ⟨hk10.cell (w := w9.drew) ks9.1 HSL.out, hk10.cell (w := w9.drew) ks9.2.1 HPL.out, hk10.cell (w := w9.drew) ks9.2.2.1 HPL.out, hk10.cell (w := w9.drew) ks9.2.2.2.1 HBL.out, hk10.cell (w := w9.drew) ks9.2.2.2.2 HBL.out⟩
                   have H10 := Lib.hid (And.intro hl10 hk10)
                   clear hl10 hk10))
            all_goals
             have hst10 := (H9.out.1.drew.onMap H10.out.2 H10.out.1 (by omega) (by have := HN.out; have := HLT.out; omega)).less (X' := X) (fun b hb => .inl hb)
             have hk10 : Kp (fun b => ¬ X b) w9.drew w10 := H10.out.2.mono (fun b _ e hx => H9.out.1.nx b (.inr (.inr (.inr (.inl (.inr e))))) (.inl hx))
             have hk11 : Kp (fun b => ¬ X b) w w10 := (H9.out.2.2.2.1.drewN 1).trans hk10 (fun _ _ h => h)
             have hp11 : PutsAt X w10 (some ad) l := (H9.out.2.2.2.2.1.kx ((Kp.refl (fun b => ¬ X b) w9).drewN 1)).kx hk10
             have he : stepW M ⟨pt, pbl, false, pda⟩ = { M with P := appP M.P z pda, L := ⟨pt, pbl, z, kk⟩ :: free (cut M.L (pt, pbl)) (z, kk) } := by
              unfold stepW plM
              rw [if_neg Bool.false_ne_true, HMO.out]
              simp only [Int.toNat_natCast, HKK.out]
              rfl
             rw [he] at HTK
             have HN11 : Hid (StoreIs X w10 F sh (n + 2 + 3 * (k + 1)) ((l.take (k + 1)).foldl stepW (headW sh m l)) ∧ Kp (fun b => ¬ X b) w w10 ∧ PutsAt X w10 (some ad) l) := ⟨by
              rw [HTK.out]
              exact hst10.mono (by omega) (by have := HN.out; have := HLT.out; omega), hk11, hp11⟩
             clear ks9 ks10 hst10 hk10 hk11 hp11 HTK H9 H10 HPT HPL HSL HBL HAT HML HMO HDN HKK he
             go_wp2
             go_roundw
             case rel => exact ⟨k + 1, HLT.out, by go_num, HN11⟩
             case measure => have := HLT.out; simp [intOf]; omega
       · obtain rfl : k = l.length := by omega
         have hr1 := hr.out
         rw [List.take_length] at hr1
         have hfo := foldW_op l (headW sh m l)
         have hMop : (l.foldl stepW (headW sh m l)).op = z := hfo.1.trans HW.out.op
         have hMst : stateAt (l.foldl stepW (headW sh m l)).G z = 2 := by rw [hfo.2.1]; exact HW.out.st
         have HLF := Lib.hid (left_any X wr F sh _ (l.foldl stepW (headW sh m l)) z hMop hr1.1)
         have HM : Hid (writeM sh m l = if leftM sh (l.foldl stepW (headW sh m l)) = 0 then fillM (l.foldl stepW (headW sh m l)) else l.foldl stepW (headW sh m l)) := rfl
         have HLM : Hid (leftM sh (l.foldl stepW (headW sh m l)) = (sh.zb : Int) - (((l.foldl stepW (headW sh m l)).P.getD z pt0).bs.length : Nat)) := by unfold Hid leftM; rw [hMop]; rfl
         have HFL := Lib.hid (fun u (hu : StoreIs X u F sh (n + 2 + 3 * l.length) (l.foldl stepW (headW sh m l))) => sfill_any X u F sh _ (l.foldl stepW (headW sh m l)) z hMop hMst hu)
         have hzi : (sh.zb : Int) - (((l.foldl stepW (headW sh m l)).P.getD z pt0).bs.length : Nat) <= 4096 ∧ -4096 <= (sh.zb : Int) - (((l.foldl stepW (headW sh m l)).P.getD z pt0).bs.length : Nat) := by
          have h1 := hr1.1.dev.sz
          have h3 : (l.foldl stepW (headW sh m l)).P.length = sh.z := h1
          have h2 := (hr1.1.dev.fit (show z < (l.foldl stepW (headW sh m l)).P.length by rw [h3]; exact HW.out.zl)).fit
          have := HOK.out.facts
          omega
         clear hr hfo hMop hMst
         generalize (sh.zb : Int) - (((l.foldl stepW (headW sh m l)).P.getD z pt0).bs.length : Nat) = lf at *
         generalize l.foldl stepW (headW sh m l) = M at *
         have HR := Lib.hid hr1
         clear hr1
         have HNN : Hid (n + 2 + 3 * l.length <= n + 5 * l.length) := by have := HLZ.out; unfold Hid; omega
         by_cases hz : lf = 0
         · subst hz
           rw [HLM.out, if_pos rfl] at HM
           go_wp2_with (fail)
           refine HLF.out.mono ?_
           rintro e w8 ⟨rfl, hb8⟩
           have H8 := Lib.hid (And.intro (HR.out.1.below hb8) (HR.out.2.1.trans (Kp.of_below (S := fun b => ¬ X b) hb8) (fun _ _ h => h)))
           clear hb8
           go_wp2_with (fail)
           refine (HFL.out _ H8.out.1).mono ?_
           rintro e w9 ⟨rfl, h9, hk9⟩
           have H9 := Lib.hid (And.intro (h9.mono HNN.out HN.out) (H8.out.2.trans hk9 (fun _ _ h => h)))
           clear h9 hk9
           go_wp2
           go_end0
           exact ⟨rfl, by rw [HM.out]; exact H9.out⟩
         · rw [HLM.out, if_neg hz] at HM
           go_wp2_with (fail)
           refine HLF.out.mono ?_
           rintro e w8 ⟨rfl, hb8⟩
           have H8 := Lib.hid (And.intro ((HR.out.1.below hb8).mono HNN.out HN.out) (HR.out.2.1.trans (Kp.of_below (S := fun b => ¬ X b) hb8) (fun _ _ h => h)))
           clear hb8
           go_wp2
           go_end0
           exact ⟨rfl, by rw [HM.out]; exact H8.out⟩
end Go.Proofs.YtfabgbmbnmbjkaaGreatDoor

/- Pruned. -/
namespace Go.Proofs.YtfabgbmbnmbjkaaGreatDoor
open Go.RowKit
set_option maxRecDepth 20000
structure Good (sh : Sh) (m : StM) : Prop where
  gl : m.G.length = sh.z
  pl : m.P.length = sh.z
  op : 0 <= m.op -> stateAt m.G m.op = 2
  fr : ∀ z : Nat, stateAt m.G z = 1 -> (m.P.getD z pt0).bs = []
  uq : Uniq m.L
  at_ : ∀ p ∈ m.L, 0 <= p.z ∧ p.z < sh.z ∧ 0 <= p.k ∧ p.k.toNat < (m.P.getD p.z.toNat pt0).bs.length
def dataM (m : StM) (n : Int × Int) : Option (List Int) := (atOf m.L n).map fun a => (m.P.getD a.1.toNat pt0).bs.getD a.2.toNat []
def updD (D : Int × Int -> Option (List Int)) (p : Pv) : Int × Int -> Option (List Int) := fun n => if n = p.n then (if p.d then none else some p.da) else D n
theorem stateAt_in {G : List Int} {z : Int} (h : stateAt G z ≠ 0) : 0 <= z ∧ z < G.length := by
 unfold stateAt at h
 split at h
 · assumption
 · exact absurd rfl h
theorem stateAt_turn {G : List Int} {z : Int} (c y : Int) (h : stateAt G z ≠ 0) : stateAt (turnL G z c) y = if y = z then c else stateAt G y := by
 obtain ⟨h0, h1⟩ := stateAt_in h
 unfold stateAt turnL
 by_cases hy : y = z
 · subst hy
   rw [if_pos (by simp; omega), if_pos rfl, getD_set_same _ _ _ _ (by omega)]
 · rw [if_neg hy]
   simp only [List.length_set]
   by_cases hr : 0 <= y ∧ y < G.length
   · rw [if_pos hr, if_pos hr, getD_set_other _ _ _ _ _ (by omega)]
   · rw [if_neg hr, if_neg hr]
theorem Good.fill {sh : Sh} {m : StM} (h : Good sh m) (ho : 0 <= m.op) : Good sh (fillM m) := by
 have hs := h.op ho
 refine ⟨by simp [fillM, turnL, h.gl], h.pl, fun e => by simp [fillM] at e, fun z hz => ?_, h.uq, h.at_⟩
 simp only [fillM] at hz ⊢
 rw [stateAt_turn _ _ (by omega)] at hz
 split at hz
 · omega
 · exact h.fr z hz
theorem ready_good {sh : Sh} {m : StM} {need : Int} (h : Good sh m) : Good sh (readyM sh m need).2 ∧ dataM (readyM sh m need).2 = dataM m ∧ (readyM sh m need).2.seq = m.seq ∧ (readyM sh m need).2.L = m.L ∧ (readyM sh m need).2.P = m.P := by
 have h1 : Good sh (ready1 sh m need) ∧ dataM (ready1 sh m need) = dataM m ∧ (ready1 sh m need).seq = m.seq ∧ (ready1 sh m need).L = m.L ∧ (ready1 sh m need).P = m.P := by
  unfold ready1
  split
  · rename_i hc; exact ⟨h.fill hc.1, rfl, rfl, rfl, rfl⟩
  · exact ⟨h, rfl, rfl, rfl, rfl⟩
 unfold readyM
 simp only
 split
 · exact h1
 split
 · exact h1
 · rename_i hno hp
   obtain ⟨g1, d1, s1, l1, p1⟩ := h1
   have hst := placeI_state hp
   refine ⟨⟨by simp [turnL, g1.gl], g1.pl, fun _ => ?_, fun z hz => ?_, g1.uq, g1.at_⟩, d1, s1, l1, p1⟩
   · show stateAt (turnL _ _ 2) _ = 2
     rw [stateAt_turn _ _ (by omega), if_pos rfl]
   · have hz' : stateAt (turnL (ready1 sh m need).G (placeI 1 (ready1 sh m need).G 0) 2) z = 1 := hz
     rw [stateAt_turn _ _ (by omega)] at hz'
     split at hz'
     · omega
     · exact g1.fr z hz'
theorem ready_room {sh : Sh} {m : StM} {need : Int} (h : Good sh m) (hn : need <= sh.zb) (hr : (readyM sh m need).1 = true) : 0 <= (readyM sh m need).2.op ∧ need <= leftM sh (readyM sh m need).2 := by
 have h1 : Good sh (ready1 sh m need) ∧ (0 <= (ready1 sh m need).op -> need <= leftM sh (ready1 sh m need)) := by
  unfold ready1
  split
  · rename_i hc; exact ⟨h.fill hc.1, fun e => by simp [fillM] at e⟩
  · rename_i hc; exact ⟨h, fun e => by omega⟩
 unfold readyM at hr ⊢
 simp only at hr ⊢
 split
 · rename_i ho; exact ⟨ho, h1.2 ho⟩
 · rename_i ho
   rw [if_neg ho] at hr
   split
   · rename_i hp; rw [if_pos hp] at hr; cases hr
   · rename_i hp
     have hst := placeI_state hp
     have hin := stateAt_in (G := (ready1 sh m need).G) (z := placeI 1 (ready1 sh m need).G 0) (by omega)
     have hf := h1.1.fr (placeI 1 (ready1 sh m need).G 0).toNat (by rw [Int.toNat_of_nonneg hin.1]; exact hst)
     refine ⟨hin.1, ?_⟩
     unfold leftM
     simp only
     rw [hf]
     simpa using hn
theorem batchF_le (room : Int) (l : List Pv) (c : Int) : batchF room l c <= l.length := by
 induction l generalizing c with
 | nil => exact Nat.le_refl _
 | cons p r ih =>
   unfold batchF
   have h1 := ih c
   have h2 := ih (c + 1)
   simp only [List.length_cons]
   split
   · omega
   split
   · omega
   · omega
theorem batchF_data (room : Int) (l : List Pv) (c : Int) (hc : c <= room) : (dataN (l.take (batchF room l c)) : Int) + c <= room := by
 induction l generalizing c with
 | nil => simpa [batchF, dataN] using hc
 | cons p r ih =>
   unfold batchF
   split
   · rename_i hd
     have := ih c hc
     rw [Nat.add_comm, List.take_succ_cons]
     simpa [dataN, List.countP_cons, hd] using this
   · rename_i hd
     split
     · simpa [dataN] using hc
     · have := ih (c + 1) (by omega)
       rw [Nat.add_comm, List.take_succ_cons]
       simp only [dataN, List.countP_cons] at this ⊢
       have hd' : p.d = false := by simpa using hd
       rw [hd']
       simp only [Bool.not_false, if_true]
       omega
theorem batchF_one (room : Int) (p : Pv) (r : List Pv) (c : Int) (h : p.d = true ∨ c < room) : 1 <= batchF room (p :: r) c := by
 unfold batchF
 split
 · omega
 split
 · rename_i hd he
   rcases h with h | h
   · exact absurd h hd
   · omega
 · omega
theorem batch_facts {sh : Sh} {m : StM} {l : List Pv} (hok : sh.ok) (hl : 0 < l.length) (hleft : (if (l.getD 0 pv0).d then 1 else 2) <= leftM sh m) :
    1 <= batchM sh m l ∧ batchM sh m l <= l.length ∧ batchM sh m l <= roomN sh.bl ∧ (dataN (l.take (batchM sh m l)) : Int) + 1 <= leftM sh m := by
 have hb := hok.blk
 have hr : 1 <= roomN sh.bl := by unfold roomN; omega
 have hle := batchF_le (leftM sh m - 1) (l.take (min l.length (roomN sh.bl))) 0
 rw [List.length_take] at hle
 have h0 : (0 : Int) <= leftM sh m - 1 := by split at hleft <;> omega
 have hd := batchF_data (leftM sh m - 1) (l.take (min l.length (roomN sh.bl))) 0 h0
 have hone : 1 <= batchM sh m l := by
  unfold batchM
  cases l with
  | nil => simp at hl
  | cons p r =>
    obtain ⟨k, hk⟩ : ∃ k, min (p :: r).length (roomN sh.bl) = k + 1 := ⟨min (p :: r).length (roomN sh.bl) - 1, by simp only [List.length_cons]; omega⟩
    rw [hk, List.take_succ_cons]
    apply batchF_one
    simp only [List.getD_cons_zero] at hleft
    cases hd : p.d with
    | true => exact .inl rfl
    | false => rw [hd] at hleft; simp at hleft; right; omega
 unfold batchM at hone ⊢
 refine ⟨hone, by omega, by omega, ?_⟩
 rw [List.take_take] at hd
 rw [show min (batchF (leftM sh m - 1) (l.take (min l.length (roomN sh.bl))) 0) (min l.length (roomN sh.bl)) = batchF (leftM sh m - 1) (l.take (min l.length (roomN sh.bl))) 0 by omega] at hd
 omega
end Go.Proofs.YtfabgbmbnmbjkaaGreatDoor

/- Pruned. -/
namespace Go.Proofs.YtfabgbmbnmbjkaaGreatDoor
open Go.RowKit
set_option maxRecDepth 20000
theorem Good.app {sh : Sh} {m : StM} (h : Good sh m) (z : Nat) (b : List Int) (hz : stateAt m.G z = 2) : Good sh { m with P := appP m.P z b } ∧ dataM { m with P := appP m.P z b } = dataM m := by
 have hzl := stateAt_in (G := m.G) (z := z) (by omega)
 have hzP : z < m.P.length := by have := h.pl; have := h.gl; omega
 have hlen : ∀ i : Nat, (m.P.getD i pt0).bs.length <= ((appP m.P z b).getD i pt0).bs.length ∧ ∀ k, k < (m.P.getD i pt0).bs.length -> ((appP m.P z b).getD i pt0).bs.getD k [] = (m.P.getD i pt0).bs.getD k [] := by
  intro i
  by_cases hi : z = i
  · subst hi
    rw [appP_same _ _ _ hzP]
    refine ⟨by simp, fun k hk => ?_⟩
    generalize (m.P.getD z pt0).bs = q at *
    simp only [List.getD_eq_getElem?_getD]
    rw [List.getElem?_append_left hk]
  · rw [appP_other _ _ _ _ hi]
    exact ⟨Nat.le_refl _, fun _ _ => rfl⟩
 refine ⟨⟨h.gl, (appP_length _ _ _).trans h.pl, h.op, fun y hy => ?_, h.uq, fun p hp => ?_⟩, ?_⟩
 · show ((appP m.P z b).getD y pt0).bs = []
   have hne : z ≠ y := by
    intro e
    subst e
    have hy' : stateAt m.G (z : Int) = 1 := hy
    omega
   rw [appP_other _ _ _ _ hne]
   exact h.fr y hy
 · obtain ⟨a1, a2, a3, a4⟩ := h.at_ p hp
   exact ⟨a1, a2, a3, Nat.lt_of_lt_of_le a4 (hlen _).1⟩
 · funext n
   unfold dataM
   simp only
   cases he : atOf m.L n with
   | none => rfl
   | some a =>
     obtain ⟨p, hp, _, rfl⟩ := (atOf_some h.uq).1 he
     simp only [Option.map_some]
     exact congrArg some ((hlen _).2 _ (h.at_ p hp).2.2.2)
theorem headW_good {sh : Sh} {m : StM} (l : List Pv) (h : Good sh m) (ho : 0 <= m.op) : Good sh (headW sh m l) ∧ dataM (headW sh m l) = dataM m := by
 obtain ⟨z, hz⟩ := Int.eq_ofNat_of_zero_le ho
 have h1 := h.app z (recB sh m l) (by rw [<- hz]; exact h.op ho)
 have e : m.op.toNat = z := by omega
 unfold headW
 rw [e]
 exact ⟨⟨h1.1.gl, h1.1.pl, h1.1.op, h1.1.fr, h1.1.uq, h1.1.at_⟩, h1.2⟩
theorem stepW_good {sh : Sh} {m : StM} (p : Pv) (h : Good sh m) (ho : 0 <= m.op) : Good sh (stepW m p) ∧ dataM (stepW m p) = updD (dataM m) p := by
 unfold stepW
 cases hd : p.d with
 | true =>
   rw [if_pos rfl]
   refine ⟨⟨h.gl, h.pl, h.op, h.fr, h.uq.cut _, fun q hq => h.at_ q (mem_cut.1 hq).1⟩, ?_⟩
   funext n
   unfold dataM updD
   simp only [hd, if_true]
   by_cases hn : n = p.n
   · subst hn
     rw [if_pos rfl, atOf_cut_same]
     rfl
   · rw [if_neg hn, atOf_cut_other h.uq hn]
 | false =>
   rw [if_neg Bool.false_ne_true]
   obtain ⟨z, hz⟩ := Int.eq_ofNat_of_zero_le ho
   have hst : stateAt m.G z = 2 := by rw [<- hz]; exact h.op ho
   have hzl := stateAt_in (G := m.G) (z := z) (by omega)
   have hzP : z < m.P.length := by have := h.pl; have := h.gl; omega
   obtain ⟨h1, h2⟩ := h.app z p.da hst
   have e : m.op.toNat = z := by omega
   have hfree : inAt (cut m.L (plM m p).n) (plM m p).a = none := inAt_none.2 fun q hq hqa => by
    obtain ⟨a1, a2, a3, a4⟩ := h.at_ q (mem_cut.1 hq).1
    have e1 : q.z = m.op := congrArg Prod.fst hqa
    have e2 : q.k = ((m.P.getD m.op.toNat pt0).bs.length : Nat) := congrArg Prod.snd hqa
    rw [e1, e2] at a4
    omega
   rw [free_none hfree, e]
   refine ⟨⟨h1.gl, h1.pl, h1.op, h1.fr, (h.uq.cut _).cons atOf_cut_same hfree, fun q hq => ?_⟩, ?_⟩
   · rcases List.mem_cons.1 hq with rfl | hq
     · show 0 <= m.op ∧ m.op < sh.z ∧ (0 : Int) <= ((m.P.getD m.op.toNat pt0).bs.length : Nat) ∧ (((m.P.getD m.op.toNat pt0).bs.length : Nat) : Int).toNat < ((appP m.P z p.da).getD m.op.toNat pt0).bs.length
       rw [e, appP_same _ _ _ hzP]
       have := h.gl
       refine ⟨ho, by omega, by omega, by simp⟩
     · exact h1.at_ q (mem_cut.1 hq).1
   · funext n
     have h2n := congrFun h2 n
     unfold dataM updD at *
     simp only [hd, Bool.false_eq_true, if_false] at h2n ⊢
     rw [atOf_cons]
     by_cases hn : n = p.n
     · rw [if_pos (show n = (plM m p).n from hn), if_pos hn]
       show some (((appP m.P z p.da).getD m.op.toNat pt0).bs.getD (((m.P.getD m.op.toNat pt0).bs.length : Nat) : Int).toNat []) = some p.da
       rw [e, appP_same _ _ _ hzP]
       simp [List.getD_eq_getElem?_getD]
     · rw [if_neg (show ¬ n = (plM m p).n from hn), if_neg hn, show cut m.L (plM m p).n = cut m.L p.n from rfl, atOf_cut_other h.uq hn]
       exact h2n
theorem foldW_good {sh : Sh} (l : List Pv) {m : StM} (h : Good sh m) (ho : 0 <= m.op) : Good sh (l.foldl stepW m) ∧ dataM (l.foldl stepW m) = l.foldl updD (dataM m) := by
 induction l generalizing m with
 | nil => exact ⟨h, rfl⟩
 | cons p r ih =>
   obtain ⟨h1, h2⟩ := stepW_good p h ho
   have := ih h1 (by rw [(stepW_op m p).1]; exact ho)
   rw [h2] at this
   exact this
theorem writeM_good {sh : Sh} {m : StM} (l : List Pv) (h : Good sh m) (ho : 0 <= m.op) : Good sh (writeM sh m l) ∧ dataM (writeM sh m l) = l.foldl updD (dataM m) ∧ (writeM sh m l).seq = m.seq + 1 := by
 obtain ⟨h1, h2⟩ := headW_good l h ho
 obtain ⟨h3, h4⟩ := foldW_good l h1 ho
 have hs : (l.foldl stepW (headW sh m l)).seq = m.seq + 1 := (foldW_op l (headW sh m l)).2.2.1
 have hop : (l.foldl stepW (headW sh m l)).op = m.op := (foldW_op l (headW sh m l)).1
 rw [h2] at h4
 unfold writeM
 simp only
 split
 · exact ⟨h3.fill (by rw [hop]; exact ho), h4, hs⟩
 · exact ⟨h3, h4, hs⟩
def needM (l : List Pv) : Int := if (l.getD 0 pv0).d then 1 else 2
def putL (sh : Sh) : Nat -> StM -> List Pv -> Int × StM
  | 0, m, _ => (0, m)
  | f + 1, m, l => if l.length = 0 then (0, m) else
    let r := readyM sh m (needM l)
    if r.1 then putL sh f (writeM sh r.2 (l.take (batchM sh r.2 l))) (l.drop (batchM sh r.2 l)) else (160, r.2)
def argOk (sh : Sh) (l : List Pv) : Bool := l.all fun p => p.d || p.da.length == sh.bl
def putM (sh : Sh) (m : StM) (l : List Pv) : Int × StM := if argOk sh l then putL sh l.length m l else (1, m)
theorem putL_good {sh : Sh} (hok : sh.ok) (f : Nat) {m : StM} {l : List Pv} (h : Good sh m) (hf : l.length <= f) :
    Good sh (putL sh f m l).2 ∧ m.seq <= (putL sh f m l).2.seq ∧ (putL sh f m l).2.seq <= m.seq + l.length ∧ ((putL sh f m l).1 = 0 ∨ (putL sh f m l).1 = 160) ∧ ((putL sh f m l).1 = 0 -> dataM (putL sh f m l).2 = l.foldl updD (dataM m) ∧ (0 < l.length -> m.seq + 1 <= (putL sh f m l).2.seq)) := by
 induction f generalizing m l with
 | zero =>
   have : l = [] := List.eq_nil_of_length_eq_zero (by omega)
   subst this
   exact ⟨h, Int.le_refl _, by simp [putL], .inl rfl, fun _ => ⟨rfl, fun e => by simp at e⟩⟩
 | succ f ih =>
   unfold putL
   split
   · have : l = [] := List.eq_nil_of_length_eq_zero (by assumption)
     subst this
     exact ⟨h, Int.le_refl _, by simp, .inl rfl, fun _ => ⟨rfl, fun e => by simp at e⟩⟩
   · rename_i hl
     simp only
     obtain ⟨g1, d1, s1, _, _⟩ := ready_good (need := needM l) h
     split
     · rename_i hr
       obtain ⟨ho, hroom⟩ := ready_room h (by have := hok.facts; unfold needM; split <;> omega) hr
       generalize readyM sh m (needM l) = r at *
       obtain ⟨b1, b2, b3, b4⟩ := batch_facts (l := l) (m := r.2) hok (by omega) (by unfold needM at hroom; exact hroom)
       obtain ⟨g2, d2, s2⟩ := writeM_good (l.take (batchM sh r.2 l)) g1 ho
       obtain ⟨i1, i2, i3, i4, i5⟩ := ih (l := l.drop (batchM sh r.2 l)) g2 (by simp; omega)
       rw [List.length_drop] at i3
       rw [s2, s1] at i2 i3
       refine ⟨i1, Int.le_trans (Int.le_add_one (Int.le_refl _)) i2, Int.le_trans i3 (by omega), i4, fun e => ?_⟩
       obtain ⟨i6, _⟩ := i5 e
       refine ⟨?_, fun _ => i2⟩
       rw [i6, d2, d1, <- List.foldl_append, List.take_append_drop]
     · exact ⟨g1, by show m.seq <= (readyM sh m (needM l)).2.seq; omega, by show (readyM sh m (needM l)).2.seq <= _; omega, .inr rfl, fun e => by simp at e⟩
end Go.Proofs.YtfabgbmbnmbjkaaGreatDoor

/- Pruned. -/
namespace Go.Proofs.YtfabgbmbnmbjkaaGreatDoor
open Go.RowKit
set_option maxRecDepth 20000
theorem putL_nil (sh : Sh) (f : Nat) (m : StM) : putL sh f m [] = (0, m) := by cases f <;> rfl
theorem putL_fuel (sh : Sh) (hok : sh.ok) (f g : Nat) {m : StM} {l : List Pv} (h : Good sh m) (hf : l.length <= f) (hg : l.length <= g) : putL sh f m l = putL sh g m l := by
 induction f generalizing g m l with
 | zero =>
   obtain rfl : l = [] := List.eq_nil_of_length_eq_zero (by omega)
   rw [putL_nil, putL_nil]
 | succ f ih =>
   by_cases hl : l.length = 0
   · obtain rfl : l = [] := List.eq_nil_of_length_eq_zero hl
     rw [putL_nil, putL_nil]
   · obtain ⟨k, rfl⟩ : ∃ k, g = k + 1 := ⟨g - 1, by omega⟩
     unfold putL
     rw [if_neg hl, if_neg hl]
     simp only
     split
     · rename_i hr
       obtain ⟨g1, _⟩ := ready_good (need := needM l) h
       obtain ⟨ho, hroom⟩ := ready_room h (by have := hok.facts; unfold needM; split <;> omega) hr
       obtain ⟨b1, b2, _⟩ := batch_facts (l := l) (m := (readyM sh m (needM l)).2) hok (by omega) hroom
       obtain ⟨g2, _⟩ := writeM_good (l.take (batchM sh (readyM sh m (needM l)).2 l)) g1 ho
       exact ih k g2 (by simp; omega) (by simp; omega)
     · rfl
theorem putL_false (sh : Sh) (m : StM) (l : List Pv) (hl : 0 < l.length) (h : (readyM sh m (needM l)).1 = false) : putL sh l.length m l = (160, (readyM sh m (needM l)).2) := by
 obtain ⟨k, hk⟩ : ∃ k, l.length = k + 1 := ⟨l.length - 1, by omega⟩
 rw [hk]
 unfold putL
 rw [if_neg (by omega)]
 simp only [h]
 rfl
theorem putL_true (sh : Sh) (hok : sh.ok) (m : StM) (l : List Pv) (hl : 0 < l.length) (h : Good sh m) (hr : (readyM sh m (needM l)).1 = true) (hp : ∀ p ∈ l, PvOk p) (hd : ∀ p ∈ l, p.d = false -> p.da.length = sh.bl) :
    ∃ (z k : Nat) (m1 : StM), (readyM sh m (needM l)).2 = m1 ∧ batchM sh m1 l = k ∧ m1.op = z ∧ Good sh m1 ∧ 1 <= k ∧ k <= l.length ∧ WriteOk sh m1 (l.take k) z ∧ Good sh (writeM sh m1 (l.take k)) ∧ putL sh l.length m l = putL sh (l.drop k).length (writeM sh m1 (l.take k)) (l.drop k) := by
 obtain ⟨g1, _⟩ := ready_good (need := needM l) h
 obtain ⟨ho, hroom⟩ := ready_room h (by have := hok.facts; unfold needM; split <;> omega) hr
 obtain ⟨b1, b2, b3, b4⟩ := batch_facts (l := l) (m := (readyM sh m (needM l)).2) hok hl hroom
 obtain ⟨g2, _⟩ := writeM_good (l.take (batchM sh (readyM sh m (needM l)).2 l)) g1 ho
 have hput : putL sh l.length m l = putL sh (l.length - 1) (writeM sh (readyM sh m (needM l)).2 (l.take (batchM sh (readyM sh m (needM l)).2 l))) (l.drop (batchM sh (readyM sh m (needM l)).2 l)) := by
  obtain ⟨k, hk⟩ : ∃ k, l.length = k + 1 := ⟨l.length - 1, by omega⟩
  rw [hk]
  conv => lhs; unfold putL
  rw [if_neg (by omega)]
  simp only [hr, if_true, Nat.add_sub_cancel]
 obtain ⟨z, hz⟩ := Int.eq_ofNat_of_zero_le ho
 refine ⟨z, _, _, rfl, rfl, hz, g1, b1, b2, ?_, g2, ?_⟩
 · have hst := g1.op ho
   rw [hz] at hst
   have hin := stateAt_in (G := (readyM sh m (needM l)).2.G) (z := z) (by omega)
   have hgl := g1.gl
   refine ⟨hz, hst, by omega, by simp; omega, by simp; omega, ?_, fun p hp' => hp p (List.mem_of_mem_take hp'), fun p hp' => hd p (List.mem_of_mem_take hp')⟩
   have h2 : leftM sh (readyM sh m (needM l)).2 = (sh.zb : Int) - (((readyM sh m (needM l)).2.P.getD z pt0).bs.length : Nat) := by unfold leftM; rw [hz]; rfl
   omega
 · rw [hput]
   exact putL_fuel sh hok _ _ g2 (by simp; omega) (Nat.le_refl _)
theorem argOk_false {sh : Sh} {l : List Pv} {k : Nat} (h : k < l.length) (h1 : (l.getD k pv0).d = false) (h2 : (l.getD k pv0).da.length ≠ sh.bl) : argOk sh l = false := by
 have hm := getD_mem (d := pv0) h
 generalize l.getD k pv0 = p at *
 apply Bool.eq_false_iff.2
 intro ht
 have := List.all_eq_true.1 ht p hm
 simp [h1, h2] at this
theorem argOk_true {sh : Sh} {l : List Pv} (h : ∀ k, k < l.length -> (l.getD k pv0).d = true ∨ (l.getD k pv0).da.length = sh.bl) : argOk sh l = true := by
 apply List.all_eq_true.2
 intro p hp
 obtain ⟨k, hk, rfl⟩ := List.getElem_of_mem hp
 have := h k hk
 rw [List.getD_eq_getElem?_getD, List.getElem?_eq_getElem hk] at this
 simp only [Option.getD_some] at this
 rcases this with h | h <;> simp [h]
def lenOf : Value -> Nat
  | .slice _ n _ => n
  | _ => 0
theorem elem_put : Tryz.prog.underlying 32 = some (.slice (Tryz.prog.elem 32)) := by kernel_rfl
theorem size_put (u : World) : (sizeOf (Tryz.prog.elem 32)).run Tryz.prog u = .ok 4 u := by
 kernel_rfl
theorem run_front_put (A : Option Addr) (n c hi : Nat) (h : hi <= c) (u : World) :
    (Instr.slice 32 (.slice A n c) none (some (.int .i64 (hi : Int))) none).run Tryz.prog u = .ok (.slice (if c = 0 then A else A.map (·.add 0)) hi c) u := by
 rw [run_slice_h u _ A n c elem_put .i64 (hi : Int) (by omega) (by omega), size_put]
 simp only [Result.andThen, sliced, Int.toNat_natCast, Nat.zero_mul, Nat.sub_zero]
theorem run_back_put (A : Option Addr) (n c lo : Nat) (h : lo <= n) (u : World) :
    (Instr.slice 32 (.slice A n c) (some (.int .i64 (lo : Int))) none none).run Tryz.prog u = .ok (.slice (if c = lo then A else A.map (·.add (lo * 4))) (n - lo) (c - lo)) u := by
 rw [run_slice_l u _ A n c elem_put .i64 (lo : Int) (by omega) (by omega), size_put]
 simp only [Result.andThen, sliced, Int.toNat_natCast]
end Go.Proofs.YtfabgbmbnmbjkaaGreatDoor

/- Pruned. -/
namespace Go.Proofs.YtfabgbmbnmbjkaaGreatDoor
open Go.RowKit
set_option maxRecDepth 20000
structure PutInv (X : Nat -> Prop) (w wr : World) (F : StF) (sh : Sh) (N : Nat) (r : Int × StM) (A : Option Addr) (c : Nat) (l : List Pv) (m : StM) (n : Nat) : Prop where
  st : StoreIs X wr F sh n m
  kp : Kp (fun b => ¬ X b) w wr
  pa : PutsAt X wr A l
  cap : l.length <= c
  good : Good sh m
  pv : ∀ p ∈ l, PvOk p
  da : ∀ p ∈ l, p.d = false -> p.da.length = sh.bl
  nn : n + 5 * l.length <= N
  eq : r = putL sh l.length m l
set_option maxHeartbeats 4000000 in
theorem put_any (X : Nat -> Prop) (w : World) (F : StF) (sh : Sh) (n : Nat) (m : StM) (A : Option Addr) (c : Nat) (l : List Pv) (hl : l.length <= 100000) (hc : l.length <= c) (hp : PutsAt X w A l) (hv : ∀ p ∈ l, PvOk p) (hg : Good sh m) (hn : n + 5 * l.length <= 1000000) (h : StoreIs X w F sh n m) :
    Calls Tryz.prog 39 #[.pointer (some ⟨F.s, 0, none⟩), .slice A l.length c] w (fun e w' => e = .returned (.int .u16 (putM sh m l).1) ∧ StoreIs X w' F sh (n + 5 * l.length) (putM sh m l).2 ∧ Kp (fun b => ¬ X b) w w') := by
 have hok := h.dev.ok
 have hbl := hok.blk
 have H := Lib.hid h
 have HP := Lib.hid hp
 have HV := Lib.hid hv
 have HG := Lib.hid hg
 have HN := Lib.hid hn
 have HC := Lib.hid hc
 have HOK := Lib.hid hok
 have HS := Lib.hid (fun u (hu : StoreIs X u F sh n m) => shape_any _ u F.d sh m.P hu.dev)
 unfold shV at HS
 have hfl := field_sh2 sh.z sh.zb sh.bl sh.rs
 clear h hp hv hg hn hc hok
 go_enter Tryz.func39, Tryz.ntmps39
 go_wp2_with (fail)
 go_loopw [11] (fun i wr => ∃ k : Nat, k <= l.length ∧ i = .int .i64 k ∧ Hid (Below w.heap.size w wr ∧ ∀ j, j < k -> (l.getD j pv0).d = true ∨ (l.getD j pv0).da.length = sh.bl)) (fun i _ => l.length - (intOf i).toNat)
 case atStart => exact ⟨0, Nat.zero_le _, rfl, ⟨Below.refl _ _, fun j hj => by omega⟩⟩
 case round =>
  obtain ⟨k, hk, rfl, hr⟩ := hrel
  by_cases hlt : k < l.length
  · have hpw := HP.out.below hr.out.1
    obtain ⟨ad, Ad, cd, rfl, hat⟩ := hpw k hlt
    have p0 := hat.c0
    have p1 := hat.c1
    have p2 := hat.c2
    have p3 := hat.c3
    have HPV := Lib.hid (HV.out _ (getD_mem (d := pv0) hlt))
    have HDA : Hid ((l.getD k pv0).d = false -> (l.getD k pv0).da.length ≠ sh.bl -> argOk sh l = false) := argOk_false hlt
    have HNX : Hid (((l.getD k pv0).d = true ∨ (l.getD k pv0).da.length = sh.bl) -> ∀ j, j < k + 1 -> (l.getD j pv0).d = true ∨ (l.getD j pv0).da.length = sh.bl) := fun h j hj => by
     rcases Nat.lt_or_ge j k with h' | h'
     · exact hr.out.2 j h'
     · rw [show j = k by omega]; exact h
    have HLT := Lib.hid hlt
    have HST := Lib.hid (H.out.below hr.out.1)
    have HB := Lib.hid hr.out.1
    have c0 := HST.out.c0
    clear hpw hat hr
    generalize l.getD k pv0 = p at *
    obtain ⟨pt, pbl, pd, pda⟩ := p
    simp only at p0 p1 p2 p3 HDA HNX
    go_upto_region 4 with (fail)
    have hb5 : Below w.heap.size w (wr.alloc (.cells #[.int .u32 pt, .int .u64 pbl, .bool pd, .slice Ad pda.length cd] 42)) := HB.out.alloc HB.out.size _
    have hpb := Blk.new wr 42 #[.int .u32 pt, .int .u64 pbl, .bool pd, .slice Ad pda.length cd]
    have HB5 := Lib.hid (And.intro hb5 hpb)
    have HST5 := Lib.hid (H.out.below hb5)
    have hpl := HPV.out.len
    simp only at hpl
    clear hb5 hpb p0 p1 p2 p3 c0 HST HB HPV
    generalize wr.heap.size = b5 at *
    generalize wr.alloc (.cells #[.int .u32 pt, .int .u64 pbl, .bool pd, .slice Ad pda.length cd] 42) = w5 at *
    have ks : w5.cell? ⟨b5, 2, none⟩ = some (.bool pd) ∧ w5.cell? ⟨b5, 3, none⟩ = some (.slice Ad pda.length cd) ∧ w5.cell? ⟨F.s, 0, none⟩ = some (.pointer (some ⟨F.d, 0, none⟩)) := ⟨HB5.out.2.cell 2, HB5.out.2.cell 3, HST5.out.c0⟩
    have HS5 := Lib.hid (HS.out _ HST5.out.drew)
    cases pd with
    | true =>
      obtain ⟨kk2, kk3, kk0⟩ := ks
      go_quiet (fail)
      all_goals
       have HN6 : Hid (Below w.heap.size w (w5.drewN nq) ∧ ∀ j, j < k + 1 -> (l.getD j pv0).d = true ∨ (l.getD j pv0).da.length = sh.bl) := ⟨HB5.out.1.trans ⟨rfl, rfl, rfl, Nat.le_refl _, fun _ _ => rfl⟩, HNX.out (.inl rfl)⟩
       clear kk2 kk3 kk0 HS5 HST5 HB5 HDA HNX
       go_wp2
       go_roundw
       case rel => exact ⟨k + 1, HLT.out, by go_num, HN6⟩
       case measure => have := HLT.out; simp [intOf]; omega
    | false =>
      by_cases hle : pda.length = sh.bl
      · have hle' : (pda.length : Int) = sh.bl := by omega
        obtain ⟨kk2, kk3, kk0⟩ := ks
        go_region_law (first
          | (go_simp
             go_at_call 75
             with_reducible refine HS5.out.mono ?_
             rintro e w6 ⟨rfl, hb6⟩
             have k2 : w6.cell? ⟨b5, 2, none⟩ = some (.bool false) := below_keep hb6 kk2
             have k3 : w6.cell? ⟨b5, 3, none⟩ = some (.slice Ad pda.length cd) := below_keep hb6 kk3
             have k0 : w6.cell? ⟨F.s, 0, none⟩ = some (.pointer (some ⟨F.d, 0, none⟩)) := below_keep hb6 kk0
             have HB6 := Lib.hid (HB5.out.1.drew.trans (hb6.mono HB5.out.1.drew.size))
             clear hb6))
        all_goals
         have HN6 : Hid (Below w.heap.size w w6 ∧ ∀ j, j < k + 1 -> (l.getD j pv0).d = true ∨ (l.getD j pv0).da.length = sh.bl) := ⟨HB6.out, HNX.out (.inr hle)⟩
         clear kk2 kk3 kk0 k2 k3 k0 HS5 HST5 HB5 HDA HNX HB6
         go_wp2
         go_roundw
         case rel => exact ⟨k + 1, HLT.out, by go_num, HN6⟩
         case measure => have := HLT.out; simp [intOf]; omega
      · have hle' : ¬ (pda.length : Int) = sh.bl := by omega
        have HAF := Lib.hid (HDA.out rfl hle)
        obtain ⟨kk2, kk3, kk0⟩ := ks
        go_region_law (first
          | (go_simp
             go_at_call 75
             with_reducible refine HS5.out.mono ?_
             rintro e w6 ⟨rfl, hb6⟩
             have k2 : w6.cell? ⟨b5, 2, none⟩ = some (.bool false) := below_keep hb6 kk2
             have k3 : w6.cell? ⟨b5, 3, none⟩ = some (.slice Ad pda.length cd) := below_keep hb6 kk3
             have k0 : w6.cell? ⟨F.s, 0, none⟩ = some (.pointer (some ⟨F.d, 0, none⟩)) := below_keep hb6 kk0
             have HB6 := Lib.hid (HB5.out.1.drew.trans (hb6.mono HB5.out.1.drew.size))
             clear hb6))
        all_goals
         clear kk2 kk3 kk0 k2 k3 k0 HS5 HST5 HB5 HDA HNX
         go_wp2
         go_ret
         unfold putM
         rw [HAF.out, if_neg Bool.false_ne_true]
         exact ⟨rfl, (H.out.below HB6.out).mono (by omega) HN.out, Kp.of_below HB6.out⟩
  · obtain rfl : k = l.length := by omega
    have HDA : Hid (∀ p ∈ l, p.d = false -> p.da.length = sh.bl) := fun p hp hd => by
     obtain ⟨j, hj, rfl⟩ := List.getElem_of_mem hp
     have := hr.out.2 j hj
     rw [List.getD_eq_getElem?_getD, List.getElem?_eq_getElem hj] at this
     simp only [Option.getD_some] at this
     rcases this with h | h
     · rw [h] at hd; cases hd
     · exact h
    have HPM : Hid (putM sh m l = putL sh l.length m l) := by unfold Hid putM; rw [if_pos (argOk_true hr.out.2)]
    have H0 : Hid (PutInv X w wr F sh (n + 5 * l.length) (putL sh l.length m l) A c l m n) := ⟨H.out.below hr.out.1, Kp.of_below hr.out.1, HP.out.below hr.out.1, HC.out, HG.out, HV.out, HDA.out, Nat.le_refl _, rfl⟩
    clear hr HDA HS HP HV HG
    go_wp2_with (fail)
    go_loopw [1] (fun i wr => ∃ (l' : List Pv) (A' : Option Addr) (c' : Nat) (m' : StM) (n' : Nat), i = .slice A' l'.length c' ∧ l'.length <= l.length ∧ Hid (PutInv X w wr F sh (n + 5 * l.length) (putL sh l.length m l) A' c' l' m' n')) (fun i _ => lenOf i)
    case atStart => exact ⟨l, A, c, m, n, rfl, Nat.le_refl _, H0⟩
    case round =>
     obtain ⟨l', A', c', m', n', rfl, hle, hr⟩ := hrel
     clear H0
     by_cases hl' : 0 < l'.length
     · obtain ⟨ad, Ad, cd, rfl, hat⟩ := hr.out.pa 0 hl'
       have p2 := hat.c2
       simp only [Addr.add, Nat.zero_mul, if_true] at p2
       have HLL := Lib.hid hl'
       have HLE := Lib.hid hle
       have HRE := Lib.hid (ready_any X wr F sh n' m' (needM l') hr.out.st hr.out.good.op hr.out.good.gl)
       clear hat
       have hne : needM l' = if (l'.getD 0 pv0).d then 1 else 2 := rfl
       generalize (l'.getD 0 pv0).d = d0 at *
       cases hb : (readyM sh m' (needM l')).1 with
       | false =>
         have HE : Hid (putL sh l.length m l = (160, (readyM sh m' (needM l')).2)) := hr.out.eq.trans (putL_false sh m' l' hl' hb)
         have hre := HRE.out
         rw [hb] at hre
         generalize (readyM sh m' (needM l')).2 = m1 at *
         clear hb HRE
         cases d0 with
         | true =>
           rw [if_pos rfl] at hne
           rw [hne] at hre
           have HR := Lib.hid hre
           clear hre hne
           go_wp2_with (fail)
           refine HR.out.mono ?_
           rintro e w5 ⟨rfl, h5, hk5⟩
           have H5 := Lib.hid (And.intro h5 hk5)
           clear h5 hk5 p2
           go_wp2
           go_ret
           rw [HPM.out, HE.out]
           exact ⟨rfl, H5.out.1.mono (by have := hr.out.nn; omega) HN.out, hr.out.kp.trans H5.out.2 (fun _ _ h => h)⟩
         | false =>
           rw [if_neg Bool.false_ne_true] at hne
           rw [hne] at hre
           have HR := Lib.hid hre
           clear hre hne
           go_wp2_with (fail)
           refine HR.out.mono ?_
           rintro e w5 ⟨rfl, h5, hk5⟩
           have H5 := Lib.hid (And.intro h5 hk5)
           clear h5 hk5 p2
           go_wp2
           go_ret
           rw [HPM.out, HE.out]
           exact ⟨rfl, H5.out.1.mono (by have := hr.out.nn; omega) HN.out, hr.out.kp.trans H5.out.2 (fun _ _ h => h)⟩
       | true =>
         obtain ⟨z, k, m1, hm1, hbk, hz, hg1, hk1, hk2, hwo, hg2, heq⟩ := putL_true sh HOK.out m' l' hl' hr.out.good hb hr.out.pv hr.out.da
         have hre := HRE.out
         rw [hb, hm1] at hre
         have HF := Lib.hid (And.intro hbk (And.intro hz (And.intro hg1 (And.intro hwo (And.intro hg2 (hr.out.eq.trans heq))))))
         have HK := Lib.hid (And.intro hk1 hk2)
         have hlk : (l'.take k).length = k := by simp; omega
         have hld : (l'.drop k).length = l'.length - k := by simp
         have HLK := Lib.hid (And.intro hlk hld)
         have hnn : n' + 5 * k <= 1000000 := by have := hr.out.nn; have := HN.out; omega
         have HNN := Lib.hid hnn
         have hs1 := run_front_put (some ad) l'.length c' k (by have := hr.out.cap; omega)
         have hs2 := run_back_put (some ad) l'.length c' k hk2
         have HPF := Lib.hid (fun u (hu : PutsAt X u (some ad) l') => hu.front k c' hk2 hr.out.cap)
         have HPB := Lib.hid (fun u (hu : PutsAt X u (some ad) l') => hu.back k c' hr.out.cap)
         have hc0 : ¬ c' = 0 := by have := hr.out.cap; omega
         generalize (if c' = 0 then some ad else (some ad).map (·.add 0)) = A1 at *
         generalize (if c' = k then some ad else (some ad).map (·.add (k * 4))) = A2 at *
         clear hb HRE hm1 hbk hz hg1 hwo hg2 heq hlk hld hnn hc0 hk1 hk2
         cases d0 with
         | true =>
           rw [if_pos rfl] at hne
           rw [hne] at hre
           have HR := Lib.hid hre
           clear hre hne
           go_wp2_with (fail)
           refine HR.out.mono ?_
           rintro e w5 ⟨rfl, h5, hk5⟩
           have H5 := Lib.hid (And.intro h5 (And.intro (hr.out.kp.trans hk5 (fun _ _ h => h)) (hr.out.pa.kx hk5)))
           clear h5 hk5 p2
           have hba := batch_any X w5 F sh n' m1 z HF.out.2.1 (some ad) c' l' (by have := HLE.out; omega) H5.out.2.2 H5.out.1
           rw [HF.out.1] at hba
           have HBA := Lib.hid hba
           clear hba
           go_wp2_with (fail)
           refine HBA.out.mono ?_
           rintro e w6 ⟨rfl, hb6⟩
           have H6 := Lib.hid (And.intro (H5.out.1.below hb6) (And.intro (H5.out.2.1.trans (Kp.of_below (S := fun b => ¬ X b) hb6) (fun _ _ h => h)) (H5.out.2.2.below hb6)))
           clear hb6
           have hwr := write_any X w6 F sh n' m1 z A1 c' (l'.take k) HF.out.2.2.2.1 (HPF.out _ H6.out.2.2) (by rw [HLK.out.1]; exact HNN.out) H6.out.1
           rw [HLK.out.1] at hwr
           have HW := Lib.hid hwr
           clear hwr
           go_wp2_with (fail)
           refine HW.out.mono ?_
           rintro e w7 ⟨rfl, h7, hk7⟩
           have H7 : Hid (PutInv X w w7 F sh (n + 5 * l.length) (putL sh l.length m l) A2 (c' - k) (l'.drop k) (writeM sh m1 (l'.take k)) (n' + 5 * k)) := by
            have hh := hr.out.cap
            have hn := hr.out.nn
            have hk := HK.out
            exact ⟨h7, H6.out.2.1.trans hk7 (fun _ _ h => h), HPB.out _ (H6.out.2.2.kx hk7), by rw [HLK.out.2]; omega, HF.out.2.2.2.2.1, fun p hp => hr.out.pv p (List.mem_of_mem_drop hp), fun p hp => hr.out.da p (List.mem_of_mem_drop hp), by rw [HLK.out.2]; omega, HF.out.2.2.2.2.2⟩
           clear h7 hk7
           go_wp2
           go_roundw
           case rel => exact ⟨l'.drop k, A2, c' - k, _, _, by rw [HLK.out.2], by rw [HLK.out.2]; have := HLE.out; omega, H7⟩
           case measure => have h1 := HK.out; have h2 := HLL.out; simp only [lenOf]; omega
         | false =>
           rw [if_neg Bool.false_ne_true] at hne
           rw [hne] at hre
           have HR := Lib.hid hre
           clear hre hne
           go_wp2_with (fail)
           refine HR.out.mono ?_
           rintro e w5 ⟨rfl, h5, hk5⟩
           have H5 := Lib.hid (And.intro h5 (And.intro (hr.out.kp.trans hk5 (fun _ _ h => h)) (hr.out.pa.kx hk5)))
           clear h5 hk5 p2
           have hba := batch_any X w5 F sh n' m1 z HF.out.2.1 (some ad) c' l' (by have := HLE.out; omega) H5.out.2.2 H5.out.1
           rw [HF.out.1] at hba
           have HBA := Lib.hid hba
           clear hba
           go_wp2_with (fail)
           refine HBA.out.mono ?_
           rintro e w6 ⟨rfl, hb6⟩
           have H6 := Lib.hid (And.intro (H5.out.1.below hb6) (And.intro (H5.out.2.1.trans (Kp.of_below (S := fun b => ¬ X b) hb6) (fun _ _ h => h)) (H5.out.2.2.below hb6)))
           clear hb6
           have hwr := write_any X w6 F sh n' m1 z A1 c' (l'.take k) HF.out.2.2.2.1 (HPF.out _ H6.out.2.2) (by rw [HLK.out.1]; exact HNN.out) H6.out.1
           rw [HLK.out.1] at hwr
           have HW := Lib.hid hwr
           clear hwr
           go_wp2_with (fail)
           refine HW.out.mono ?_
           rintro e w7 ⟨rfl, h7, hk7⟩
           have H7 : Hid (PutInv X w w7 F sh (n + 5 * l.length) (putL sh l.length m l) A2 (c' - k) (l'.drop k) (writeM sh m1 (l'.take k)) (n' + 5 * k)) := by
            have hh := hr.out.cap
            have hn := hr.out.nn
            have hk := HK.out
            exact ⟨h7, H6.out.2.1.trans hk7 (fun _ _ h => h), HPB.out _ (H6.out.2.2.kx hk7), by rw [HLK.out.2]; omega, HF.out.2.2.2.2.1, fun p hp => hr.out.pv p (List.mem_of_mem_drop hp), fun p hp => hr.out.da p (List.mem_of_mem_drop hp), by rw [HLK.out.2]; omega, HF.out.2.2.2.2.2⟩
           clear h7 hk7
           go_wp2
           go_roundw
           case rel => exact ⟨l'.drop k, A2, c' - k, _, _, by rw [HLK.out.2], by rw [HLK.out.2]; have := HLE.out; omega, H7⟩
           case measure => have h1 := HK.out; have h2 := HLL.out; simp only [lenOf]; omega
     · obtain rfl : l' = [] := List.eq_nil_of_length_eq_zero (by omega)
       have HE : Hid (putL sh l.length m l = (0, m')) := hr.out.eq.trans (putL_nil sh _ m')
       go_wp2
       go_ret
       rw [HPM.out, HE.out]
       exact ⟨rfl, hr.out.st.mono (by have := hr.out.nn; omega) HN.out, hr.out.kp⟩
end Go.Proofs.YtfabgbmbnmbjkaaGreatDoor

/- Pruned. -/
namespace Go.Proofs.YtfabgbmbnmbjkaaGreatDoor
open Go.RowKit
set_option maxRecDepth 20000
theorem seq_any (X : Nat -> Prop) (w : World) (F : StF) (sh : Sh) (n : Nat) (m : StM) (h : StoreIs X w F sh n m) : Calls Tryz.prog 32 #[.pointer (some ⟨F.s, 0, none⟩)] w (fun e w' => e = .returned (.int .u64 m.seq) ∧ w = w') := by
 have c3 := h.c3
 clear h
 go_enter Tryz.func32, Tryz.ntmps32
 go_wp2
 go_returns
 exact ⟨rfl, rfl⟩
theorem map_any (X : Nat -> Prop) (w : World) (F : StF) (sh : Sh) (n : Nat) (m : StM) (h : StoreIs X w F sh n m) : Calls Tryz.prog 21 #[.pointer (some ⟨F.s, 0, none⟩)] w (fun e w' => e = .returned (.pointer (some ⟨F.f.g, 0, none⟩)) ∧ w = w') := by
 have c2 := h.c2
 clear h
 go_enter Tryz.func21, Tryz.ntmps21
 go_wp2
 go_returns
 exact ⟨rfl, rfl⟩
theorem dev_any (X : Nat -> Prop) (w : World) (F : StF) (sh : Sh) (n : Nat) (m : StM) (h : StoreIs X w F sh n m) : Calls Tryz.prog 27 #[.pointer (some ⟨F.s, 0, none⟩)] w (fun e w' => e = .returned (.pointer (some ⟨F.d, 0, none⟩)) ∧ w = w') := by
 have c0 := h.c0
 clear h
 go_enter Tryz.func27, Tryz.ntmps27
 go_wp2
 go_returns
 exact ⟨rfl, rfl⟩
def Got (sh : Sh) (m : StM) (nm : Int × Int) (w : World) (e : Ending) (w' : World) : Prop :=
 (dataM m nm = none -> e = .returned (.tuple #[.slice none 0 0, .bool false])) ∧ (∀ b, dataM m nm = some b -> ∃ A c, e = .returned (.tuple #[.slice A sh.bl c, .bool true]) ∧ BRow w' w.heap.size A c b ∧ b.length = sh.bl) ∧ Below w.heap.size w w'
theorem BRow.base {w : World} {B B' c : Nat} {A : Option Addr} {l : List Int} (h : BRow w B A c l) (hb : B' <= B) : BRow w B' A c l := by
 have h' : w.ownsRow B _ _ _ _ _ := h
 show w.ownsRow B' _ _ _ _ _
 refine ⟨h'.1, ?_⟩
 rcases h'.2 with hn | ⟨g, cap, cur, hv, hg, rest⟩
 · exact .inl hn
 · exact .inr ⟨g, cap, cur, hv, Nat.le_trans hb hg, rest⟩
theorem get_any (X : Nat -> Prop) (w : World) (F : StF) (sh : Sh) (n : Nat) (m : StM) (nm : Int × Int) (hm : NameOk nm) (hg : Good sh m) (h : StoreIs X w F sh n m) :
    Calls Tryz.prog 16 #[.pointer (some ⟨F.s, 0, none⟩), .int .u32 nm.1, .int .u64 nm.2] w (Got sh m nm w) := by
 have HG := lget_any w F.f n m.L nm hm h.lm
 have c2 := h.c2
 have H := Lib.hid h
 cases ha : atOf m.L nm with
 | none =>
   have HD : Hid (dataM m nm = none) := by unfold Hid dataM; rw [ha]; rfl
   rw [ha] at HG
   have HG := Lib.hid HG
   clear h ha hg
   go_enter Tryz.func16, Tryz.ntmps16
   go_wp2_with (fail)
   refine HG.out.mono ?_
   rintro e w1 ⟨rfl, hb1⟩
   have HB := Lib.hid hb1
   clear hb1 c2
   unfold addrV
   simp only [Option.getD_none, Option.isSome_none]
   go_wp2
   go_ret2
   exact ⟨fun _ => rfl, fun b hb => (by rw [HD.out] at hb; cases hb), HB.out.alloc HB.out.size _⟩
 | some a =>
   obtain ⟨p, hp, rfl, rfl⟩ := (atOf_some hg.uq).1 ha
   obtain ⟨a1, a2, a3, a4⟩ := hg.at_ p hp
   obtain ⟨z, hz⟩ := Int.eq_ofNat_of_zero_le a1
   obtain ⟨k, hk⟩ := Int.eq_ofNat_of_zero_le a3
   have hpa : p.a = ((z : Int), (k : Int)) := by unfold Pl.a; rw [hz, hk]
   have HD : Hid (dataM m p.n = some ((m.P.getD z pt0).bs.getD k [])) := by unfold Hid dataM; rw [ha, hpa]; rfl
   rw [ha, hpa] at HG
   have HG := Lib.hid HG
   have hpl := hg.pl
   rw [hz, hk] at a4
   have HR := Lib.hid (fun u (hu : StoreIs X u F sh n m) => zread_any _ u F.d sh m.P z k (by omega) (by simpa using a4) hu.dev)
   clear h ha hg hp a1 a2 a3 a4 hz hk hpa hpl
   go_enter Tryz.func16, Tryz.ntmps16
   go_wp2_with (fail)
   refine HG.out.mono ?_
   rintro e w1 ⟨rfl, hb1⟩
   have HB := Lib.hid (hb1.alloc hb1.size (.cells #[.int .i64 z, .int .i64 k] 53))
   have hnb := Blk.new w1 53 #[.int .i64 z, .int .i64 k]
   have HNB := Lib.hid hnb
   clear hb1 c2 hnb
   unfold addrV
   simp only [Option.getD_some, Option.isSome_some]
   go_upto_region 4 with (fail)
   generalize w1.alloc (.cells #[.int .i64 z, .int .i64 k] 53) = w2 at *
   generalize w1.heap.size = b8 at *
   have HST := Lib.hid (H.out.below HB.out)
   have ks : w2.cell? ⟨F.s, 0, none⟩ = some (.pointer (some ⟨F.d, 0, none⟩)) ∧ w2.cell? ⟨b8, 0, none⟩ = some (.int .i64 z) ∧ w2.cell? ⟨b8, 1, none⟩ = some (.int .i64 k) := ⟨HST.out.c0, HNB.out.cell 0, HNB.out.cell 1⟩
   have HR2 := Lib.hid (HR.out _ HST.out.drew)
   have HS := Lib.hid HB.out.size
   go_region_held3 (fun u => u.cell? ⟨F.s, 0, none⟩ = some (.pointer (some ⟨F.d, 0, none⟩)) ∧ u.cell? ⟨b8, 0, none⟩ = some (.int .i64 z) ∧ u.cell? ⟨b8, 1, none⟩ = some (.int .i64 k))
     (first | exact ks | exact ks2)
     (first
       | (go_at_call 49
          with_reducible refine HR2.out.mono ?_
          rintro e w3 ⟨A, c, rfl, hrow, hlen, hb3⟩
          have ks2 : w3.cell? ⟨F.s, 0, none⟩ = some (.pointer (some ⟨F.d, 0, none⟩)) ∧ w3.cell? ⟨b8, 0, none⟩ = some (.int .i64 z) ∧ w3.cell? ⟨b8, 1, none⟩ = some (.int .i64 k) := ⟨below_keep hb3 ks.1, below_keep hb3 ks.2.1, below_keep hb3 ks.2.2⟩
          have H3 := Lib.hid (And.intro hrow (And.intro hlen (HB.out.drew.trans (hb3.mono HS.out))))
          clear hrow hlen hb3))
   all_goals
    clear ks ks2
    go_wp2
    go_ret2
    refine ⟨fun hn => (by rw [HD.out] at hn; cases hn), fun b hb => ?_, H3.out.2.2⟩
    rw [HD.out] at hb
    obtain rfl := Option.some.inj hb
    exact ⟨A, c, rfl, H3.out.1.base HS.out, H3.out.2.1⟩
end Go.Proofs.YtfabgbmbnmbjkaaGreatDoor

/- Pruned. -/
namespace Go.Proofs.YtfabgbmbnmbjkaaGreatDoor
open Go.RowKit
set_option maxRecDepth 20000
theorem newL_length (z : Int) (h : 2 <= z) : (newL z).length = z.toNat := by simp [newL]; omega
theorem newL_frees (z : Int) (h : 2 <= z) : frees (newL z) = z - 2 := by
 unfold frees newL
 rw [List.countP_append, List.countP_replicate]
 simp
 omega
theorem news_ok {w : World} {g b : Nat} {z rs : Int} (h : SegIs w g b (newL z) rs (z - 2)) (hz : 6 <= z ∧ z <= 256) : SegOk w g b (newL z) rs := by
 rw [<- newL_frees z (by omega)] at h
 exact ⟨h, by rw [newL_length z (by omega)]; omega⟩
def newM (sh : Sh) (P : List Part) : StM := ⟨P, newL sh.z, [], 0, fun _ => none, -1, 0⟩
set_option maxHeartbeats 2000000 in
theorem on_any (X : Nat -> Prop) (w : World) (d : Nat) (sh : Sh) (P : List Part) (h : DevIs X w d sh P) :
    Calls Tryz.prog 43 #[.pointer (some ⟨d, 0, none⟩), .int .u64 0, .slice none 0 0, .slice none 0 0, .int .i64 0] w
      (fun e w' => ∃ F : StF, e = .returned (.pointer (some ⟨F.s, 0, none⟩)) ∧ F.d = d ∧ (∀ i, F.own i -> w.heap.size <= i) ∧ StoreIs X w' F sh 0 (newM sh P) ∧ Below w.heap.size w w') := by
 have hmm := @run_makeMap Tryz.prog
 have H := Lib.hid h
 have hok := h.ok
 have hf := hok.facts
 have HOK := Lib.hid hok
 have HSH := Lib.hid (shape_any X w d sh P h)
 unfold shV at HSH
 have HNW := Lib.hid (fun u => new_any sh.z sh.zb sh.bl sh.rs u (by omega) (by omega))
 clear h hok hf
 go_enter Tryz.func43, Tryz.ntmps43
 go_wp2_with (fail)
 refine HSH.out.mono ?_
 rintro e w1 ⟨rfl, hb1⟩
 have HB1 := Lib.hid hb1
 clear hb1
 go_wp2_with (fail)
 refine (HNW.out _).mono ?_
 rintro e w2 ⟨hy, _, hb2⟩
 obtain ⟨g, gb, rfl, hg, hgb, hseg⟩ := hy HOK.out.is
 have H2 := Lib.hid (And.intro hg (And.intro hgb (And.intro hseg (HB1.out.trans (hb2.mono HB1.out.size)))))
 clear hg hgb hseg hb2 hy
 go_wp2_with (fail)
 refine (lnew_any _).mono ?_
 rintro e w3 ⟨f, rfl, hf, hlm, hb3⟩
 have H3 := Lib.hid (And.intro hf (And.intro hlm hb3))
 clear hf hlm hb3
 go_wp2_with (fail)
 have hfin : Hid (∃ F : StF, F.s = w3.heap.size + 1 ∧ F.d = d ∧ (∀ i, F.own i -> w.heap.size <= i) ∧ StoreIs X ((w3.alloc (.map #[] 0)).alloc (.cells #[.pointer (some ⟨d, 0, none⟩), .pointer (some ⟨g, 0, none⟩), .pointer (some ⟨f.g, 0, none⟩), .int .u64 0, .map (some w3.heap.size), .int .i64 (-1), .int .i64 0] 92)) F sh 0 (newM sh P) ∧
     Below w.heap.size w ((w3.alloc (.map #[] 0)).alloc (.cells #[.pointer (some ⟨d, 0, none⟩), .pointer (some ⟨g, 0, none⟩), .pointer (some ⟨f.g, 0, none⟩), .int .u64 0, .map (some w3.heap.size), .int .i64 (-1), .int .i64 0] 92))) := by
  obtain ⟨hg, hgb, hseg, hb2⟩ := H2.out
  obtain ⟨hf, hlm, hb3⟩ := H3.out
  have hb1 := HB1.out
  have hz := HOK.out.facts
  have hsk := news_ok hseg (by omega)
  have hg2 := hseg.top.lt
  have hgb2 := hseg.row.lt
  have hne := hseg.ne_
  have h12 := hb1.size
  have h23 := hb2.size
  have h34 := hb3.size
  have hfl : ∀ i, f.S i -> i < w3.heap.size := fun i hi => hlm.lt hi
  have hbm : Below w3.heap.size w3 (w3.alloc (.map #[] 0)) := (Below.refl _ _).alloc (Nat.le_refl _) _
  have hbs : Below (w3.heap.size + 1) (w3.alloc (.map #[] 0)) ((w3.alloc (.map #[] 0)).alloc (.cells #[.pointer (some ⟨d, 0, none⟩), .pointer (some ⟨g, 0, none⟩), .pointer (some ⟨f.g, 0, none⟩), .int .u64 0, .map (some w3.heap.size), .int .i64 (-1), .int .i64 0] 92)) := (Below.refl _ _).alloc (by simp) _
  have hall : Below w.heap.size w ((w3.alloc (.map #[] 0)).alloc (.cells #[.pointer (some ⟨d, 0, none⟩), .pointer (some ⟨g, 0, none⟩), .pointer (some ⟨f.g, 0, none⟩), .int .u64 0, .map (some w3.heap.size), .int .i64 (-1), .int .i64 0] 92)) :=
   ((hb2.trans (hb3.mono h23)).trans (hbm.mono (by omega))).trans (hbs.mono (by omega))
  have hmap : MapF intC (Value.int .u64) ((w3.alloc (.map #[] 0)).alloc (.cells #[.pointer (some ⟨d, 0, none⟩), .pointer (some ⟨g, 0, none⟩), .pointer (some ⟨f.g, 0, none⟩), .int .u64 0, .map (some w3.heap.size), .int .i64 (-1), .int .i64 0] 92)) w3.heap.size 0 (fun _ => none) := (MapF.made w3 intC (Value.int .u64)).alloc _
  have hblk := Blk.new (w3.alloc (.map #[] 0)) 92 #[.pointer (some ⟨d, 0, none⟩), .pointer (some ⟨g, 0, none⟩), .pointer (some ⟨f.g, 0, none⟩), .int .u64 0, .map (some w3.heap.size), .int .i64 (-1), .int .i64 0]
  have hbms : Below w3.heap.size w3 ((w3.alloc (.map #[] 0)).alloc (.cells #[.pointer (some ⟨d, 0, none⟩), .pointer (some ⟨g, 0, none⟩), .pointer (some ⟨f.g, 0, none⟩), .int .u64 0, .map (some w3.heap.size), .int .i64 (-1), .int .i64 0] 92)) := hbm.trans (hbs.mono (by omega))
  have hown : ∀ i, (StF.mk (w3.heap.size + 1) d g gb f w3.heap.size).own i -> w.heap.size <= i ∧ i < w3.heap.size + 2 := by
   rintro i (h | h | h | hi | h)
   · have : i = w3.heap.size + 1 := h
     omega
   · have : i = g := h
     omega
   · have : i = gb := h
     omega
   · have := hf i hi; have := hfl i hi; omega
   · have : i = w3.heap.size := h
     omega
  refine ⟨⟨w3.heap.size + 1, d, g, gb, f, w3.heap.size⟩, rfl, rfl, fun i hi => (hown i hi).1, ?_, hall⟩
  simp only [World.size_alloc] at hblk
  refine ⟨hblk, H.out.move (fun b hlt _ => hall.block b hlt) (fun b hx => ?_), ⟨(hsk.1.below (hb3.trans (hbms.mono h34))), hsk.2⟩, hlm.below hbms, hmap, ⟨?_, ?_, ?_, ?_, ?_, ?_⟩, fun i hi hx => ?_, ⟨Int.le_refl _, by show (0 : Int) <= _; omega⟩, by omega, ⟨Int.le_refl _, by show (-1 : Int) < _; omega⟩⟩
  · rcases hx with hx | hx
    · have := H.out.cl b hx
      exact ⟨Nat.lt_of_lt_of_le this hall.size, .inl hx⟩
    · have := hown b hx
      refine ⟨?_, .inr this.1⟩
      simp
      omega
  · show w3.heap.size + 1 ≠ g; omega
  · show w3.heap.size + 1 ≠ gb; omega
  · intro i hi
    have h1 := hf i hi
    have h2 := hfl i hi
    exact ⟨by show i ≠ w3.heap.size + 1; omega, by show i ≠ g; omega, by show i ≠ gb; omega, by show i ≠ w3.heap.size; omega⟩
  · show w3.heap.size ≠ w3.heap.size + 1; omega
  · show w3.heap.size ≠ g; omega
  · show w3.heap.size ≠ gb; omega
  · have := (hown i hi).1
    have := H.out.cl i hx
    omega
 generalize (w3.alloc (.map #[] 0)).alloc (.cells #[.pointer (some ⟨d, 0, none⟩), .pointer (some ⟨g, 0, none⟩), .pointer (some ⟨f.g, 0, none⟩), .int .u64 0, .map (some w3.heap.size), .int .i64 (-1), .int .i64 0] 92) = w4 at *
 clear H HB1 H2 H3
 go_loopw [28] (fun i wr => i = .int .i64 0 ∧ wr = w4) (fun _ _ => 0)
 case atStart => exact ⟨rfl, rfl⟩
 case round =>
  obtain ⟨rfl, rfl⟩ := hrel
  go_wp2_with (fail)
  go_loopw [41] (fun i wr2 => i = .int .i64 0 ∧ wr2 = wr) (fun _ _ => 0)
  case atStart => exact ⟨rfl, rfl⟩
  case round =>
   obtain ⟨rfl, rfl⟩ := hrel
   go_wp2
   go_ret
   obtain ⟨F, hs, hd, ho, hst, hb⟩ := hfin.out
   exact ⟨F, by rw [hs]; rfl, hd, ho, hst, hb⟩
end Go.Proofs.YtfabgbmbnmbjkaaGreatDoor

