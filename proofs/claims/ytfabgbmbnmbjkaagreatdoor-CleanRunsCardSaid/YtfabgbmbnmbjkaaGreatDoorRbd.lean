/- Joined texts: Mk. -/
import Derived.Test.YtfabgbmbnmbjkaaGreatDoorRar
import Derived.Test.YtfabgbmbnmbjkaaGreatDoorRax
import Derived.Test.YtfabgbmbnmbjkaaGreatDoorRai
/- Pruned. -/
namespace Go.Proofs.YtfabgbmbnmbjkaaGreatDoor
open Go.RowKit
def riseL (L : List Pl) : List Pl := L.foldr putRef []
theorem riseL_twin {L : List Pl} (h : Uniq L) : Twin L (riseL L) := by
 induction L with
 | nil => exact ⟨List.Perm.refl _, List.Pairwise.nil⟩
 | cons p r ih =>
   have hr : Uniq r := (List.pairwise_cons.1 h).2
   have hp := (List.pairwise_cons.1 h).1
   have h1 := ih hr
   have hu : Uniq (riseL r) := hr.perm h1.perm.symm
   have e1 : cut (riseL r) p.n = riseL r := cut_none (atOf_none.2 fun q hq e => (hp q (h1.perm.mem_iff.1 hq)).1 e.symm)
   have e2 : free (riseL r) p.a = riseL r := free_none (inAt_none.2 fun q hq e => (hp q (h1.perm.mem_iff.1 hq)).2 e.symm)
   refine ⟨?_, putRef_rising p _ h1.rise⟩
   have := putRef_perm p (riseL r)
   rw [e1, e2] at this
   exact this.trans (h1.perm.cons p)
theorem twin_rise {L M : List Pl} (h : Uniq L) (hM : Twin L M) : M = riseL L := by
 have h1 := riseL_twin h
 exact rising_ext hM.rise h1.rise (hM.perm.trans h1.perm.symm)
theorem riseL_length {L : List Pl} (h : Uniq L) : (riseL L).length = L.length := (riseL_twin h).perm.length_eq
def flushM (m : StM) : StM := { m with P := flushP m.P }
def markB (sh : Sh) (m : StM) : Prop := manyC m.L.length (roomC sh.bl) <= sh.zb
instance (sh : Sh) (m : StM) : Decidable (markB sh m) := by unfold markB; infer_instance
def markE (sh : Sh) (m : StM) : List (List Int) := encC sh.bl m.seq (riseL m.L)
def markM (sh : Sh) (m : StM) : Int × StM := if markB sh m then (0, { m with P := saveL m.P (1 - m.sl).toNat (markE sh m), sl := 1 - m.sl }) else (140, m)
def clearB (m : StM) (z : Int) : Prop := stateAt m.G z = 3 ∧ ofZ z m.L = []
instance (m : StM) (z : Int) : Decidable (clearB m z) := by unfold clearB; infer_instance
def clearS (m : StM) (z : Int) : StM := { m with P := m.P.set z.toNat pt0, G := turnL m.G z 1, la := fun y => if y = z then none else m.la y }
def clearM (m : StM) (z : Int) : Bool × StM := if clearB m z then (true, clearS m z) else (false, m)
def SlOk (m : StM) : Prop := m.sl = 0 ∨ m.sl = 1
theorem flushP_get (P : List Part) (i : Nat) : ((flushP P).getD i pt0).bs = (P.getD i pt0).bs := by
 unfold flushP
 rw [List.getD_eq_getElem?_getD, List.getD_eq_getElem?_getD, List.getElem?_map]
 cases P[i]? <;> rfl
theorem saveL_other (P : List Part) (z i : Nat) (bs : List (List Int)) (h : z ≠ i) : ((saveL P z bs).getD i pt0).bs = (P.getD i pt0).bs := by
 unfold saveL
 rw [flushP_get]
 have : ∀ (bs : List (List Int)) (Q : List Part), (appsP Q z bs).getD i pt0 = Q.getD i pt0 := fun bs => by
  unfold appsP
  induction bs with
  | nil => exact fun _ => rfl
  | cons b r ih => exact fun Q => by rw [List.foldl_cons, ih, appP_other _ _ _ _ h]
 rw [this, getD_set_other _ _ _ _ _ h]
theorem saveL_length (P : List Part) (z : Nat) (bs : List (List Int)) : (saveL P z bs).length = P.length := by
 unfold saveL
 rw [flushP_length]
 have : ∀ (bs : List (List Int)) (Q : List Part), (appsP Q z bs).length = Q.length := fun bs => by
  unfold appsP
  induction bs with
  | nil => exact fun _ => rfl
  | cons b r ih => exact fun Q => by rw [List.foldl_cons, ih, appP_length]
 rw [this]
 simp
theorem Good.same {sh : Sh} {m : StM} (h : Good sh m) {P' : List Part} {sl : Int} (hl : P'.length = m.P.length) (hs : ∀ z : Nat, stateAt m.G z = 1 ∨ stateAt m.G z = 2 ∨ stateAt m.G z = 3 -> (P'.getD z pt0).bs = (m.P.getD z pt0).bs) (ht : ∀ p ∈ m.L, (P'.getD p.z.toNat pt0).bs = (m.P.getD p.z.toNat pt0).bs) : Good sh { m with P := P', sl := sl } ∧ dataM { m with P := P', sl := sl } = dataM m := by
 refine ⟨⟨h.gl, hl.trans h.pl, h.op, fun z hz => by rw [hs z (.inl hz)]; exact h.fr z hz, h.uq, fun p hp => ?_⟩, ?_⟩
 · have := h.at_ p hp
   rw [show ({ m with P := P', sl := sl } : StM).P = P' from rfl, ht p hp]
   exact this
 · funext n
   unfold dataM
   cases ha : atOf m.L n with
   | none => rfl
   | some a =>
     obtain ⟨p, hp, _, rfl⟩ := (atOf_some h.uq).1 ha
     simp only [Option.map_some]
     exact congrArg (fun x => some (List.getD x p.a.2.toNat [])) (ht p hp)
theorem Wk.same {sh : Sh} {m : StM} (h : Wk sh m) {P' : List Part} {sl : Int} (hs : ∀ z : Nat, 2 <= z -> (P'.getD z pt0).bs = (m.P.getD z pt0).bs) : Wk sh { m with P := P', sl := sl } := by
 refine ⟨h.full, fun z h1 h2 h3 => ?_, h.open_, h.kept, h.sq, h.lz⟩
 have := h.free z h1 h2 h3
 unfold lenM at *
 rw [show ({ m with P := P', sl := sl } : StM).P = P' from rfl, hs z.toNat (by omega)]
 exact this
theorem Opn.same {m : StM} (h : Opn m) {P' : List Part} {sl : Int} (hs : 0 <= m.op -> (P'.getD m.op.toNat pt0).bs = (m.P.getD m.op.toNat pt0).bs) : Opn { m with P := P', sl := sl } := fun ho => by
 have := h ho
 unfold lenM at *
 rw [show ({ m with P := P', sl := sl } : StM).P = P' from rfl, show ({ m with P := P', sl := sl } : StM).op = m.op from rfl, hs ho]
 exact this
structure Inv (sh : Sh) (m : StM) : Prop where
  g : Good sh m
  w : Wk sh m
  o : Opn m
  s : SlOk m
theorem Inv.flush {sh : Sh} {m : StM} (h : Inv sh m) : Inv sh (flushM m) ∧ dataM (flushM m) = dataM m := by
 have h1 := h.g.same (P' := flushP m.P) (sl := m.sl) (flushP_length _) (fun z _ => flushP_get _ _) (fun p _ => flushP_get _ _)
 exact ⟨⟨h1.1, h.w.same (fun z _ => flushP_get _ _), h.o.same (fun _ => flushP_get _ _), h.s⟩, h1.2⟩
theorem Inv.mark {sh : Sh} {m : StM} (h : Inv sh m) : Inv sh (markM sh m).2 ∧ dataM (markM sh m).2 = dataM m := by
 unfold markM
 split
 · have hs := h.s
   unfold SlOk at hs
   have hz : ∀ z : Nat, 2 <= z -> ((saveL m.P (1 - m.sl).toNat (markE sh m)).getD z pt0).bs = (m.P.getD z pt0).bs := fun z h2 => saveL_other _ _ _ _ (by omega)
   have h1 := h.g.same (P' := saveL m.P (1 - m.sl).toNat (markE sh m)) (sl := 1 - m.sl) (saveL_length _ _ _) (fun z hz' => hz z (by have := h.w.kept z hz'; omega)) (fun p hp => by
    have := h.w.full p hp
    have := h.w.kept p.z (by rcases this.1 with e | e <;> simp [e])
    exact hz _ (by omega))
   refine ⟨⟨h1.1, h.w.same hz, h.o.same (fun ho => ?_), ?_⟩, h1.2⟩
   · have := h.g.op ho
     have := h.w.kept m.op (.inr (.inl this))
     exact hz _ (by omega)
   · unfold SlOk
     show (1 - m.sl) = 0 ∨ (1 - m.sl) = 1
     omega
 · exact ⟨h, rfl⟩
theorem Inv.clear {sh : Sh} {m : StM} (h : Inv sh m) (z : Int) : Inv sh (clearM m z).2 ∧ dataM (clearM m z).2 = dataM m := by
 unfold clearM
 split
 · rename_i hc
   obtain ⟨hst, hL⟩ := hc
   have hne : stateAt m.G z ≠ 0 := by rw [hst]; decide
   obtain ⟨hz0, hz1⟩ := stateAt_in hne
   have ht := fun y => stateAt_turn (G := m.G) 1 y hne
   have hLz : ∀ p ∈ m.L, p.z ≠ z := fun p hp e => by
    have hm : p ∈ ofZ z m.L := List.mem_filter.2 ⟨hp, by simpa using e⟩
    rw [hL] at hm
    cases hm
   have hop : m.op ≠ z ∨ m.op < 0 := by
    rcases Int.lt_or_le m.op 0 with h0 | h0
    · exact .inr h0
    · have := h.g.op h0
      exact .inl (fun e => by rw [e, hst] at this; cases this)
   have hzn : z.toNat < m.P.length := by have := h.g.gl; have := h.g.pl; omega
   have hoth : ∀ y : Int, 0 <= y -> y ≠ z -> ((m.P.set z.toNat pt0).getD y.toNat pt0) = m.P.getD y.toNat pt0 := fun y h0 hy => getD_set_other _ _ _ _ _ (by omega)
   have hsz : z.toNat = z := by omega
   refine ⟨⟨⟨?_, ?_, fun ho => ?_, fun y hy => ?_, h.g.uq, fun p hp => ?_⟩, ⟨fun p hp => ?_, fun y h1 h2 h3 => ?_, fun y hy => ?_, fun y hy => ?_, h.w.sq, fun y => ?_⟩, fun ho => ?_, h.s⟩, ?_⟩
   · show (turnL m.G z 1).length = sh.z
     simp [turnL, h.g.gl]
   · show (m.P.set z.toNat pt0).length = sh.z
     simp [h.g.pl]
   · show stateAt (turnL m.G z 1) m.op = 2
     have ho' : 0 <= m.op := ho
     rw [ht, if_neg (by omega)]
     exact h.g.op ho'
   · show ((m.P.set z.toNat pt0).getD y pt0).bs = []
     have hy' : stateAt (turnL m.G z 1) y = 1 := hy
     rw [ht] at hy'
     by_cases e : (y : Int) = z
     · have : z.toNat = y := by omega
       rw [this, getD_set_same _ _ _ _ (by omega)]
       rfl
     · rw [if_neg e] at hy'
       rw [getD_set_other _ _ _ _ _ (by omega)]
       exact h.g.fr y hy'
   · have h1 := h.g.at_ p hp
     refine ⟨h1.1, h1.2.1, h1.2.2.1, ?_⟩
     show p.k.toNat < ((m.P.set z.toNat pt0).getD p.z.toNat pt0).bs.length
     rw [hoth p.z h1.1 (hLz p hp)]
     exact h1.2.2.2
   · have h1 := h.w.full p hp
     refine ⟨?_, h1.2.1, ?_⟩
     · show stateAt (turnL m.G z 1) p.z = 2 ∨ stateAt (turnL m.G z 1) p.z = 3
       rw [ht, if_neg (hLz p hp)]
       exact h1.1
     · show 1 <= ((if p.z = z then none else m.la p.z).getD 0 : Int)
       rw [if_neg (hLz p hp)]
       exact h1.2.2
   · show stateAt (turnL m.G z 1) y = 1 ↔ ((m.P.set z.toNat pt0).getD y.toNat pt0).bs.length = 0 ∧ ((if y = z then none else m.la y).getD 0 : Int) = 0
     rw [ht]
     by_cases e : y = z
     · subst e
       rw [if_pos rfl, if_pos rfl, getD_set_same _ _ _ _ hzn]
       simp [pt0]
     · rw [if_neg e, if_neg e, hoth y (by omega) e]
       exact h.w.free y h1 h2 h3
   · have hy' : stateAt (turnL m.G z 1) y = 2 := hy
     rw [ht] at hy'
     split at hy'
     · cases hy'
     · exact h.w.open_ y hy'
   · have hy' : stateAt (turnL m.G z 1) y = 1 ∨ stateAt (turnL m.G z 1) y = 2 ∨ stateAt (turnL m.G z 1) y = 3 := hy
     rw [ht] at hy'
     split at hy'
     · rename_i e
       rw [e]
       exact h.w.kept z (.inr (.inr hst))
     · exact h.w.kept y hy'
   · show (0 : Int) <= (if y = z then none else m.la y).getD 0
     split
     · simp
     · exact h.w.lz y
   · have ho' : 0 <= m.op := ho
     have h1 := h.o ho'
     show 1 <= ((m.P.set z.toNat pt0).getD m.op.toNat pt0).bs.length ∧ 1 <= ((if m.op = z then none else m.la m.op).getD 0 : Int)
     rw [hoth m.op ho' (by omega), if_neg (by omega)]
     exact h1
   · funext n
     unfold dataM
     show (atOf m.L n).map _ = _
     cases ha : atOf m.L n with
     | none => rfl
     | some a =>
       obtain ⟨p, hp, _, rfl⟩ := (atOf_some h.g.uq).1 ha
       have h1 := h.g.at_ p hp
       simp only [Option.map_some]
       rw [show (clearS m z).P = m.P.set z.toNat pt0 from rfl, show p.a.1 = p.z from rfl, hoth p.z h1.1 (hLz p hp)]
 · exact ⟨h, rfl⟩
theorem Inv.places {sh : Sh} {m : StM} (h : Inv sh m) (hn : ∀ p ∈ m.L, NameOk p.n) (hf : ∀ z : Nat, z < sh.z -> (m.P.getD z pt0).bs.length <= sh.zb) : PlacesOk sh (riseL m.L) := by
 have ht := riseL_twin h.g.uq
 refine ⟨ht.rise, fun p hp => hn p (ht.perm.mem_iff.1 hp), fun p hp => ?_⟩
 have hp' := ht.perm.mem_iff.1 hp
 have h1 := h.g.at_ p hp'
 have h2 := h.w.full p hp'
 have h3 := h.w.kept p.z (by rcases h2.1 with e | e <;> simp [e])
 have h4 := hf p.z.toNat (by omega)
 omega
end Go.Proofs.YtfabgbmbnmbjkaaGreatDoor

