/- Package lmap's In: a zone's places, by their blocks. -/
import Derived.Test.YtcbbkemfgnbcpaaIn
import Derived.Test.YtcbbkemfgnbcpaaRg
namespace Go.Proofs.Ytcbbkemfgnbcpaa
open Go.RowKit

set_option maxRecDepth 20000 in
theorem addr_inv (v : Value) (kl : Lit) (h : keyOf Try.prog 31 v = some kl) : ∃ c, addrC.ok c ∧ v = addrC.kv c := by
  obtain ⟨m, hm⟩ : ∃ m, Try.prog.types.size + 1 = m + 1 + 1 := ⟨_, keys_size⟩
  obtain ⟨c1, c2, c3, c4, c5⟩ := keys_cells
  unfold keyOf at h
  rw [hm] at h
  clear hm
  rw [Try.underlying31] at h
  simp only [keys_own.2, Bool.true_and] at h
  split at h
  · rename_i hf
    cases v with
    | agg cs =>
      have hsz : cs.size = 2 := by simpa [Value.formed, Try.underlying31, c2] using hf
      obtain ⟨l⟩ := cs
      match l, hsz with
      | [x, y], _ =>
        simp [Value.cells, Program.keyLits, Try.underlying31, Try.underlying3, c2, c5] at h
        cases x with
        | int q1 n1 =>
          by_cases e1 : q1 = .i64 ∧ (Lit.int .i64 n1).wf = true
          · cases y with
            | int q2 n2 =>
              by_cases e2 : q2 = .i64 ∧ (Lit.int .i64 n2).wf = true
              · obtain ⟨rfl, w1⟩ := e1
                obtain ⟨rfl, w2⟩ := e2
                exact ⟨(n1, n2), ⟨wf_i64' w1, wf_i64' w2⟩, rfl⟩
              · simp [e1, e2] at h
            | _ => simp [e1] at h
          · simp [e1] at h
        | _ => simp at h
    | _ => simp [Value.formed, Try.underlying31] at hf
  · cases h

/-- The places of a zone. -/
def ofZ (z : Int) (L : List Pl) : List Pl := L.filter (fun p => decide (p.z = z))
/-- What has come so far: just what is no longer to come. -/
def Came (L pre : List Pl) (left : Int × Int → Bool) : Prop := pre.Nodup ∧ ∀ p, p ∈ pre ↔ p ∈ L ∧ left p.a = false
theorem Came.start (L : List Pl) : Came L [] (fun c => (inAt L c).isSome) := by
  refine ⟨List.Pairwise.nil, fun p => ⟨fun h => absurd h (by simp), fun hh => ?_⟩⟩
  have : inAt L p.a = none := by simpa using hh.2
  exact absurd rfl (inAt_none.1 this p hh.1)
theorem Came.step {L pre : List Pl} {left : Int × Int → Bool} (h : Came L pre left) (hu : Uniq L) {c m : Int × Int} (hl : left c = true) (hF : inAt L c = some m) :
    Came L (pre ++ [⟨m.1, m.2, c.1, c.2⟩]) (fun d => left d && !decide (d = c)) := by
  obtain ⟨q, hq, h1, h2⟩ := (inAt_some hu).1 hF
  have e : q = ⟨m.1, m.2, c.1, c.2⟩ := Pl.ext_ h1 h2
  subst e
  refine ⟨List.nodup_append.2 ⟨h.1, by simp, fun a ha b hb => ?_⟩, fun p => ?_⟩
  · simp only [List.mem_singleton] at hb
    subst hb
    rintro rfl
    have := ((h.2 _).1 ha).2
    rw [h2] at this
    rw [this] at hl
    cases hl
  · rw [List.mem_append, h.2 p, List.mem_singleton]
    constructor
    · rintro (⟨h3, h4⟩ | rfl)
      · exact ⟨h3, by show (left p.a && _) = false; rw [h4]; rfl⟩
      · exact ⟨hq, by show (left _ && !decide (_ = c)) = false; rw [h2]; simp⟩
    · rintro ⟨h3, h4⟩
      simp only [Bool.and_eq_false_iff, Bool.not_eq_false', decide_eq_true_eq] at h4
      rcases h4 with h4 | h4
      · exact .inl ⟨h3, h4⟩
      · exact .inr (hu.eqa h3 hq (h4.trans h2.symm))
theorem nodup_of_uniq {L : List Pl} (hu : Uniq L) : L.Nodup := hu.imp (fun h e => h.1 (by rw [e]))
theorem Came.done {L pre : List Pl} {left : Int × Int → Bool} (h : Came L pre left) (hu : Uniq L) (hl : ∀ p ∈ L, left p.a = false) : pre.Perm L := by
  refine (List.perm_ext_iff_of_nodup h.1 (nodup_of_uniq hu)).2 fun p => ?_
  rw [h.2]
  exact ⟨fun h => h.1, fun hp => ⟨hp, hl p hp⟩⟩
theorem ofZ_snoc (z : Int) (pre : List Pl) (p : Pl) : ofZ z (pre ++ [p]) = if p.z = z then ofZ z pre ++ [p] else ofZ z pre := by
  unfold ofZ
  rw [List.filter_append]
  by_cases h : p.z = z <;> simp [h]
theorem sorted_strict {S L : List Pl} {z : Int} (hu : Uniq L) (hp : S.Perm (ofZ z L)) (hs : S.Pairwise (fun a b => a.k ≤ b.k)) : S.Pairwise (fun a b => a.k < b.k) := by
  have h1 : Uniq S := (hu.filter _).perm hp.symm
  have h2 : ∀ p ∈ S, p.z = z := fun p hp' => by have := List.mem_filter.1 (hp.mem_iff.1 hp'); simpa using this.2
  refine (List.pairwise_iff_forall_sublist.2 fun {a b} hab => ?_)
  have e1 := List.pairwise_iff_forall_sublist.1 hs hab
  have e2 := List.pairwise_iff_forall_sublist.1 h1 hab
  have ha := h2 a (hab.subset (by simp))
  have hb := h2 b (hab.subset (by simp))
  have : a.k ≠ b.k := fun e => e2.2 (by unfold Pl.a; rw [ha, hb, e])
  omega

/-- A list of places, sorted by their blocks. -/
theorem sort_any (w : World) (base : Nat) (A : Option Addr) (c : Nat) (L : List Pl) (hL : L.length ≤ 1000000) (h : OwnPl w base A c L) :
    Calls Try.prog 32 #[.slice A L.length c, .func (.func 33) #[] #[]] w
      (fun e w' => e = .returned (.tuple #[]) ∧ ∃ S : List Pl, S.Perm L ∧ S.Pairwise (fun a b => a.k ≤ b.k) ∧ S.length = L.length ∧ OwnPl w' base A c S ∧ Kp (fun i => base ≤ i) w w') := by
  cases L with
  | nil =>
    refine (sortNone A c _ w).mono ?_
    rintro e w' ⟨rfl, rfl⟩
    exact ⟨rfl, [], List.Perm.refl _, List.Pairwise.nil, rfl, h, Kp.refl _ _⟩
  | cons p r =>
    obtain ⟨g, cap, hv, hb, _⟩ := World.ownsRow.form h (by simp)
    injection hv with hA _ hC
    subst hA hC
    refine (sort_pl w base g c (p :: r) hL (by simp) h).mono ?_
    rintro e w' ⟨rfl, S, h1, h2, h3, h4, h5⟩
    exact ⟨rfl, S, h1, h2, h3, h4, h5.mono (fun i _ e => by rw [e]; exact hb)⟩

theorem in_end {w wr w' : World} {f : LFp} {n cnt cnt2 len c0 : Nat} {z : Int} {L pre : List Pl} {left left2 : Int × Int → Bool} {A2 : Option Addr}
    (hrg : RangeF addrC nameV wr f.b2 w.heap.size n (inAt L) left cnt) (h1 : RangeF addrC nameV w' f.b2 w.heap.size n (inAt L) left2 cnt2) (h2 : cnt2 < cnt) (h3 : pre.length + cnt2 ≤ n) (hlen : len = (ofZ z pre).length)
    (h4 : OwnPl w' w.heap.size A2 c0 (ofZ z pre)) (h5 : Below w.heap.size w w') (h6 : Came L pre left2) :
    (∃ (A3 : Option Addr) (c3 : Nat) (pre1 : List Pl) (left1 : Int × Int → Bool) (cnt1 : Nat), Value.slice A2 len c0 = .slice A3 (ofZ z pre1).length c3 ∧ Hid (RangeF addrC nameV w' f.b2 w.heap.size n (inAt L) left1 cnt1) ∧ Hid (pre1.length + cnt1 ≤ n) ∧
      Hid (OwnPl w' w.heap.size A3 c3 (ofZ z pre1)) ∧ Hid (Below w.heap.size w w') ∧ Hid (Came L pre1 left1)) ∧ w'.rangeLeft f.b2 w.heap.size < wr.rangeLeft f.b2 w.heap.size :=
  ⟨⟨A2, c0, pre, left2, cnt2, by rw [hlen], h1, h3, h4, h5, h6⟩, by rw [h1.left_eq, hrg.left_eq]; exact h2⟩

set_option maxRecDepth 20000 in
set_option maxHeartbeats 4000000 in
theorem lin_any (w : World) (f : LFp) (n : Nat) (L : List Pl) (z : Int) (hn : n ≤ 1000000) (h : LM w f n L) :
    Calls Try.prog 18 #[.pointer (some ⟨f.g, 0, none⟩), .int .i64 z] w
      (fun e w' => ∃ A c S, e = .returned (.slice A (List.length S) c) ∧ OwnPl w' w.heap.size A c S ∧ S.Perm (ofZ z L) ∧ S.Pairwise (fun a b => a.k < b.k) ∧ Below w.heap.size w w') := by
  have h1 : w.cell? ⟨f.g, 1, none⟩ = some (.map (some f.b2)) := h.blk.cell 1
  have HL := Lib.hid h
  have HN := Lib.hid hn
  clear h hn
  go_enter Try.func18, Try.ntmps18
  go_wp2_with (first
    | (at_range
       refine wpList_range_mapF _ rfl _ _ rfl _ Try.underlying55 rfl HL.out.what ?_
       intro w0 cnt0 hrg0 hc0 hb0 hs0
       have HRG := Lib.hid hrg0
       have HC0 := Lib.hid hc0
       have HB0 := Lib.hid hb0
       clear hrg0 hc0 hb0 hs0))
  go_frame
  go_loopw [5] (fun o wr => ∃ (A2 : Option Addr) (c2 : Nat) (pre : List Pl) (left : Int × Int → Bool) (cnt : Nat), o = .slice A2 (ofZ z pre).length c2 ∧ Hid (RangeF addrC nameV wr f.b2 w.heap.size n (inAt L) left cnt) ∧ Hid (pre.length + cnt ≤ n) ∧
      Hid (OwnPl wr w.heap.size A2 c2 (ofZ z pre)) ∧ Hid (Below w.heap.size w wr) ∧ Hid (Came L pre left)) (fun _ wr => wr.rangeLeft f.b2 w.heap.size)
  case atStart => exact ⟨none, 0, [], _, _, rfl, HRG, (by have := HC0.out; unfold Hid; simpa using this), (show Hid _ from ⟨rfl, .inl ⟨rfl, rfl⟩⟩), HB0, Came.start L⟩
  case round =>
    obtain ⟨A2, c2, pre, left, cnt, rfl, hrg, hcn, hown, hbl, hcm⟩ := hrel
    clear HRG HC0 HB0
    go_wp2_with (first
      | (at_next
         refine wpList_next_mapF _ addr_inv rfl _ rfl rfl hrg.out ?_ ?_))
    · intro hdone
      have HD := Lib.hid hdone
      clear hdone
      have HLZ : Hid ((ofZ z pre).length ≤ 1000000) := by
        have h1 := hcn.out
        have h2 := HN.out
        have h3 : (ofZ z pre).length ≤ pre.length := List.length_filter_le _ _
        unfold Hid
        omega
      go_wp2_with (fail)
      refine (sort_any wr w.heap.size A2 c2 (ofZ z pre) HLZ.out hown.out).mono ?_
      rintro e w3 ⟨rfl, S, hp, hs, hlen, ho, hk⟩
      rw [← hlen]
      have hpm := hcm.out.done HL.out.uniq (fun p hp => HD.out p.z p.k (HL.out.names p hp).2)
      have hpz : S.Perm (ofZ z L) := hp.trans (hpm.filter _)
      have HP := Lib.hid hpz
      have HS := Lib.hid (sorted_strict HL.out.uniq hpz hs)
      have HO := Lib.hid ho
      have HB := Lib.hid (Kp.below hbl.out hk hbl.out.size (fun b hb e => by omega))
      clear hp hs hlen ho hk hpm hpz
      go_wp2
      go_ret
      exact ⟨A2, c2, S, rfl, HO.out, HP.out, HS.out, HB.out⟩
    · intro a1 a2 m1 m2 w2 cnt2 hok hleft hF hrg2 hlt2 hk2 hs2 hen
      change (Instr.entry (.pointer (some ⟨w.heap.size, 0, none⟩))).run Try.prog w2 = .ok (.tuple #[.agg #[.int .i64 a1, .int .i64 a2], .agg #[.int .u32 m1, .int .u64 m2]]) w2 at hen
      simp only [show addrC.kv (a1, a2) = .agg #[.int .i64 a1, .int .i64 a2] from rfl, show nameV (m1, m2) = .agg #[.int .u32 m1, .int .u64 m2] from rfl]
      have HRG2 := Lib.hid hrg2
      have HCM := Lib.hid (hcm.out.step HL.out.uniq hleft hF)
      have HCN : Hid ((pre ++ [(⟨m1, m2, a1, a2⟩ : Pl)]).length + cnt2 ≤ n) := by have := hcn.out; unfold Hid; simp; omega
      have hlr := hrg.out.lt
      have hit := hrg.out.iter
      have hnr : (Value.slice A2 (ofZ z pre).length c2).ownBlock ≠ some w.heap.size := fun e => by
        obtain ⟨i0, i1, i2, i3, hi⟩ := hit
        rcases hown.out.2 with ⟨e1, _⟩ | ⟨g', cap, cur, e1, _, hh, _⟩
        · rw [e1] at e; simp [Value.ownBlock] at e
        · rw [e1] at e
          have : g' = w.heap.size := by simpa [Value.ownBlock] using e
          subst this
          rw [hh] at hi
          cases hi
      have HOWN2 : Hid (OwnPl w2 w.heap.size A2 c2 (ofZ z pre)) := World.ownsRow.kept (row := some w.heap.size) hown.out ⟨hk2.os, hk2.tape, hk2.output, hk2.size, fun i hi hne => hk2.block i hi (fun e => hne (by rw [e]))⟩ (.inr hnr)
      have HBL2 : Hid (Below w.heap.size w w2) := Kp.below hbl.out hk2 hbl.out.size (fun b hb e => by omega)
      have HLT : Hid (cnt2 < cnt) := hlt2
      clear hrg2 hok hleft hF hk2 hs2 hlr hit hnr hlt2 hown hbl hcm hcn
      have HS2 : Hid (w.heap.size ≤ w2.heap.size) := HBL2.out.size
      rcases Classical.em (z = a1) with hz | hz
      · subst hz
        go_wp2_with (fail)
        have HRG3 := Lib.hid ((HRG2.out.alloc (.cells #[.int .i64 z, .int .i64 a2] 31)).alloc (.cells #[.int .u32 m1, .int .u64 m2] 62))
        have HOWN3 : Hid (OwnPl ((w2.alloc (.cells #[.int .i64 z, .int .i64 a2] 31)).alloc (.cells #[.int .u32 m1, .int .u64 m2] 62)) w.heap.size A2 c2 (ofZ z pre)) := World.ownsRow.alloc (World.ownsRow.alloc HOWN2.out _) _
        have HBL3 := Lib.hid ((HBL2.out.alloc HS2.out (.cells #[.int .i64 z, .int .i64 a2] 31)).alloc (by have := HS2.out; simp; omega) (.cells #[.int .u32 m1, .int .u64 m2] 62))
        have HS3 : Hid (w.heap.size ≤ ((w2.alloc (.cells #[.int .i64 z, .int .i64 a2] 31)).alloc (.cells #[.int .u32 m1, .int .u64 m2] 62)).heap.size) := HBL3.out.size
        generalize (w2.alloc (.cells #[.int .i64 z, .int .i64 a2] 31)).alloc (.cells #[.int .u32 m1, .int .u64 m2] 62) = w3 at *
        refine (place_any w3 (m1, m2) (z, a2)).mono ?_
        rintro e w4 ⟨rfl, hb⟩
        have HRG4 := Lib.hid (HRG3.out.below hb)
        have HOWN4 := Lib.hid (HOWN3.out.below hb)
        have HBL4 := Lib.hid (HBL3.out.trans (hb.mono HS3.out))
        have HS4 : Hid (w.heap.size ≤ w4.heap.size) := HBL4.out.size
        have HLZ : Hid ((ofZ z pre).length ≤ 2000000) := by
          have h1 := HCN.out
          have h2 := HN.out
          have h3 : (ofZ z pre).length ≤ pre.length := List.length_filter_le _ _
          unfold Hid
          simp at h1
          omega
        clear hb
        go_wp2_with (first
          | (at_builtin
             refine wpList_append_pl _ rfl (.tmp 22) (.tmp 26) rfl (ofZ z pre) ⟨m1, m2, z, a2⟩ HOWN4.out rfl rfl rfl HLZ.out HS4.out ?_
             intro A5 c5 w5 ho5 hk5 ha5
             have HO5 : Hid (OwnPl w5 w.heap.size A5 c5 (ofZ z (pre ++ [⟨m1, m2, z, a2⟩]))) := by rw [ofZ_snoc, if_pos rfl]; exact ho5
             have HB5 := Lib.hid (Kp.below HBL4.out hk5 HS4.out (fun b hb e => by have := (World.ownsRow.lt HOWN4.out b e).1; omega))
             have hmap : ∀ b, (∃ o, w4.heap[b]? = some o ∧ ∀ cs t fr, o ≠ .cells cs t fr) → ¬ (Value.slice A2 (ofZ z pre).length c2).ownBlock = some b := by
               rintro b ⟨o, ho, hno⟩ e
               rcases HOWN4.out.2 with ⟨e1, _⟩ | ⟨g', cap, cur, e1, _, hh, _⟩
               · rw [e1] at e; simp [Value.ownBlock] at e
               · rw [e1] at e
                 have : g' = b := by simpa [Value.ownBlock] using e
                 subst this
                 rw [hh] at ho
                 injection ho with ho
                 exact hno _ _ _ ho.symm
             have HR5 : Hid (RangeF addrC nameV w5 f.b2 w.heap.size n (inAt L) (fun d => left d && !decide (d = (z, a2))) cnt2) := by
               refine HRG4.out.kp hk5 (hmap _ ?_) (hmap _ ?_)
               · obtain ⟨D, lf, ⟨es, clock, since, seen, c0, h1, _⟩, _⟩ := HRG4.out.is
                 exact ⟨_, h1, fun _ _ _ h => by cases h⟩
               · obtain ⟨i0, i1, i2, i3, hi⟩ := HRG4.out.iter
                 exact ⟨_, hi, fun _ _ _ h => by cases h⟩
             clear ho5 hk5 ha5 hmap))
        exact in_end hrg.out HR5.out HLT.out HCN.out (by rw [ofZ_snoc, if_pos rfl]; simp) HO5.out HB5.out HCM.out
      · have HZ : Hid (¬ a1 = z) := fun e => hz e.symm
        have hz' : (a1 == z) = false := by simpa using HZ.out
        clear hz
        go_wp2_with (fail)
        have e0 : ofZ z (pre ++ [⟨m1, m2, a1, a2⟩]) = ofZ z pre := by rw [ofZ_snoc, if_neg HZ.out]
        exact in_end hrg.out ((HRG2.out.alloc _).alloc _) HLT.out HCN.out (by rw [e0]) (by rw [e0]; exact World.ownsRow.alloc (World.ownsRow.alloc HOWN2.out _) _) ((HBL2.out.alloc HS2.out _).alloc (by have := HS2.out; simp; omega) _) HCM.out
end Go.Proofs.Ytcbbkemfgnbcpaa
