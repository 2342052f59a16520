/- Package lmap's All: the walk. -/
import Derived.Test.YtcbbkemfgnbcpaaAl
namespace Go.Proofs.Ytcbbkemfgnbcpaa
open Go.RowKit Go.Sort

def plOf (L : List Pl) (n : Int × Int) : Pl := match atOf L n with | some a => ⟨n.1, n.2, a.1, a.2⟩ | none => ⟨n.1, n.2, 0, 0⟩
theorem plOf_n (L : List Pl) (n : Int × Int) : (plOf L n).n = n := by
  unfold plOf
  cases atOf L n <;> rfl
theorem plOf_of {L : List Pl} (hu : Uniq L) {p : Pl} (hp : p ∈ L) : plOf L p.n = p := by
  have h := (atOf_some hu).2 ⟨p, hp, rfl, rfl⟩
  unfold plOf
  rw [h]
  rfl
theorem plOf_mem {L : List Pl} (hu : Uniq L) {n : Int × Int} (hs : (atOf L n).isSome = true) : plOf L n ∈ L := by
  cases h : atOf L n with
  | none => rw [h] at hs; cases hs
  | some a =>
    obtain ⟨p, hp, h1, h2⟩ := (atOf_some hu).1 h
    rw [← h1, plOf_of hu hp]
    exact hp
theorem nall_perm {L : List Pl} (hu : Uniq L) (hok : ∀ p ∈ L, NameOk p.n ∧ AddrOk p.a) {S : List (Int × Int)} (h : NAll (atOf L) S) : (S.map (plOf L)).Perm L := by
  have h1 : (S.map (plOf L)).Nodup := by
    refine List.pairwise_map.2 (h.1.imp fun {a b} hab e => hab ?_)
    rw [← plOf_n L a, ← plOf_n L b, e]
  refine (List.perm_ext_iff_of_nodup h1 (nodup_of_uniq hu)).2 fun p => ⟨fun hp => ?_, fun hp => ?_⟩
  · obtain ⟨n, hn, rfl⟩ := List.mem_map.1 hp
    exact plOf_mem hu ((h.2 n).1 hn).2
  · refine List.mem_map.2 ⟨p.n, (h.2 _).2 ⟨(hok p hp).1, ?_⟩, plOf_of hu hp⟩
    rw [(atOf_some hu).2 ⟨p, hp, rfl, rfl⟩]
    rfl
theorem nall_len {L : List Pl} (hu : Uniq L) (hok : ∀ p ∈ L, NameOk p.n ∧ AddrOk p.a) {S : List (Int × Int)} (h : NAll (atOf L) S) : S.length = L.length := by
  have := (nall_perm hu hok h).length_eq
  simpa using this
theorem nall_rising (L : List Pl) {S : List (Int × Int)} (hn : S.Nodup) (hs : S.Pairwise (fun a b => ¬ (b.1 < a.1 ∨ (b.1 = a.1 ∧ b.2 < a.2)))) : Rising (S.map (plOf L)) := by
  refine List.pairwise_map.2 ((hn.and hs).imp fun {a b} hab => ?_)
  rw [lessB_iff]
  have h1 : (plOf L a).n = a := plOf_n L a
  have h2 : (plOf L b).n = b := plOf_n L b
  have e1 : (plOf L a).t = a.1 := by rw [← h1]; rw [h1]; exact congrArg Prod.fst h1
  have e2 : (plOf L a).b = a.2 := congrArg Prod.snd h1
  have e3 : (plOf L b).t = b.1 := congrArg Prod.fst h2
  have e4 : (plOf L b).b = b.2 := congrArg Prod.snd h2
  rw [e1, e2, e3, e4]
  have h3 : ¬ (a.1 = b.1 ∧ a.2 = b.2) := fun e => hab.1 (Prod.ext e.1 e.2)
  have h4 := hab.2
  omega

theorem nameCs_at : ∀ (S : List (Int × Int)) (j : Nat), (nameCs S)[j]? = (nameC2 (S.getD (j / 2) (0, 0)))[j % 2]? ∨ S.length * 2 ≤ j
  | [], j => .inr (by simp)
  | p :: r, j => by
    rcases Nat.lt_or_ge j 2 with h2 | h2
    · left
      have : j = 0 ∨ j = 1 := by omega
      rcases this with rfl | rfl <;> simp [nameCs, nameC2]
    · obtain ⟨i, rfl⟩ : ∃ i, j = i + 2 := ⟨j - 2, by omega⟩
      have e1 : (nameCs (p :: r))[i + 2]? = (nameCs r)[i]? := by simp [nameCs, nameC2]
      have e2 : (i + 2) / 2 = i / 2 + 1 := by omega
      have e3 : (i + 2) % 2 = i % 2 := by omega
      rw [e1, e2, e3]
      rcases nameCs_at r i with h | h
      · left; rw [h]; simp
      · right; simp; omega
/-- A name in a row. -/
theorem nm_cells {w : World} {base c : Nat} {A : Option Addr} {S : List (Int × Int)} (h : OwnNm w base A c S) {k : Nat} (hk : k < S.length) :
    ∃ r, A = some ⟨r, 0, none⟩ ∧ w.cell? ⟨r, k * 2, none⟩ = some (.int .u32 (S.getD k (0, 0)).1) ∧ w.cell? ⟨r, k * 2 + 1, none⟩ = some (.int .u64 (S.getD k (0, 0)).2) := by
  obtain ⟨g, cap, hv, _, _⟩ := World.ownsRow.form h (by omega)
  injection hv with hA _ _
  subst hA
  have hc := World.ownsRow.cells (g := g) h rfl
  have hl := nameCs_length S
  have hget := fun j => nameCs_at S j
  refine ⟨g, rfl, ?_, ?_⟩
  · have h1 : (nameCs S)[k * 2]? = some (.int .u32 (S.getD k (0, 0)).1) := by
      rcases hget (k * 2) with e | e
      · rw [e, show k * 2 / 2 = k by omega, show k * 2 % 2 = 0 by omega]; rfl
      · omega
    have := hc _ _ h1
    rwa [show ((⟨g, 0, none⟩ : Addr).add (k * 2)) = ⟨g, k * 2, none⟩ by unfold Addr.add; split <;> simp_all] at this
  · have h1 : (nameCs S)[k * 2 + 1]? = some (.int .u64 (S.getD k (0, 0)).2) := by
      rcases hget (k * 2 + 1) with e | e
      · rw [e, show (k * 2 + 1) / 2 = k by omega, show (k * 2 + 1) % 2 = 1 by omega]; rfl
      · omega
    have := hc _ _ h1
    rwa [show ((⟨g, 0, none⟩ : Addr).add (k * 2 + 1)) = ⟨g, k * 2 + 1, none⟩ by unfold Addr.add; split <;> simp_all] at this

/-- 'out = append(out, p)' in a region that draws its order. -/
theorem step_append_pl (w : World) {ops : Array Oper} {o : Oper} {a : Act} {K : Act → World → Prop} {Q : Exit → Act → World → Prop} {E : Prop} (hgd : o.guard = none) (s x : Operand)
    (ho : o.op = .call { callee := .builtin .append, args := #[s, x], argTypes := #[46, 46] }) {base c : Nat} {A : Option Addr} (O : List Pl) (p : Pl)
    (hown : w.ownsRow base 33 4 (.slice A O.length c) O.length (plCs O)) {n : Nat} (hn : n = O.length) (hs : a.eval s = .slice A n c) (hx : a.eval x = .slice (some ⟨w.heap.size, 0, none⟩) 1 1) (hlen : O.length ≤ 2000000) (hbase : base ≤ w.heap.size)
    (h : ∀ A' c' w', w'.ownsRow base 33 4 (.slice A' (n + 1) c') (n + 1) (plCs (O ++ [p])) → Kp (fun i => (Value.slice A n c).ownBlock = some i) w w' → K (a.put o.dst (.slice A' (n + 1) c')) w') :
    if Region.wanted o (yielded ops a.tmps) = true then Oper.wp Try.prog o a (w.alloc (.cells #[.int .u32 p.t, .int .u64 p.b, .int .i64 p.z, .int .i64 p.k] 33)) K Q else E := by
  subst hn
  have hw : Region.wanted o (yielded ops a.tmps) = true := by simp [Region.wanted, hgd]
  rw [if_pos hw]
  obtain ⟨i0, hi0, hz0, hz1, hz2⟩ := info_parts pl_info
  refine wp_append_any _ s x _ ho base 33 i0 _ 4 32 Try.underlying46 hi0 hz0 hz1 hz2 rfl (by omega) (.slice A O.length c) O.length (plCs O) hs (hown.alloc _) _ _ 1 1 (plC p) hx (reads_pl w p) ?_ (by simp only [maxLen]; omega) (by omega) (by simp; omega) ?_
  · intro u hu
    exact plCs_one [p] u (by simpa [plCs] using hu)
  · intro v' w' hown' hg hat
    obtain ⟨A', c', rfl⟩ := own_form hown'
    rw [← plCs_snoc] at hown'
    have hk : Kp (fun i => (Value.slice A O.length c).ownBlock = some i) w w' := by
      have h1 : Kp (fun i => (Value.slice A O.length c).ownBlock = some i) w (w.alloc (.cells #[.int .u32 p.t, .int .u64 p.b, .int .i64 p.z, .int .i64 p.k] 33)) := (Kp.refl _ w).alloc _
      have h2 : Kp (fun i => (Value.slice A O.length c).ownBlock = some i) (w.alloc (.cells #[.int .u32 p.t, .int .u64 p.b, .int .i64 p.z, .int .i64 p.k] 33)) w' := ⟨hg.os, hg.tape, hg.output, hg.size, fun i hi hn => hg.block i hi (fun e => hn e.symm)⟩
      exact h1.trans h2 (fun _ _ h => h)
    exact h A' c' w' hown' hk

set_option maxRecDepth 20000 in
set_option maxHeartbeats 4000000 in
theorem lall_any (w : World) (f : LFp) (n : Nat) (L : List Pl) (hn : n ≤ 1000000) (h : LM w f n L) :
    Calls Try.prog 17 #[.pointer (some ⟨f.g, 0, none⟩)] w
      (fun e w' => ∃ A c S, e = .returned (.slice A (List.length S) c) ∧ OwnPl w' w.heap.size A c S ∧ S.Perm L ∧ Rising S ∧ Below w.heap.size w w') := by
  have h1 : w.cell? ⟨f.g, 0, none⟩ = some (.map (some f.b1)) := h.blk.cell 0
  have HL := Lib.hid h
  have HN := Lib.hid hn
  have hbg : f.g < w.heap.size := h.blk.lt
  clear h hn
  go_enter Try.func17, Try.ntmps17
  go_wp2_with (first
    | (go_at_call 30
       refine (keys_any w f.b1).mono ?_
       rintro e w1 ⟨rfl, hw1⟩
       have hb1 : Below w.heap.size w w1 := by rw [hw1]; exact (Below.refl _ w).alloc (Nat.le_refl _) _
       have hc1 : w1.cell? ⟨w.heap.size, 0, none⟩ = some (.map (some f.b1)) := by rw [hw1]; exact (Blk.new w 54 #[.map (some f.b1)]).cell 0
       have hs1 : w1.heap.size = w.heap.size + 1 := by rw [hw1]; simp
       have HB1 := Lib.hid hb1
       have HC1 := Lib.hid hc1
       have HS1 := Lib.hid hs1
       clear hw1 hb1 hc1 hs1))
  refine (sorted_any w1 w.heap.size f.b1 n (atOf L) HN.out (by have := HS1.out; omega) HC1.out (HL.out.below HB1.out).where_ (fun ss hs => Nat.le_trans (Nat.le_of_eq (nall_len HL.out.uniq HL.out.names hs)) HL.out.len)).mono ?_
  rintro e w2 ⟨A, c, S, rfl, hS, hSo, hO, hb⟩
  have HS := Lib.hid hS
  have HSO := Lib.hid hSo
  have HO := Lib.hid (ownsRow_base_a hO HB1.out.size)
  have HB2 := Lib.hid (HB1.out.trans (hb.mono HB1.out.size))
  have HSL : Hid (S.length ≤ n) := Nat.le_trans (Nat.le_of_eq (nall_len HL.out.uniq HL.out.names hS)) HL.out.len
  have hbg2 : f.g < w2.heap.size := Nat.lt_of_lt_of_le hbg HB2.out.size
  clear hS hSo hO hb HB1 HC1 HS1
  go_wp2_with (fail)
  clear h1 hbg2
  go_loopw [3, 13] (fun o i wr => ∃ (A2 : Option Addr) (c2 k : Nat), k ≤ S.length ∧ o = .slice A2 k c2 ∧ i = .int .i64 k ∧ Hid (OwnPl wr w.heap.size A2 c2 ((S.take k).map (plOf L))) ∧ Hid (OwnNm wr w.heap.size A c S) ∧ Hid (Below w.heap.size w wr)) (fun _ i _ => S.length - (intOf i).toNat)
  case atStart => exact ⟨none, 0, 0, Nat.zero_le _, rfl, rfl, (show Hid _ from ⟨rfl, .inl ⟨rfl, rfl⟩⟩), HO, HB2⟩
  case round =>
    obtain ⟨A2, c2, k, hk, rfl, rfl, hown, hnm, hbl⟩ := hrel
    clear HO HB2
    rcases Nat.lt_or_ge k S.length with hlt | hge
    · obtain ⟨r, rfl, n0, n1⟩ := nm_cells hnm.out hlt
      have HLT : Hid (k < S.length) := hlt
      have hklen : S.length ≤ 1000000 := by have := HSL.out; have := HN.out; omega
      obtain ⟨m1, m2, hm⟩ : ∃ m1 m2, S.getD k (0, 0) = (m1, m2) := ⟨_, _, rfl⟩
      have HM := Lib.hid hm
      rw [hm] at n0 n1
      clear hm
      have hmem : (m1, m2) ∈ S := by
        have h1 := HM.out
        rw [List.getD_eq_getElem?_getD, List.getElem?_eq_getElem hlt] at h1
        rw [← h1]
        exact List.getElem_mem hlt
      have hin := (HS.out.2 _).1 hmem
      obtain ⟨am, ha⟩ : ∃ a, atOf L (m1, m2) = some a := Option.isSome_iff_exists.1 hin.2
      obtain ⟨a1, a2⟩ := am
      have hp : plOf L (S.getD k (0, 0)) = ⟨m1, m2, a1, a2⟩ := by rw [HM.out]; unfold plOf; rw [ha]
      have htk : (S.take (k + 1)).map (plOf L) = (S.take k).map (plOf L) ++ [⟨m1, m2, a1, a2⟩] := by
        rw [List.take_succ_eq_append_getElem hlt, List.map_append, List.map_cons, List.map_nil, ← hp, List.getD_eq_getElem?_getD, List.getElem?_eq_getElem hlt]
        rfl
      have HTK := Lib.hid htk
      have HKL : Hid (((S.take k).map (plOf L)).length = k) := by unfold Hid; simp; omega
      have HKM : Hid (((S.take k).map (plOf L)).length ≤ 2000000) := by rw [HKL.out]; unfold Hid; omega
      have HA := Lib.hid ha
      have HNO := Lib.hid hin.1
      clear hmem hin ha hp htk hlt hklen
      go_wp2_with (fail)
      clear n0 n1
      have hs0 : Hid (w.heap.size ≤ wr.heap.size) := hbl.out.size
      have HBL2 := Lib.hid (hbl.out.alloc hbl.out.size (.cells #[.int .u32 m1, .int .u64 m2] 62))
      have HLM2 := Lib.hid (HL.out.below HBL2.out)
      have HOWN2 : Hid (OwnPl (wr.alloc (.cells #[.int .u32 m1, .int .u64 m2] 62)) w.heap.size A2 c2 ((S.take k).map (plOf L))) := World.ownsRow.alloc hown.out _
      have HNM2 : Hid (OwnNm (wr.alloc (.cells #[.int .u32 m1, .int .u64 m2] 62)) w.heap.size (some ⟨r, 0, none⟩) c S) := World.ownsRow.alloc hnm.out _
      have HK2 := Lib.hid (Blk.new wr 62 #[.int .u32 m1, .int .u64 m2])
      have hs2 : Hid (wr.heap.size < (wr.alloc (.cells #[.int .u32 m1, .int .u64 m2] 62)).heap.size) := by unfold Hid; simp
      clear hown hnm hbl
      generalize wr.alloc (.cells #[.int .u32 m1, .int .u64 m2] 62) = w1 at *
      have e1 : (Instr.lookup 54 (.map (some f.b1)) (.agg #[.int .u32 m1, .int .u64 m2]) false).run Try.prog w1.drew = .ok (.agg #[.int .i64 a1, .int .i64 a2]) w1.drew := by
        have := HLM2.out.drew.where_.look (t := 54) (e := 31) Try.underlying54 (z := addrV (0, 0)) (by kernel_rfl) (a := (m1, m2)) HNO.out false
        refine this.trans ?_
        rw [HA.out]
        rfl
      have ks : w1.cell? ⟨f.g, 0, none⟩ = some (.map (some f.b1)) ∧ w1.cell? ⟨wr.heap.size, 0, none⟩ = some (.int .u32 m1) ∧ w1.cell? ⟨wr.heap.size, 1, none⟩ = some (.int .u64 m2) := ⟨HLM2.out.blk.cell 0, HK2.out.cell 0, HK2.out.cell 1⟩
      go_region_held3 (fun u => u.cell? ⟨f.g, 0, none⟩ = some (.map (some f.b1)) ∧ u.cell? ⟨wr.heap.size, 0, none⟩ = some (.int .u32 m1) ∧ u.cell? ⟨wr.heap.size, 1, none⟩ = some (.int .u64 m2))
        (first | exact ks | exact ks4 | exact ks4a | exact ks5)
        (first
          | (go_at_call 28
             refine (place_any w1.drew (m1, m2) (a1, a2)).mono ?_
             rintro e w4 ⟨rfl, hb⟩
             have HOWN4 : Hid (OwnPl w4 w.heap.size A2 c2 ((S.take k).map (plOf L))) := OwnPl.below (w := w1.drew) HOWN2.out hb
             have HNM4 : Hid (OwnNm w4 w.heap.size (some ⟨r, 0, none⟩) c S) := World.ownsRow.kept (row := none) (w := w1.drew) HNM2.out ⟨hb.os, hb.tape, hb.output, hb.size, fun i hi _ => hb.block i hi⟩ (by cases (Value.slice (some ⟨r, 0, none⟩) S.length c).ownBlock <;> simp)
             have HK4 := Lib.hid (HK2.out.drew.below hb hs2.out)
             have HBL4 : Hid (Below w.heap.size w w4) := (show RowKit.Below w.heap.size w w1.drew from ⟨HBL2.out.os, HBL2.out.tape, HBL2.out.output, HBL2.out.size, HBL2.out.block⟩).trans (RowKit.Below.mono hb HBL2.out.size)
             have HLM4 := Lib.hid (HL.out.below HBL4.out)
             have ks4 : w4.cell? ⟨f.g, 0, none⟩ = some (.map (some f.b1)) ∧ w4.cell? ⟨wr.heap.size, 0, none⟩ = some (.int .u32 m1) ∧ w4.cell? ⟨wr.heap.size, 1, none⟩ = some (.int .u64 m2) := ⟨HLM4.out.blk.cell 0, HK4.out.cell 0, HK4.out.cell 1⟩
             have ks4a : (w4.alloc (.cells #[.int .u32 m1, .int .u64 m2, .int .i64 a1, .int .i64 a2] 33)).cell? ⟨f.g, 0, none⟩ = some (.map (some f.b1)) ∧ (w4.alloc (.cells #[.int .u32 m1, .int .u64 m2, .int .i64 a1, .int .i64 a2] 33)).cell? ⟨wr.heap.size, 0, none⟩ = some (.int .u32 m1) ∧ (w4.alloc (.cells #[.int .u32 m1, .int .u64 m2, .int .i64 a1, .int .i64 a2] 33)).cell? ⟨wr.heap.size, 1, none⟩ = some (.int .u64 m2) := ⟨(HLM4.out.alloc _).blk.cell 0, (HK4.out.alloc _).cell 0, (HK4.out.alloc _).cell 1⟩
             clear hb)
          | (refine step_append_pl w4 rfl _ _ rfl ((S.take k).map (plOf L)) ⟨m1, m2, a1, a2⟩ HOWN4.out HKL.out.symm rfl rfl HKM.out HBL4.out.size ?_
             intro A5 c5 w5 ho5 hk5
             have hown_ne : ∀ b (o : Obj), w4.heap[b]? = some o → (∀ cs fr, o ≠ .cells cs 33 fr) → ¬ (Value.slice A2 k c2).ownBlock = some b := by
               intro b o ho hno e
               rcases HOWN4.out.2 with ⟨e1, _⟩ | ⟨g', cap, cur, e1, _, hh, _⟩
               · injection e1 with e1 _ _; subst e1; simp [Value.ownBlock] at e
               · injection e1 with e1 _ _
                 subst e1
                 have : g' = b := by simpa [Value.ownBlock] using e
                 subst this
                 rw [hh] at ho
                 injection ho with ho
                 exact hno _ _ ho.symm
             have HBL5 := Lib.hid (Kp.below HBL4.out hk5 HBL4.out.size (fun b hb e => by
               have h1 := (World.ownsRow.lt HOWN4.out b (by rw [HKL.out]; exact e)).1
               omega))
             have HLM5 := Lib.hid (HL.out.below HBL5.out)
             have HK5 := Lib.hid (hk5.blk HK4.out (hown_ne _ _ HK4.out (fun cs fr e => by cases e)))
             have ks5 : w5.cell? ⟨f.g, 0, none⟩ = some (.map (some f.b1)) ∧ w5.cell? ⟨wr.heap.size, 0, none⟩ = some (.int .u32 m1) ∧ w5.cell? ⟨wr.heap.size, 1, none⟩ = some (.int .u64 m2) := ⟨HLM5.out.blk.cell 0, HK5.out.cell 0, HK5.out.cell 1⟩
             have HNM5 : Hid (OwnNm w5 w.heap.size (some ⟨r, 0, none⟩) c S) := World.ownsRow.kept (row := (Value.slice A2 k c2).ownBlock) HNM4.out ⟨hk5.os, hk5.tape, hk5.output, hk5.size, fun i hi hne => hk5.block i hi (fun e => hne e.symm)⟩ (.inr fun e => by
               rcases HNM4.out.2 with ⟨e1, _⟩ | ⟨g', cap, cur, e1, _, hh, _⟩
               · injection e1 with e1; cases e1
               · rw [e1] at e
                 exact hown_ne g' _ hh (fun cs fr e => by cases e) (by simpa [Value.ownBlock] using e.symm))
             have HO5 : Hid (w5.ownsRow w.heap.size 33 4 (.slice A5 (k + 1) c5) (k + 1) (plCs ((S.take (k + 1)).map (plOf L)))) := by rw [HTK.out]; exact ho5
             clear ho5 hk5 hown_ne))
      clear e1 ks ks4 ks4a ks5 HOWN2 HNM2 HOWN4 HNM4 HLM2 HK2 HBL2 HLM4 HK4 HBL4
      have hk1 : (k : Int) + 1 ≤ 1000001 := by have h1 := HSL.out; have h2 := HN.out; have h3 := HLT.out; omega
      go_wp2
      go_roundw
      case rel =>
        refine ⟨A5, c5, k + 1, HLT.out, rfl, by go_num, ?_, HNM5, HBL5⟩
        have h1 : ((S.take (k + 1)).map (plOf L)).length = k + 1 := by have := HLT.out; simp; omega
        unfold Hid OwnPl
        rw [h1]
        exact HO5.out
      case measure => have := HLT.out; simp [intOf]; omega
    · have hkk : k = S.length := by omega
      subst hkk
      go_wp2_with (fail)
      go_ret
      have h1 : (S.take S.length).map (plOf L) = S.map (plOf L) := by rw [List.take_length]
      have hp := nall_perm HL.out.uniq HL.out.names HS.out
      refine ⟨A2, c2, S.map (plOf L), by simp, ?_, hp, nall_rising L HS.out.1 HSO.out, hbl.out⟩
      have := hown.out
      rwa [h1] at this
end Go.Proofs.Ytcbbkemfgnbcpaa
