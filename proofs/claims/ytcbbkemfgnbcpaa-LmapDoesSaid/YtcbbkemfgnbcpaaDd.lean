/- LmapDoes: the walk. -/
import Derived.Test.YtcbbkemfgnbcpaaAl2
import Derived.Test.YtcbbkemfgnbcpaaRi
import Derived.Test.YtcbbkemfgnbcpaaLa
namespace Go.Proofs.Ytcbbkemfgnbcpaa
open Go.RowKit

theorem zone_ext {L M S1 S2 : List Pl} {z : Int} (hp : L.Perm M) (h1 : S1.Perm (ofZ z L)) (h2 : S2.Perm (ofZ z M)) (s1 : S1.Pairwise (fun a b => a.k < b.k)) (s2 : S2.Pairwise (fun a b => a.k < b.k)) : S1 = S2 := by
  refine List.Perm.eq_of_pairwise (le := fun a b => a.k < b.k) ?_ s1 s2 ((h1.trans (hp.filter _)).trans h2.symm)
  intro a b _ _ h3 h4
  omega

/-- Both maps, the place that is looked at, what both told. -/
structure Dd (W w : World) (f : LFp) (g n : Nat) (L M : List Pl) (b7 : Nat) (p : Pl) : Prop where
  mr : MR W w f g n L M
  tw : Twin L M
  ok : NameOk p.n ∧ AddrOk p.a
  n1 : n ≤ 1000
  box : Blk w b7 33 #[.int .u32 p.t, .int .u64 p.b, .int .i64 p.z, .int .i64 p.k]
section
variable {W w w' : World} {f : LFp} {g n : Nat} {L M : List Pl} {b7 : Nat} {p : Pl}
theorem Dd.below (h : Dd W w f g n L M b7 p) (hb : Below w.heap.size w w') : Dd W w' f g n L M b7 p := ⟨h.mr.below hb, h.tw, h.ok, h.n1, h.box.below hb h.box.lt⟩
theorem Dd.alloc (h : Dd W w f g n L M b7 p) (o : Obj) : Dd W (w.alloc o) f g n L M b7 p := h.below ((Below.refl _ _).alloc (Nat.le_refl _) o)
theorem Dd.drewN (h : Dd W w f g n L M b7 p) (k : Nat) : Dd W (w.drewN k) f g n L M b7 p := ⟨h.mr.drewN k, h.tw, h.ok, h.n1, h.box.drewN k⟩
theorem Dd.len (h : Dd W w f g n L M b7 p) : M.length ≤ 1000000 ∧ n ≤ 1000000 := ⟨by have := h.mr.len; have := h.n1; omega, by have := h.n1; omega⟩
theorem Dd.cells (h : Dd W w f g n L M b7 p) : w.cell? ⟨b7, 0, none⟩ = some (.int .u32 p.t) ∧ w.cell? ⟨b7, 1, none⟩ = some (.int .u64 p.b) ∧ w.cell? ⟨b7, 2, none⟩ = some (.int .i64 p.z) ∧ w.cell? ⟨b7, 3, none⟩ = some (.int .i64 p.k) :=
  ⟨h.box.cell 0, h.box.cell 1, h.box.cell 2, h.box.cell 3⟩
theorem Dd.uM (h : Dd W w f g n L M b7 p) : Uniq M := h.mr.lm.uniq.perm h.tw.perm.symm
theorem Dd.get (h : Dd W w f g n L M b7 p) {q : Option (Int × Int)} (hq : atOf L p.n = q) : Calls Try.prog 14 #[.pointer (some ⟨f.g, 0, none⟩), .int .u32 p.t, .int .u64 p.b] w
    (fun e w' => e = .returned (.tuple #[.agg #[.int .i64 (q.getD (0, 0)).1, .int .i64 (q.getD (0, 0)).2], .bool q.isSome]) ∧ Below w.heap.size w w') := by
  refine (lget_any w f n L p.n h.ok.1 h.mr.lm).mono ?_
  rintro e w' ⟨rfl, hb⟩
  rw [hq]
  exact ⟨rfl, hb⟩
theorem Dd.rget (h : Dd W w f g n L M b7 p) {q : Option (Int × Int)} (hq : atOf L p.n = q) : Calls Try.prog 21 #[.pointer (some ⟨g, 0, none⟩), .int .u32 p.t, .int .u64 p.b] w
    (fun e w' => e = .returned (.tuple #[.agg #[.int .i64 (q.getD (0, 0)).1, .int .i64 (q.getD (0, 0)).2], .bool q.isSome]) ∧ Below w.heap.size w w') := by
  refine (rget_any w g M p.t p.b h.uM h.len.1 h.mr.rm).mono ?_
  rintro e w' ⟨rfl, hb⟩
  rw [← atOf_perm h.mr.lm.uniq h.tw.perm.symm, show (p.t, p.b) = p.n from rfl, hq]
  exact ⟨rfl, hb⟩
theorem Dd.at_ (h : Dd W w f g n L M b7 p) {y : Pl} {is : Bool} (hy : inPl L p.a = y) (hi : (inAt L p.a).isSome = is) : Calls Try.prog 16 #[.pointer (some ⟨f.g, 0, none⟩), .agg #[.int .i64 p.z, .int .i64 p.k]] w
    (fun e w' => e = .returned (.tuple #[.agg #[.int .u32 y.t, .int .u64 y.b, .int .i64 y.z, .int .i64 y.k], .bool is]) ∧ Below w.heap.size w w') := by
  refine (lat_any w f n L p.a h.ok.2 h.mr.lm).mono ?_
  rintro e w' ⟨rfl, hb⟩
  rw [hy, hi]
  exact ⟨rfl, hb⟩
theorem Dd.rat (h : Dd W w f g n L M b7 p) {y : Pl} {is : Bool} (hy : inPl L p.a = y) (hi : (inAt L p.a).isSome = is) : Calls Try.prog 22 #[.pointer (some ⟨g, 0, none⟩), .agg #[.int .i64 p.z, .int .i64 p.k]] w
    (fun e w' => e = .returned (.tuple #[.agg #[.int .u32 y.t, .int .u64 y.b, .int .i64 y.z, .int .i64 y.k], .bool is]) ∧ Below w.heap.size w w') := by
  refine (rat_any w g M p.z p.k h.uM h.len.1 h.mr.rm).mono ?_
  rintro e w' ⟨rfl, hb⟩
  have e1 : inPl M (p.z, p.k) = y := by rw [← hy]; unfold inPl; rw [inAt_perm h.mr.lm.uniq h.tw.perm.symm]; rfl
  rw [← inAt_perm h.mr.lm.uniq h.tw.perm.symm, show (p.z, p.k) = p.a from rfl, hi, show inPl M p.a = y from e1]
  exact ⟨rfl, hb⟩
theorem Dd.count (h : Dd W w f g n L M b7 p) {x : Nat} (hx : cnt L p.t = x) : Calls Try.prog 15 #[.pointer (some ⟨f.g, 0, none⟩), .int .u32 p.t] w
    (fun e w' => e = .returned (.int .u64 x) ∧ Below w.heap.size w w') := by
  refine (count_any w f n L p.t h.ok.1.1 h.mr.lm).mono ?_
  rintro e w' ⟨rfl, hb⟩
  rw [hx]
  exact ⟨rfl, hb⟩
theorem Dd.rcount (h : Dd W w f g n L M b7 p) {x : Nat} (hx : cnt L p.t = x) : Calls Try.prog 23 #[.pointer (some ⟨g, 0, none⟩), .int .u32 p.t] w
    (fun e w' => e = .returned (.int .u64 x) ∧ w' = w) := by
  refine (rcount_any w g M p.t h.len.1 h.mr.rm).mono ?_
  rintro e w' ⟨rfl, rfl⟩
  rw [← hx, cnt_perm h.tw.perm]
  exact ⟨rfl, rfl⟩
theorem Dd.in_ (h : Dd W w f g n L M b7 p) : Calls Try.prog 18 #[.pointer (some ⟨f.g, 0, none⟩), .int .i64 p.z] w
    (fun e w' => ∃ A c S, e = .returned (.slice A (List.length S) c) ∧ RowAt w' A S ∧ S.Perm (ofZ p.z L) ∧ S.Pairwise (fun a b => a.k < b.k) ∧ S.length ≤ 1000000 ∧ Below w.heap.size w w') := by
  refine (lin_any w f n L p.z h.len.2 h.mr.lm).mono ?_
  rintro e w' ⟨A, c, S, rfl, ho, hp, hs, hb⟩
  refine ⟨A, c, S, rfl, ho.row, hp, hs, ?_, hb⟩
  have h1 := hp.length_eq
  have h2 : (ofZ p.z L).length ≤ L.length := List.length_filter_le _ _
  have h3 := h.mr.lm.len
  have h4 := h.n1
  omega
theorem Dd.rin (h : Dd W w f g n L M b7 p) {S : List Pl} (hp : S.Perm (ofZ p.z L)) (hs : S.Pairwise (fun a b => a.k < b.k)) : Calls Try.prog 24 #[.pointer (some ⟨g, 0, none⟩), .int .i64 p.z] w
    (fun e w' => ∃ A c, e = .returned (.slice A (List.length S) c) ∧ RowAt w' A S ∧ Below w.heap.size w w') := by
  refine (rin_any w g M p.z h.uM h.len.1 h.mr.rm).mono ?_
  rintro e w' ⟨A, c, S2, rfl, ho, hp2, hs2, hb⟩
  obtain rfl : S = S2 := zone_ext h.tw.perm.symm hp hp2 hs hs2
  exact ⟨A, c, rfl, ho.row, hb⟩
theorem Dd.all (h : Dd W w f g n L M b7 p) : Calls Try.prog 17 #[.pointer (some ⟨f.g, 0, none⟩)] w
    (fun e w' => ∃ A c, e = .returned (.slice A M.length c) ∧ RowAt w' A M ∧ Below w.heap.size w w') := by
  refine (lall_any w f n L h.len.2 h.mr.lm).mono ?_
  rintro e w' ⟨A, c, S, rfl, ho, hp, hr, hb⟩
  obtain rfl : S = M := rising_ext hr h.tw.rise (hp.trans h.tw.perm.symm)
  exact ⟨A, c, rfl, ho.row, hb⟩
theorem Dd.rall (h : Dd W w f g n L M b7 p) : Calls Try.prog 20 #[.pointer (some ⟨g, 0, none⟩)] w
    (fun e w' => ∃ A c, e = .returned (.slice A M.length c) ∧ RowAt w' A M ∧ Below w.heap.size w w') := by
  refine (rall_any w g M h.len.1 h.mr.rm).mono ?_
  rintro e w' ⟨A, c, rfl, ho, hb⟩
  exact ⟨A, c, rfl, ho.row, hb⟩
theorem RowAt.below {A : Option Addr} (h : RowAt w A L) (hb : Below w.heap.size w w') : RowAt w' A L := fun hn => by
  obtain ⟨r, rfl, hr⟩ := h hn
  exact ⟨r, rfl, fun i hi => below_keep hb (hr.c0 i hi), fun i hi => below_keep hb (hr.c1 i hi), fun i hi => below_keep hb (hr.c2 i hi), fun i hi => below_keep hb (hr.c3 i hi)⟩
end
end Go.Proofs.Ytcbbkemfgnbcpaa
