/- LmapSame: what stands in memory; plain laws on counts. -/
import Derived.Test.YtcbbkemfgnbcpaaAl2
import Derived.Test.YtcbbkemfgnbcpaaRi
import Derived.Test.YtcbbkemfgnbcpaaLa
import Derived.Test.YtcbbkemfgnbcpaaAp
namespace Go.Proofs.Ytcbbkemfgnbcpaa
open Go.RowKit

def IntOk (z : Int) : Prop := -9223372036854775808 ≤ z ∧ z ≤ 9223372036854775807
def intC : KeyCode Try.prog 3 Int where
  law := Maps.int_keyed Try.underlying3
  kv := .int .i64
  ok := IntOk
  isKey := fun t h => ⟨_, Maps.keyOf_int_mk Try.underlying3 (WalkArith.wf_i64 h)⟩
  inj := by
    intro a b h
    injection h

/-- What is there, of a list. -/
def oneAt {A : Type} [DecidableEq A] (zl : List A) (z : A) : Option Int := if z ∈ zl then some 1 else none
theorem oneAt_snoc {A : Type} [DecidableEq A] (zl : List A) (z : A) : oneAt (zl ++ [z]) z = some 1 := if_pos (by simp)
theorem oneAt_other {A : Type} [DecidableEq A] (zl : List A) (z c : A) (h : c ≠ z) : oneAt (zl ++ [z]) c = oneAt zl c := by
  unfold oneAt
  simp [h]

/-- Both maps, and the zones. -/
structure Zs (W w : World) (f : LFp) (g n bz nz : Nat) (L M : List Pl) (zl : List Int) : Prop where
  mr : MR W w f g n L M
  zs : MapF intC (Value.int .i64) w bz nz (oneAt zl)
  hz : W.heap.size ≤ bz
  dz : ¬ f.S bz ∧ bz ≠ g
  cov : ∀ p ∈ L, p.z ∈ zl
section
variable {W w w' : World} {f : LFp} {g n bz nz : Nat} {L M : List Pl} {zl : List Int}
theorem MR.kp_map (h : MR W w f g n L M) (hm : ∃ es cl, w.heap[bz]? = some (.map es cl)) (hz : W.heap.size ≤ bz) (hd : ¬ f.S bz ∧ bz ≠ g) (hk : Kp (fun i => i = bz) w w') : MR W w' f g n L M := by
  obtain ⟨A, c, hg, ho⟩ := h.rm
  refine ⟨h.lm.kp hk (fun i hi e => hd.1 (e ▸ hi)), ⟨A, c, hk.blk hg (fun e => hd.2 e.symm), ho.1, ho.2.imp id ?_⟩, Kp.below h.bl hk h.bl.size (fun b hb e => by omega), h.nf, h.ng, h.len⟩
  rintro ⟨r, cap, cur, hv, h0, hr, rest⟩
  refine ⟨r, cap, cur, hv, h0, hk.blk (t := 33) hr (fun e => ?_), rest⟩
  obtain ⟨es, cl, hm⟩ := hm
  subst e
  rw [hr] at hm
  cases hm
theorem Zs.does (h : Zs W w f g n bz nz L M zl) (o : Ox) (ho : OxOk o) (hn : n + 3 ≤ 1000000) : Calls Try.prog 11 #[.pointer (some ⟨f.g, 0, none⟩), .pointer (some ⟨g, 0, none⟩), opV o] w
    (fun e w' => e = .returned (.bool (stepOk o L M)) ∧ MR W w' f g (n + 3) (stepL o L) (stepR o M) ∧ MapF intC (Value.int .i64) w' bz nz (oneAt zl)) := by
  refine (does_kp W w f g n L M o ho hn h.mr).mono ?_
  rintro e w' ⟨rfl, hm, hk⟩
  refine ⟨rfl, hm, h.zs.kp hk ?_⟩
  rintro (e | e)
  · exact h.dz.1 (LFp.S_of_T e)
  · exact h.dz.2 e
theorem Zs.below (h : Zs W w f g n bz nz L M zl) (hb : Below w.heap.size w w') : Zs W w' f g n bz nz L M zl :=
  ⟨h.mr.below hb, h.zs.kp (S := fun _ => False) (Kp.of_below hb) (fun e => e), h.hz, h.dz, h.cov⟩
theorem stepL_mem {o : Ox} {p : Pl} (hp : p ∈ stepL o L) : p = o.p ∨ p ∈ L := by
  unfold stepL at hp
  split at hp
  · exact .inr (mem_cut.1 hp).1
  · rcases List.mem_cons.1 hp with rfl | hp
    · exact .inl rfl
    · exact .inr (mem_cut.1 (mem_free.1 hp).1).1
end

/-- The two maps that are made behind a world: how many of each tenant have come, which places. -/
structure Sm (W0 w : World) (bc bp i k : Nat) (S : List Pl) : Prop where
  bl : Below W0.heap.size W0 w
  cs : ∃ C, MapF u32C (Value.int .u64) w bc i C ∧ ∀ t, (C t).getD 0 = ((cnt (S.take i) t : Nat) : Int)
  ps : MapF addrC (Value.int .i64) w bp k (oneAt ((S.take k).map Pl.a))
  hc : W0.heap.size ≤ bc
  hp : W0.heap.size ≤ bp
  ne : bc ≠ bp
section
variable {W0 w w' : World} {bc bp i k : Nat} {S : List Pl}
theorem Sm.below (h : Sm W0 w bc bp i k S) (hb : Below w.heap.size w w') : Sm W0 w' bc bp i k S :=
  ⟨h.bl.trans (hb.mono h.bl.size), (by obtain ⟨C, h1, h2⟩ := h.cs; exact ⟨C, h1.kp (S := fun _ => False) (Kp.of_below hb) (fun e => e), h2⟩), h.ps.kp (S := fun _ => False) (Kp.of_below hb) (fun e => e), h.hc, h.hp, h.ne⟩
theorem Sm.alloc (h : Sm W0 w bc bp i k S) (o : Obj) : Sm W0 (w.alloc o) bc bp i k S := h.below ((Below.refl _ _).alloc (Nat.le_refl _) o)
theorem Sm.drewN (h : Sm W0 w bc bp i k S) (m : Nat) : Sm W0 (w.drewN m) bc bp i k S := h.below ⟨rfl, rfl, rfl, Nat.le_refl _, fun _ _ => rfl⟩
theorem Sm.drew (h : Sm W0 w bc bp i k S) : Sm W0 w.drew bc bp i k S := h.below ⟨rfl, rfl, rfl, Nat.le_refl _, fun _ _ => rfl⟩
end

section
variable {W0 w w' : World} {bc bp i k : Nat} {S : List Pl}
theorem Sm.lm (h : Sm W0 w bc bp i k S) {W : World} {f : LFp} {g n bz nz : Nat} {L M : List Pl} {zl : List Int} (hz : Zs W W0 f g n bz nz L M zl) : LM w f n L := hz.mr.lm.below h.bl
theorem Sm.get (h : Sm W0 w bc bp i k S) {W : World} {f : LFp} {g n bz nz : Nat} {L M : List Pl} {zl : List Int} (hz : Zs W W0 f g n bz nz L M zl) {x : Pl} (hx : x ∈ L) : Calls Try.prog 14 #[.pointer (some ⟨f.g, 0, none⟩), .int .u32 x.t, .int .u64 x.b] w
    (fun e w' => e = .returned (.tuple #[.agg #[.int .i64 x.z, .int .i64 x.k], .bool true]) ∧ Below w.heap.size w w') := by
  have hl := h.lm hz
  refine (lget_any w f n L x.n (hl.names x hx).1 hl).mono ?_
  rintro e w' ⟨rfl, hb⟩
  rw [(atOf_some hl.uniq).2 ⟨x, hx, rfl, rfl⟩]
  exact ⟨rfl, hb⟩
theorem Sm.at_ (h : Sm W0 w bc bp i k S) {W : World} {f : LFp} {g n bz nz : Nat} {L M : List Pl} {zl : List Int} (hz : Zs W W0 f g n bz nz L M zl) {x : Pl} (hx : x ∈ L) : Calls Try.prog 16 #[.pointer (some ⟨f.g, 0, none⟩), .agg #[.int .i64 x.z, .int .i64 x.k]] w
    (fun e w' => e = .returned (.tuple #[.agg #[.int .u32 x.t, .int .u64 x.b, .int .i64 x.z, .int .i64 x.k], .bool true]) ∧ Below w.heap.size w w') := by
  have hl := h.lm hz
  have e1 := (inAt_some (a := x.a) hl.uniq).2 ⟨x, hx, rfl, rfl⟩
  refine (lat_any w f n L x.a (hl.names x hx).2 hl).mono ?_
  rintro e w' ⟨rfl, hb⟩
  unfold inPl
  rw [e1]
  exact ⟨rfl, hb⟩
theorem Sm.count (h : Sm W0 w bc bp i k S) {W : World} {f : LFp} {g n bz nz : Nat} {L M : List Pl} {zl : List Int} (hz : Zs W W0 f g n bz nz L M zl) {t : Int} (ht : U32Ok t) {m : Nat} (hm : cnt L t = m) : Calls Try.prog 15 #[.pointer (some ⟨f.g, 0, none⟩), .int .u32 t] w
    (fun e w' => e = .returned (.int .u64 m) ∧ Below w.heap.size w w') := by
  refine (count_any w f n L t ht (h.lm hz)).mono ?_
  rintro e w' ⟨rfl, hb⟩
  rw [hm]
  exact ⟨rfl, hb⟩
/-- What stands in the row of all places, in any world behind. -/
theorem Sm.row (h : Sm W0 w bc bp i k S) {A : Option Addr} {T : List Pl} (hr : RowAt W0 A T) {j : Nat} (hk : j < T.length) : ∃ r, A = some ⟨r, 0, none⟩ ∧ r < W0.heap.size ∧
    w.cell? ⟨r, j * 4, none⟩ = some (.int .u32 (T.getD j p0).t) ∧ w.cell? ⟨r, j * 4 + 1, none⟩ = some (.int .u64 (T.getD j p0).b) ∧ w.cell? ⟨r, j * 4 + 2, none⟩ = some (.int .i64 (T.getD j p0).z) ∧ w.cell? ⟨r, j * 4 + 3, none⟩ = some (.int .i64 (T.getD j p0).k) := by
  obtain ⟨r, rfl, p⟩ := hr (by omega)
  exact ⟨r, rfl, World.block_lt_of_cell? _ _ (p.c0 j hk), below_keep h.bl (p.c0 j hk), below_keep h.bl (p.c1 j hk), below_keep h.bl (p.c2 j hk), below_keep h.bl (p.c3 j hk)⟩
theorem Sm.kp (h : Sm W0 w bc bp i k S) {X : Nat → Prop} (hk : Kp X w w') (h0 : ∀ b, X b → W0.heap.size ≤ b ∧ ∃ cs t fr, w.heap[b]? = some (.cells cs t fr)) : Sm W0 w' bc bp i k S := by
  have aux : ∀ b, (∃ es cl, w.heap[b]? = some (.map es cl)) → ¬ X b := by
    rintro b ⟨es, cl, hm⟩ hx
    obtain ⟨_, cs, t, fr, hb⟩ := h0 b hx
    rw [hb] at hm
    cases hm
  refine ⟨Kp.below h.bl hk h.bl.size (fun b hb e => by have := (h0 b e).1; omega), ?_, h.ps.kp hk (aux _ h.ps.is_map), h.hc, h.hp, h.ne⟩
  obtain ⟨C, h1, h2⟩ := h.cs
  exact ⟨C, h1.kp hk (aux _ h1.is_map), h2⟩
theorem Sm.place (h : Sm W0 w bc bp i k S) (hm : MapF addrC (Value.int .i64) w' bp (k + 1) (oneAt ((S.take (k + 1)).map Pl.a))) (hk : Kp (fun b => b = bp) w w') : Sm W0 w' bc bp i (k + 1) S := by
  obtain ⟨C, h1, h2⟩ := h.cs
  exact ⟨Kp.below h.bl hk h.bl.size (fun b hb e => by have := h.hp; omega), ⟨C, h1.kp hk h.ne, h2⟩, hm, h.hc, h.hp, h.ne⟩
theorem Sm.tally (h : Sm W0 w bc bp i k S) {C : Int → Option Int} (hm : MapF u32C (Value.int .u64) w' bc (i + 1) C) (hC : ∀ t, (C t).getD 0 = ((cnt (S.take (i + 1)) t : Nat) : Int)) (hk : Kp (fun b => b = bc) w w') : Sm W0 w' bc bp (i + 1) k S :=
  ⟨Kp.below h.bl hk h.bl.size (fun b hb e => by have := h.hc; omega), ⟨C, hm, hC⟩, h.ps.kp hk (fun e => h.ne e.symm), h.hc, h.hp, h.ne⟩
end
theorem Sm.start (w : World) (S : List Pl) : Sm w ((w.alloc (.map #[] 0)).alloc (.map #[] 0)) w.heap.size (w.heap.size + 1) 0 0 S := by
  have h2 := MapF.made (w.alloc (.map #[] 0)) addrC (Value.int .i64)
  rw [World.size_alloc] at h2
  refine ⟨((Below.refl _ w).alloc (Nat.le_refl _) _).alloc (by simp) _, ⟨fun _ => none, (MapF.made w u32C (Value.int .u64)).alloc _, fun t => by simp [cnt]⟩, ?_, Nat.le_refl _, Nat.le_succ _, by omega⟩
  have e : oneAt ((S.take 0).map Pl.a) = fun _ => none := by funext a; simp [oneAt]
  rw [e]
  exact h2
theorem fresh_place {S : List Pl} (hu : Uniq S) {j : Nat} (hj : j < S.length) : (S.getD j p0).a ∉ (S.take j).map Pl.a := by
  intro h
  obtain ⟨q, hq, he⟩ := List.mem_map.1 h
  obtain ⟨i, hi, rfl⟩ := List.mem_iff_getElem.1 hq
  have hij : i < j := by simp at hi; omega
  have h1 := List.pairwise_iff_getElem.1 hu i j (by omega) hj hij
  rw [List.getElem_take] at he
  rw [List.getD_eq_getElem?_getD, List.getElem?_eq_getElem hj] at he
  exact h1.2 he
theorem places_succ {S : List Pl} {j : Nat} (hj : j < S.length) : (S.take (j + 1)).map Pl.a = (S.take j).map Pl.a ++ [(S.getD j p0).a] := by
  rw [List.take_succ_eq_append_getElem hj, List.map_append, List.getD_eq_getElem?_getD, List.getElem?_eq_getElem hj]
  rfl
/-- How many have come, of the zones that were looked at. -/
def seen (zl : List Int) (L : List Pl) : Nat := L.countP (fun p => decide (p.z ∈ zl))
theorem ofZ_count (z : Int) (L : List Pl) : (ofZ z L).length = L.countP (fun p => decide (p.z = z)) := (List.countP_eq_length_filter).symm
theorem seen_new (zl : List Int) (L : List Pl) (z : Int) (h : z ∉ zl) : seen (zl ++ [z]) L = seen zl L + (ofZ z L).length := by
  rw [ofZ_count]
  unfold seen
  induction L with
  | nil => rfl
  | cons p r ih =>
    simp only [List.countP_cons, ih]
    by_cases h1 : p.z = z
    · have : p.z ∉ zl := by rw [h1]; exact h
      simp [h1, h]
      omega
    · by_cases h2 : p.z ∈ zl <;> simp [h1, h2]
      omega
theorem seen_old (zl : List Int) (L : List Pl) (z : Int) (h : z ∈ zl) : seen (zl ++ [z]) L = seen zl L := by
  unfold seen
  refine List.countP_congr fun p _ => ?_
  simp
  rintro rfl
  exact h
theorem seen_le (zl : List Int) (L : List Pl) : seen zl L ≤ L.length := List.countP_le_length
theorem seen_all {zl : List Int} {L : List Pl} (h : ∀ p ∈ L, p.z ∈ zl) : seen zl L = L.length := List.countP_eq_length.2 fun p hp => decide_eq_true (h p hp)
/-- The zones, some of them looked at. -/
def zoneAt (zl done : List Int) (z : Int) : Option Int := if z ∈ done then some 0 else oneAt zl z
theorem zoneAt_new {zl done : List Int} {z : Int} : zoneAt zl (done ++ [z]) z = some 0 := if_pos (by simp)
theorem zoneAt_other {zl done : List Int} {z c : Int} (h : c ≠ z) : zoneAt zl (done ++ [z]) c = zoneAt zl done c := by
  unfold zoneAt
  simp [h]
theorem zoneAt_old {zl done : List Int} {z : Int} (h : z ∈ done) : zoneAt zl (done ++ [z]) = zoneAt zl done := by
  funext c
  by_cases hc : c = z
  · subst hc
    rw [zoneAt_new, zoneAt, if_pos h]
  · exact zoneAt_other hc

/-- Both maps, and the zones, some of them looked at. -/
structure Zd (W w : World) (f : LFp) (g n bz nz : Nat) (L M : List Pl) (zl done : List Int) : Prop where
  mr : MR W w f g n L M
  zs : MapF intC (Value.int .i64) w bz nz (zoneAt zl done)
  hz : W.heap.size ≤ bz
  dz : ¬ f.S bz ∧ bz ≠ g
section
variable {W w w' : World} {f : LFp} {g n bz nz : Nat} {L M : List Pl} {zl done : List Int}
theorem Zs.zd (h : Zs W w f g n bz nz L M zl) : Zd W w f g n bz nz L M zl [] := ⟨h.mr, by
  have e : zoneAt zl [] = oneAt zl := by funext c; exact if_neg (by simp)
  rw [e]; exact h.zs, h.hz, h.dz⟩
theorem Zd.below (h : Zd W w f g n bz nz L M zl done) (hb : Below w.heap.size w w') : Zd W w' f g n bz nz L M zl done :=
  ⟨h.mr.below hb, h.zs.kp (S := fun _ => False) (Kp.of_below hb) (fun e => e), h.hz, h.dz⟩
theorem Zd.look (h : Zd W w f g n bz nz L M zl done) {z : Int} (hz : IntOk z) {v : Int} (hv : (zoneAt zl done z).getD 0 = v) :
    (Instr.lookup 51 (.map (some bz)) (.int .i64 z) false).run Try.prog w = .ok (.int .i64 v) w := by
  have := h.zs.look (t := 51) (e := 3) Try.underlying51 (z := .int .i64 0) (by kernel_rfl) (a := z) hz false
  refine this.trans ?_
  rw [← hv]
  cases zoneAt zl done z <;> rfl
theorem Zd.done_ (h : Zd W w f g n bz nz L M zl done) {z : Int} (hm : MapF intC (Value.int .i64) w' bz (nz + 1) (zoneAt zl (done ++ [z]))) (hk : Kp (fun i => i = bz) w w') : Zd W w' f g n bz (nz + 1) L M zl (done ++ [z]) :=
  ⟨h.mr.kp_map h.zs.is_map h.hz h.dz hk, hm, h.hz, h.dz⟩
theorem Zd.mono (h : Zd W w f g n bz nz L M zl done) {nz' : Nat} (hn : nz ≤ nz') : Zd W w f g n bz nz' L M zl done := ⟨h.mr, h.zs.mono hn, h.hz, h.dz⟩
end
end Go.Proofs.Ytcbbkemfgnbcpaa
