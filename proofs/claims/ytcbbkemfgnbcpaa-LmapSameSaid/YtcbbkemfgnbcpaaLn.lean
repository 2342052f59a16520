/- Contracts of package lmap: New, Count, Get, place. -/
import Derived.Test.YtcbbkemfgnbcpaaLm
import Derived.Test.YtcbbkemfgnbcpaaLs
namespace Go.Proofs.Ytcbbkemfgnbcpaa
open Go.RowKit

structure LFp where
  g : Nat
  b1 : Nat
  b2 : Nat
  b3 : Nat
/-- The blocks of a map of package lmap. -/
def LFp.S (f : LFp) (i : Nat) : Prop := i = f.g ∨ i = f.b1 ∨ i = f.b2 ∨ i = f.b3
/-- Its maps' blocks. -/
def LFp.T (f : LFp) (i : Nat) : Prop := i = f.b1 ∨ i = f.b2 ∨ i = f.b3

/-- A map of package lmap holds these places. -/
structure LM (w : World) (f : LFp) (n : Nat) (L : List Pl) : Prop where
  blk : Blk w f.g 57 #[.map (some f.b1), .map (some f.b2), .map (some f.b3)]
  where_ : MapF nameC addrV w f.b1 n (atOf L)
  what : MapF addrC nameV w f.b2 n (inAt L)
  counts : ∃ Cn, MapF u32C (Value.int .u64) w f.b3 n Cn ∧ ∀ t, (Cn t).getD 0 = cnt L t
  ne : f.g ≠ f.b1 ∧ f.g ≠ f.b2 ∧ f.g ≠ f.b3 ∧ f.b1 ≠ f.b2 ∧ f.b1 ≠ f.b3 ∧ f.b2 ≠ f.b3
  uniq : Uniq L
  len : L.length ≤ n
  names : ∀ p ∈ L, NameOk p.n ∧ AddrOk p.a

section
variable {w w' : World} {f : LFp} {n : Nat} {L : List Pl}
theorem LM.kp {S : Nat → Prop} (h : LM w f n L) (k : Kp S w w') (hs : ∀ i, f.S i → ¬ S i) : LM w' f n L :=
  ⟨k.blk h.blk (hs _ (.inl rfl)), h.where_.kp k (hs _ (.inr (.inl rfl))), h.what.kp k (hs _ (.inr (.inr (.inl rfl)))), (by obtain ⟨C, h1, h2⟩ := h.counts; exact ⟨C, h1.kp k (hs _ (.inr (.inr (.inr rfl)))), h2⟩), h.ne, h.uniq, h.len, h.names⟩
theorem LM.lt (h : LM w f n L) {i : Nat} (hi : f.S i) : i < w.heap.size := by
  rcases hi with rfl | rfl | rfl | rfl
  · exact h.blk.lt
  · exact h.where_.lt
  · exact h.what.lt
  · obtain ⟨C, h1, _⟩ := h.counts
    exact h1.lt
theorem LM.below (h : LM w f n L) (k : Below w.heap.size w w') : LM w' f n L := h.kp (S := fun _ => False) (Kp.of_below k) (fun _ _ h => h)
theorem LM.alloc (h : LM w f n L) (o : Obj) : LM (w.alloc o) f n L := h.below ((Below.refl _ _).alloc (Nat.le_refl _) o)
theorem LM.drew (h : LM w f n L) : LM w.drew f n L := h.below ⟨rfl, rfl, rfl, Nat.le_refl _, fun _ _ => rfl⟩
theorem LM.drewN (h : LM w f n L) (m : Nat) : LM (w.drewN m) f n L := h.below ⟨rfl, rfl, rfl, Nat.le_refl _, fun _ _ => rfl⟩
theorem LM.mono (h : LM w f n L) {m : Nat} (hm : n ≤ m) : LM w f m L :=
  ⟨h.blk, h.where_.mono hm, h.what.mono hm, (by obtain ⟨C, h1, h2⟩ := h.counts; exact ⟨C, h1.mono hm, h2⟩), h.ne, h.uniq, Nat.le_trans h.len hm, h.names⟩
theorem LM.perm (h : LM w f n L) {M : List Pl} (hp : L.Perm M) : LM w f n M :=
  ⟨h.blk, atOf_perm h.uniq hp ▸ h.where_, inAt_perm h.uniq hp ▸ h.what, (by obtain ⟨C, h1, h2⟩ := h.counts; exact ⟨C, h1, fun t => by rw [h2, cnt_perm hp]⟩), h.ne, h.uniq.perm hp, hp.length_eq ▸ h.len, fun p hpm => h.names p (hp.mem_iff.2 hpm)⟩
theorem LM.atOk (h : LM w f n L) {m a : Int × Int} (e : atOf L m = some a) : NameOk m ∧ AddrOk a := by
  obtain ⟨p, hp, rfl, rfl⟩ := (atOf_some h.uniq).1 e
  exact h.names p hp
theorem LM.inOk (h : LM w f n L) {m a : Int × Int} (e : inAt L a = some m) : NameOk m ∧ AddrOk a := h.atOk (atOf_of_inAt h.uniq e)
end

theorem lnew_any (w : World) : Calls Try.prog 9 #[] w fun e w' => ∃ f : LFp, e = .returned (.pointer (some ⟨f.g, 0, none⟩)) ∧ (∀ i, f.S i → w.heap.size ≤ i) ∧ LM w' f 0 [] ∧ Below w.heap.size w w' := by
  have hmm := @run_makeMap Try.prog
  go_enter Try.func9, Try.ntmps9
  go_wp2
  go_ret
  refine ⟨⟨w.heap.size + 1 + 1 + 1, w.heap.size, w.heap.size + 1, w.heap.size + 1 + 1⟩, by simp, ?_, ?_, ?_⟩
  · rintro i (rfl | rfl | rfl | rfl) <;> simp <;> omega
  · have m1 := (((MapF.made w nameC addrV).alloc (.map #[] 0)).alloc (.map #[] 0)).alloc (.cells #[.map (some w.heap.size), .map (some (w.heap.size + 1)), .map (some (w.heap.size + 1 + 1))] 57)
    have m2 := ((MapF.made (w.alloc (.map #[] 0)) addrC nameV).alloc (.map #[] 0)).alloc (.cells #[.map (some w.heap.size), .map (some (w.heap.size + 1)), .map (some (w.heap.size + 1 + 1))] 57)
    have m3 := (MapF.made ((w.alloc (.map #[] 0)).alloc (.map #[] 0)) u32C (Value.int .u64)).alloc (.cells #[.map (some w.heap.size), .map (some (w.heap.size + 1)), .map (some (w.heap.size + 1 + 1))] 57)
    have b := Blk.new (((w.alloc (.map #[] 0)).alloc (.map #[] 0)).alloc (.map #[] 0)) 57 #[.map (some w.heap.size), .map (some (w.heap.size + 1)), .map (some (w.heap.size + 1 + 1))]
    simp only [World.size_alloc] at m1 m2 m3 b
    exact ⟨b, m1, m2, ⟨_, m3, fun t => rfl⟩, by refine ⟨?_, ?_, ?_, ?_, ?_, ?_⟩ <;> simp <;> omega, List.Pairwise.nil, Nat.le_refl _, fun p hp => by cases hp⟩
  · exact ((((Below.refl _ _).alloc (Nat.le_refl _) _).alloc (by simp) _).alloc (by simp; omega) _).alloc (by simp; omega) _

theorem place_any (w : World) (n a : Int × Int) : Calls Try.prog 28 #[nameV n, addrV a] w (Makes (.agg #[.int .u32 n.1, .int .u64 n.2, .int .i64 a.1, .int .i64 a.2]) w) := by
  unfold nameV addrV
  go_enter Try.func28, Try.ntmps28
  go_wp2
  go_returns
  exact ⟨rfl, (((Below.refl _ _).alloc (Nat.le_refl _) _).alloc (by simp) _).alloc (by simp; omega) _⟩

theorem count_any (w : World) (f : LFp) (n : Nat) (L : List Pl) (t : Int) (ht : U32Ok t) (h : LM w f n L) : Calls Try.prog 15 #[.pointer (some ⟨f.g, 0, none⟩), .int .u32 t] w (Makes (.int .u64 (cnt L t)) w) := by
  obtain ⟨Cn, hc, hcn⟩ := h.counts
  have hl : (Instr.lookup 52 (.map (some f.b3)) (.int .u32 t) false).run Try.prog w = .ok (.int .u64 (cnt L t)) w := by
    have := hc.look (t := 52) (e := 29) Try.underlying52 (z := .int .u64 0) (by kernel_rfl) (a := t) ht false
    refine this.trans ?_
    rw [← hcn]
    cases Cn t <;> rfl
  have h2 : w.cell? ⟨f.g, 2, none⟩ = some (.map (some f.b3)) := h.blk.cell 2
  clear hc hcn h
  go_enter Try.func15, Try.ntmps15
  go_wp2
  go_ret
  exact ⟨rfl, Below.refl _ _⟩

theorem lget_any (w : World) (f : LFp) (n : Nat) (L : List Pl) (m : Int × Int) (hm : NameOk m) (h : LM w f n L) : Calls Try.prog 14 #[.pointer (some ⟨f.g, 0, none⟩), .int .u32 m.1, .int .u64 m.2] w
    (Makes (.tuple #[addrV ((atOf L m).getD (0, 0)), .bool (atOf L m).isSome]) w) := by
  have hl : ∀ o : Obj, (Instr.lookup 54 (.map (some f.b1)) (.agg #[.int .u32 m.1, .int .u64 m.2]) true).run Try.prog (w.alloc o) = .ok (.tuple #[.agg #[.int .i64 ((atOf L m).getD (0, 0)).1, .int .i64 ((atOf L m).getD (0, 0)).2], .bool (atOf L m).isSome]) (w.alloc o) := by
    intro o
    have := (h.where_.alloc o).look (t := 54) (e := 31) Try.underlying54 (z := addrV (0, 0)) (by kernel_rfl) (a := m) hm true
    refine this.trans ?_
    cases atOf L m <;> rfl
  have h0 : w.cell? ⟨f.g, 0, none⟩ = some (.map (some f.b1)) := h.blk.cell 0
  have hg := h.blk.lt
  unfold addrV
  generalize (atOf L m).getD (0, 0) = a at *
  generalize (atOf L m).isSome = is at *
  clear h
  go_enter Try.func14, Try.ntmps14
  go_wp2
  go_returns
  exact ⟨rfl, ((Below.refl _ _).alloc (Nat.le_refl _) _).alloc (by simp) _⟩
end Go.Proofs.Ytcbbkemfgnbcpaa
