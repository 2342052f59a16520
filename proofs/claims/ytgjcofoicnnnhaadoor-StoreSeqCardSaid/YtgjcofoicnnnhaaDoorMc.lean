/- Joined texts: Ls Ln Ln2 Ln3 Ln4 Sg3 Sg4 Sg5 Sg6 St St2 St3 St4. -/
import Derived.Test.YtgjcofoicnnnhaaDoorMa
import Derived.Test.YtgjcofoicnnnhaaDoorMb
import Derived.BigRegion
import Derived.StillTailTactics
import Derived.Deep.RegionHeld3
/- Places, in plain Lean: a list of places in which no block and no place comes twice; a block forgotten, a place freed, a block put. -/
namespace Go.Proofs.YtgjcofoicnnnhaaDoor

structure Pl where
  t : Int
  b : Int
  z : Int
  k : Int
deriving DecidableEq
def Pl.n (p : Pl) : Int × Int := (p.t, p.b)
def Pl.a (p : Pl) : Int × Int := (p.z, p.k)
theorem Pl.ext_ {p q : Pl} (h1 : p.n = q.n) (h2 : p.a = q.a) : p = q := by
  cases p; cases q
  simp only [Pl.n, Pl.a, Prod.mk.injEq] at h1 h2
  obtain ⟨rfl, rfl⟩ := h1
  obtain ⟨rfl, rfl⟩ := h2
  rfl

def Uniq (L : List Pl) : Prop := L.Pairwise (fun p q => p.n ≠ q.n ∧ p.a ≠ q.a)
def atOf (L : List Pl) (n : Int × Int) : Option (Int × Int) := (L.find? (fun p => decide (p.n = n))).map Pl.a
def inAt (L : List Pl) (a : Int × Int) : Option (Int × Int) := (L.find? (fun p => decide (p.a = a))).map Pl.n
def cnt (L : List Pl) (t : Int) : Nat := L.countP (fun p => decide (p.t = t))
def cut (L : List Pl) (n : Int × Int) : List Pl := L.filter (fun p => !decide (p.n = n))
def free (L : List Pl) (a : Int × Int) : List Pl := L.filter (fun p => !decide (p.a = a))

section
variable {L : List Pl} {n m a : Int × Int} {p q : Pl}
theorem Uniq.filter (h : Uniq L) (f : Pl → Bool) : Uniq (L.filter f) := List.Pairwise.filter _ h
theorem Uniq.cut (h : Uniq L) (n) : Uniq (cut L n) := h.filter _
theorem Uniq.free (h : Uniq L) (n) : Uniq (free L n) := h.filter _
theorem Uniq.mem (h : Uniq L) (hp : p ∈ L) (hq : q ∈ L) (he : p.n = q.n ∨ p.a = q.a) : p = q := by
  induction L with
  | nil => cases hp
  | cons x r ih =>
    obtain ⟨h1, h2⟩ := List.pairwise_cons.1 h
    rcases List.mem_cons.1 hp with rfl | hp'
    · rcases List.mem_cons.1 hq with rfl | hq'
      · rfl
      · rcases he with he | he
        · exact absurd he (h1 q hq').1
        · exact absurd he (h1 q hq').2
    · rcases List.mem_cons.1 hq with rfl | hq'
      · rcases he with he | he
        · exact absurd he.symm (h1 p hp').1
        · exact absurd he.symm (h1 p hp').2
      · exact ih h2 hp' hq'
theorem Uniq.eqn (h : Uniq L) (hp : p ∈ L) (hq : q ∈ L) (he : p.n = q.n) : p = q := h.mem hp hq (.inl he)
theorem Uniq.eqa (h : Uniq L) (hp : p ∈ L) (hq : q ∈ L) (he : p.a = q.a) : p = q := h.mem hp hq (.inr he)

theorem atOf_some (h : Uniq L) : atOf L n = some a ↔ ∃ p ∈ L, p.n = n ∧ p.a = a := by
  unfold atOf
  constructor
  · intro e
    obtain ⟨p, hp, rfl⟩ := Option.map_eq_some_iff.1 e
    exact ⟨p, List.mem_of_find?_eq_some hp, by simpa using List.find?_some hp, rfl⟩
  · rintro ⟨p, hp, rfl, rfl⟩
    obtain ⟨q, hq⟩ := Option.isSome_iff_exists.1 (List.find?_isSome.2 ⟨p, hp, decide_eq_true rfl⟩ : (L.find? (fun x => decide (x.n = p.n))).isSome = true)
    rw [hq, Option.map_some, h.eqn (List.mem_of_find?_eq_some hq) hp (by simpa using List.find?_some hq)]
theorem atOf_none : atOf L n = none ↔ ∀ p ∈ L, p.n ≠ n := by
  unfold atOf
  rw [Option.map_eq_none_iff, List.find?_eq_none]
  exact ⟨fun h p hp e => h p hp (decide_eq_true e), fun h p hp e => h p hp (of_decide_eq_true e)⟩
theorem inAt_some (h : Uniq L) : inAt L a = some n ↔ ∃ p ∈ L, p.n = n ∧ p.a = a := by
  unfold inAt
  constructor
  · intro e
    obtain ⟨p, hp, rfl⟩ := Option.map_eq_some_iff.1 e
    exact ⟨p, List.mem_of_find?_eq_some hp, rfl, by simpa using List.find?_some hp⟩
  · rintro ⟨p, hp, rfl, rfl⟩
    obtain ⟨q, hq⟩ := Option.isSome_iff_exists.1 (List.find?_isSome.2 ⟨p, hp, decide_eq_true rfl⟩ : (L.find? (fun x => decide (x.a = p.a))).isSome = true)
    rw [hq, Option.map_some, h.eqa (List.mem_of_find?_eq_some hq) hp (by simpa using List.find?_some hq)]
theorem inAt_none : inAt L a = none ↔ ∀ p ∈ L, p.a ≠ a := by
  unfold inAt
  rw [Option.map_eq_none_iff, List.find?_eq_none]
  exact ⟨fun h p hp e => h p hp (decide_eq_true e), fun h p hp e => h p hp (of_decide_eq_true e)⟩
theorem inAt_of_atOf (h : Uniq L) (e : atOf L n = some a) : inAt L a = some n := (inAt_some h).2 ((atOf_some h).1 e)
theorem atOf_of_inAt (h : Uniq L) (e : inAt L a = some n) : atOf L n = some a := (atOf_some h).2 ((inAt_some h).1 e)

theorem mem_cut : p ∈ cut L n ↔ p ∈ L ∧ p.n ≠ n := by simp [cut]
theorem mem_free : p ∈ free L a ↔ p ∈ L ∧ p.a ≠ a := by simp [free]

theorem opt_ext {α : Type} {x y : Option α} (h : ∀ a, x = some a ↔ y = some a) : x = y := by
  cases x with
  | none =>
    cases y with
    | none => rfl
    | some b => exact absurd ((h b).2 rfl) (by simp)
  | some b => exact ((h b).1 rfl).symm

theorem atOf_cut_same : atOf (cut L n) n = none := atOf_none.2 fun _ hp => (mem_cut.1 hp).2
theorem atOf_cut_other (h : Uniq L) (hne : m ≠ n) : atOf (cut L n) m = atOf L m := opt_ext fun a => by
  rw [atOf_some (h.cut n), atOf_some h]
  exact ⟨fun ⟨p, hp, e⟩ => ⟨p, (mem_cut.1 hp).1, e⟩, fun ⟨p, hp, e1, e2⟩ => ⟨p, mem_cut.2 ⟨hp, by rw [e1]; exact hne⟩, e1, e2⟩⟩
theorem cut_none (e : atOf L n = none) : cut L n = L := List.filter_eq_self.2 fun p hp => by simpa using atOf_none.1 e p hp
theorem free_none (e : inAt L a = none) : free L a = L := List.filter_eq_self.2 fun p hp => by simpa using inAt_none.1 e p hp
theorem free_some (h : Uniq L) (e : inAt L a = some n) : free L a = cut L n := by
  obtain ⟨q, hq, q1, q2⟩ := (inAt_some h).1 e
  refine List.filter_congr fun p hp => ?_
  congr 1
  rw [decide_eq_decide]
  exact ⟨fun hpa => by rw [h.eqa hp hq (hpa.trans q2.symm)]; exact q1, fun hpn => by rw [h.eqn hp hq (hpn.trans q1.symm)]; exact q2⟩
theorem inAt_cut_same (h : Uniq L) (e : atOf L n = some a) : inAt (cut L n) a = none := inAt_none.2 fun _ hp hpa => by
  obtain ⟨q, hq, q1, q2⟩ := (atOf_some h).1 e
  obtain ⟨hp1, hp2⟩ := mem_cut.1 hp
  exact hp2 (by rw [h.eqa hp1 hq (hpa.trans q2.symm)]; exact q1)
theorem inAt_cut_other (h : Uniq L) (e : atOf L n = some a) {c : Int × Int} (hne : c ≠ a) : inAt (cut L n) c = inAt L c := opt_ext fun m => by
  rw [inAt_some (h.cut n), inAt_some h]
  refine ⟨fun ⟨p, hp, e⟩ => ⟨p, (mem_cut.1 hp).1, e⟩, fun ⟨p, hp, e1, e2⟩ => ⟨p, mem_cut.2 ⟨hp, fun hpn => hne ?_⟩, e1, e2⟩⟩
  obtain ⟨q, hq, q1, q2⟩ := (atOf_some h).1 e
  rw [← e2, h.eqn hp hq (hpn.trans q1.symm), q2]

theorem cnt_cut (h : Uniq L) (e : atOf L n = some a) (t : Int) : cnt (cut L n) t + (if t = n.1 then 1 else 0) = cnt L t := by
  obtain ⟨q, hq, q1, q2⟩ := (atOf_some h).1 e
  clear e q2
  induction L with
  | nil => cases hq
  | cons x r ih =>
    obtain ⟨h1, h2⟩ := List.pairwise_cons.1 h
    by_cases hx : x.n = n
    · have hr : cut r n = r := List.filter_eq_self.2 fun p hp => by
        have := (h1 p hp).1
        rw [hx] at this
        simpa using fun e => this e.symm
      have e1 : cut (x :: r) n = r := by
        unfold cut at hr ⊢
        rw [List.filter_cons_of_neg (by simp [hx]), hr]
      have hxt : x.t = n.1 := by rw [← hx]; rfl
      rw [e1]
      unfold cnt
      rw [List.countP_cons]
      by_cases ht : t = n.1
      · subst ht; simp [hxt]
      · simp [ht, hxt]; intro e; exact absurd e.symm ht
    · have hq' : q ∈ r := by
        rcases List.mem_cons.1 hq with rfl | hq
        · exact absurd q1 hx
        · exact hq
      have := ih h2 hq'
      have e1 : cut (x :: r) n = x :: cut r n := by
        unfold cut
        rw [List.filter_cons_of_pos (by simp [hx])]
      rw [e1]
      unfold cnt at this ⊢
      rw [List.countP_cons, List.countP_cons]
      omega
theorem cnt_le (L : List Pl) (t : Int) : cnt L t ≤ L.length := List.countP_le_length
theorem cut_length (L : List Pl) (n) : (cut L n).length ≤ L.length := List.length_filter_le _ _
theorem free_length (L : List Pl) (n) : (free L n).length ≤ L.length := List.length_filter_le _ _

/-- What may be put ahead: nothing of that name, nothing at that place. -/
theorem Uniq.cons (h : Uniq L) (h1 : atOf L p.n = none) (h2 : inAt L p.a = none) : Uniq (p :: L) :=
  List.pairwise_cons.2 ⟨fun q hq => ⟨fun e => atOf_none.1 h1 q hq e.symm, fun e => inAt_none.1 h2 q hq e.symm⟩, h⟩
theorem atOf_cons : atOf (p :: L) n = if n = p.n then some p.a else atOf L n := by
  unfold atOf
  rw [List.find?_cons]
  by_cases h : n = p.n
  · simp [h]
  · have h' : ¬ p.n = n := fun e => h e.symm
    rw [if_neg h, decide_eq_false h']
theorem inAt_cons : inAt (p :: L) a = if a = p.a then some p.n else inAt L a := by
  unfold inAt
  rw [List.find?_cons]
  by_cases h : a = p.a
  · simp [h]
  · have h' : ¬ p.a = a := fun e => h e.symm
    rw [if_neg h, decide_eq_false h']
theorem cnt_cons {t : Int} : cnt (p :: L) t = cnt L t + (if t = p.t then 1 else 0) := by
  unfold cnt
  rw [List.countP_cons]
  by_cases h : t = p.t
  · simp [h]
  · simp [h]; exact fun e => h e.symm

/-- Only who is in it matters. -/
theorem Uniq.perm {M : List Pl} (h : Uniq L) (hp : L.Perm M) : Uniq M := (hp.pairwise_iff (fun hab => ⟨Ne.symm hab.1, Ne.symm hab.2⟩)).1 h
theorem atOf_perm {M : List Pl} (h : Uniq L) (hp : L.Perm M) : atOf L = atOf M := funext fun n => opt_ext fun a => by
  rw [atOf_some h, atOf_some (h.perm hp)]
  exact ⟨fun ⟨p, hp', e⟩ => ⟨p, hp.mem_iff.1 hp', e⟩, fun ⟨p, hp', e⟩ => ⟨p, hp.mem_iff.2 hp', e⟩⟩
theorem inAt_perm {M : List Pl} (h : Uniq L) (hp : L.Perm M) : inAt L = inAt M := funext fun n => opt_ext fun a => by
  rw [inAt_some h, inAt_some (h.perm hp)]
  exact ⟨fun ⟨p, hp', e⟩ => ⟨p, hp.mem_iff.1 hp', e⟩, fun ⟨p, hp', e⟩ => ⟨p, hp.mem_iff.2 hp', e⟩⟩
theorem cnt_perm {M : List Pl} (hp : L.Perm M) : cnt L = cnt M := funext fun _ => hp.countP_eq _
end
end Go.Proofs.YtgjcofoicnnnhaaDoor

/- Contracts of package lmap: New, Count, Get, place. -/
namespace Go.Proofs.YtgjcofoicnnnhaaDoor
open Go.RowKit

structure LFp where
  g : Nat
  b1 : Nat
  b2 : Nat
  b3 : Nat
/-- The blocks of a map of package lmap. -/
def LFp.S (f : LFp) (i : Nat) : Prop := i = f.g ∨ i = f.b1 ∨ i = f.b2 ∨ i = f.b3
/-- Its maps' blocks. -/
def LFp.T (f : LFp) (i : Nat) : Prop := i = f.b1 ∨ i = f.b2 ∨ i = f.b3

/-- A map of package lmap holds these places. -/
structure LM (w : World) (f : LFp) (n : Nat) (L : List Pl) : Prop where
  blk : Blk w f.g 84 #[.map (some f.b1), .map (some f.b2), .map (some f.b3)]
  where_ : MapF nameC addrV w f.b1 n (atOf L)
  what : MapF addrC nameV w f.b2 n (inAt L)
  counts : ∃ Cn, MapF u32C (Value.int .u64) w f.b3 n Cn ∧ ∀ t, (Cn t).getD 0 = cnt L t
  ne : f.g ≠ f.b1 ∧ f.g ≠ f.b2 ∧ f.g ≠ f.b3 ∧ f.b1 ≠ f.b2 ∧ f.b1 ≠ f.b3 ∧ f.b2 ≠ f.b3
  uniq : Uniq L
  len : L.length ≤ n
  names : ∀ p ∈ L, NameOk p.n ∧ AddrOk p.a

section
variable {w w' : World} {f : LFp} {n : Nat} {L : List Pl}
theorem LM.kp {S : Nat → Prop} (h : LM w f n L) (k : Kp S w w') (hs : ∀ i, f.S i → ¬ S i) : LM w' f n L :=
  ⟨k.blk h.blk (hs _ (.inl rfl)), h.where_.kp k (hs _ (.inr (.inl rfl))), h.what.kp k (hs _ (.inr (.inr (.inl rfl)))), (by obtain ⟨C, h1, h2⟩ := h.counts; exact ⟨C, h1.kp k (hs _ (.inr (.inr (.inr rfl)))), h2⟩), h.ne, h.uniq, h.len, h.names⟩
theorem LM.lt (h : LM w f n L) {i : Nat} (hi : f.S i) : i < w.heap.size := by
  rcases hi with rfl | rfl | rfl | rfl
  · exact h.blk.lt
  · exact h.where_.lt
  · exact h.what.lt
  · obtain ⟨C, h1, _⟩ := h.counts
    exact h1.lt
theorem LM.below (h : LM w f n L) (k : Below w.heap.size w w') : LM w' f n L := h.kp (S := fun _ => False) (Kp.of_below k) (fun _ _ h => h)
theorem LM.alloc (h : LM w f n L) (o : Obj) : LM (w.alloc o) f n L := h.below ((Below.refl _ _).alloc (Nat.le_refl _) o)
theorem LM.drew (h : LM w f n L) : LM w.drew f n L := h.below ⟨rfl, rfl, rfl, Nat.le_refl _, fun _ _ => rfl⟩
theorem LM.drewN (h : LM w f n L) (m : Nat) : LM (w.drewN m) f n L := h.below ⟨rfl, rfl, rfl, Nat.le_refl _, fun _ _ => rfl⟩
theorem LM.mono (h : LM w f n L) {m : Nat} (hm : n ≤ m) : LM w f m L :=
  ⟨h.blk, h.where_.mono hm, h.what.mono hm, (by obtain ⟨C, h1, h2⟩ := h.counts; exact ⟨C, h1.mono hm, h2⟩), h.ne, h.uniq, Nat.le_trans h.len hm, h.names⟩
theorem LM.perm (h : LM w f n L) {M : List Pl} (hp : L.Perm M) : LM w f n M :=
  ⟨h.blk, atOf_perm h.uniq hp ▸ h.where_, inAt_perm h.uniq hp ▸ h.what, (by obtain ⟨C, h1, h2⟩ := h.counts; exact ⟨C, h1, fun t => by rw [h2, cnt_perm hp]⟩), h.ne, h.uniq.perm hp, hp.length_eq ▸ h.len, fun p hpm => h.names p (hp.mem_iff.2 hpm)⟩
theorem LM.atOk (h : LM w f n L) {m a : Int × Int} (e : atOf L m = some a) : NameOk m ∧ AddrOk a := by
  obtain ⟨p, hp, rfl, rfl⟩ := (atOf_some h.uniq).1 e
  exact h.names p hp
theorem LM.inOk (h : LM w f n L) {m a : Int × Int} (e : inAt L a = some m) : NameOk m ∧ AddrOk a := h.atOk (atOf_of_inAt h.uniq e)
end

theorem lnew_any (w : World) : Calls Tryd.prog 46 #[] w fun e w' => ∃ f : LFp, e = .returned (.pointer (some ⟨f.g, 0, none⟩)) ∧ (∀ i, f.S i → w.heap.size ≤ i) ∧ LM w' f 0 [] ∧ Below w.heap.size w w' := by
  have hmm := @run_makeMap Tryd.prog
  go_enter Tryd.func46, Tryd.ntmps46
  go_wp2
  go_ret
  refine ⟨⟨w.heap.size + 1 + 1 + 1, w.heap.size, w.heap.size + 1, w.heap.size + 1 + 1⟩, by simp, ?_, ?_, ?_⟩
  · rintro i (rfl | rfl | rfl | rfl) <;> simp <;> omega
  · have m1 := (((MapF.made w nameC addrV).alloc (.map #[] 0)).alloc (.map #[] 0)).alloc (.cells #[.map (some w.heap.size), .map (some (w.heap.size + 1)), .map (some (w.heap.size + 1 + 1))] 84)
    have m2 := ((MapF.made (w.alloc (.map #[] 0)) addrC nameV).alloc (.map #[] 0)).alloc (.cells #[.map (some w.heap.size), .map (some (w.heap.size + 1)), .map (some (w.heap.size + 1 + 1))] 84)
    have m3 := (MapF.made ((w.alloc (.map #[] 0)).alloc (.map #[] 0)) u32C (Value.int .u64)).alloc (.cells #[.map (some w.heap.size), .map (some (w.heap.size + 1)), .map (some (w.heap.size + 1 + 1))] 84)
    have b := Blk.new (((w.alloc (.map #[] 0)).alloc (.map #[] 0)).alloc (.map #[] 0)) 84 #[.map (some w.heap.size), .map (some (w.heap.size + 1)), .map (some (w.heap.size + 1 + 1))]
    simp only [World.size_alloc] at m1 m2 m3 b
    exact ⟨b, m1, m2, ⟨_, m3, fun t => rfl⟩, by refine ⟨?_, ?_, ?_, ?_, ?_, ?_⟩ <;> simp <;> omega, List.Pairwise.nil, Nat.le_refl _, fun p hp => by cases hp⟩
  · exact ((((Below.refl _ _).alloc (Nat.le_refl _) _).alloc (by simp) _).alloc (by simp; omega) _).alloc (by simp; omega) _

theorem lcount_any (w : World) (f : LFp) (n : Nat) (L : List Pl) (t : Int) (ht : U32Ok t) (h : LM w f n L) : Calls Tryd.prog 17 #[.pointer (some ⟨f.g, 0, none⟩), .int .u32 t] w (Makes (.int .u64 (cnt L t)) w) := by
  obtain ⟨Cn, hc, hcn⟩ := h.counts
  have hl : (Instr.lookup 82 (.map (some f.b3)) (.int .u32 t) false).run Tryd.prog w = .ok (.int .u64 (cnt L t)) w := by
    have := hc.look (t := 82) (e := 34) Tryd.underlying82 (z := .int .u64 0) (by kernel_rfl) (a := t) ht false
    refine this.trans ?_
    rw [← hcn]
    cases Cn t <;> rfl
  have h2 : w.cell? ⟨f.g, 2, none⟩ = some (.map (some f.b3)) := h.blk.cell 2
  clear hc hcn h
  go_enter Tryd.func17, Tryd.ntmps17
  go_wp2
  go_ret
  exact ⟨rfl, Below.refl _ _⟩

theorem lget_any (w : World) (f : LFp) (n : Nat) (L : List Pl) (m : Int × Int) (hm : NameOk m) (h : LM w f n L) : Calls Tryd.prog 23 #[.pointer (some ⟨f.g, 0, none⟩), .int .u32 m.1, .int .u64 m.2] w
    (Makes (.tuple #[addrV ((atOf L m).getD (0, 0)), .bool (atOf L m).isSome]) w) := by
  have hl : ∀ o : Obj, (Instr.lookup 80 (.map (some f.b1)) (.agg #[.int .u32 m.1, .int .u64 m.2]) true).run Tryd.prog (w.alloc o) = .ok (.tuple #[.agg #[.int .i64 ((atOf L m).getD (0, 0)).1, .int .i64 ((atOf L m).getD (0, 0)).2], .bool (atOf L m).isSome]) (w.alloc o) := by
    intro o
    have := (h.where_.alloc o).look (t := 80) (e := 58) Tryd.underlying80 (z := addrV (0, 0)) (by kernel_rfl) (a := m) hm true
    refine this.trans ?_
    cases atOf L m <;> rfl
  have h0 : w.cell? ⟨f.g, 0, none⟩ = some (.map (some f.b1)) := h.blk.cell 0
  have hg := h.blk.lt
  unfold addrV
  generalize (atOf L m).getD (0, 0) = a at *
  generalize (atOf L m).isSome = is at *
  clear h
  go_enter Tryd.func23, Tryd.ntmps23
  go_wp2
  go_returns
  exact ⟨rfl, ((Below.refl _ _).alloc (Nat.le_refl _) _).alloc (by simp) _⟩
end Go.Proofs.YtgjcofoicnnnhaaDoor

/- Contracts of package lmap: At, forget. -/
namespace Go.Proofs.YtgjcofoicnnnhaaDoor
open Go.RowKit

def plV (p : Pl) : Value := .agg #[.int .u32 p.t, .int .u64 p.b, .int .i64 p.z, .int .i64 p.k]
/-- What At tells. -/
def inPl (L : List Pl) (a : Int × Int) : Pl := match inAt L a with | some n => ⟨n.1, n.2, a.1, a.2⟩ | none => ⟨0, 0, 0, 0⟩


end Go.Proofs.YtgjcofoicnnnhaaDoor

/- Contracts of package lmap: forget. -/
namespace Go.Proofs.YtgjcofoicnnnhaaDoor
open Go.RowKit


/-- What forgetting a block brings about. -/
def Forgot (f : LFp) (n : Nat) (L : List Pl) (m : Int × Int) (w : World) (e : Ending) (w' : World) : Prop :=
  e = .returned (.bool (atOf L m).isSome) ∧ LM w' f (n + 1) (cut L m) ∧ Kp f.T w w'

set_option maxRecDepth 4000 in
theorem forget_any (w : World) (f : LFp) (n : Nat) (L : List Pl) (m : Int × Int) (hm : NameOk m) (h : LM w f n L) (hn : n < maxLen) :
    Calls Tryd.prog 62 #[.pointer (some ⟨f.g, 0, none⟩), .agg #[.int .u32 m.1, .int .u64 m.2]] w (Forgot f n L m w) := by
  obtain ⟨a, is, hl, hv⟩ : ∃ (a : Int × Int) (is : Bool), (∀ u, Kp (fun _ => False) w u → (Instr.lookup 80 (.map (some f.b1)) (.agg #[.int .u32 m.1, .int .u64 m.2]) true).run Tryd.prog u = .ok (.tuple #[.agg #[.int .i64 a.1, .int .i64 a.2], .bool is]) u) ∧
      atOf L m = (if is then some a else none) := by
    refine ⟨(atOf L m).getD (0, 0), (atOf L m).isSome, fun u hu => ?_, ?_⟩
    · have := (h.where_.kp hu (fun e => e)).look (t := 80) (e := 58) Tryd.underlying80 (z := addrV (0, 0)) (by kernel_rfl) (a := m) hm true
      refine this.trans ?_
      cases atOf L m <;> rfl
    · cases atOf L m <;> rfl
  have hg := h.blk.lt
  have h0 : w.cell? ⟨f.g, 0, none⟩ = some (.map (some f.b1)) := h.blk.cell 0
  have HM := Lib.hid hl
  have HL := Lib.hid h
  have HV := Lib.hid hv
  have HO := Lib.hid hm
  clear hl h hv hm
  go_enter Tryd.func62, Tryd.ntmps62
  go_wp2_with (fail)
  have hk := (Kp.refl (fun _ => False) w).alloc (.cells #[.int .u32 m.1, .int .u64 m.2] 99)
  have b1 := Blk.new w 99 #[.int .u32 m.1, .int .u64 m.2]
  have hc0 := hk.cell h0 (fun e => e)
  have hsz : (w.alloc (.cells #[.int .u32 m.1, .int .u64 m.2] 99)).heap.size = w.heap.size + 1 := by simp
  generalize w.alloc (.cells #[.int .u32 m.1, .int .u64 m.2] 99) = w1 at *
  have hd0 : w1.cell? ⟨w.heap.size, 0, none⟩ = some (.int .u32 m.1) := b1.cell 0
  have hd1 : w1.cell? ⟨w.heap.size, 1, none⟩ = some (.int .u64 m.2) := b1.cell 1
  have e1 := HM.out _ (hk.drewN 1)
  have e2 := HM.out _ ((hk.alloc (.cells #[.int .i64 0, .int .i64 0] 58)).drewN 1)
  simp only [← World.drew_is_drewN] at e1 e2
  have hg1 : f.g < w1.heap.size := by omega
  have hg2 : w.heap.size < w1.heap.size := by omega
  have HB1 := Lib.hid b1
  have HK := Lib.hid hk
  have HZ := Lib.hid hsz
  clear b1 hk hsz HM
  go_region
  all_goals
    clear e1 e2 hc0 hd0 hd1
    have b1 := (HB1.out.alloc (.cells #[.int .i64 a.1, .int .i64 a.2] 58)).drew
    have b3 := (Blk.new w1 58 #[.int .i64 a.1, .int .i64 a.2]).drew
    have hk : Kp (fun _ => False) w (w1.alloc (.cells #[.int .i64 a.1, .int .i64 a.2] 58)).drew := (HK.out.alloc _).drewN 1
    have hz := HZ.out
    rw [hz] at b3 ⊢
    clear hz
    generalize (w1.alloc (.cells #[.int .i64 a.1, .int .i64 a.2] 58)).drew = w2 at *
    have hlm := HL.out.below (kp_none hk)
    have HK2 := Lib.hid hk
    clear HK HB1 hk hg1 hg2 HZ hg h0
    cases is with
    | false =>
      clear b1 b3
      have HLM := Lib.hid hlm
      clear hlm
      go_wp2
      go_ret
      have hv := HV.out
      exact ⟨by rw [hv]; rfl, by rw [cut_none hv]; exact HLM.out.mono (Nat.le_succ _), HK2.out.mono (fun _ _ h => absurd h (fun e => e))⟩
    | true =>
      have hv := HV.out
      rw [if_pos rfl] at hv
      have hok := HL.out.atOk hv
      have c0 : w2.cell? ⟨f.g, 0, none⟩ = some (.map (some f.b1)) := hlm.blk.cell 0
      have c1 : w2.cell? ⟨f.g, 1, none⟩ = some (.map (some f.b2)) := hlm.blk.cell 1
      have c2 : w2.cell? ⟨f.g, 2, none⟩ = some (.map (some f.b3)) := hlm.blk.cell 2
      have d0 : w2.cell? ⟨w.heap.size, 0, none⟩ = some (.int .u32 m.1) := b1.cell 0
      have d1 : w2.cell? ⟨w.heap.size, 1, none⟩ = some (.int .u64 m.2) := b1.cell 1
      have a0 : w2.cell? ⟨w.heap.size + 1, 0, none⟩ = some (.int .i64 a.1) := b3.cell 0
      have a1 : w2.cell? ⟨w.heap.size + 1, 1, none⟩ = some (.int .i64 a.2) := b3.cell 1
      have HLM := Lib.hid hlm
      have B1 := Lib.hid b1
      have B3 := Lib.hid b3
      have HV1 := Lib.hid hv
      have HOK := Lib.hid hok
      have lt0 := Lib.hid (HL.out.lt (.inl rfl))
      have lt1 := Lib.hid (HL.out.lt (.inr (.inl rfl)))
      have lt2 := Lib.hid (HL.out.lt (.inr (.inr (.inl rfl))))
      have lt3 := Lib.hid (HL.out.lt (.inr (.inr (.inr rfl))))
      clear hlm b1 b3 hv hok
      go_wp2_with (fail)
      go_still_tail 5, (by kernel_rfl)
      change wpList _ _ _ _ _ w2.drew
      refine wpList_mapF_drop rfl _ _ _ 58 rfl HLM.out.where_.drew Tryd.underlying80 m HO.out (atOf (cut L m)) atOf_cut_same (fun c hc => atOf_cut_other HLM.out.uniq hc) rfl rfl ?_
      intro w3 hm3 hk3
      have hk3 := kp_undrew hk3
      have t3 : Kp f.T w2 w3 := hk3.mono (fun _ _ e => .inl e)
      have ne := HLM.out.ne
      have hlt0 := lt0.out
      have hlt1 := lt1.out
      have hlt2 := lt2.out
      have hlt3 := lt3.out
      have ng : ¬ f.T f.g := by unfold LFp.T; omega
      have n0 : ¬ f.T w.heap.size := by unfold LFp.T; omega
      have n1 : ¬ f.T (w.heap.size + 1) := by unfold LFp.T; omega
      have c1' := t3.cell c1 ng
      have c2' := t3.cell c2 ng
      have d0' := t3.cell d0 n0
      have d1' := t3.cell d1 n0
      have a0' := t3.cell a0 n1
      have a1' := t3.cell a1 n1
      have g3 := t3.blk HLM.out.blk ng
      have m3 := HLM.out.what.kp hk3 (show ¬ f.b2 = f.b1 by omega)
      obtain ⟨Cn, n3, hcn⟩ := HLM.out.counts
      have n3 := n3.kp hk3 (show ¬ f.b3 = f.b1 by omega)
      have T3 := Lib.hid t3
      have W3 := Lib.hid hm3
      have G3 := Lib.hid g3
      have M3 := Lib.hid m3
      have N3 := Lib.hid n3
      have HCN := Lib.hid hcn
      have NE := Lib.hid ne
      have NG := Lib.hid ng
      have NN0 := Lib.hid n0
      have NN1 := Lib.hid n1
      clear ng n0 n1 hm3 hk3 t3 g3 m3 n3 hcn ne hlt0 hlt1 hlt2 hlt3 c0 c1 c2 d0 d1 a0 a1
      go_wp2_with (fail)
      go_still_tail 5, (by kernel_rfl)
      change wpList _ _ _ _ _ w3.drew
      refine wpList_mapF_drop rfl _ _ _ 99 rfl M3.out.drew Tryd.underlying81 a HOK.out.2 (inAt (cut L m)) (inAt_cut_same HLM.out.uniq HV1.out) (fun c hc => inAt_cut_other HLM.out.uniq HV1.out hc) rfl rfl ?_
      intro w4 hm4 hk4
      have hk4 := kp_undrew hk4
      have t4 : Kp f.T w3 w4 := hk4.mono (fun _ _ e => .inr (.inl e))
      have ne := NE.out
      have c2 := t4.cell c2' NG.out
      have d0 := t4.cell d0' NN0.out
      have g4 := t4.blk G3.out NG.out
      have m4 := W3.out.kp hk4 (show ¬ f.b1 = f.b2 by omega)
      have n4 := N3.out.kp hk4 (show ¬ f.b3 = f.b2 by omega)
      have hcm : (cnt L m.1 : Int) = cnt (cut L m) m.1 + 1 := by
        have := cnt_cut HLM.out.uniq HV1.out m.1
        rw [if_pos rfl] at this
        omega
      have e4 : (Instr.lookup 82 (.map (some f.b3)) (.int .u32 m.1) false).run Tryd.prog { w4 with drawn := w4.drawn + 1 } = .ok (.int .u64 (cnt (cut L m) m.1 + 1)) { w4 with drawn := w4.drawn + 1 } := by
        have := n4.drew.look (t := 82) (e := 34) Tryd.underlying82 (z := .int .u64 0) (by kernel_rfl) (a := m.1) HO.out.1 false
        refine this.trans ?_
        rw [← hcm, ← HCN.out]
        cases Cn m.1 <;> rfl
      have hle : ((cnt (cut L m) m.1 : Nat) : Int) + 1 ≤ 9223372036854775807 := by
        have h1 := cnt_le L m.1
        have h2 := HL.out.len
        have h3 := hn
        unfold maxLen at h3
        omega
      have T4 := Lib.hid (T3.out.trans t4 (fun _ _ h => h))
      have G4 := Lib.hid g4
      have W4 := Lib.hid m4
      have M4 := Lib.hid hm4
      have N4 := Lib.hid n4
      clear hm4 hk4 t4 g4 m4 n4 ne c1' c2' d0' d1' a0' a1' T3 W3 G3 M3 N3 hcm
      generalize hx : cnt (cut L m) m.1 = x at *
      have HX := Lib.hid hx
      clear hx
      go_wp2_with (fail)
      go_still_tail 8, (by kernel_rfl)
      refine wpStill_look rfl _ _ _ _ rfl _ _ _ rfl rfl e4 ?_
      clear e4
      repeat still_step
      refine wpStill_nil ?_
      change wpList _ _ _ _ _ w4.drew
      rw [IntWalk.u64_in (x : Int) (by omega)]
      refine wpList_mapF_store rfl _ _ _ _ 34 rfl N4.out.drew Tryd.underlying82 hn m.1 HO.out.1 (x : Int) (fun t => if t = m.1 then some (x : Int) else Cn t) (if_pos rfl) (fun c hc => if_neg hc) rfl rfl rfl ?_
      intro w5 hm5 hk5
      have hk5 := kp_undrew hk5
      have t5 : Kp f.T w4 w5 := hk5.mono (fun _ _ e => .inr (.inr e))
      have ne := NE.out
      have g5 := t5.blk G4.out NG.out
      have w5' := W4.out.kp hk5 (show ¬ f.b1 = f.b3 by omega)
      have m5' := M4.out.kp hk5 (show ¬ f.b2 = f.b3 by omega)
      have hlm : LM w5 f (n + 1) (cut L m) := by
        refine ⟨g5, w5'.mono (Nat.le_succ _), m5'.mono (Nat.le_succ _), ⟨_, hm5, fun t => ?_⟩, HL.out.ne, HL.out.uniq.cut m, Nat.le_trans (cut_length L m) (Nat.le_trans HL.out.len (Nat.le_succ _)), fun p hp => HL.out.names p (mem_cut.1 hp).1⟩
        by_cases ht : t = m.1
        · subst ht
          simp only [if_true, Option.getD_some]
          rw [HX.out]
        · have hct := cnt_cut HLM.out.uniq HV1.out t
          rw [if_neg ht] at hct
          simp only [if_neg ht]
          rw [HCN.out t, ← hct]
          rfl
      have HLM5 := Lib.hid hlm
      have HT := Lib.hid (T4.out.trans t5 (fun _ _ h => h))
      clear hm5 hk5 t5 ne g5 w5' m5' hlm
      go_wp2
      go_ret
      refine ⟨by rw [HV1.out]; rfl, HLM5.out, (HK2.out.mono (fun _ _ h => absurd h (fun e => e))).trans HT.out (fun _ _ h => h)⟩
end Go.Proofs.YtgjcofoicnnnhaaDoor

/- Contracts of package lmap: Drop, Put. -/
namespace Go.Proofs.YtgjcofoicnnnhaaDoor
open Go.RowKit

theorem ldrop_any (w : World) (f : LFp) (n : Nat) (L : List Pl) (m : Int × Int) (hm : NameOk m) (h : LM w f n L) (hn : n < maxLen) :
    Calls Tryd.prog 55 #[.pointer (some ⟨f.g, 0, none⟩), .int .u32 m.1, .int .u64 m.2] w (Forgot f n L m w) := by
  have H := Lib.hid (forget_any w f n L m hm h hn)
  clear hm h hn
  go_enter Tryd.func55, Tryd.ntmps55
  go_wp2_with (fail)
  refine H.out.mono ?_
  rintro e w1 ⟨rfl, h1⟩
  have H1 := Lib.hid h1
  clear h1
  go_wp2
  go_ret
  exact ⟨rfl, H1.out⟩

/-- What the great region of Put reads. -/
def PutS (f : LFp) (h : Nat) (p : Pl) (u : World) : Prop :=
  u.cell? ⟨f.g, 0, none⟩ = some (.map (some f.b1)) ∧ u.cell? ⟨f.g, 1, none⟩ = some (.map (some f.b2)) ∧ u.cell? ⟨h, 2, none⟩ = some (.int .i64 p.z) ∧ u.cell? ⟨h, 3, none⟩ = some (.int .i64 p.k) ∧
    u.cell? ⟨h + 1, 0, none⟩ = some (.int .u32 p.t) ∧ u.cell? ⟨h + 1, 1, none⟩ = some (.int .u64 p.b)
theorem PutS.kp {f : LFp} {h : Nat} {p : Pl} {u u' : World} (hs : PutS f h p u) (hk : Kp f.T u u') (h1 : ¬ f.T f.g) (h2 : ¬ f.T h) (h3 : ¬ f.T (h + 1)) : PutS f h p u' := by
  obtain ⟨a1, a2, a3, a4, a5, a6⟩ := hs
  exact ⟨hk.cell a1 h1, hk.cell a2 h1, hk.cell a3 h2, hk.cell a4 h2, hk.cell a5 h3, hk.cell a6 h3⟩
theorem zero_addr (u : World) : (zeroValue 58).run Tryd.prog u = .ok (addrV (0, 0)) u := by kernel_rfl
theorem zero_name (u : World) : (zeroValue 99).run Tryd.prog u = .ok (nameV (0, 0)) u := by kernel_rfl

set_option maxRecDepth 4000 in
set_option maxHeartbeats 4000000 in
theorem lput_any (w : World) (f : LFp) (n : Nat) (L : List Pl) (p : Pl) (hp : NameOk p.n ∧ AddrOk p.a) (h : LM w f n L) (hn : n + 3 < maxLen) :
    Calls Tryd.prog 47 #[.pointer (some ⟨f.g, 0, none⟩), .agg #[.int .u32 p.t, .int .u64 p.b, .int .i64 p.z, .int .i64 p.k]] w
      (fun e w' => e = .returned (.tuple #[]) ∧ LM w' f (n + 3) (p :: free (cut L p.n) p.a) ∧ Kp f.T w w') := by
  have HL := Lib.hid h
  have HP := Lib.hid hp
  have HN := Lib.hid hn
  have HG := Lib.hid h.blk.lt
  clear h hp hn
  go_enter Tryd.func47, Tryd.ntmps47
  go_wp2_with (fail)
  have HA := Lib.hid ((HL.out.alloc (.cells #[.int .u32 p.t, .int .u64 p.b, .int .i64 p.z, .int .i64 p.k] 109)).alloc (.cells #[.int .u32 p.t, .int .u64 p.b] 99))
  have HK := Lib.hid (((Kp.refl f.T w).alloc (.cells #[.int .u32 p.t, .int .u64 p.b, .int .i64 p.z, .int .i64 p.k] 109)).alloc (.cells #[.int .u32 p.t, .int .u64 p.b] 99))
  have b1 := (Blk.new w 109 #[.int .u32 p.t, .int .u64 p.b, .int .i64 p.z, .int .i64 p.k]).alloc (.cells #[.int .u32 p.t, .int .u64 p.b] 99)
  have b2 := Blk.new (w.alloc (.cells #[.int .u32 p.t, .int .u64 p.b, .int .i64 p.z, .int .i64 p.k] 109)) 99 #[.int .u32 p.t, .int .u64 p.b]
  rw [World.size_alloc] at b2
  have HB1 := Lib.hid b1
  have HB2 := Lib.hid b2
  have HZ : Hid (((w.alloc (.cells #[.int .u32 p.t, .int .u64 p.b, .int .i64 p.z, .int .i64 p.k] 109)).alloc (.cells #[.int .u32 p.t, .int .u64 p.b] 99)).heap.size = w.heap.size + 2) := by simp [Hid]
  clear b1 b2
  generalize (w.alloc (.cells #[.int .u32 p.t, .int .u64 p.b, .int .i64 p.z, .int .i64 p.k] 109)).alloc (.cells #[.int .u32 p.t, .int .u64 p.b] 99) = w1 at *
  have lt := fun (i : Nat) (hi : f.S i) => HL.out.lt hi
  have ng : ¬ f.T f.g := by have := HL.out.ne; unfold LFp.T; omega
  have n0 : ¬ f.T w.heap.size := by
    have l1 := lt f.b1 (.inr (.inl rfl))
    have l2 := lt f.b2 (.inr (.inr (.inl rfl)))
    have l3 := lt f.b3 (.inr (.inr (.inr rfl)))
    unfold LFp.T
    omega
  have n1 : ¬ f.T (w.heap.size + 1) := by
    have l1 := lt f.b1 (.inr (.inl rfl))
    have l2 := lt f.b2 (.inr (.inr (.inl rfl)))
    have l3 := lt f.b3 (.inr (.inr (.inr rfl)))
    unfold LFp.T
    omega
  have NG := Lib.hid ng
  have N0 := Lib.hid n0
  have N1 := Lib.hid n1
  clear lt ng n0 n1
  refine (forget_any w1 f n L p.n HP.out.1 HA.out (by have := HN.out; omega)).mono ?_
  rintro e w2 ⟨rfl, h2, k2⟩
  have b1 := k2.blk HB1.out N0.out
  have b2 := k2.blk HB2.out N1.out
  have HZ2 : Hid (w.heap.size + 2 ≤ w2.heap.size) := by have := HZ.out; have := k2.size; unfold Hid; omega
  have HK2 := Lib.hid (HK.out.trans k2 (fun _ _ h => h))
  have H2 := Lib.hid h2
  have B1 := Lib.hid b1
  have B2 := Lib.hid b2
  have hc1 : w2.cell? ⟨f.g, 1, none⟩ = some (.map (some f.b2)) := h2.blk.cell 1
  have hd2 : w2.cell? ⟨w.heap.size, 2, none⟩ = some (.int .i64 p.z) := b1.cell 2
  have hd3 : w2.cell? ⟨w.heap.size, 3, none⟩ = some (.int .i64 p.k) := b1.cell 3
  obtain ⟨m, is, hl, hv⟩ : ∃ (m : Int × Int) (is : Bool), (∀ u, Kp (fun _ => False) w2 u → (Instr.lookup 81 (.map (some f.b2)) (.agg #[.int .i64 p.z, .int .i64 p.k]) true).run Tryd.prog u = .ok (.tuple #[.agg #[.int .u32 m.1, .int .u64 m.2], .bool is]) u) ∧
      inAt (cut L p.n) p.a = (if is then some m else none) := by
    refine ⟨(inAt (cut L p.n) p.a).getD (0, 0), (inAt (cut L p.n) p.a).isSome, fun u hu => ?_, ?_⟩
    · have := (h2.what.kp hu (fun e => e)).look (t := 81) (e := 99) Tryd.underlying81 (z := nameV (0, 0)) (by kernel_rfl) (a := p.a) HP.out.2 true
      refine this.trans ?_
      cases inAt (cut L p.n) p.a <;> rfl
    · cases inAt (cut L p.n) p.a <;> rfl
  have e1 := hl _ ((Kp.refl _ _).drewN 1)
  have e2 := hl _ (((Kp.refl _ _).alloc (.cells #[.int .u32 0, .int .u64 0] 99)).drewN 1)
  simp only [← World.drew_is_drewN] at e1 e2
  have HV := Lib.hid hv
  have hg2 : f.g < w2.heap.size := h2.blk.lt
  have hs2 : w.heap.size < w2.heap.size := b1.lt
  clear hl hv h2 b1 b2 k2 HK HB1 HB2 HZ HA
  go_wp2_with (fail)
  go_region
  all_goals
    clear e1 e2 hc1 hd2 hd3
    have h3 := (H2.out.alloc (.cells #[.int .u32 m.1, .int .u64 m.2] 99)).drew
    have b1 := (B1.out.alloc (.cells #[.int .u32 m.1, .int .u64 m.2] 99)).drew
    have b2 := (B2.out.alloc (.cells #[.int .u32 m.1, .int .u64 m.2] 99)).drew
    have b3 := (Blk.new w2 99 #[.int .u32 m.1, .int .u64 m.2]).drew
    have k3 : Kp f.T w (w2.alloc (.cells #[.int .u32 m.1, .int .u64 m.2] 99)).drew := (HK2.out.alloc _).drewN 1
    have n3 : ¬ f.T w2.heap.size := by
      have l1 := H2.out.lt (i := f.b1) (.inr (.inl rfl))
      have l2 := H2.out.lt (i := f.b2) (.inr (.inr (.inl rfl)))
      have l3 := H2.out.lt (i := f.b3) (.inr (.inr (.inr rfl)))
      unfold LFp.T
      omega
    clear H2 B1 B2 HK2 HZ2
    generalize (w2.alloc (.cells #[.int .u32 m.1, .int .u64 m.2] 99)).drew = w3 at *
    have hm0 : w3.cell? ⟨w2.heap.size, 0, none⟩ = some (.int .u32 m.1) := b3.cell 0
    have hm1 : w3.cell? ⟨w2.heap.size, 1, none⟩ = some (.int .u64 m.2) := b3.cell 1
    have H3 := Lib.hid h3
    have B1 := Lib.hid b1
    have B2 := Lib.hid b2
    have K3 := Lib.hid k3
    have N3 := Lib.hid n3
    clear h3 b1 b2 b3 k3 n3
    generalize w2.heap.size = s2 at *
    clear hg2 hs2
    cases is
    case' true =>
      have hv := HV.out
      rw [if_pos rfl] at hv
      have hok := (H3.out.inOk hv).1
      have HFR := Lib.hid (free_some (HL.out.uniq.cut p.n) hv)
      clear hv
      go_wp2_with (fail)
      refine (forget_any w3 f (n + 1) (cut L p.n) m hok H3.out (by have := HN.out; omega)).mono ?_
      rintro e w4 ⟨rfl, h4, k4⟩
      rw [← HFR.out] at h4
      have B1 := Lib.hid (k4.blk B1.out N0.out)
      have B2 := Lib.hid (k4.blk B2.out N1.out)
      have K4 := Lib.hid (K3.out.trans k4 (fun _ _ h => h))
      have H4 := Lib.hid h4
      clear h4 k4 hm0 hm1 K3 H3 hok HFR
      go_wp2_with (fail)
    case' false =>
      have hv := HV.out
      rw [if_neg (by simp)] at hv
      have h4 := H3.out.mono (Nat.le_succ _)
      rw [← free_none hv] at h4
      have H4 := Lib.hid h4
      have K4 := K3
      clear h4 K3 H3 hv hm0 hm1
      go_wp2_with (fail)
      rename World => w4
    all_goals
      have hs4 : PutS f w.heap.size p w4 := ⟨H4.out.blk.cell 0, H4.out.blk.cell 1, B1.out.cell 2, B1.out.cell 3, B2.out.cell 0, B2.out.cell 1⟩
      have HS4 := Lib.hid hs4
      unfold PutS at hs4
      have hm : n + 1 + 1 < maxLen := by have := HN.out; omega
      have ne := HL.out.ne
      obtain ⟨v5, st5, w5, e5, t5, r5⟩ := H4.out.where_.drew.entry name_law Tryd.underlying80 hm zero_addr (a := p.n) HP.out.1 p.a (fun m => if m = p.n then some p.a else atOf (free (cut L p.n) p.a) m) (if_pos rfl) (fun c hc => if_neg hc)
      obtain ⟨w6, e6, m6, t6⟩ := r5 w5 rfl
      have k6 : Kp (fun i => i = f.b1) w4 w6 := kp_undrew ((grownBy_kp t5.grown).trans (grownBy_kp t6.grown) (fun _ _ h => h))
      obtain ⟨v7, st7, w7, e7, t7, r7⟩ := (H4.out.what.kp k6 (show ¬ f.b2 = f.b1 by omega)).entry addr_law Tryd.underlying81 hm zero_name (a := p.a) HP.out.2 p.n (fun m => if m = p.a then some p.n else inAt (free (cut L p.n) p.a) m) (if_pos rfl) (fun c hc => if_neg hc)
      obtain ⟨w8, e8, m8, t8⟩ := r7 w7 rfl
      have k8 : Kp (fun i => i = f.b2) w6 w8 := (grownBy_kp t7.grown).trans (grownBy_kp t8.grown) (fun _ _ h => h)
      have hs5 := HS4.out.kp (kp_undrew ((grownBy_kp t5.grown).mono (S' := f.T) (fun _ _ e => .inl e))) NG.out N0.out N1.out
      have hs6 := HS4.out.kp (k6.mono (S' := f.T) (fun _ _ e => .inl e)) NG.out N0.out N1.out
      have hs7 := hs6.kp ((grownBy_kp t7.grown).mono (S' := f.T) (fun _ _ e => .inr (.inl e))) NG.out N0.out N1.out
      have hs8 := hs6.kp (k8.mono (S' := f.T) (fun _ _ e => .inr (.inl e))) NG.out N0.out N1.out
      have m6' := m6.kp k8 (show ¬ f.b1 = f.b2 by omega)
      have g8 := k8.blk (k6.blk H4.out.blk (show ¬ f.g = f.b1 by omega)) (show ¬ f.g = f.b2 by omega)
      obtain ⟨Cn, n4, hcn⟩ := H4.out.counts
      have n8 := (n4.kp k6 (show ¬ f.b3 = f.b1 by omega)).kp k8 (show ¬ f.b3 = f.b2 by omega)
      have HK8 := Lib.hid ((K4.out.trans (k6.mono (S' := f.T) (fun _ _ e => .inl e)) (fun _ _ h => h)).trans (k8.mono (S' := f.T) (fun _ _ e => .inr (.inl e))) (fun _ _ h => h))
      have HS8 := Lib.hid hs8
      have M6 := Lib.hid m6'
      have M8 := Lib.hid m8
      have G8 := Lib.hid g8
      have N8 := Lib.hid n8
      have HCN := Lib.hid hcn
      unfold PutS at hs5 hs6 hs7 hs8
      change (Instr.mapEntry 80 (.map (some f.b1)) (.agg #[.int .u32 p.t, .int .u64 p.b])).run Tryd.prog w4.drew = .ok (.tuple #[v5, .int .i64 st5]) w5 at e5
      change (Instr.entryStore 80 (.map (some f.b1)) (.int .i64 st5) (.agg #[.int .i64 p.z, .int .i64 p.k])).run Tryd.prog w5 = .ok () w6 at e6
      change (Instr.mapEntry 81 (.map (some f.b2)) (.agg #[.int .i64 p.z, .int .i64 p.k])).run Tryd.prog w6 = .ok (.tuple #[v7, .int .i64 st7]) w7 at e7
      change (Instr.entryStore 81 (.map (some f.b2)) (.int .i64 st7) (.agg #[.int .u32 p.t, .int .u64 p.b])).run Tryd.prog w7 = .ok () w8 at e8
      clear t5 t6 t7 t8 r5 r7 m6 m8 m6' g8 n4 n8 hcn k6 k8 hm ne HV B1 B2 N3
      go_region_held3 (fun u => u.cell? ⟨f.g, 0, none⟩ = some (.map (some f.b1)) ∧ u.cell? ⟨f.g, 1, none⟩ = some (.map (some f.b2)) ∧ u.cell? ⟨w.heap.size, 2, none⟩ = some (.int .i64 p.z) ∧ u.cell? ⟨w.heap.size, 3, none⟩ = some (.int .i64 p.k) ∧ u.cell? ⟨w.heap.size + 1, 0, none⟩ = some (.int .u32 p.t) ∧ u.cell? ⟨w.heap.size + 1, 1, none⟩ = some (.int .u64 p.b))
        (first | exact hs4 | exact hs5 | exact hs6 | exact hs7 | exact hs8)
        (fail)
      clear e5 e6 e7 e8 hs4 hs5 hs6 hs7 hs8 HS4
      have c2 : w8.cell? ⟨f.g, 2, none⟩ = some (.map (some f.b3)) := G8.out.cell 2
      have d0 : w8.cell? ⟨w.heap.size + 1, 0, none⟩ = some (.int .u32 p.t) := HS8.out.2.2.2.2.1
      have e8 : (Instr.lookup 82 (.map (some f.b3)) (.int .u32 p.t) false).run Tryd.prog { w8 with drawn := w8.drawn + 1 } = .ok (.int .u64 (cnt (free (cut L p.n) p.a) p.t)) { w8 with drawn := w8.drawn + 1 } := by
        have := N8.out.drew.look (t := 82) (e := 34) Tryd.underlying82 (z := .int .u64 0) (by kernel_rfl) (a := p.t) HP.out.1.1 false
        refine this.trans ?_
        rw [← HCN.out]
        cases Cn p.t <;> rfl
      have hle : ((cnt (free (cut L p.n) p.a) p.t : Nat) : Int) + 1 ≤ 9223372036854775807 := by
        have h1 := cnt_le (free (cut L p.n) p.a) p.t
        have h2 := H4.out.len
        have h3 := HN.out
        unfold maxLen at h3
        omega
      generalize hx : cnt (free (cut L p.n) p.a) p.t = x at *
      have HX := Lib.hid hx
      clear hx
      go_wp2_with (fail)
      go_still_tail 8, (by kernel_rfl)
      refine wpStill_look rfl _ _ _ _ rfl _ _ _ rfl rfl e8 ?_
      clear e8
      repeat still_step
      refine wpStill_nil ?_
      change wpList _ _ _ _ _ w8.drew
      rw [IntWalk.u64_in ((x : Int) + 1) (by omega)]
      refine wpList_mapF_store rfl _ _ _ _ 34 rfl N8.out.drew Tryd.underlying82 (by have := HN.out; omega) p.t HP.out.1.1 ((x : Int) + 1) (fun t => if t = p.t then some ((x : Int) + 1) else Cn t) (if_pos rfl) (fun c hc => if_neg hc) rfl rfl rfl ?_
      intro w9 hm9 hk9
      have hk9 := kp_undrew hk9
      have ne := HL.out.ne
      have hlm : LM w9 f (n + 3) (p :: free (cut L p.n) p.a) := by
        have e1 : atOf (p :: free (cut L p.n) p.a) = fun m => if m = p.n then some p.a else atOf (free (cut L p.n) p.a) m := funext fun m => atOf_cons
        have e2 : inAt (p :: free (cut L p.n) p.a) = fun m => if m = p.a then some p.n else inAt (free (cut L p.n) p.a) m := funext fun m => inAt_cons
        refine ⟨hk9.blk G8.out (show ¬ f.g = f.b3 by omega), ?_, ?_, ⟨_, hm9, fun t => ?_⟩, ne, ?_, ?_, ?_⟩
        · rw [e1]
          exact M6.out.kp hk9 (show ¬ f.b1 = f.b3 by omega)
        · rw [e2]
          exact M8.out.kp hk9 (show ¬ f.b2 = f.b3 by omega)
        · rw [cnt_cons]
          by_cases ht : t = p.t
          · subst ht
            rw [if_pos rfl, if_pos rfl, HX.out]
            rfl
          · rw [if_neg ht, if_neg ht]
            exact HCN.out t
        · refine H4.out.uniq.cons (atOf_none.2 fun q hq => (mem_cut.1 (mem_free.1 hq).1).2) (inAt_none.2 fun q hq => (mem_free.1 hq).2)
        · have := H4.out.len
          simp only [List.length_cons]
          omega
        · intro q hq
          rcases List.mem_cons.1 hq with rfl | hq
          · exact HP.out
          · exact H4.out.names q hq
      have HLM9 := Lib.hid hlm
      have HT := Lib.hid (HK8.out.trans (hk9.mono (S' := f.T) (fun _ _ e => .inr (.inr e))) (fun _ _ h => h))
      clear hm9 hk9 ne hlm
      go_wp2
      go_end0
      exact ⟨rfl, HLM9.out, HT.out⟩
end Go.Proofs.YtgjcofoicnnnhaaDoor

/- Contracts of package seg: its states, turned and told. -/
namespace Go.Proofs.YtgjcofoicnnnhaaDoor
open Go.RowKit
set_option maxRecDepth 20000

/-- A Seg: its struct is block g, its states stand in block b; r: the reserve; f: how many are free. -/
structure SegIs (w : World) (g b : Nat) (l : List Int) (r f : Int) : Prop where
  top : Blk w g 134 #[.slice (some ⟨b, 0, none⟩) l.length l.length, .int .i64 r, .int .i64 f]
  row : Blk w b 5 (nums .u8 l).toArray

section
variable {w w' : World} {g b : Nat} {l : List Int} {r f : Int}
theorem SegIs.ne_ (h : SegIs w g b l r f) : g ≠ b := h.top.ne_ h.row (by decide)
theorem SegIs.c0 (h : SegIs w g b l r f) : w.cell? ⟨g, 0, none⟩ = some (.slice (some ⟨b, 0, none⟩) l.length l.length) := h.top.cell 0
theorem SegIs.c1 (h : SegIs w g b l r f) : w.cell? ⟨g, 1, none⟩ = some (.int .i64 r) := h.top.cell 1
theorem SegIs.c2 (h : SegIs w g b l r f) : w.cell? ⟨g, 2, none⟩ = some (.int .i64 f) := h.top.cell 2
theorem SegIs.fz (h : SegIs w g b l r f) (i : Nat) : w.frozen? ⟨g, i, none⟩ = false := h.top.frozen i
theorem SegIs.fzb (h : SegIs w g b l r f) (i : Nat) : w.frozen? ⟨b, i, none⟩ = false := h.row.frozen i
theorem SegIs.at_ (h : SegIs w g b l r f) {k : Nat} (hk : k < l.length) : w.cell? ⟨b, k, none⟩ = some (.int .u8 (l.getD k 0)) := by
  rw [h.row.cell k, List.getElem?_toArray, nums_get .u8 l k hk]
theorem SegIs.kp {S : Nat → Prop} (h : SegIs w g b l r f) (k : Kp S w w') (hg : ¬ S g) (hb : ¬ S b) : SegIs w' g b l r f := ⟨k.blk h.top hg, k.blk h.row hb⟩
theorem SegIs.drewN (h : SegIs w g b l r f) (n : Nat) : SegIs (w.drewN n) g b l r f := ⟨h.top, h.row⟩
theorem SegIs.alloc (h : SegIs w g b l r f) (o : Obj) : SegIs (w.alloc o) g b l r f := ⟨h.top.alloc o, h.row.alloc o⟩
theorem SegIs.below (h : SegIs w g b l r f) (k : Below w.heap.size w w') : SegIs w' g b l r f := ⟨h.top.below k h.top.lt, h.row.below k h.row.lt⟩
end

def stateAt (l : List Int) (z : Int) : Int := if 0 ≤ z ∧ z < l.length then l.getD z.toNat 0 else 0

theorem state_any (g b : Nat) (l : List Int) (r f z : Int) (w : World) (h : SegIs w g b l r f) :
    Calls Tryd.prog 76 #[.pointer (some ⟨g, 0, none⟩), .int .i64 z] w fun e w' => e = .returned (.int .u8 (stateAt l z)) ∧ w = w' := by
  have h0 := h.c0
  by_cases hz : 0 ≤ z ∧ z < l.length
  · obtain ⟨k, rfl⟩ := Int.eq_ofNat_of_zero_le hz.1
    have hk : k < l.length := by omega
    have hc := h.at_ hk
    have HS : Hid (stateAt l k = l.getD k 0) := by unfold Hid stateAt; rw [if_pos hz, Int.toNat_natCast]
    clear h hz
    generalize l.getD k 0 = y at *
    go_enter Tryd.func76, Tryd.ntmps76
    go_wp2
    go_ret
    exact ⟨ret_int HS.out.symm, rfl⟩
  · have HS : Hid (stateAt l z = 0) := if_neg hz
    clear h
    by_cases hn : z < 0
    · go_enter Tryd.func76, Tryd.ntmps76
      go_wp2
      go_ret
      exact ⟨ret_int HS.out.symm, rfl⟩
    · obtain ⟨k, rfl⟩ := Int.eq_ofNat_of_zero_le (show 0 ≤ z by omega)
      have hk : l.length ≤ k := by omega
      clear hz hn
      go_enter Tryd.func76, Tryd.ntmps76
      go_wp2
      go_ret
      exact ⟨ret_int HS.out.symm, rfl⟩

/-- The counter is turned where the state is free. -/
def Counts (g b : Nat) (l : List Int) (r f : Int) (w : World) (e : Ending) (w' : World) : Prop := e = .returned (.tuple #[]) ∧ SegIs w' g b l r f ∧ Kp (· = g) w w'

theorem count_any (g b p : Nat) (l : List Int) (r f st n : Int) (w : World) (h : SegIs w g b l r f) (hp : w.cell? ⟨p, 0, none⟩ = some (.pointer (some ⟨g, 0, none⟩))) (hf : 0 ≤ f ∧ f ≤ 65536) (hn : n = 1 ∨ n = -1) :
    Calls Tryd.prog 77 #[.int .u8 st, .int .i64 n, .pointer (some ⟨p, 0, none⟩)] w (Counts g b l r (if st = 1 then f + n else f) w) := by
  have h2 := h.c2
  have hz := h.fz 2
  have HH := Lib.hid h
  clear h
  by_cases hs : st = 1
  · subst hs
    have HW : Hid (SegIs (w.setCell ⟨g, 2, none⟩ (.int .i64 (f + n))) g b l r (f + n)) := ⟨by
      have := HH.out.top.set_ 2 (.int .i64 (f + n))
      simpa using this, HH.out.row.far (p := ⟨g, 2, none⟩) HH.out.ne_.symm _⟩
    go_enter Tryd.func77, Tryd.ntmps77
    go_wp2
    go_end0
    exact ⟨rfl, HW.out, (Kp.refl (· = g) w).setCell (p := ⟨g, 2, none⟩) (.inl rfl) _⟩
  · have hs' : (st == 1) = false := by simpa using hs
    rw [if_neg hs]
    clear hs
    go_enter Tryd.func77, Tryd.ntmps77
    go_wp2
    go_end0
    exact ⟨rfl, HH.out, Kp.refl _ _⟩

theorem nums_set (k : IntKind) (l : List Int) (i : Nat) (x : Int) : (nums k l).toArray.setIfInBounds i (.int k x) = (nums k (l.set i x)).toArray := by
  simp [nums, List.map_set]

/-- What turning a zone leaves. -/
def turnL (l : List Int) (z tz : Int) : List Int := l.set z.toNat tz
def turnF (f a c : Int) : Int := (if c = 1 then (if a = 1 then f - 1 else f) + 1 else (if a = 1 then f - 1 else f))

/-- The states are turned, where the zone is of the state that is asked; else nothing has changed. -/
def Turns (g b : Nat) (l : List Int) (r f z a c : Int) (w : World) (e : Ending) (w' : World) : Prop :=
  (stateAt l z = a → e = .returned (.bool true) ∧ SegIs w' g b (turnL l z c) r (turnF f a c)) ∧ (stateAt l z ≠ a → e = .returned (.bool false) ∧ SegIs w' g b l r f) ∧ Kp (fun x => x = g ∨ x = b) w w'

theorem turn_any (g b : Nat) (l : List Int) (r f z a c : Int) (w : World) (h : SegIs w g b l r f) (hf : stateAt l z = a → (a = 1 → 1 ≤ f) ∧ 0 ≤ f ∧ f ≤ 65535) (ha : a ≠ 0) :
    Calls Tryd.prog 63 #[.pointer (some ⟨g, 0, none⟩), .int .i64 z, .int .u8 a, .int .u8 c] w (Turns g b l r f z a c w) := by
  have HH := Lib.hid h
  by_cases hs : stateAt l z = a
  · have hz : 0 ≤ z ∧ z < l.length := by
      unfold stateAt at hs
      by_cases hc : 0 ≤ z ∧ z < l.length
      · exact hc
      · rw [if_neg hc] at hs; omega
    obtain ⟨k, rfl⟩ := Int.eq_ofNat_of_zero_le hz.1
    have hk : k < l.length := by omega
    have HS := Lib.hid hs
    obtain ⟨hf1, hf2⟩ := hf hs
    have HF1 := Lib.hid hf1
    clear hf1 hf
    have hlt := h.top.lt
    have hltb := h.row.lt
    have hmf : ∀ (fn : Fn) (first cap : Array Value) (w : World), (Instr.makeFunc fn first cap).run Tryd.prog w = .ok (.func fn first cap) w := fun _ _ _ _ => rfl
    clear h hs hz
    go_enter Tryd.func63, Tryd.ntmps63
    go_wp2_with (fail)
    refine (state_any g b l r f _ _ (HH.out.alloc _)).mono ?_
    rintro e w' ⟨rfl, rfl⟩
    rw [HS.out]
    have Hp0 : Hid ((w.alloc (.cells #[.pointer (some ⟨g, 0, none⟩)] 70)).cell? ⟨w.heap.size, 0, none⟩ = some (.pointer (some ⟨g, 0, none⟩))) := (Blk.new w _ _).cell 0
    go_wp2_with (fail)
    refine (count_any g b w.heap.size l r f a (-1) _ (HH.out.alloc _) Hp0.out (by omega) (.inr rfl)).mono ?_
    rintro e w1 ⟨rfl, HH1, hk1⟩
    have Hp1 := Lib.hid (hk1.cell Hp0.out (by simp; omega))
    have HH1 := Lib.hid HH1
    have hp1 := Hp1.out
    go_wp2_with (fail)
    refine (count_any g b w.heap.size l r _ c 1 _ HH1.out Hp1.out (by have := HF1.out; split <;> omega) (.inl rfl)).mono ?_
    rintro e w2 ⟨rfl, HH2, hk2⟩
    have hp2 := hk2.cell Hp1.out (by simp; omega)
    have h0 := HH2.c0
    have hcb := HH2.at_ hk
    have hzb := HH2.fzb k
    have HH2 := Lib.hid HH2
    clear hp1
    generalize l.getD k 0 = y at *
    go_wp2
    go_ret
    have HN : SegIs (w2.setCell ⟨b, k, none⟩ (.int .u8 c)) g b (turnL l k c) r (turnF f a c) := ⟨by
      have := HH2.out.top.far (p := ⟨b, k, none⟩) HH2.out.ne_ (.int .u8 c)
      simpa [turnL, turnF, Int.sub_eq_add_neg] using this, by
      have := HH2.out.row.set_ k (.int .u8 c)
      rw [nums_set] at this
      simpa [turnL] using this⟩
    refine ⟨fun _ => ⟨rfl, HN⟩, fun hne => absurd HS.out hne, ?_⟩
    refine Kp.setCell ?_ (p := ⟨b, k, none⟩) (.inl (.inr rfl)) _
    have k0 : Kp (fun x => x = g ∨ x = b) w (w.alloc (.cells #[.pointer (some ⟨g, 0, none⟩)] 70)) := (Kp.refl _ _).alloc _
    exact (k0.trans hk1 (fun x _ hx => .inl hx)).trans hk2 (fun x _ hx => .inl hx)
  · have HS := Lib.hid hs
    clear hf
    have hne : (stateAt l z != a) = true := by simpa using hs
    clear h hs
    go_enter Tryd.func63, Tryd.ntmps63
    go_wp2_with (fail)
    refine (state_any g b l r f _ _ (HH.out.alloc _)).mono ?_
    rintro e w' ⟨rfl, rfl⟩
    go_wp2
    go_ret
    exact ⟨fun he => absurd he HS.out, fun _ => ⟨rfl, HH.out.alloc _⟩, (Kp.refl _ _).alloc _⟩
end Go.Proofs.YtgjcofoicnnnhaaDoor

/- Contracts of package seg: the first free one is taken; lists; too few. -/
namespace Go.Proofs.YtgjcofoicnnnhaaDoor
open Go.RowKit
set_option maxRecDepth 20000

/-- The first place of x in a list, from i on; -1: there is none. -/
def placeI (x : Int) : List Int → Int → Int
  | [], _ => -1
  | y :: l, i => if y = x then i else placeI x l (i + 1)
theorem placeI_at (x : Int) (l : List Int) (k : Nat) (h : k < l.length) (i : Int) : placeI x (l.drop k) i = if l.getD k 0 = x then i else placeI x (l.drop (k + 1)) (i + 1) := by
  rw [List.drop_eq_getElem_cons h, placeI]
  simp [List.getD_eq_getElem?_getD, h]
theorem placeI_spec (x : Int) (l : List Int) (i : Int) :
    (placeI x l i = -1 ∧ ∀ j, j < l.length → l.getD j 0 ≠ x) ∨ (∃ j : Nat, placeI x l i = i + j ∧ j < l.length ∧ l.getD j 0 = x ∧ ∀ j', j' < j → l.getD j' 0 ≠ x) := by
  induction l generalizing i with
  | nil => exact .inl ⟨rfl, fun j hj => by simp at hj⟩
  | cons y l ih =>
    unfold placeI
    by_cases h : y = x
    · rw [if_pos h]
      exact .inr ⟨0, by simp, by simp, by simpa using h, fun j' hj' => by omega⟩
    · rw [if_neg h]
      rcases ih (i + 1) with ⟨h1, h2⟩ | ⟨j, h1, h2, h3, h4⟩
      · refine .inl ⟨h1, fun j hj => ?_⟩
        match j, hj with
        | 0, _ => simpa using h
        | j + 1, hj => simpa using h2 j (by simpa using hj)
      · refine .inr ⟨j + 1, by rw [h1]; simp; omega, by simpa using h2, by simpa using h3, fun j' hj' => ?_⟩
        match j', hj' with
        | 0, _ => simpa using h
        | j' + 1, hj' => simpa using h4 j' (by omega)

theorem index_any (b : Nat) (l : List Int) (x : Int) (w : World) (hl : l.length ≤ 65536) (h : Blk w b 5 (nums .u8 l).toArray) :
    Calls Tryd.prog 65 #[.slice (some ⟨b, 0, none⟩) l.length l.length, .int .u8 x] w fun e w' => e = .returned (.int .i64 (placeI x l 0)) ∧ w = w' := by
  have hget : ∀ k, k < l.length → w.cell? ⟨b, k, none⟩ = some (.int .u8 (l.getD k 0)) := fun k hk => by rw [h.cell k, List.getElem?_toArray, nums_get .u8 l k hk]
  have HG := Lib.hid hget
  clear hget h
  go_enter Tryd.func65, Tryd.ntmps65
  go_wp2
  go_loop [8] (fun i => ∃ k : Nat, k ≤ l.length ∧ i = .int .i64 k ∧ placeI x (l.drop k) k = placeI x l 0) (fun i => l.length - (intOf i).toNat)
  case atStart => exact ⟨0, Nat.zero_le _, rfl, rfl⟩
  case round =>
    obtain ⟨k, hk, rfl, hp⟩ := hrel
    have HP := Lib.hid hp
    clear hp
    by_cases hlt : k < l.length
    · have hc := HG.out k hlt
      have HQ := Lib.hid (placeI_at x l k hlt k)
      generalize l.getD k 0 = y at *
      by_cases hxy : x = y
      · have he : (x == y) = true := by simpa using hxy
        have HX := Lib.hid hxy
        clear hxy
        go_wp2
        go_ret
        refine ⟨ret_int ?_, rfl⟩
        rw [← HP.out, HQ.out, if_pos HX.out.symm]
      · have he : (x == y) = false := by simpa using hxy
        have HX := Lib.hid hxy
        clear hxy
        go_wp2
        go_round
        case rel => exact ⟨k + 1, by omega, by go_num, by rw [← HP.out, HQ.out, if_neg (fun e => HX.out e.symm)]; simp⟩
        case measure => simp [intOf]; omega
    · go_wp2
      go_ret
      refine ⟨ret_int ?_, rfl⟩
      rw [← HP.out, List.drop_eq_nil_of_le (by omega)]; rfl

/-- How many are free. -/
def frees (l : List Int) : Int := (l.countP (· == 1) : Nat)
theorem frees_le (l : List Int) : 0 ≤ frees l ∧ frees l ≤ l.length := by
  unfold frees; have := List.countP_le_length (p := (· == (1 : Int))) (l := l); omega
theorem frees_pos {l : List Int} {z : Int} (h : stateAt l z = 1) : 1 ≤ frees l := by
  unfold stateAt at h
  split at h
  · rename_i hz
    have hm : l.getD z.toNat 0 ∈ l := by
      have : z.toNat < l.length := by omega
      simp [List.getD_eq_getElem?_getD, this]
    have : 0 < l.countP (· == 1) := List.countP_pos_iff.2 ⟨_, hm, by simpa using h⟩
    unfold frees; omega
  · omega

theorem countP_set (l : List Int) (k : Nat) (x : Int) (h : k < l.length) : (l.set k x).countP (· == 1) + (if l.getD k 0 = 1 then 1 else 0) = l.countP (· == 1) + (if x = 1 then 1 else 0) := by
  induction l generalizing k with
  | nil => simp at h
  | cons y l ih =>
    match k, h with
    | 0, _ =>
      simp only [List.set_cons_zero, List.countP_cons, List.getD_cons_zero, beq_iff_eq]
      omega
    | k + 1, h =>
      have := ih k (by simpa using h)
      simp only [List.set_cons_succ, List.countP_cons, List.getD_cons_succ, beq_iff_eq]
      omega

/-- The counter stays how many are free. -/
theorem turn_frees {l : List Int} {z a c : Int} (h : stateAt l z = a) (ha : a ≠ 0) : turnF (frees l) a c = frees (turnL l z c) := by
  unfold stateAt at h
  split at h
  · rename_i hz
    have := countP_set l z.toNat c (by omega)
    unfold turnF frees turnL
    rw [h] at this
    split <;> split <;> simp_all <;> omega
  · omega

/-- A Seg whose counter is how many are free. -/
def SegOk (w : World) (g b : Nat) (l : List Int) (r : Int) : Prop := SegIs w g b l r (frees l) ∧ l.length ≤ 65535

def TurnsOk (g b : Nat) (l : List Int) (r z a c : Int) (w : World) (e : Ending) (w' : World) : Prop :=
  (stateAt l z = a → e = .returned (.bool true) ∧ SegOk w' g b (turnL l z c) r) ∧ (stateAt l z ≠ a → e = .returned (.bool false) ∧ SegOk w' g b l r) ∧ Kp (fun x => x = g ∨ x = b) w w'

theorem turn_ok (g b : Nat) (l : List Int) (r z a c : Int) (w : World) (h : SegOk w g b l r) (ha : a ≠ 0) :
    Calls Tryd.prog 63 #[.pointer (some ⟨g, 0, none⟩), .int .i64 z, .int .u8 a, .int .u8 c] w (TurnsOk g b l r z a c w) := by
  have hb := frees_le l
  have hlen := h.2
  refine (turn_any g b l r (frees l) z a c w h.1 (fun hs => ⟨fun h1 => by subst h1; exact frees_pos hs, hb.1, by omega⟩) ha).mono ?_
  rintro e w' ⟨h1, h2, h3⟩
  refine ⟨fun hs => ⟨(h1 hs).1, ?_, by simpa [turnL] using hlen⟩, fun hs => ⟨(h2 hs).1, (h2 hs).2, hlen⟩, h3⟩
  rw [← turn_frees hs ha]
  exact (h1 hs).2
end Go.Proofs.YtgjcofoicnnnhaaDoor

/- Contracts of package seg: taking, filling, clearing, finding; lists; too few. -/
namespace Go.Proofs.YtgjcofoicnnnhaaDoor
open Go.RowKit
set_option maxRecDepth 20000

theorem fill_any (g b : Nat) (l : List Int) (r z : Int) (w : World) (h : SegOk w g b l r) :
    Calls Tryd.prog 64 #[.pointer (some ⟨g, 0, none⟩), .int .i64 z] w (TurnsOk g b l r z 2 3 w) := by
  have H := Lib.hid (turn_ok g b l r z 2 3 w h (by decide))
  clear h
  go_enter Tryd.func64, Tryd.ntmps64
  go_wp2_with (fail)
  refine H.out.mono ?_
  rintro e w' ⟨h1, h2, h3⟩
  by_cases hs : stateAt l z = 2
  · obtain ⟨rfl, h4⟩ := h1 hs
    clear h1 h2
    have HS := Lib.hid hs
    clear hs
    go_wp2
    go_ret
    exact ⟨fun _ => ⟨rfl, h4⟩, fun hn => absurd HS.out hn, h3⟩
  · obtain ⟨rfl, h4⟩ := h2 hs
    clear h1 h2
    have HS := Lib.hid hs
    clear hs
    go_wp2
    go_ret
    exact ⟨fun hn => absurd hn HS.out, fun _ => ⟨rfl, h4⟩, h3⟩

theorem found_any (g b : Nat) (l : List Int) (r z : Int) (w : World) (h : SegOk w g b l r) :
    Calls Tryd.prog 48 #[.pointer (some ⟨g, 0, none⟩), .int .i64 z] w (TurnsOk g b l r z 1 3 w) := by
  have H := Lib.hid (turn_ok g b l r z 1 3 w h (by decide))
  clear h
  go_enter Tryd.func48, Tryd.ntmps48
  go_wp2_with (fail)
  refine H.out.mono ?_
  rintro e w' ⟨h1, h2, h3⟩
  by_cases hs : stateAt l z = 1
  · obtain ⟨rfl, h4⟩ := h1 hs
    clear h1 h2
    have HS := Lib.hid hs
    clear hs
    go_wp2
    go_ret
    exact ⟨fun _ => ⟨rfl, h4⟩, fun hn => absurd HS.out hn, h3⟩
  · obtain ⟨rfl, h4⟩ := h2 hs
    clear h1 h2
    have HS := Lib.hid hs
    clear hs
    go_wp2
    go_ret
    exact ⟨fun hn => absurd hn HS.out, fun _ => ⟨rfl, h4⟩, h3⟩

/-- The first free one is opened; else nothing has changed. -/
def Takes (g b : Nat) (l : List Int) (r : Int) (w : World) (e : Ending) (w' : World) : Prop :=
  (placeI 1 l 0 ≠ -1 → e = .returned (.tuple #[.int .i64 (placeI 1 l 0), .bool true]) ∧ SegOk w' g b (turnL l (placeI 1 l 0) 2) r) ∧ (placeI 1 l 0 = -1 → e = .returned (.tuple #[.int .i64 0, .bool false]) ∧ SegOk w' g b l r) ∧ Kp (fun x => x = g ∨ x = b) w w'

theorem placeI_state {l : List Int} (h : placeI 1 l 0 ≠ -1) : stateAt l (placeI 1 l 0) = 1 := by
  rcases placeI_spec 1 l 0 with ⟨h1, _⟩ | ⟨j, h1, h2, h3, _⟩
  · exact absurd h1 h
  · unfold stateAt
    rw [h1, if_pos (by omega)]
    simpa using h3

theorem take_any (g b : Nat) (l : List Int) (r : Int) (w : World) (h : SegOk w g b l r) :
    Calls Tryd.prog 51 #[.pointer (some ⟨g, 0, none⟩)] w (Takes g b l r w) := by
  have h0 := h.1.c0
  have HI := Lib.hid (index_any b l 1 w (by have := h.2; omega) h.1.row)
  have HT := Lib.hid (turn_ok g b l r (placeI 1 l 0) 1 2 w h (by decide))
  by_cases hp : placeI 1 l 0 = -1
  · have hst : stateAt l (placeI 1 l 0) ≠ 1 := by rw [hp]; unfold stateAt; rw [if_neg (by omega)]; decide
    have HP := Lib.hid hp
    have HST := Lib.hid hst
    clear h hp hst
    go_enter Tryd.func51, Tryd.ntmps51
    go_wp2_with (fail)
    refine HI.out.mono ?_
    rintro e w' ⟨rfl, rfl⟩
    go_wp2_with (fail)
    refine HT.out.mono ?_
    rintro e w' ⟨h1, h2, h3⟩
    obtain ⟨rfl, h4⟩ := h2 HST.out
    clear h1 h2
    go_wp2
    go_ret2
    exact ⟨fun hn => absurd HP.out hn, fun _ => ⟨rfl, h4⟩, h3⟩
  · have hst := placeI_state hp
    have HP := Lib.hid hp
    have HST := Lib.hid hst
    clear h hp hst
    obtain ⟨k, hk⟩ : ∃ k, placeI 1 l 0 = k := ⟨_, rfl⟩
    rw [hk] at HI HT HST
    have HK := Lib.hid hk
    clear hk
    go_enter Tryd.func51, Tryd.ntmps51
    go_wp2_with (fail)
    refine HI.out.mono ?_
    rintro e w' ⟨rfl, rfl⟩
    go_wp2_with (fail)
    refine HT.out.mono ?_
    rintro e w' ⟨h1, h2, h3⟩
    obtain ⟨rfl, h4⟩ := h1 HST.out
    clear h1 h2
    go_wp2
    go_ret2
    exact ⟨fun _ => ⟨by rw [HK.out]; rfl, by rw [HK.out]; exact h4⟩, fun hn => absurd hn HP.out, h3⟩

/-- The places of a state, in a list's front. -/
def listTo (l : List Int) (s : Int) : Nat → List Int
  | 0 => []
  | k + 1 => if l.getD k 0 = s then listTo l s k ++ [(k : Int)] else listTo l s k
theorem listTo_le (l : List Int) (s : Int) (k : Nat) : (listTo l s k).length ≤ k := by
  induction k with
  | zero => simp [listTo]
  | succ k ih =>
    unfold listTo
    split
    · simp; omega
    · omega

/-- A list of numbers comes back, in new memory. -/
def Lists (xs : List Int) (w : World) (e : Ending) (w' : World) : Prop := ∃ A c, e = .returned (.slice A xs.length c) ∧ Reads w' w'.heap.size 1 A xs.length (nums .i64 xs) ∧ Below w.heap.size w w' ∧ ∀ ad, A = some ad → w.heap.size ≤ ad.block

theorem int_info : (Tryd.prog.info? 3).map (fun i => (i.zero, i.size, i.bytes)) = some (some (.int .i64 0), 1, 8) := by kernel_rfl

/-- A new block of one number, as a list. -/
theorem reads_int (w : World) (x : Int) : Reads (w.alloc (.cells #[.int .i64 x] 3)) (w.heap.size + 1) 1 (some ⟨w.heap.size, 0, none⟩) 1 (nums .i64 [x]) := by
  refine ⟨rfl, fun _ => ⟨_, rfl, Nat.lt_succ_self _, fun j u hu => ?_⟩⟩
  match j, hu with
  | 0, hu =>
    simp [nums] at hu
    subst hu
    simp [go_sem, Addr.add]
  | j + 1, hu => simp [nums] at hu

end Go.Proofs.YtgjcofoicnnnhaaDoor

/- Contracts of package seg: a new one. -/
namespace Go.Proofs.YtgjcofoicnnnhaaDoor
open Go.RowKit
set_option maxRecDepth 20000

/-- The states of a new one. -/
def newL (z : Int) : List Int := [4, 4] ++ List.replicate (z.toNat - 2) 1

/-- The states while a new one is made. -/
def frontL (n k : Nat) : List Int := List.replicate k 4 ++ List.replicate (n - k) 1
theorem frontL_length (n k : Nat) (h : k ≤ n) : (frontL n k).length = n := by simp [frontL]; omega
theorem frontL_zero (n : Nat) : frontL n 0 = List.replicate n 1 := by simp [frontL]
theorem frontL_set (n k : Nat) (h : k < n) : (frontL n k).set k 4 = frontL n (k + 1) := by
  unfold frontL
  rw [List.set_append_right _ _ (by simp), List.length_replicate, Nat.sub_self]
  obtain ⟨m, hm⟩ : ∃ m, n - k = m + 1 := ⟨n - k - 1, by omega⟩
  rw [hm, List.replicate_succ, List.set_cons_zero, show n - (k + 1) = m by omega, List.replicate_succ' (n := k)]
  simp
theorem newL_front (n : Nat) : newL n = frontL n 2 := by simp [newL, frontL]

theorem fill_nums (n : Nat) : (fillv 1 n n).toArray = (nums .u8 (List.replicate n 1)).toArray := by simp [fillv, nums]

theorem reads_byte (w : World) (g : Nat) (x : Int) (hg : g = w.heap.size) : Reads (w.alloc (.cells #[.int .u8 x] 5)) (w.alloc (.cells #[.int .u8 x] 5)).heap.size 1 (some ⟨g, 0, none⟩) 1 [.int .u8 x] := by
  subst hg
  refine ⟨rfl, fun _ => ⟨_, rfl, by show _ < (w.heap.push _).size; simp, fun j u hu => ?_⟩⟩
  match j, hu with
  | 0, hu =>
    simp at hu
    subst hu
    simp [go_sem, Addr.add]
  | j + 1, hu => simp at hu

/-- A new Seg, or none. -/
def News (z zb bl rs : Int) (w : World) (e : Ending) (w' : World) : Prop :=
  (rightB z zb bl rs = true → ∃ g b, e = .returned (.pointer (some ⟨g, 0, none⟩)) ∧ w.heap.size ≤ g ∧ w.heap.size ≤ b ∧ SegIs w' g b (newL z) rs (z - 2)) ∧ (rightB z zb bl rs = false → e = .returned (.pointer none)) ∧ Below w.heap.size w w'

theorem new_any (z zb bl rs : Int) (w : World) (hz : -9223372036854775808 ≤ z ∧ z ≤ 9223372036854775807) (hb : -9223372036854775808 ≤ bl ∧ bl ≤ 9223372036854775807) :
    Calls Tryd.prog 45 #[.agg #[.int .i64 z, .int .i64 zb, .int .i64 bl, .int .i64 rs]] w (News z zb bl rs w) := by
  have HR := Lib.hid (fun w => right_any z zb bl rs w hz hb)
  cases hr : rightB z zb bl rs with
  | false =>
    have HF := Lib.hid hr
    rw [hr] at HR
    clear hr
    go_enter Tryd.func45, Tryd.ntmps45
    go_wp2_with (fail)
    refine (HR.out _).mono ?_
    rintro e w1 ⟨rfl, hb1⟩
    go_wp2
    go_ret
    exact ⟨fun ht => absurd (ht.symm.trans HF.out) (by decide), fun _ => rfl, ((Below.refl _ _).alloc (Nat.le_refl _) _).trans (hb1.mono (by simp))⟩
  | true =>
    have HT := Lib.hid hr
    have hz2 : 6 ≤ z ∧ z ≤ 256 := by
      have := of_decide_eq_true hr
      omega
    rw [hr] at HR
    clear hr hz hb
    obtain ⟨n, rfl⟩ := Int.eq_ofNat_of_zero_le (show 0 ≤ z by omega)
    go_enter Tryd.func45, Tryd.ntmps45
    go_wp2_with (fail)
    refine (HR.out _).mono ?_
    rintro e w1 ⟨rfl, hb1⟩
    have hblk := (Blk.new w 23 #[.int .i64 n, .int .i64 zb, .int .i64 bl, .int .i64 rs]).below hb1 (by simp)
    have hc0 : w1.cell? ⟨w.heap.size, 0, none⟩ = some (.int .i64 n) := hblk.cell 0
    have hc3 : w1.cell? ⟨w.heap.size, 3, none⟩ = some (.int .i64 rs) := hblk.cell 3
    have hs1 : w.heap.size < w1.heap.size := by have := hb1.size; simp at this; omega
    have hbw : Below w.heap.size w w1 := ((Below.refl _ _).alloc (Nat.le_refl _) _).trans (hb1.mono (by simp))
    have HBW := Lib.hid hbw
    clear hbw hb1 HR
    have HBL := Lib.hid hblk
    clear hblk
    have hwr : IntKind.i64.wrap ((n : Int) - 2) = (n : Int) - 2 := by rw [IntKind.wrap_i64]; omega
    go_wp2_with (fail)
    go_region_held3 (fun w' => w'.cell? ⟨w.heap.size, 0, none⟩ = some (.int .i64 n) ∧ w'.cell? ⟨w.heap.size, 3, none⟩ = some (.int .i64 rs)) (go_keep)
      (first | (go_at_call 61; refine (repeat_any 1 n 1 _ (by omega) (by omega) _ ?_).mono ?_; (exact reads_byte _ _ _ (by simp)); (rintro e w2 ⟨b, rfl, hgb, hbb, hb2⟩; have hs2 := hb2.size; simp at hs2 hgb; have hbl2 := (HBL.out.drew.alloc _).below hb2 (by simp; omega); have k0 : w2.cell? ⟨w.heap.size, 0, none⟩ = some (.int .i64 n) := hbl2.cell 0; have k3 : w2.cell? ⟨w.heap.size, 3, none⟩ = some (.int .i64 rs) := hbl2.cell 3; have HB2 := Lib.hid hb2; have HBB := Lib.hid hbb; clear hb2 hbb hbl2 hc0 hc3)))
    clear hwr
    have hbb2 := HBB.out
    rw [fill_nums] at hbb2
    have HS0 : Hid (SegIs (w2.alloc (.cells #[.slice (some ⟨b, 0, none⟩) n n, .int .i64 rs, .int .i64 ((n : Int) - 2)] 134)) w2.heap.size b (frontL n 0) rs ((n : Int) - 2)) := ⟨by
      have := Blk.new w2 134 #[.slice (some ⟨b, 0, none⟩) n n, .int .i64 rs, .int .i64 ((n : Int) - 2)]
      rw [frontL_length n 0 (by omega)]
      exact this, by rw [frontL_zero]; exact hbb2.alloc _⟩
    clear hbb2
    have hbw2 : Below w.heap.size w w2 := (((HBW.out.drew).alloc (by simp; omega) _).trans (HB2.out.mono (by simp; omega)))
    have hbw3 : Below w.heap.size w (w2.alloc (.cells #[.slice (some ⟨b, 0, none⟩) n n, .int .i64 rs, .int .i64 ((n : Int) - 2)] 134)) := hbw2.alloc hbw2.size _
    have hsz3 := hbw2.size
    generalize hW3 : w2.alloc (.cells #[.slice (some ⟨b, 0, none⟩) n n, .int .i64 rs, .int .i64 ((n : Int) - 2)] 134) = w3 at *
    clear hW3
    generalize hG : w2.heap.size = g at *
    clear hG HBL HBB HB2 hbw2
    go_wp2_with (fail)
    go_loopw [4, 19] (fun _ i wr => ∃ k : Nat, k ≤ 2 ∧ i = .int .i64 k ∧ Hid (SegIs wr g b (frontL n k) rs ((n : Int) - 2)) ∧ Below w.heap.size w wr) (fun _ i _ => 2 - (intOf i).toNat)
    case atStart => exact ⟨0, by omega, rfl, HS0, hbw3⟩
    case round =>
      obtain ⟨k, hk, rfl, hsk, hbk⟩ := hrel
      by_cases hlt : k < 2
      · have h0 := hsk.out.c0
        have hl := frontL_length n k (by omega)
        rw [hl] at h0
        have hc := hsk.out.at_ (k := k) (by omega)
        have hf := hsk.out.fzb k
        have hk8 : k < n := by omega
        clear hl
        go_wp2
        go_roundw
        case rel =>
          refine ⟨k + 1, by omega, by go_num, ?_, hbk.setCell (p := ⟨b, k, none⟩) (show w.heap.size ≤ b by omega) _⟩
          refine ⟨?_, ?_⟩
          · have := hsk.out.top.far (p := ⟨b, k, none⟩) hsk.out.ne_ (.int .u8 4)
            rw [frontL_length n k (by omega)] at this
            rw [frontL_length n (k + 1) (by omega)]
            exact this
          · have := hsk.out.row.set_ k (.int .u8 4)
            rw [nums_set, frontL_set n k (by omega)] at this
            exact this
        case measure => simp [intOf]; omega
      · have hk2 : k = 2 := by omega
        subst hk2
        go_wp2
        go_ret
        refine ⟨fun _ => ⟨g, b, rfl, by omega, by omega, ?_⟩, fun hf => absurd (hf.symm.trans HT.out) (by decide), hbk⟩
        rw [newL_front]
        exact hsk.out
end Go.Proofs.YtgjcofoicnnnhaaDoor

/- Package store: what a store is in memory. -/
namespace Go.Proofs.YtgjcofoicnnnhaaDoor
open Go.RowKit
set_option maxRecDepth 20000

def IntOk (z : Int) : Prop := -9223372036854775808 ≤ z ∧ z ≤ 9223372036854775807
def intC : KeyCode Tryd.prog 3 Int where
  law := Maps.int_keyed Tryd.underlying3
  kv := .int .i64
  ok := IntOk
  isKey := fun t h => ⟨_, Maps.keyOf_int_mk Tryd.underlying3 (WalkArith.wf_i64 h)⟩
  inj := by
    intro a b h
    injection h

/-- Where a store lies: its struct; its device; its zones' states; its map; its zones' last numbers. -/
structure StF where
  s : Nat
  d : Nat
  g : Nat
  gb : Nat
  f : LFp
  b : Nat
def StF.own (F : StF) (i : Nat) : Prop := i = F.s ∨ i = F.g ∨ i = F.gb ∨ F.f.S i ∨ i = F.b
structure StNe (F : StF) : Prop where
  sg : F.s ≠ F.g
  sb : F.s ≠ F.gb
  m : ∀ i, F.f.S i → i ≠ F.s ∧ i ≠ F.g ∧ i ≠ F.gb ∧ i ≠ F.b
  bs : F.b ≠ F.s
  bg : F.b ≠ F.g
  bb : F.b ≠ F.gb
/-- What a store holds. -/
structure StM where
  P : List Part
  G : List Int
  L : List Pl
  seq : Int
  la : Int → Option Int
  op : Int
  sl : Int
structure StoreIs (X : Nat → Prop) (w : World) (F : StF) (sh : Sh) (n : Nat) (m : StM) : Prop where
  top : Blk w F.s 73 #[.pointer (some ⟨F.d, 0, none⟩), .pointer (some ⟨F.g, 0, none⟩), .pointer (some ⟨F.f.g, 0, none⟩), .int .u64 m.seq, .map (some F.b), .int .i64 m.op, .int .i64 m.sl]
  dev : DevIs (fun i => X i ∨ F.own i) w F.d sh m.P
  seg : SegOk w F.g F.gb m.G sh.rs
  lm : LM w F.f n m.L
  last : MapF intC (Value.int .u64) w F.b n m.la
  ne : StNe F
  nx : ∀ i, F.own i → ¬ X i
  sq : 0 ≤ m.seq ∧ m.seq ≤ 9000000000000000000 + n
  nn : n ≤ 1000000
  opr : -1 ≤ m.op ∧ m.op < sh.z

section
variable {X X' S : Nat → Prop} {w w' : World} {F : StF} {sh : Sh} {n n' : Nat} {m : StM}
theorem StoreIs.own_lt (h : StoreIs X w F sh n m) {i : Nat} (hi : F.own i) : i < w.heap.size := by
  rcases hi with rfl | rfl | rfl | hi | rfl
  · exact h.top.lt
  · exact h.seg.1.top.lt
  · exact h.seg.1.row.lt
  · exact h.lm.lt hi
  · exact h.last.lt
theorem StoreIs.xlt (h : StoreIs X w F sh n m) {i : Nat} (hi : X i) : i < w.heap.size := h.dev.cl i (.inl hi)
/-- The store is as it was; what may not be touched may be more. -/
theorem StoreIs.step (h : StoreIs X w F sh n m) (hb : Below w.heap.size w w') (hx : ∀ b, X' b → b < w'.heap.size ∧ (X b ∨ w.heap.size ≤ b)) : StoreIs X' w' F sh n m :=
  ⟨h.top.below hb h.top.lt, h.dev.move (fun b hlt _ => hb.block b hlt) (fun b hx'' => by
      rcases hx'' with hx' | ho
      · rcases hx b hx' with ⟨h1, h2 | h2⟩
        · exact ⟨h1, .inl (.inl h2)⟩
        · exact ⟨h1, .inr h2⟩
      · exact ⟨Nat.lt_of_lt_of_le (h.own_lt ho) hb.size, .inl (.inr ho)⟩),
    ⟨h.seg.1.below hb, h.seg.2⟩, h.lm.below hb, h.last.kp (S := fun _ => False) (Kp.of_below hb) (fun e => e), h.ne, fun i hi hx' => by
      rcases (hx i hx').2 with h2 | h2
      · exact h.nx i hi h2
      · have := h.own_lt hi; omega, h.sq, h.nn, h.opr⟩
theorem StoreIs.below (h : StoreIs X w F sh n m) (hb : Below w.heap.size w w') : StoreIs X w' F sh n m :=
  h.step hb (fun _ hx => ⟨Nat.lt_of_lt_of_le (h.xlt hx) hb.size, .inl hx⟩)
theorem StoreIs.less (h : StoreIs X w F sh n m) (hx : ∀ b, X' b → X b) : StoreIs X' w F sh n m := h.step (Below.refl _ _) (fun b hb => ⟨h.xlt (hx b hb), .inl (hx b hb)⟩)
theorem StoreIs.drew (h : StoreIs X w F sh n m) : StoreIs X w.drew F sh n m := h.below (Below.refl _ _).drew
theorem StoreIs.alloc (h : StoreIs X w F sh n m) (o : Obj) : StoreIs X (w.alloc o) F sh n m := h.below ((Below.refl _ _).alloc (Nat.le_refl _) o)
theorem StoreIs.mono (h : StoreIs X w F sh n m) (hn : n ≤ n') (hm : n' ≤ 1000000) : StoreIs X w F sh n' m := ⟨h.top, h.dev, h.seg, h.lm.mono hn, h.last.mono hn, h.ne, h.nx, ⟨h.sq.1, Int.le_trans h.sq.2 (by omega)⟩, hm, h.opr⟩
/-- Blocks that may not be touched have turned. -/
theorem StoreIs.far (h : StoreIs X w F sh n m) (hk : Kp S w w') (hs : ∀ b, S b → X b) : StoreIs X w' F sh n m := by
  have nt : ∀ i, F.own i → ¬ S i := fun i hi hs' => h.nx i hi (hs i hs')
  exact ⟨hk.blk h.top (nt _ (.inl rfl)), h.dev.kp hk (fun b hb => .inl (hs b hb)), ⟨h.seg.1.kp hk (nt _ (.inr (.inl rfl))) (nt _ (.inr (.inr (.inl rfl)))), h.seg.2⟩,
    h.lm.kp hk (fun i hi => nt i (.inr (.inr (.inr (.inl hi))))), h.last.kp hk (nt _ (.inr (.inr (.inr (.inr rfl))))), h.ne, h.nx, h.sq, h.nn, h.opr⟩
/-- The zones' states have turned. -/
theorem StoreIs.onSeg (h : StoreIs X w F sh n m) {G' : List Int} (hk : Kp (fun x => x = F.g ∨ x = F.gb) w w') (hg : SegOk w' F.g F.gb G' sh.rs) : StoreIs X w' F sh n { m with G := G' } := by
  have ne := h.ne
  exact ⟨hk.blk h.top (fun e => e.elim ne.sg ne.sb), h.dev.kp hk (fun b hb => .inr (by rcases hb with rfl | rfl; exact .inr (.inl rfl); exact .inr (.inr (.inl rfl)))), hg,
    h.lm.kp hk (fun i hi e => e.elim (ne.m i hi).2.1 (ne.m i hi).2.2.1), h.last.kp hk (fun e => e.elim ne.bg ne.bb), h.ne, h.nx, h.sq, h.nn, h.opr⟩
/-- The map has turned. -/
theorem StoreIs.onMap (h : StoreIs X w F sh n m) {L' : List Pl} (hk : Kp F.f.T w w') (hl : LM w' F.f n' L') (hn : n ≤ n') (hm : n' ≤ 1000000) : StoreIs X w' F sh n' { m with L := L' } := by
  have ne := h.ne
  exact ⟨hk.blk h.top (fun e => (ne.m _ (.inr e)).1 rfl), h.dev.kp hk (fun b hb => .inr (.inr (.inr (.inr (.inl (.inr hb)))))), ⟨h.seg.1.kp hk (fun e => (ne.m _ (.inr e)).2.1 rfl) (fun e => (ne.m _ (.inr e)).2.2.1 rfl), h.seg.2⟩,
    hl, (h.last.kp hk (fun e => (ne.m _ (.inr e)).2.2.2 rfl)).mono hn, h.ne, h.nx, ⟨h.sq.1, Int.le_trans h.sq.2 (by omega)⟩, hm, h.opr⟩
/-- The device has turned. -/
theorem StoreIs.onDev (h : StoreIs X w F sh n m) {P' : List Part} (hk : Kp (fun b => ¬ (X b ∨ F.own b)) w w') (hd : DevIs (fun i => X i ∨ F.own i) w' F.d sh P') : StoreIs X w' F sh n { m with P := P' } :=
  ⟨hk.blk h.top (fun e => e (.inr (.inl rfl))), hd, ⟨h.seg.1.kp hk (fun e => e (.inr (.inr (.inl rfl)))) (fun e => e (.inr (.inr (.inr (.inl rfl))))), h.seg.2⟩,
    h.lm.kp hk (fun _ hi e => e (.inr (.inr (.inr (.inr (.inl hi)))))), h.last.kp hk (fun e => e (.inr (.inr (.inr (.inr (.inr rfl)))))), h.ne, h.nx, h.sq, h.nn, h.opr⟩
/-- A zone's last number is told. -/
theorem StoreIs.onLast (h : StoreIs X w F sh n m) {la' : Int → Option Int} (hk : Kp (fun x => x = F.b) w w') (hl : MapF intC (Value.int .u64) w' F.b n' la') (hn : n ≤ n') (hm : n' ≤ 1000000) : StoreIs X w' F sh n' { m with la := la' } := by
  have ne := h.ne
  exact ⟨hk.blk h.top (fun e => ne.bs e.symm), h.dev.kp hk (fun b hb => .inr (.inr (.inr (.inr (.inr hb))))), ⟨h.seg.1.kp hk (fun e => ne.bg e.symm) (fun e => ne.bb e.symm), h.seg.2⟩,
    (h.lm.kp hk (fun i hi e => (ne.m i hi).2.2.2 e)).mono hn, hl, h.ne, h.nx, ⟨h.sq.1, Int.le_trans h.sq.2 (by omega)⟩, hm, h.opr⟩
/-- The struct has turned. -/
theorem StoreIs.onTop (h : StoreIs X w F sh n m) {seq op sl : Int} (hk : Kp (fun x => x = F.s) w w')
    (ht : Blk w' F.s 73 #[.pointer (some ⟨F.d, 0, none⟩), .pointer (some ⟨F.g, 0, none⟩), .pointer (some ⟨F.f.g, 0, none⟩), .int .u64 seq, .map (some F.b), .int .i64 op, .int .i64 sl])
    (hn : n ≤ n') (hm : n' ≤ 1000000) (hq : 0 ≤ seq ∧ seq ≤ 9000000000000000000 + n') (ho : -1 ≤ op ∧ op < sh.z) : StoreIs X w' F sh n' { m with seq := seq, op := op, sl := sl } := by
  have ne := h.ne
  exact ⟨ht, h.dev.kp hk (fun b hb => .inr (.inl hb)), ⟨h.seg.1.kp hk (fun e => ne.sg e.symm) (fun e => ne.sb e.symm), h.seg.2⟩,
    (h.lm.kp hk (fun i hi e => (ne.m i hi).1 e)).mono hn, (h.last.kp hk ne.bs).mono hn, h.ne, h.nx, hq, hm, ho⟩
theorem StoreIs.c0 (h : StoreIs X w F sh n m) : w.cell? ⟨F.s, 0, none⟩ = some (.pointer (some ⟨F.d, 0, none⟩)) := h.top.cell 0
theorem StoreIs.c1 (h : StoreIs X w F sh n m) : w.cell? ⟨F.s, 1, none⟩ = some (.pointer (some ⟨F.g, 0, none⟩)) := h.top.cell 1
theorem StoreIs.c2 (h : StoreIs X w F sh n m) : w.cell? ⟨F.s, 2, none⟩ = some (.pointer (some ⟨F.f.g, 0, none⟩)) := h.top.cell 2
theorem StoreIs.c3 (h : StoreIs X w F sh n m) : w.cell? ⟨F.s, 3, none⟩ = some (.int .u64 m.seq) := h.top.cell 3
theorem StoreIs.c4 (h : StoreIs X w F sh n m) : w.cell? ⟨F.s, 4, none⟩ = some (.map (some F.b)) := h.top.cell 4
theorem StoreIs.c5 (h : StoreIs X w F sh n m) : w.cell? ⟨F.s, 5, none⟩ = some (.int .i64 m.op) := h.top.cell 5
theorem StoreIs.c6 (h : StoreIs X w F sh n m) : w.cell? ⟨F.s, 6, none⟩ = some (.int .i64 m.sl) := h.top.cell 6
theorem StoreIs.fz (h : StoreIs X w F sh n m) (i : Nat) : w.frozen? ⟨F.s, i, none⟩ = false := h.top.frozen i
end
end Go.Proofs.YtgjcofoicnnnhaaDoor

/- Package store: how much is left; an open zone filled; one opened. -/
namespace Go.Proofs.YtgjcofoicnnnhaaDoor
open Go.RowKit
set_option maxRecDepth 20000

section
variable {X : Nat → Prop} {w w' : World} {F : StF} {sh : Sh} {n : Nat} {m : StM}
theorem kp_below_any {S : Nat → Prop} (hb : Below w.heap.size w w') : Kp S w w' := Kp.of_below hb
theorem StoreIs.segKp (h : StoreIs X w F sh n m) (hk : Kp (fun x => x = F.g ∨ x = F.gb) w w') : Kp (fun b => ¬ X b) w w' :=
  hk.mono fun b _ e => by
    rcases e with rfl | rfl
    · exact h.nx _ (.inr (.inl rfl))
    · exact h.nx _ (.inr (.inr (.inl rfl)))
end

theorem field_sh1 (a b c d : Int) (w : World) : (Instr.field 23 (.agg #[.int .i64 a, .int .i64 b, .int .i64 c, .int .i64 d]) 1).run Tryd.prog w = .ok (.int .i64 b) w := by kernel_rfl
theorem field_sh2 (a b c d : Int) (w : World) : (Instr.field 23 (.agg #[.int .i64 a, .int .i64 b, .int .i64 c, .int .i64 d]) 2).run Tryd.prog w = .ok (.int .i64 c) w := by kernel_rfl
theorem left_any (X : Nat → Prop) (w : World) (F : StF) (sh : Sh) (n : Nat) (m : StM) (z : Nat) (hz : m.op = z) (h : StoreIs X w F sh n m) :
    Calls Tryd.prog 49 #[.pointer (some ⟨F.s, 0, none⟩)] w (Makes (.int .i64 ((sh.zb : Int) - ((m.P.getD z pt0).bs.length : Nat))) w) := by
  have hsz := h.dev.sz
  have hop := h.opr
  have hzP : z < m.P.length := by omega
  have hfit := (h.dev.fit hzP).fit
  have hzb := h.dev.ok.facts
  have HA := Lib.hid (fun u (hu : StoreIs X u F sh n m) => zat_any _ u F.d sh m.P z hzP hu.dev)
  have HS := Lib.hid (fun u (hu : StoreIs X u F sh n m) => shape_any _ u F.d sh m.P hu.dev)
  have ks : w.cell? ⟨F.s, 0, none⟩ = some (.pointer (some ⟨F.d, 0, none⟩)) ∧ w.cell? ⟨F.s, 5, none⟩ = some (.int .i64 z) := ⟨h.c0, by rw [← hz]; exact h.c5⟩
  have H := Lib.hid h
  have HA1 := Lib.hid (HA.out _ h.drew)
  have hl1 : (m.P.getD z pt0).bs.length ≤ 4096 := by omega
  have hl2 : sh.zb ≤ 4096 := by omega
  clear h hz hsz hop hzP hfit hzb HA
  unfold shV at HS
  have hfl := field_sh1 sh.z sh.zb sh.bl sh.rs
  generalize (m.P.getD z pt0).bs.length = k at *
  generalize (m.P.getD z pt0).du = du at *
  go_enter Tryd.func49, Tryd.ntmps49
  go_wp2_with (fail)
  go_region_held3 (fun u => u.cell? ⟨F.s, 0, none⟩ = some (.pointer (some ⟨F.d, 0, none⟩)) ∧ u.cell? ⟨F.s, 5, none⟩ = some (.int .i64 z))
    (first | exact ks | exact ks2)
    (first
      | (go_at_call 24
         with_reducible refine HA1.out.mono ?_
         rintro e w1 ⟨rfl, hb⟩
         have ks2 : w1.cell? ⟨F.s, 0, none⟩ = some (.pointer (some ⟨F.d, 0, none⟩)) ∧ w1.cell? ⟨F.s, 5, none⟩ = some (.int .i64 z) := ⟨below_keep hb ks.1, below_keep hb ks.2⟩
         have HB := Lib.hid ((Below.refl _ w).drew.trans hb)
         clear hb))
  all_goals
    have h1 := H.out.below HB.out
    have c0 := h1.c0
    have HS1 := Lib.hid (HS.out _ h1)
    clear ks ks2 h1
    go_wp2_with (fail)
    refine HS1.out.mono ?_
    rintro e w2 ⟨rfl, hb2⟩
    have HB2 := Lib.hid (HB.out.trans (hb2.mono HB.out.size))
    clear hb2 c0
    go_wp2
    go_ret
    exact ⟨rfl, HB2.out⟩

def fillM (m : StM) : StM := { m with G := turnL m.G m.op 3, op := -1 }
theorem sfill_any (X : Nat → Prop) (w : World) (F : StF) (sh : Sh) (n : Nat) (m : StM) (z : Nat) (hz : m.op = z) (hst : stateAt m.G z = 2) (h : StoreIs X w F sh n m) :
    Calls Tryd.prog 50 #[.pointer (some ⟨F.s, 0, none⟩)] w (fun e w' => e = .returned (.tuple #[]) ∧ StoreIs X w' F sh n (fillM m) ∧ Kp (fun b => ¬ X b) w w') := by
  have HF := Lib.hid (fill_any F.g F.gb m.G sh.rs z w.drew h.drew.seg)
  have ks : w.cell? ⟨F.s, 1, none⟩ = some (.pointer (some ⟨F.g, 0, none⟩)) ∧ w.cell? ⟨F.s, 5, none⟩ = some (.int .i64 z) := ⟨h.c1, by rw [← hz]; exact h.c5⟩
  have H := Lib.hid h
  have HZ := Lib.hid (And.intro hz hst)
  clear h hz hst
  go_enter Tryd.func50, Tryd.ntmps50
  go_wp2_with (fail)
  go_region_held3 (fun u => u.cell? ⟨F.s, 1, none⟩ = some (.pointer (some ⟨F.g, 0, none⟩)) ∧ u.cell? ⟨F.s, 5, none⟩ = some (.int .i64 z))
    (first | exact ks | exact ks2)
    (first
      | (go_at_call 64
         refine HF.out.mono ?_
         rintro e w1 ⟨h1, _, hk⟩
         obtain ⟨rfl, hs1⟩ := h1 HZ.out.2
         have hst := H.out.drew.onSeg hk hs1
         have ks2 : w1.cell? ⟨F.s, 1, none⟩ = some (.pointer (some ⟨F.g, 0, none⟩)) ∧ w1.cell? ⟨F.s, 5, none⟩ = some (.int .i64 z) := ⟨hst.c1, by rw [← HZ.out.1]; exact hst.c5⟩
         have HST := Lib.hid (And.intro hst (H.out.drew.segKp hk))
         clear hst hk hs1 h1))
  all_goals
    have hfz := HST.out.1.fz 5
    have c5 := HST.out.1.c5
    clear ks ks2
    go_wp2
    go_end0
    have ht := HST.out.1.top.set_ 5 (.int .i64 (-1))
    have hk := (Kp.refl (fun b => b = F.s) w1).setCell (p := ⟨F.s, 5, none⟩) (.inl rfl) (.int .i64 (-1))
    have e : fillM m = { m with G := turnL m.G z 3, seq := m.seq, op := -1, sl := m.sl } := by unfold fillM; rw [HZ.out.1]
    rw [e]
    refine ⟨rfl, HST.out.1.onTop hk (by simpa using ht) (Nat.le_refl _) HST.out.1.nn HST.out.1.sq (by omega), ?_⟩
    exact kp_undrew (HST.out.2.trans (hk.mono (S' := fun b => ¬ X b) (fun b _ e => by rw [e]; exact H.out.nx _ (.inl rfl))) (fun _ _ h => h))
end Go.Proofs.YtgjcofoicnnnhaaDoor

/- Package store: a zone made ready. -/
namespace Go.Proofs.YtgjcofoicnnnhaaDoor
open Go.RowKit
set_option maxRecDepth 20000

def leftM (sh : Sh) (m : StM) : Int := (sh.zb : Int) - ((m.P.getD m.op.toNat pt0).bs.length : Nat)
/-- The open zone is filled, where too little of it is left. -/
def ready1 (sh : Sh) (m : StM) (need : Int) : StM := if 0 ≤ m.op ∧ leftM sh m < need then fillM m else m
/-- A zone is open behind it, or none can be opened. -/
def readyM (sh : Sh) (m : StM) (need : Int) : Bool × StM :=
  let m1 := ready1 sh m need
  if 0 ≤ m1.op then (true, m1) else if placeI 1 m1.G 0 = -1 then (false, m1) else (true, { m1 with G := turnL m1.G (placeI 1 m1.G 0) 2, op := placeI 1 m1.G 0 })

theorem ready_end (X : Nat → Prop) (w : World) (F : StF) (sh : Sh) (n : Nat) (m1 : StM) (h : StoreIs X w F sh n m1) (hl : m1.G.length = sh.z) :
    Calls Tryd.prog 51 #[.pointer (some ⟨F.g, 0, none⟩)] w (fun e w' => ∃ z b, e = .returned (.tuple #[.int .i64 z, .bool b]) ∧ StoreIs X w' F sh n { m1 with G := (if placeI 1 m1.G 0 = -1 then m1.G else turnL m1.G (placeI 1 m1.G 0) 2) } ∧
      Kp (fun b => ¬ X b) w w' ∧ b = !decide (placeI 1 m1.G 0 = -1) ∧ (b = true → z = placeI 1 m1.G 0 ∧ -1 ≤ z ∧ z < sh.z)) := by
  refine (take_any F.g F.gb m1.G sh.rs w h.seg).mono ?_
  rintro e w' ⟨h1, h2, hk⟩
  by_cases hp : placeI 1 m1.G 0 = -1
  · obtain ⟨rfl, hs⟩ := h2 hp
    refine ⟨0, false, rfl, ?_, h.segKp hk, by simp [hp], fun e => by cases e⟩
    rw [if_pos hp]
    exact h.onSeg hk hs
  · obtain ⟨rfl, hs⟩ := h1 hp
    refine ⟨placeI 1 m1.G 0, true, rfl, ?_, h.segKp hk, by simp [hp], fun _ => ⟨rfl, ?_⟩⟩
    · rw [if_neg hp]
      exact h.onSeg hk hs
    · have hst := placeI_state hp
      unfold stateAt at hst
      split at hst
      · omega
      · omega

theorem ready_any (X : Nat → Prop) (w : World) (F : StF) (sh : Sh) (n : Nat) (m : StM) (need : Int) (h : StoreIs X w F sh n m) (hop : 0 ≤ m.op → stateAt m.G m.op = 2) (hl : m.G.length = sh.z) :
    Calls Tryd.prog 30 #[.pointer (some ⟨F.s, 0, none⟩), .int .i64 need] w (fun e w' => e = .returned (.bool (readyM sh m need).1) ∧ StoreIs X w' F sh n (readyM sh m need).2 ∧ Kp (fun b => ¬ X b) w w') := by
  by_cases ho : 0 ≤ m.op
  · obtain ⟨z, hz⟩ := Int.eq_ofNat_of_zero_le ho
    have HL := Lib.hid (left_any X w F sh n m z hz h)
    have HF := Lib.hid (fun u (hu : StoreIs X u F sh n m) => sfill_any X u F sh n m z hz (by rw [← hz]; exact hop ho) hu)
    have H := Lib.hid h
    have c5 := h.c5
    rw [hz] at c5
    by_cases hlt : leftM sh m < need
    · have hr : ready1 sh m need = fillM m := if_pos ⟨ho, hlt⟩
      have HR := Lib.hid hr
      have hd : (sh.zb : Int) - ((m.P.getD z pt0).bs.length : Nat) < need := by unfold leftM at hlt; rw [hz] at hlt; exact hlt
      have HG : Hid ((fillM m).G.length = sh.z) := by unfold Hid fillM turnL; simpa using hl
      clear h hop hr hlt hl
      generalize (sh.zb : Int) - ((m.P.getD z pt0).bs.length : Nat) = lf at *
      go_enter Tryd.func30, Tryd.ntmps30
      go_wp2_with (fail)
      refine HL.out.mono ?_
      rintro e w1 ⟨rfl, hb1⟩
      have H1 := Lib.hid (And.intro (H.out.below hb1) hb1)
      clear hb1 c5
      go_wp2_with (fail)
      refine (HF.out _ H1.out.1).mono ?_
      rintro e w2 ⟨rfl, h2, hk2⟩
      have c5 := h2.c5
      have c1 := h2.c1
      have hm1 : (fillM m).op = -1 := rfl
      rw [hm1] at c5
      have H2 := Lib.hid (And.intro h2 ((Kp.of_below (S := fun b => ¬ X b) H1.out.2).trans hk2 (fun _ _ h => h)))
      have HT := Lib.hid (ready_end X w2 F sh n (fillM m) h2 HG.out)
      clear h2 hk2 H1 hm1 HL HF
      go_wp2_with (fail)
      refine HT.out.mono ?_
      rintro e w3 ⟨zz, b, rfl, h3, hk3, hb, hzb⟩
      have HK3 := Lib.hid (H2.out.2.trans hk3 (fun _ _ h => h))
      have HB := Lib.hid hb
      have HZB := Lib.hid hzb
      have HRM : Hid (readyM sh m need = if placeI 1 (fillM m).G 0 = -1 then (false, fillM m) else (true, { (fillM m) with G := turnL (fillM m).G (placeI 1 (fillM m).G 0) 2, op := placeI 1 (fillM m).G 0 })) := by
        unfold Hid readyM
        rw [HR.out]
        simp only
        rw [if_neg (by show ¬ (0 : Int) ≤ -1; decide)]
      clear hk3 hb hzb HT c5 c1
      cases b with
      | false =>
        have hp : placeI 1 (fillM m).G 0 = -1 := by simpa using HB.out
        rw [if_pos hp] at h3
        have H3 := Lib.hid h3
        have HP := Lib.hid hp
        clear h3 hp
        go_wp2
        go_ret
        rw [HRM.out, if_pos HP.out]
        exact ⟨rfl, H3.out, HK3.out⟩
      | true =>
        have hp : ¬ placeI 1 (fillM m).G 0 = -1 := by simpa using HB.out
        rw [if_neg hp] at h3
        obtain ⟨hzz, hz1, hz2⟩ := HZB.out rfl
        have c5 := h3.c5
        have fz := h3.fz 5
        have H3 := Lib.hid h3
        have HP := Lib.hid (And.intro hp (And.intro hzz (And.intro hz1 hz2)))
        clear h3 hp hzz hz1 hz2
        go_wp2
        go_ret
        rw [HRM.out, if_neg HP.out.1, ← HP.out.2.1]
        have ht := H3.out.top.set_ 5 (.int .i64 zz)
        have hk := (Kp.refl (fun b => b = F.s) w3).setCell (p := ⟨F.s, 5, none⟩) (.inl rfl) (.int .i64 zz)
        have h4 := H3.out.onTop (seq := (fillM m).seq) (op := zz) (sl := (fillM m).sl) hk (by simpa using ht) (Nat.le_refl _) H3.out.nn H3.out.sq HP.out.2.2
        rw [← HP.out.2.1] at h4
        refine ⟨rfl, h4, ?_⟩
        exact HK3.out.trans (hk.mono (S' := fun b => ¬ X b) (fun b _ e => by rw [e]; exact H3.out.nx _ (.inl rfl))) (fun _ _ h => h)
    · have hr : ready1 sh m need = m := if_neg (fun e => hlt e.2)
      have hd : ¬ (sh.zb : Int) - ((m.P.getD z pt0).bs.length : Nat) < need := by unfold leftM at hlt; rw [hz] at hlt; exact hlt
      have HRM : Hid (readyM sh m need = (true, m)) := by
        unfold Hid readyM
        rw [hr]
        exact if_pos ho
      clear h hop hr hlt hl HF
      generalize (sh.zb : Int) - ((m.P.getD z pt0).bs.length : Nat) = lf at *
      go_enter Tryd.func30, Tryd.ntmps30
      go_wp2_with (fail)
      refine HL.out.mono ?_
      rintro e w1 ⟨rfl, hb1⟩
      have H1 := Lib.hid (And.intro (H.out.below hb1) hb1)
      have c5 : w1.cell? ⟨F.s, 5, none⟩ = some (.int .i64 z) := below_keep hb1 c5
      clear hb1 HL
      go_wp2
      go_ret
      rw [HRM.out]
      exact ⟨rfl, H1.out.1, Kp.of_below H1.out.2⟩
  · have hr : ready1 sh m need = m := if_neg (fun e => ho e.1)
    have HR := Lib.hid hr
    have HO := Lib.hid ho
    have hm1 : m.op = -1 := by have := h.opr.1; omega
    have c5 := h.c5
    have c1 := h.c1
    rw [hm1] at c5
    have H2 := Lib.hid (And.intro h (Kp.refl (fun b => ¬ X b) w))
    have HT := Lib.hid (ready_end X w F sh n m h hl)
    clear h hop hl hr ho hm1
    go_enter Tryd.func30, Tryd.ntmps30
    go_wp2_with (fail)
    refine HT.out.mono ?_
    rintro e w3 ⟨zz, b, rfl, h3, hk3, hb, hzb⟩
    have HK3 := Lib.hid (H2.out.2.trans hk3 (fun _ _ h => h))
    have HB := Lib.hid hb
    have HZB := Lib.hid hzb
    have HRM : Hid (readyM sh m need = if placeI 1 (m).G 0 = -1 then (false, m) else (true, { (m) with G := turnL (m).G (placeI 1 (m).G 0) 2, op := placeI 1 (m).G 0 })) := by
      unfold Hid readyM
      rw [HR.out]
      simp only
      rw [if_neg (by have := HO.out; omega)]
    clear hk3 hb hzb HT c5 c1
    cases b with
    | false =>
      have hp : placeI 1 (m).G 0 = -1 := by simpa using HB.out
      rw [if_pos hp] at h3
      have H3 := Lib.hid h3
      have HP := Lib.hid hp
      clear h3 hp
      go_wp2
      go_ret
      rw [HRM.out, if_pos HP.out]
      exact ⟨rfl, H3.out, HK3.out⟩
    | true =>
      have hp : ¬ placeI 1 (m).G 0 = -1 := by simpa using HB.out
      rw [if_neg hp] at h3
      obtain ⟨hzz, hz1, hz2⟩ := HZB.out rfl
      have c5 := h3.c5
      have fz := h3.fz 5
      have H3 := Lib.hid h3
      have HP := Lib.hid (And.intro hp (And.intro hzz (And.intro hz1 hz2)))
      clear h3 hp hzz hz1 hz2
      go_wp2
      go_ret
      rw [HRM.out, if_neg HP.out.1, ← HP.out.2.1]
      have ht := H3.out.top.set_ 5 (.int .i64 zz)
      have hk := (Kp.refl (fun b => b = F.s) w3).setCell (p := ⟨F.s, 5, none⟩) (.inl rfl) (.int .i64 zz)
      have h4 := H3.out.onTop (seq := (m).seq) (op := zz) (sl := (m).sl) hk (by simpa using ht) (Nat.le_refl _) H3.out.nn H3.out.sq HP.out.2.2
      rw [← HP.out.2.1] at h4
      refine ⟨rfl, h4, ?_⟩
      exact HK3.out.trans (hk.mono (S' := fun b => ¬ X b) (fun b _ e => by rw [e]; exact H3.out.nx _ (.inl rfl))) (fun _ _ h => h)
end Go.Proofs.YtgjcofoicnnnhaaDoor

/- Package store: blocks that are put; what a record says about one. -/
namespace Go.Proofs.YtgjcofoicnnnhaaDoor
open Go.RowKit
set_option maxRecDepth 20000

/-- A block that is written, or dropped. -/
structure Pv where
  t : Int
  b : Int
  d : Bool
  da : List Int
def pv0 : Pv := ⟨0, 0, false, []⟩
def Pv.n (p : Pv) : Int × Int := (p.t, p.b)
/-- It stands at this place; what it is made of may not be touched. -/
structure PutAt (X : Nat → Prop) (w : World) (a : Addr) (p : Pv) (Ad : Option Addr) (cd : Nat) : Prop where
  x : X a.block
  c0 : w.cell? a = some (.int .u32 p.t)
  c1 : w.cell? ⟨a.block, a.off + 1, none⟩ = some (.int .u64 p.b)
  c2 : w.cell? ⟨a.block, a.off + 2, none⟩ = some (.bool p.d)
  c3 : w.cell? ⟨a.block, a.off + 3, none⟩ = some (.slice Ad p.da.length cd)
  rd : Reads w w.heap.size 1 Ad p.da.length (nums .u8 p.da)
  xd : ∀ ad, Ad = some ad → 0 < p.da.length → X ad.block
  cap : p.da.length ≤ cd
structure PvOk (p : Pv) : Prop where
  n : NameOk p.n
  by_ : ∀ x ∈ p.da, ByteOk x
  len : p.da.length ≤ 100000000
def PutsAt (X : Nat → Prop) (w : World) (A : Option Addr) (l : List Pv) : Prop := ∀ i, i < l.length → ∃ ad Ad cd, A = some ad ∧ PutAt X w (ad.add (i * 4)) (l.getD i pv0) Ad cd
section
variable {X X' S : Nat → Prop} {w w' : World} {a : Addr} {p : Pv} {Ad A : Option Addr} {cd : Nat} {l : List Pv}
theorem PutAt.kp (h : PutAt X w a p Ad cd) (hk : Kp S w w') (hs : ∀ b, S b → ¬ X b) : PutAt X w' a p Ad cd := by
  have nx : ∀ b, X b → ¬ S b := fun b hx hs' => hs b hs' hx
  refine ⟨h.x, hk.cell h.c0 (nx _ h.x), hk.cell h.c1 (nx _ h.x), hk.cell h.c2 (nx _ h.x), hk.cell h.c3 (nx _ h.x), ⟨h.rd.1, fun h0 => ?_⟩, h.xd, h.cap⟩
  obtain ⟨ad, e, hb, hc⟩ := h.rd.2 h0
  exact ⟨ad, e, Nat.lt_of_lt_of_le hb hk.size, fun j u hu => hk.cell (hc j u hu) (by rw [block_of_add]; exact nx _ (h.xd ad e h0))⟩
theorem PutsAt.kp (h : PutsAt X w A l) (hk : Kp S w w') (hs : ∀ b, S b → ¬ X b) : PutsAt X w' A l := fun i hi => by
  obtain ⟨ad, Ad, cd, e, hp⟩ := h i hi
  exact ⟨ad, Ad, cd, e, hp.kp hk hs⟩
theorem PutsAt.kx (h : PutsAt X w A l) (hk : Kp (fun b => ¬ X b) w w') : PutsAt X w' A l := h.kp hk (fun _ h => h)
theorem PutsAt.below (h : PutsAt X w A l) (hb : Below w.heap.size w w') : PutsAt X w' A l := h.kp (S := fun _ => False) (Kp.of_below hb) (fun _ e => e.elim)
theorem PutAt.more (h : PutAt X w a p Ad cd) (hx : ∀ b, X b → X' b) : PutAt X' w a p Ad cd := ⟨hx _ h.x, h.c0, h.c1, h.c2, h.c3, h.rd, fun ad e h0 => hx _ (h.xd ad e h0), h.cap⟩
theorem PutsAt.more (h : PutsAt X w A l) (hx : ∀ b, X b → X' b) : PutsAt X' w A l := fun i hi => by
  obtain ⟨ad, Ad, cd, e, hp⟩ := h i hi
  exact ⟨ad, Ad, cd, e, hp.more hx⟩
theorem PutsAt.front (h : PutsAt X w A l) (k c : Nat) (hk : k ≤ l.length) (hc : l.length ≤ c) : PutsAt X w (if c = 0 then A else A.map (·.add 0)) (l.take k) := fun i hi => by
  have hi' : i < k := by simp at hi; omega
  obtain ⟨ad, Ad, cd, e, hp⟩ := h i (by omega)
  have e2 : (l.take k).getD i pv0 = l.getD i pv0 := by simp [List.getD_eq_getElem?_getD, hi']
  rw [e2]
  subst e
  refine ⟨ad, Ad, cd, ?_, hp⟩
  split
  · omega
  · simp [Addr.add]
theorem PutsAt.back (h : PutsAt X w A l) (k c : Nat) (hc : l.length ≤ c) : PutsAt X w (if c = k then A else A.map (·.add (k * 4))) (l.drop k) := fun i hi => by
  have hi' : k + i < l.length := by simp at hi; omega
  obtain ⟨ad, Ad, cd, e, hp⟩ := h (k + i) hi'
  have e2 : (l.drop k).getD i pv0 = l.getD (k + i) pv0 := by simp [List.getD_eq_getElem?_getD]
  rw [e2]
  subst e
  refine ⟨ad.add (k * 4), Ad, cd, by rw [if_neg (by omega), Option.map_some], ?_⟩
  rw [add_of_add, ← Nat.add_mul]
  exact hp
end

def itemM (p : Pv) : It := if p.d then ⟨p.t, p.b, 2, 0, 0⟩ else ⟨p.t, p.b, 1, sumS 0 p.da, endsN p.da⟩
theorem endsN_le (l : List Int) : endsN l ≤ l.length := endsTo_le l l.length
theorem itemM_ok (p : Pv) (h : PvOk p) (hl : p.d = false → p.da.length ≤ 4096) : ItOk (itemM p) := by
  unfold itemM
  split
  · exact ⟨h.n.1, h.n.2, .inr ⟨rfl, rfl, rfl⟩, by simp, by simp⟩
  · rename_i hd
    have h1 := sumS_bd p.da 0 ⟨by omega, by omega⟩ h.by_
    have h2 := endsN_le p.da
    have h3 := hl (by simpa using hd)
    exact ⟨h.n.1, h.n.2, .inl ⟨rfl, by show ((endsN p.da : Nat) : Int) ≤ 4096; omega⟩, h1, by show 0 ≤ ((endsN p.da : Nat) : Int) ∧ ((endsN p.da : Nat) : Int) ≤ 65535; omega⟩

theorem cell_set5 {w : World} {g : Nat} {c0 c1 c2 c3 c4 : Value} {p : Addr} (hp : p.block ≠ g) : (((((w.setCell ⟨g, 0, none⟩ c0).setCell ⟨g, 1, none⟩ c1).setCell ⟨g, 2, none⟩ c2).setCell ⟨g, 3, none⟩ c3).setCell ⟨g, 4, none⟩ c4).cell? p = w.cell? p := by
  have ne : ∀ i, (⟨g, i, none⟩ : Addr) ≠ p := fun i e => hp (by rw [← e])
  rw [World.cell?_setCell_other _ _ _ _ (ne 4), World.cell?_setCell_other _ _ _ _ (ne 3), World.cell?_setCell_other _ _ _ _ (ne 2), World.cell?_setCell_other _ _ _ _ (ne 1), World.cell?_setCell_other _ _ _ _ (ne 0)]
theorem blk_set5 {w : World} {g : Nat} {t : TypeId} {a0 a1 a2 a3 a4 : Value} (h : Blk w g t #[a0, a1, a2, a3, a4]) (c0 c1 c2 c3 c4 : Value) :
    Blk (((((w.setCell ⟨g, 0, none⟩ c0).setCell ⟨g, 1, none⟩ c1).setCell ⟨g, 2, none⟩ c2).setCell ⟨g, 3, none⟩ c3).setCell ⟨g, 4, none⟩ c4) g t #[c0, c1, c2, c3, c4] := by
  have := ((((h.set_ 0 c0).set_ 1 c1).set_ 2 c2).set_ 3 c3).set_ 4 c4
  simpa using this
theorem kp_set5 {S : Nat → Prop} {w0 w : World} {g : Nat} (h : Kp S w0 w) (hg : S g ∨ w0.heap.size ≤ g) (c0 c1 c2 c3 c4 : Value) :
    Kp S w0 (((((w.setCell ⟨g, 0, none⟩ c0).setCell ⟨g, 1, none⟩ c1).setCell ⟨g, 2, none⟩ c2).setCell ⟨g, 3, none⟩ c3).setCell ⟨g, 4, none⟩ c4) :=
  (kp_set4 h hg c0 c1 c2 c3).setCell (p := ⟨g, 4, none⟩) hg _

theorem item_any (p : Pv) (hp : PvOk p) (hl : p.d = false → p.da.length ≤ 4096) (Ad : Option Addr) (cd : Nat) (w : World) (hr : Reads w w.heap.size 1 Ad p.da.length (nums .u8 p.da)) (hc : p.da.length ≤ cd) :
    Calls Tryd.prog 53 #[.agg #[.int .u32 p.t, .int .u64 p.b, .bool p.d, .slice Ad p.da.length cd]] w (Makes (itV (itemM p)) w) := by
  obtain ⟨t, b, d, da⟩ := p
  simp only at hr hc hl ⊢
  cases d with
  | true =>
    unfold itemM itV
    simp only [if_true]
    go_enter Tryd.func53, Tryd.ntmps53
    go_wp2
    go_returns
    exact ⟨rfl, ((Below.refl _ _).alloc (Nat.le_refl _) _).alloc (by simp) _⟩
  | false =>
    have hl4 := hl rfl
    have hby := hp.by_
    simp only at hby
    have he : (endsN da : Nat) ≤ 4096 := Nat.le_trans (endsN_le da) hl4
    have HI : Hid (itemM ⟨t, b, false, da⟩ = ⟨t, b, 1, sumS 0 da, (endsN da : Nat)⟩) := rfl
    have k0 := (Blk.new w 37 #[.int .u32 t, .int .u64 b, .bool false, .slice Ad da.length cd]).alloc (.cells #[.int .u32 0, .int .u64 0, .int .u8 0, .int .u32 0, .int .u16 0] 119)
    have k1 := Blk.new (w.alloc (.cells #[.int .u32 t, .int .u64 b, .bool false, .slice Ad da.length cd] 37)) 119 #[.int .u32 0, .int .u64 0, .int .u8 0, .int .u32 0, .int .u16 0]
    rw [World.size_alloc] at k1
    have hw : Below w.heap.size w ((w.alloc (.cells #[.int .u32 t, .int .u64 b, .bool false, .slice Ad da.length cd] 37)).alloc (.cells #[.int .u32 0, .int .u64 0, .int .u8 0, .int .u32 0, .int .u16 0] 119)) := ((Below.refl _ _).alloc (Nat.le_refl _) _).alloc (by simp) _
    have HW := Lib.hid (And.intro k0 (And.intro k1 hw))
    clear k0 k1 hw
    go_enter Tryd.func53, Tryd.ntmps53
    go_wp2_with (fail)
    generalize (w.alloc (.cells #[.int .u32 t, .int .u64 b, .bool false, .slice Ad da.length cd] 37)).alloc (.cells #[.int .u32 0, .int .u64 0, .int .u8 0, .int .u32 0, .int .u16 0] 119) = w1 at *
    have hrd1 := hr.below HW.out.2.2
    have hsz1 : w.heap.size + 1 < w1.heap.size := HW.out.2.1.lt
    have ks : w1.cell? ⟨w.heap.size, 0, none⟩ = some (.int .u32 t) ∧ w1.cell? ⟨w.heap.size, 1, none⟩ = some (.int .u64 b) ∧ w1.cell? ⟨w.heap.size, 3, none⟩ = some (.slice Ad da.length cd) := ⟨HW.out.1.cell 0, HW.out.1.cell 1, HW.out.1.cell 3⟩
    have hb2 : Below w1.heap.size w1 (w1.alloc (.cells #[.slice Ad da.length cd] 35)) := (Below.refl _ _).alloc (Nat.le_refl _) _
    have ks1 : (w1.alloc (.cells #[.slice Ad da.length cd] 35)).cell? ⟨w.heap.size, 0, none⟩ = some (.int .u32 t) ∧ (w1.alloc (.cells #[.slice Ad da.length cd] 35)).cell? ⟨w.heap.size, 1, none⟩ = some (.int .u64 b) ∧ (w1.alloc (.cells #[.slice Ad da.length cd] 35)).cell? ⟨w.heap.size, 3, none⟩ = some (.slice Ad da.length cd) := ⟨below_keep hb2 ks.1, below_keep hb2 ks.2.1, below_keep hb2 ks.2.2⟩
    have ksd : w1.drew.cell? ⟨w.heap.size, 0, none⟩ = some (.int .u32 t) ∧ w1.drew.cell? ⟨w.heap.size, 1, none⟩ = some (.int .u64 b) ∧ w1.drew.cell? ⟨w.heap.size, 3, none⟩ = some (.slice Ad da.length cd) := ks
    have ks1d : (w1.alloc (.cells #[.slice Ad da.length cd] 35)).drew.cell? ⟨w.heap.size, 0, none⟩ = some (.int .u32 t) ∧ (w1.alloc (.cells #[.slice Ad da.length cd] 35)).drew.cell? ⟨w.heap.size, 1, none⟩ = some (.int .u64 b) ∧ (w1.alloc (.cells #[.slice Ad da.length cd] 35)).drew.cell? ⟨w.heap.size, 3, none⟩ = some (.slice Ad da.length cd) := ks1
    have hitem := (HW.out.2.1.below hb2 HW.out.2.1.lt).drew
    have HIT := Lib.hid hitem
    have HSUM := Lib.hid (sum_one (w1.alloc (.cells #[.slice Ad da.length cd] 35)).drew w1.heap.size Ad cd da.length da w.heap.size (Blk.new w1 _ _).drew (hrd1.alloc (Nat.le_of_lt (by omega)) _) hby (by omega))
    have HE1 := Lib.hid (ends_any w1.drew w.heap.size Ad cd da (hrd1.drew) hc (by omega) hby)
    have HE2 := Lib.hid (ends_any (w1.alloc (.cells #[.slice Ad da.length cd] 35)).drew w.heap.size Ad cd da (hrd1.alloc (Nat.le_of_lt (by omega)) _).drew hc (by omega) hby)
    have HW2 : Hid (Below w.heap.size w (w1.alloc (.cells #[.slice Ad da.length cd] 35)).drew) := (HW.out.2.2.trans (hb2.mono HW.out.2.2.size)).drew
    have hwr : IntKind.u16.wrap ((endsN da : Nat) : Int) = (endsN da : Nat) := by rw [IntKind.wrap_u16]; omega
    have HKS1 := Lib.hid ks1
    clear hitem hb2 hrd1 hby hr
    generalize endsN da = en at *
    generalize sumS 0 da = sm at *
    clear hp hl
    go_region_held3 (fun u => u.cell? ⟨w.heap.size, 0, none⟩ = some (.int .u32 t) ∧ u.cell? ⟨w.heap.size, 1, none⟩ = some (.int .u64 b) ∧ u.cell? ⟨w.heap.size, 3, none⟩ = some (.slice Ad da.length cd))
      (first | with_reducible exact ks | with_reducible exact ksd | with_reducible exact ks1 | with_reducible exact ks1d | with_reducible exact ks2 | with_reducible exact ks3)
      (first
        | (go_at_call 66
           with_reducible refine HSUM.out.mono ?_
           rintro e w2 ⟨rfl, hw2⟩
           have hx := HIT.out
           have ks2 : w2.cell? ⟨w.heap.size, 0, none⟩ = some (.int .u32 t) ∧ w2.cell? ⟨w.heap.size, 1, none⟩ = some (.int .u64 b) ∧ w2.cell? ⟨w.heap.size, 3, none⟩ = some (.slice Ad da.length cd) := by rw [← hw2]; exact HKS1.out
           have ks3 : (((((w2.setCell ⟨w.heap.size + 1, 0, none⟩ (.int .u32 t)).setCell ⟨w.heap.size + 1, 1, none⟩ (.int .u64 b)).setCell ⟨w.heap.size + 1, 2, none⟩ (.int .u8 1)).setCell ⟨w.heap.size + 1, 3, none⟩ (.int .u32 sm)).setCell ⟨w.heap.size + 1, 4, none⟩ (.int .u16 en)).cell? ⟨w.heap.size, 0, none⟩ = some (.int .u32 t) ∧
               (((((w2.setCell ⟨w.heap.size + 1, 0, none⟩ (.int .u32 t)).setCell ⟨w.heap.size + 1, 1, none⟩ (.int .u64 b)).setCell ⟨w.heap.size + 1, 2, none⟩ (.int .u8 1)).setCell ⟨w.heap.size + 1, 3, none⟩ (.int .u32 sm)).setCell ⟨w.heap.size + 1, 4, none⟩ (.int .u16 en)).cell? ⟨w.heap.size, 1, none⟩ = some (.int .u64 b) ∧
               (((((w2.setCell ⟨w.heap.size + 1, 0, none⟩ (.int .u32 t)).setCell ⟨w.heap.size + 1, 1, none⟩ (.int .u64 b)).setCell ⟨w.heap.size + 1, 2, none⟩ (.int .u8 1)).setCell ⟨w.heap.size + 1, 3, none⟩ (.int .u32 sm)).setCell ⟨w.heap.size + 1, 4, none⟩ (.int .u16 en)).cell? ⟨w.heap.size, 3, none⟩ = some (.slice Ad da.length cd) :=
             ⟨(cell_set5 (by simp)).trans ks2.1, (cell_set5 (by simp)).trans ks2.2.1, (cell_set5 (by simp)).trans ks2.2.2⟩
           have HE3 := HE2.out
           have HW3 := HW2.out
           rw [hw2] at hx HE3 HW3
           have HE3 := Lib.hid HE3
           have HW3 := Lib.hid HW3
           have HIT3 := Lib.hid hx
           have hf : ∀ i, w2.frozen? ⟨w.heap.size + 1, i, none⟩ = false := fun i => hx.frozen i
           have z0 : w2.cell? ⟨w.heap.size + 1, 0, none⟩ = some (.int .u32 0) := hx.cell 0
           have z1 : w2.cell? ⟨w.heap.size + 1, 1, none⟩ = some (.int .u64 0) := hx.cell 1
           have z2 : w2.cell? ⟨w.heap.size + 1, 2, none⟩ = some (.int .u8 0) := hx.cell 2
           have z3 : w2.cell? ⟨w.heap.size + 1, 3, none⟩ = some (.int .u32 0) := hx.cell 3
           have z4 : w2.cell? ⟨w.heap.size + 1, 4, none⟩ = some (.int .u16 0) := hx.cell 4
           clear hw2 hx)
        | (go_at_call 67
           with_reducible refine HE3.out.mono ?_
           rintro e w2 ⟨rfl, rfl⟩)
        | (go_at_call 67
           with_reducible refine HE1.out.mono ?_
           rintro e w2 ⟨rfl, rfl⟩)
        | (go_at_call 67
           with_reducible refine HE2.out.mono ?_
           rintro e w2 ⟨rfl, rfl⟩))
    all_goals
      have b5 := blk_set5 HIT3.out (.int .u32 t) (.int .u64 b) (.int .u8 1) (.int .u32 sm) (.int .u16 en)
      have k5 := kp_set5 (Kp.of_below (S := fun _ => False) HW3.out) (.inr (Nat.le_succ w.heap.size)) (.int .u32 t) (.int .u64 b) (.int .u8 1) (.int .u32 sm) (.int .u16 en)
      clear ks ksd ks1 ks1d ks2 ks3 hf z0 z1 z2 z3 z4 hsz1
      generalize World.setCell _ ⟨w.heap.size + 1, 4, none⟩ _ = w5 at *
      have d0 : w5.cell? ⟨w.heap.size + 1, 0, none⟩ = some (.int .u32 t) := b5.cell 0
      have d1 : w5.cell? ⟨w.heap.size + 1, 1, none⟩ = some (.int .u64 b) := b5.cell 1
      have d2 : w5.cell? ⟨w.heap.size + 1, 2, none⟩ = some (.int .u8 1) := b5.cell 2
      have d3 : w5.cell? ⟨w.heap.size + 1, 3, none⟩ = some (.int .u32 sm) := b5.cell 3
      have d4 : w5.cell? ⟨w.heap.size + 1, 4, none⟩ = some (.int .u16 en) := b5.cell 4
      have HK5 := Lib.hid k5
      clear b5 k5
      go_wp2
      refine bodyPost_ret (v := .agg #[.int .u32 t, .int .u64 b, .int .u8 1, .int .u32 sm, .int .u16 en]) (by simp [results, Tryd.results53, go_sem, d0, d1, d2, d3, d4]) rfl ?_
      exact ⟨by rw [HI.out]; rfl, kp_none HK5.out⟩
end Go.Proofs.YtgjcofoicnnnhaaDoor

