/- Places, in plain Lean: a list of places in which no block and no place comes twice; a block forgotten, a place freed, a block put. -/
import Derived.Test.YtcbbkemfgnbcpaaWd
namespace Go.Proofs.Ytcbbkemfgnbcpaa

structure Pl where
  t : Int
  b : Int
  z : Int
  k : Int
deriving DecidableEq
def Pl.n (p : Pl) : Int × Int := (p.t, p.b)
def Pl.a (p : Pl) : Int × Int := (p.z, p.k)
theorem Pl.ext_ {p q : Pl} (h1 : p.n = q.n) (h2 : p.a = q.a) : p = q := by
  cases p; cases q
  simp only [Pl.n, Pl.a, Prod.mk.injEq] at h1 h2
  obtain ⟨rfl, rfl⟩ := h1
  obtain ⟨rfl, rfl⟩ := h2
  rfl

def Uniq (L : List Pl) : Prop := L.Pairwise (fun p q => p.n ≠ q.n ∧ p.a ≠ q.a)
def atOf (L : List Pl) (n : Int × Int) : Option (Int × Int) := (L.find? (fun p => decide (p.n = n))).map Pl.a
def inAt (L : List Pl) (a : Int × Int) : Option (Int × Int) := (L.find? (fun p => decide (p.a = a))).map Pl.n
def cnt (L : List Pl) (t : Int) : Nat := L.countP (fun p => decide (p.t = t))
def cut (L : List Pl) (n : Int × Int) : List Pl := L.filter (fun p => !decide (p.n = n))
def free (L : List Pl) (a : Int × Int) : List Pl := L.filter (fun p => !decide (p.a = a))

section
variable {L : List Pl} {n m a : Int × Int} {p q : Pl}
theorem Uniq.filter (h : Uniq L) (f : Pl → Bool) : Uniq (L.filter f) := List.Pairwise.filter _ h
theorem Uniq.cut (h : Uniq L) (n) : Uniq (cut L n) := h.filter _
theorem Uniq.free (h : Uniq L) (n) : Uniq (free L n) := h.filter _
theorem Uniq.mem (h : Uniq L) (hp : p ∈ L) (hq : q ∈ L) (he : p.n = q.n ∨ p.a = q.a) : p = q := by
  induction L with
  | nil => cases hp
  | cons x r ih =>
    obtain ⟨h1, h2⟩ := List.pairwise_cons.1 h
    rcases List.mem_cons.1 hp with rfl | hp'
    · rcases List.mem_cons.1 hq with rfl | hq'
      · rfl
      · rcases he with he | he
        · exact absurd he (h1 q hq').1
        · exact absurd he (h1 q hq').2
    · rcases List.mem_cons.1 hq with rfl | hq'
      · rcases he with he | he
        · exact absurd he.symm (h1 p hp').1
        · exact absurd he.symm (h1 p hp').2
      · exact ih h2 hp' hq'
theorem Uniq.eqn (h : Uniq L) (hp : p ∈ L) (hq : q ∈ L) (he : p.n = q.n) : p = q := h.mem hp hq (.inl he)
theorem Uniq.eqa (h : Uniq L) (hp : p ∈ L) (hq : q ∈ L) (he : p.a = q.a) : p = q := h.mem hp hq (.inr he)

theorem atOf_some (h : Uniq L) : atOf L n = some a ↔ ∃ p ∈ L, p.n = n ∧ p.a = a := by
  unfold atOf
  constructor
  · intro e
    obtain ⟨p, hp, rfl⟩ := Option.map_eq_some_iff.1 e
    exact ⟨p, List.mem_of_find?_eq_some hp, by simpa using List.find?_some hp, rfl⟩
  · rintro ⟨p, hp, rfl, rfl⟩
    obtain ⟨q, hq⟩ := Option.isSome_iff_exists.1 (List.find?_isSome.2 ⟨p, hp, decide_eq_true rfl⟩ : (L.find? (fun x => decide (x.n = p.n))).isSome = true)
    rw [hq, Option.map_some, h.eqn (List.mem_of_find?_eq_some hq) hp (by simpa using List.find?_some hq)]
theorem atOf_none : atOf L n = none ↔ ∀ p ∈ L, p.n ≠ n := by
  unfold atOf
  rw [Option.map_eq_none_iff, List.find?_eq_none]
  exact ⟨fun h p hp e => h p hp (decide_eq_true e), fun h p hp e => h p hp (of_decide_eq_true e)⟩
theorem inAt_some (h : Uniq L) : inAt L a = some n ↔ ∃ p ∈ L, p.n = n ∧ p.a = a := by
  unfold inAt
  constructor
  · intro e
    obtain ⟨p, hp, rfl⟩ := Option.map_eq_some_iff.1 e
    exact ⟨p, List.mem_of_find?_eq_some hp, rfl, by simpa using List.find?_some hp⟩
  · rintro ⟨p, hp, rfl, rfl⟩
    obtain ⟨q, hq⟩ := Option.isSome_iff_exists.1 (List.find?_isSome.2 ⟨p, hp, decide_eq_true rfl⟩ : (L.find? (fun x => decide (x.a = p.a))).isSome = true)
    rw [hq, Option.map_some, h.eqa (List.mem_of_find?_eq_some hq) hp (by simpa using List.find?_some hq)]
theorem inAt_none : inAt L a = none ↔ ∀ p ∈ L, p.a ≠ a := by
  unfold inAt
  rw [Option.map_eq_none_iff, List.find?_eq_none]
  exact ⟨fun h p hp e => h p hp (decide_eq_true e), fun h p hp e => h p hp (of_decide_eq_true e)⟩
theorem inAt_of_atOf (h : Uniq L) (e : atOf L n = some a) : inAt L a = some n := (inAt_some h).2 ((atOf_some h).1 e)
theorem atOf_of_inAt (h : Uniq L) (e : inAt L a = some n) : atOf L n = some a := (atOf_some h).2 ((inAt_some h).1 e)

theorem mem_cut : p ∈ cut L n ↔ p ∈ L ∧ p.n ≠ n := by simp [cut]
theorem mem_free : p ∈ free L a ↔ p ∈ L ∧ p.a ≠ a := by simp [free]

theorem opt_ext {α : Type} {x y : Option α} (h : ∀ a, x = some a ↔ y = some a) : x = y := by
  cases x with
  | none =>
    cases y with
    | none => rfl
    | some b => exact absurd ((h b).2 rfl) (by simp)
  | some b => exact ((h b).1 rfl).symm

theorem atOf_cut_same : atOf (cut L n) n = none := atOf_none.2 fun _ hp => (mem_cut.1 hp).2
theorem atOf_cut_other (h : Uniq L) (hne : m ≠ n) : atOf (cut L n) m = atOf L m := opt_ext fun a => by
  rw [atOf_some (h.cut n), atOf_some h]
  exact ⟨fun ⟨p, hp, e⟩ => ⟨p, (mem_cut.1 hp).1, e⟩, fun ⟨p, hp, e1, e2⟩ => ⟨p, mem_cut.2 ⟨hp, by rw [e1]; exact hne⟩, e1, e2⟩⟩
theorem cut_none (e : atOf L n = none) : cut L n = L := List.filter_eq_self.2 fun p hp => by simpa using atOf_none.1 e p hp
theorem free_none (e : inAt L a = none) : free L a = L := List.filter_eq_self.2 fun p hp => by simpa using inAt_none.1 e p hp
theorem free_some (h : Uniq L) (e : inAt L a = some n) : free L a = cut L n := by
  obtain ⟨q, hq, q1, q2⟩ := (inAt_some h).1 e
  refine List.filter_congr fun p hp => ?_
  congr 1
  rw [decide_eq_decide]
  exact ⟨fun hpa => by rw [h.eqa hp hq (hpa.trans q2.symm)]; exact q1, fun hpn => by rw [h.eqn hp hq (hpn.trans q1.symm)]; exact q2⟩
theorem inAt_cut_same (h : Uniq L) (e : atOf L n = some a) : inAt (cut L n) a = none := inAt_none.2 fun _ hp hpa => by
  obtain ⟨q, hq, q1, q2⟩ := (atOf_some h).1 e
  obtain ⟨hp1, hp2⟩ := mem_cut.1 hp
  exact hp2 (by rw [h.eqa hp1 hq (hpa.trans q2.symm)]; exact q1)
theorem inAt_cut_other (h : Uniq L) (e : atOf L n = some a) {c : Int × Int} (hne : c ≠ a) : inAt (cut L n) c = inAt L c := opt_ext fun m => by
  rw [inAt_some (h.cut n), inAt_some h]
  refine ⟨fun ⟨p, hp, e⟩ => ⟨p, (mem_cut.1 hp).1, e⟩, fun ⟨p, hp, e1, e2⟩ => ⟨p, mem_cut.2 ⟨hp, fun hpn => hne ?_⟩, e1, e2⟩⟩
  obtain ⟨q, hq, q1, q2⟩ := (atOf_some h).1 e
  rw [← e2, h.eqn hp hq (hpn.trans q1.symm), q2]

theorem cnt_cut (h : Uniq L) (e : atOf L n = some a) (t : Int) : cnt (cut L n) t + (if t = n.1 then 1 else 0) = cnt L t := by
  obtain ⟨q, hq, q1, q2⟩ := (atOf_some h).1 e
  clear e q2
  induction L with
  | nil => cases hq
  | cons x r ih =>
    obtain ⟨h1, h2⟩ := List.pairwise_cons.1 h
    by_cases hx : x.n = n
    · have hr : cut r n = r := List.filter_eq_self.2 fun p hp => by
        have := (h1 p hp).1
        rw [hx] at this
        simpa using fun e => this e.symm
      have e1 : cut (x :: r) n = r := by
        unfold cut at hr ⊢
        rw [List.filter_cons_of_neg (by simp [hx]), hr]
      have hxt : x.t = n.1 := by rw [← hx]; rfl
      rw [e1]
      unfold cnt
      rw [List.countP_cons]
      by_cases ht : t = n.1
      · subst ht; simp [hxt]
      · simp [ht, hxt]; intro e; exact absurd e.symm ht
    · have hq' : q ∈ r := by
        rcases List.mem_cons.1 hq with rfl | hq
        · exact absurd q1 hx
        · exact hq
      have := ih h2 hq'
      have e1 : cut (x :: r) n = x :: cut r n := by
        unfold cut
        rw [List.filter_cons_of_pos (by simp [hx])]
      rw [e1]
      unfold cnt at this ⊢
      rw [List.countP_cons, List.countP_cons]
      omega
theorem cnt_le (L : List Pl) (t : Int) : cnt L t ≤ L.length := List.countP_le_length
theorem cut_length (L : List Pl) (n) : (cut L n).length ≤ L.length := List.length_filter_le _ _
theorem free_length (L : List Pl) (n) : (free L n).length ≤ L.length := List.length_filter_le _ _

/-- What may be put ahead: nothing of that name, nothing at that place. -/
theorem Uniq.cons (h : Uniq L) (h1 : atOf L p.n = none) (h2 : inAt L p.a = none) : Uniq (p :: L) :=
  List.pairwise_cons.2 ⟨fun q hq => ⟨fun e => atOf_none.1 h1 q hq e.symm, fun e => inAt_none.1 h2 q hq e.symm⟩, h⟩
theorem atOf_cons : atOf (p :: L) n = if n = p.n then some p.a else atOf L n := by
  unfold atOf
  rw [List.find?_cons]
  by_cases h : n = p.n
  · simp [h]
  · have h' : ¬ p.n = n := fun e => h e.symm
    rw [if_neg h, decide_eq_false h']
theorem inAt_cons : inAt (p :: L) a = if a = p.a then some p.n else inAt L a := by
  unfold inAt
  rw [List.find?_cons]
  by_cases h : a = p.a
  · simp [h]
  · have h' : ¬ p.a = a := fun e => h e.symm
    rw [if_neg h, decide_eq_false h']
theorem cnt_cons {t : Int} : cnt (p :: L) t = cnt L t + (if t = p.t then 1 else 0) := by
  unfold cnt
  rw [List.countP_cons]
  by_cases h : t = p.t
  · simp [h]
  · simp [h]; exact fun e => h e.symm

/-- Only who is in it matters. -/
theorem Uniq.perm {M : List Pl} (h : Uniq L) (hp : L.Perm M) : Uniq M := (hp.pairwise_iff (fun hab => ⟨Ne.symm hab.1, Ne.symm hab.2⟩)).1 h
theorem atOf_perm {M : List Pl} (h : Uniq L) (hp : L.Perm M) : atOf L = atOf M := funext fun n => opt_ext fun a => by
  rw [atOf_some h, atOf_some (h.perm hp)]
  exact ⟨fun ⟨p, hp', e⟩ => ⟨p, hp.mem_iff.1 hp', e⟩, fun ⟨p, hp', e⟩ => ⟨p, hp.mem_iff.2 hp', e⟩⟩
theorem inAt_perm {M : List Pl} (h : Uniq L) (hp : L.Perm M) : inAt L = inAt M := funext fun n => opt_ext fun a => by
  rw [inAt_some h, inAt_some (h.perm hp)]
  exact ⟨fun ⟨p, hp', e⟩ => ⟨p, hp.mem_iff.1 hp', e⟩, fun ⟨p, hp', e⟩ => ⟨p, hp.mem_iff.2 hp', e⟩⟩
theorem cnt_perm {M : List Pl} (hp : L.Perm M) : cnt L = cnt M := funext fun _ => hp.countP_eq _
end
end Go.Proofs.Ytcbbkemfgnbcpaa
