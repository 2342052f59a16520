/- Two stores in one memory; a piece of a row of puts; how many blocks there are is told by what is there. -/
import Derived.Test.YtgjcofoicnnnhaaDoorCSl13
namespace Go.Proofs.YtgjcofoicnnnhaaDoor
open Go.RowKit
set_option maxRecDepth 20000

theorem StoreIs.far2 {X X' S : Nat → Prop} {w w' : World} {F : StF} {sh : Sh} {n : Nat} {m : StM} (h : StoreIs X w F sh n m) (hk : Kp S w w') (hs : ∀ b, S b → X b) (hx : ∀ b, X' b → b < w'.heap.size ∧ (X b ∨ w.heap.size ≤ b)) : StoreIs X' w' F sh n m := by
  have nt : ∀ i, F.own i → ¬ S i := fun i hi hs' => h.nx i hi (hs i hs')
  exact ⟨hk.blk h.top (nt _ (.inl rfl)), h.dev.move (fun b hlt hn => hk.block b hlt (fun hS => hn (.inl (hs b hS)))) (fun b hx'' => by
      rcases hx'' with hx' | ho
      · rcases hx b hx' with ⟨h1, h2 | h2⟩
        · exact ⟨h1, .inl (.inl h2)⟩
        · exact ⟨h1, .inr h2⟩
      · exact ⟨Nat.lt_of_lt_of_le (h.own_lt ho) hk.size, .inl (.inr ho)⟩), ⟨h.seg.1.kp hk (nt _ (.inr (.inl rfl))) (nt _ (.inr (.inr (.inl rfl)))), h.seg.2⟩,
    h.lm.kp hk (fun i hi => nt i (.inr (.inr (.inr (.inl hi))))), h.last.kp hk (nt _ (.inr (.inr (.inr (.inr rfl))))), h.ne, fun i hi hx' => by
      rcases (hx i hx').2 with h2 | h2
      · exact h.nx i hi h2
      · have := h.own_lt hi; omega, h.sq, h.nn, h.opr⟩

/-- What is not one's own. -/
def Out (w : World) (Y : Nat → Prop) (b : Nat) : Prop := b < w.heap.size ∧ ¬ Y b
def More (w wn : World) (Y : Nat → Prop) (b : Nat) : Prop := Y b ∨ (w.heap.size ≤ b ∧ b < wn.heap.size)
structure TwoS (Ya Yb : Nat → Prop) (w wr : World) (Fa Fb : StF) (sh : Sh) (na nb : Nat) (ma mb : StM) (A : Option Addr) (L : List Pv) : Prop where
  sa : StoreIs (Out wr Ya) wr Fa sh na ma
  sb : StoreIs (Out wr Yb) wr Fb sh nb mb
  dis : ∀ b, Ya b → ¬ Yb b
  la : ∀ b, Ya b → b < wr.heap.size
  lb : ∀ b, Yb b → b < wr.heap.size
  pa : PutsAt (fun b => b < wr.heap.size ∧ ¬ Ya b ∧ ¬ Yb b) wr A L
  low : Below w.heap.size w wr
  old : ∀ b, b < w.heap.size → ¬ Ya b ∧ ¬ Yb b
section
variable {Ya Yb : Nat → Prop} {w wr wn : World} {Fa Fb : StF} {sh : Sh} {na nb n' : Nat} {ma mb m' : StM} {A : Option Addr} {L : List Pv}
theorem TwoS.below (h : TwoS Ya Yb w wr Fa Fb sh na nb ma mb A L) (hb : Below wr.heap.size wr wn) : TwoS Ya Yb w wn Fa Fb sh na nb ma mb A L := by
  have hx : ∀ Y : Nat → Prop, ∀ b, Out wn Y b → b < wn.heap.size ∧ (Out wr Y b ∨ wr.heap.size ≤ b) := fun Y b hb' => ⟨hb'.1, by
    rcases Nat.lt_or_ge b wr.heap.size with h1 | h1
    · exact .inl ⟨h1, hb'.2⟩
    · exact .inr h1⟩
  exact ⟨h.sa.step hb (hx Ya), h.sb.step hb (hx Yb), h.dis, fun b hb' => Nat.lt_of_lt_of_le (h.la b hb') hb.size, fun b hb' => Nat.lt_of_lt_of_le (h.lb b hb') hb.size,
    (h.pa.below hb).more (fun b hb' => ⟨Nat.lt_of_lt_of_le hb'.1 hb.size, hb'.2⟩), h.low.trans (hb.mono h.low.size), h.old⟩
theorem TwoS.drew (h : TwoS Ya Yb w wr Fa Fb sh na nb ma mb A L) : TwoS Ya Yb w wr.drew Fa Fb sh na nb ma mb A L := h.below (Below.refl _ _).drew
theorem TwoS.swap (h : TwoS Ya Yb w wr Fa Fb sh na nb ma mb A L) : TwoS Yb Ya w wr Fb Fa sh nb na mb ma A L :=
  ⟨h.sb, h.sa, fun b h1 h2 => h.dis b h2 h1, h.lb, h.la, h.pa.more (fun b hb => ⟨hb.1, hb.2.2, hb.2.1⟩), h.low, fun b hb => ⟨(h.old b hb).2, (h.old b hb).1⟩⟩
/-- The first one has turned. -/
theorem TwoS.onA (h : TwoS Ya Yb w wr Fa Fb sh na nb ma mb A L) (hk : Kp (fun b => ¬ Out wr Ya b) wr wn) (hs : StoreIs (Out wr Ya) wn Fa sh n' m') : TwoS (More wr wn Ya) Yb w wn Fa Fb sh n' nb m' mb A L := by
  have hk' : Kp Ya wr wn := hk.mono fun b hb hn => Classical.byContradiction fun hy => hn ⟨hb, hy⟩
  refine ⟨hs.less (fun b hb => ⟨?_, fun hy => hb.2 (.inl hy)⟩), h.sb.far2 hk' (fun b hy => ⟨h.la b hy, h.dis b hy⟩) (fun b hb => ⟨hb.1, ?_⟩), fun b hb hb2 => ?_, fun b hb => ?_, fun b hb => Nat.lt_of_lt_of_le (h.lb b hb) hk.size, ?_, Kp.below h.low hk' h.low.size (fun b hb => (h.old b hb).1), fun b hb => ⟨fun hy => ?_, (h.old b hb).2⟩⟩
  · rcases Nat.lt_or_ge b wr.heap.size with h1 | h1
    · exact h1
    · exact (hb.2 (.inr ⟨h1, hb.1⟩)).elim
  · rcases Nat.lt_or_ge b wr.heap.size with h1 | h1
    · exact .inl ⟨h1, hb.2⟩
    · exact .inr h1
  · rcases hb with hy | hy
    · exact h.dis b hy hb2
    · have := h.lb b hb2; omega
  · rcases hb with hy | hy
    · exact Nat.lt_of_lt_of_le (h.la b hy) hk.size
    · exact hy.2
  · have hp := (h.pa.kp hk' (fun b hy hx => hx.2.1 hy)).more (X' := fun b => b < wr.heap.size ∧ b < wn.heap.size ∧ ¬ Ya b ∧ ¬ Yb b) (fun b hb => ⟨hb.1, Nat.lt_of_lt_of_le hb.1 hk.size, hb.2⟩)
    exact hp.more (fun b hb => ⟨hb.2.1, fun hy => by
      rcases hy with hy | hy
      · exact hb.2.2.1 hy
      · omega, hb.2.2.2⟩)
  · rcases hy with hy | hy
    · exact (h.old b hb).1 hy
    · have := h.low.size; omega
theorem TwoS.onB (h : TwoS Ya Yb w wr Fa Fb sh na nb ma mb A L) (hk : Kp (fun b => ¬ Out wr Yb b) wr wn) (hs : StoreIs (Out wr Yb) wn Fb sh n' m') : TwoS Ya (More wr wn Yb) w wn Fa Fb sh na n' ma m' A L := (h.swap.onA hk hs).swap
theorem TwoS.putsA (h : TwoS Ya Yb w wr Fa Fb sh na nb ma mb A L) : PutsAt (Out wr Ya) wr A L := h.pa.more (fun b hb => ⟨hb.1, hb.2.1⟩)
theorem TwoS.putsB (h : TwoS Ya Yb w wr Fa Fb sh na nb ma mb A L) : PutsAt (Out wr Yb) wr A L := h.pa.more (fun b hb => ⟨hb.1, hb.2.2⟩)
theorem TwoS.two {ad : Addr} (h : TwoS Ya Yb w wr Fa Fb sh na nb ma mb (some ad) L) {k : Nat} (hk : k < L.length) {p : Pv} (hp : L.getD k pv0 = p) :
    wr.cell? (ad.add (k * 4)) = some (.int .u32 p.t) ∧ wr.cell? ⟨(ad.add (k * 4)).block, (ad.add (k * 4)).off + 1, none⟩ = some (.int .u64 p.b) := by
  obtain ⟨ad', Ad, cd, e, hat⟩ := h.pa k hk
  obtain rfl := Option.some.inj e
  rw [hp] at hat
  exact ⟨hat.c0, hat.c1⟩
end

theorem run_mid_put (A : Option Addr) (n c i : Nat) (h : i + 1 ≤ c) (u : World) :
    (Instr.slice 24 (.slice A n c) (some (.int .i64 (i : Int))) (some (.int .i64 ((i : Int) + 1))) none).run Tryd.prog u = .ok (.slice (if c = i then A else A.map (·.add (i * 4))) 1 (c - i)) u := by
  rw [run_slice_lh u _ A n c elem_put .i64 .i64 (i : Int) ((i : Int) + 1) (by omega) (by omega) (by omega), size_put]
  have e : ((i : Int) + 1).toNat - i = 1 := by omega
  simp only [Result.andThen, sliced, Int.toNat_natCast, e]
theorem PutsAt.one {X : Nat → Prop} {w : World} {A : Option Addr} {l : List Pv} (h : PutsAt X w A l) (i c : Nat) (hi : i < l.length) (hc : l.length ≤ c) : PutsAt X w (if c = i then A else A.map (·.add (i * 4))) [l.getD i pv0] := fun j hj => by
  obtain rfl : j = 0 := by simp at hj; omega
  obtain ⟨ad, Ad, cd, e, hp⟩ := h i hi
  subst e
  refine ⟨ad.add (i * 4), Ad, cd, by rw [if_neg (by omega), Option.map_some], ?_⟩
  rw [add_of_add]
  exact hp

/-- How many blocks a tenant has is told by what is there. -/
theorem names_of (m : StM) (sh : Sh) (h : Good sh m) (n : Int × Int) : n ∈ m.L.map Pl.n ↔ dataM m n ≠ none := by
  constructor
  · intro hn he
    obtain ⟨p, hp, rfl⟩ := List.mem_map.1 hn
    have := (atOf_some h.uq (n := p.n) (a := p.a)).2 ⟨p, hp, rfl, rfl⟩
    unfold dataM at he
    rw [this] at he
    cases he
  · intro hd
    unfold dataM at hd
    cases ha : atOf m.L n with
    | none => rw [ha] at hd; exact absurd rfl hd
    | some a =>
      obtain ⟨p, hp, rfl, _⟩ := (atOf_some h.uq).1 ha
      exact List.mem_map.2 ⟨p, hp, rfl⟩
theorem cnt_names (L : List Pl) (t : Int) : cnt L t = (L.map Pl.n).countP (fun n => decide (n.1 = t)) := by
  unfold cnt
  rw [List.countP_map]
  rfl
theorem names_nodup {L : List Pl} (h : Uniq L) : (L.map Pl.n).Nodup := by
  unfold List.Nodup
  rw [List.pairwise_map]
  exact List.Pairwise.imp (fun h => h.1) h
theorem cnt_same {sh : Sh} {ma mb : StM} (ha : Good sh ma) (hb : Good sh mb) (hd : dataM ma = dataM mb) (t : Int) : cnt ma.L t = cnt mb.L t := by
  rw [cnt_names, cnt_names]
  have hp : (ma.L.map Pl.n).Perm (mb.L.map Pl.n) := (List.perm_ext_iff_of_nodup (names_nodup ha.uq) (names_nodup hb.uq)).2 (fun n => by rw [names_of ma sh ha, names_of mb sh hb, hd])
  exact hp.countP_eq _
theorem lcount_same (w : World) (f : LFp) (n : Nat) (L : List Pl) (t : Int) (ht : U32Ok t) (h : LM w f n L) : Calls Tryd.prog 17 #[.pointer (some ⟨f.g, 0, none⟩), .int .u32 t] w (fun e w' => e = .returned (.int .u64 (cnt L t)) ∧ w' = w) := by
  obtain ⟨Cn, hc, hcn⟩ := h.counts
  have hl : (Instr.lookup 82 (.map (some f.b3)) (.int .u32 t) false).run Tryd.prog w = .ok (.int .u64 (cnt L t)) w := by
    have := hc.look (t := 82) (e := 34) Tryd.underlying82 (z := .int .u64 0) (by kernel_rfl) (a := t) ht false
    refine this.trans ?_
    rw [← hcn]
    cases Cn t <;> rfl
  have h2 : w.cell? ⟨f.g, 2, none⟩ = some (.map (some f.b3)) := h.blk.cell 2
  clear hc hcn h
  go_enter Tryd.func17, Tryd.ntmps17
  go_wp2
  go_ret
  exact ⟨rfl, rfl⟩
/-- A list that is put one by one. -/
theorem putM_one {sh : Sh} (hok : sh.ok) {m : StM} {L : List Pv} {k : Nat} (hk : k < L.length) (h : Good sh m) (hd : dataM m = (L.take k).foldl updD (fun _ => none)) (h0 : (putM sh m [L.getD k pv0]).1 = 0) : dataM (putM sh m [L.getD k pv0]).2 = (L.take (k + 1)).foldl updD (fun _ => none) := by
  cases ha : argOk sh [L.getD k pv0] with
  | false => rw [putM_arg ha] at h0; cases h0
  | true =>
    obtain ⟨_, _, _, _, f5⟩ := putM_facts hok h ha
    have hg : L.getD k pv0 = L[k] := by rw [List.getD_eq_getElem?_getD, List.getElem?_eq_getElem hk]; rfl
    rw [(f5 h0).1, hd, List.take_succ_eq_append_getElem hk, List.foldl_append, hg]
end Go.Proofs.YtgjcofoicnnnhaaDoor
