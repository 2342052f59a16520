/- Joined texts: Wd Ls. -/
import Derived.Below
import Derived.Laws.OwnMore
import Derived.Laws.Rows
import Derived.Deep.AppendLies
import Derived.Deep.Draws
import Derived.Maps.AppendAt
import Derived.RegionTactic
import Derived.OwnWalk
import Derived.Deep.Slices
/- Pruned. -/
namespace Go.Proofs.YtfabgbmbnmbjkaaGreatDoor
open Go.RowKit
theorem block_of_add (a : Addr) (n : Nat) : (a.add n).block = a.block := by unfold Addr.add; split <;> rfl
theorem add_of_add (a : Addr) (i j : Nat) : (a.add i).add j = a.add (i + j) := by
 unfold Addr.add
 by_cases hi : i = 0 <;> by_cases hj : j = 0 <;> simp [hi, hj, Nat.add_assoc]
def Reads (w : World) (B size : Nat) (A : Option Addr) (n : Nat) (xs : List Value) : Prop :=
 xs.length = n * size ∧ (0 < n -> ∃ ad, A = some ad ∧ ad.block < B ∧ ∀ j u, xs[j]? = some u -> w.cell? (ad.add j) = some u)
section
variable {w w' : World} {B B' size n : Nat} {A : Option Addr} {xs : List Value}
theorem Reads.none_ : Reads w B size A 0 [] := ⟨by simp, fun h => absurd h (by omega)⟩
theorem Reads.at_ {k : Nat} (h : Reads w B 1 A n xs) (hk : k < n) : ∃ ad u, A = some ad ∧ ad.block < B ∧ xs[k]? = some u ∧ w.cell? (ad.add k) = some u := by
 obtain ⟨ad, e, hb, hc⟩ := h.2 (by omega)
 have hl : k < xs.length := by have := h.1; omega
 exact ⟨ad, xs[k], e, hb, List.getElem?_eq_getElem hl, hc k _ (List.getElem?_eq_getElem hl)⟩
theorem Reads.keep (h : Reads w B size A n xs) (hk : ∀ p : Addr, p.block < B -> w'.cell? p = w.cell? p) : Reads w' B size A n xs :=
 ⟨h.1, fun hn => by
  obtain ⟨ad, e, hb, hc⟩ := h.2 hn
  exact ⟨ad, e, hb, fun j u hu => (hk _ (by rw [block_of_add]; exact hb)).trans (hc j u hu)⟩⟩
theorem Reads.more (h : Reads w B size A n xs) (hB : B <= B') : Reads w B' size A n xs :=
 ⟨h.1, fun hn => by
  obtain ⟨ad, e, hb, hc⟩ := h.2 hn
  exact ⟨ad, e, by omega, hc⟩⟩
theorem Reads.below (h : Reads w B size A n xs) (hb : Below B w w') : Reads w' B size A n xs := h.keep fun _ hp => hb.cell hp
theorem Reads.drew (h : Reads w B size A n xs) : Reads w.drew B size A n xs := h
theorem Reads.drewN (h : Reads w B size A n xs) (k : Nat) : Reads (w.drewN k) B size A n xs := h
theorem Reads.alloc (h : Reads w B size A n xs) (hB : B <= w.heap.size) (o : Obj) : Reads (w.alloc o) B size A n xs := h.keep fun p hp => World.cell?_alloc_lt w o p (by omega)
theorem Reads.cut (h : Reads w B size A n xs) {k cap : Nat} (hk : k <= n) (hc : n <= cap) :
    Reads w B size (if cap = k then A else A.map (·.add (k * size))) (n - k) (xs.drop (k * size)) := by
 refine ⟨by rw [List.length_drop, h.1, Nat.sub_mul], fun hn => ?_⟩
 obtain ⟨ad, rfl, hb, hcell⟩ := h.2 (by omega)
 rw [if_neg (by omega)]
 refine ⟨ad.add (k * size), rfl, by rw [block_of_add]; exact hb, fun j u hu => ?_⟩
 rw [add_of_add]
 exact hcell _ u (by rw [<- hu, List.getElem?_drop])
theorem Reads.of_own {base : Nat} {e : TypeId} {c : Nat} (h : w.ownsRow base e size (.slice A n c) n xs) : Reads w w.heap.size size A n xs := by
 refine ⟨h.1, fun hn => ?_⟩
 obtain ⟨g, cap, hv, _, hlt⟩ := h.form hn
 have hA : A = some ⟨g, 0, none⟩ := by injection hv
 subst hA
 exact ⟨_, rfl, hlt, h.cells (g := g) rfl⟩
end
def Blk (w : World) (g : Nat) (t : TypeId) (cs : Array Value) : Prop := w.heap[g]? = some (.cells cs t (0, 0))
section
variable {w w' : World} {g : Nat} {t : TypeId} {cs : Array Value}
theorem Blk.lt (h : Blk w g t cs) : g < w.heap.size := by
 rcases Nat.lt_or_ge g w.heap.size with hlt | hge
 · exact hlt
 · unfold Blk at h; rw [Array.getElem?_eq_none hge] at h; cases h
theorem Blk.cell (h : Blk w g t cs) (i : Nat) : w.cell? ⟨g, i, none⟩ = cs[i]? := cell_of_row w g i cs t (0, 0) h
theorem Blk.frozen (h : Blk w g t cs) (i : Nat) : w.frozen? ⟨g, i, none⟩ = false := by
 unfold Blk at h
 simp [World.frozen?, h]
theorem Blk.new (w : World) (t : TypeId) (cs : Array Value) : Blk (w.alloc (.cells cs t)) w.heap.size t cs := heap_alloc_new w _
theorem Blk.drew (h : Blk w g t cs) : Blk w.drew g t cs := h
theorem Blk.drewN (h : Blk w g t cs) (n : Nat) : Blk (w.drewN n) g t cs := h
theorem Blk.alloc (h : Blk w g t cs) (o : Obj) : Blk (w.alloc o) g t cs := (Below.heap_alloc w o g h.lt).trans h
theorem Blk.set_ (h : Blk w g t cs) (i : Nat) (u : Value) : Blk (w.setCell ⟨g, i, none⟩ u) g t (cs.setIfInBounds i u) := by
 unfold Blk at h ⊢
 simp [World.setCell, Array.getElem?_modify, h]
theorem Blk.far (h : Blk w g t cs) {p : Addr} (hp : g ≠ p.block) (u : Value) : Blk (w.setCell p u) g t cs := (Below.heap_setCell w p u g hp).trans h
theorem Blk.below {B : Nat} (h : Blk w g t cs) (hb : Below B w w') (hg : g < B) : Blk w' g t cs := (hb.block g hg).trans h
theorem Blk.grown {row : Option Nat} (h : Blk w g t cs) (hb : w.grownBy w' row) (hg : some g ≠ row) : Blk w' g t cs := (hb.block g h.lt hg).trans h
theorem Blk.ne_ {g' : Nat} {t' : TypeId} {cs' : Array Value} (h : Blk w g t cs) (h' : Blk w g' t' cs') (hne : t ≠ t') : g ≠ g' := by
 rintro rfl
 unfold Blk at h h'
 rw [h] at h'
 injection h' with h'
 injection h' with _ ht
 exact hne ht
theorem own_blk_ne {base : Nat} {e : TypeId} {size n : Nat} {v : Value} {xs : List Value} (h : w.ownsRow base e size v n xs) (hg : Blk w g t cs) (hne : e ≠ t) : v.ownBlock ≠ some g := by
 rcases h.2 with ⟨rfl, _⟩ | ⟨g', cap, cur, rfl, _, hh, _⟩
 · simp [Value.ownBlock]
 · intro he
   have : g' = g := by simpa [Value.ownBlock] using he
   subst this
   exact Blk.ne_ (t := e) hh hg hne rfl
end
section
variable {P : Program} (w : World)
theorem run_append_of_nil (base : Nat) (t ty e : TypeId) (i : TypeInfo) (size : Nat) (ht : P.underlying t = some (.slice e)) (hi : P.info? e = some i)
    (v : Value) (n : Nat) (xs : List Value) (hown : w.ownsRow base e size v n xs) (c : Nat) : (Builtin.append_ #[t, t] ty #[v, .slice none 0 c]).run P w = .ok v w := by
 rcases hown.2 with ⟨rfl, rfl⟩ | ⟨g, cap, cur, rfl, _, _, hnc, _⟩
 · simp [Builtin.append_, run_underlying ht, sizeOf, typeInfo, hi, Builtin.lenOf, Builtin.firstCells]
 · simp [Builtin.append_, run_underlying ht, sizeOf, typeInfo, hi, Builtin.lenOf, Builtin.firstCells, hnc, storeCells]
theorem run_append_any (base : Nat) (t ty e : TypeId) (i : TypeInfo) (z : Value) (size bytes : Nat) (ht : P.underlying t = some (.slice e)) (hi : P.info? e = some i) (hz : i.zero = some z)
    (hsize : i.size = size) (hby : i.bytes = bytes) (hzs : z.cells.size = size) (hsz : 0 < size)
    (v : Value) (n : Nat) (xs : List Value) (hown : w.ownsRow base e size v n xs)
    (B : Nat) (A : Option Addr) (m c : Nat) (news : List Value) (hr : Reads w B size A m news) (h1 : ∀ u ∈ news, u.oneCell' = true)
    (h63 : n + m <= maxLen) (hbytes : (n + m) * bytes <= 140737488355328) (hbase : base <= w.heap.size) :
    ∃ v' w', (Builtin.append_ #[t, t] ty #[v, .slice A m c]).run P w = .ok v' w' ∧ w'.ownsRow base e size v' (n + m) (xs ++ news) ∧ w.grownBy w' v.ownBlock ∧
      (v'.ownBlock = v.ownBlock ∨ v'.ownBlock = some w.heap.size) := by
 rcases A with _ | ad
 · have hm : m = 0 := by
    rcases Nat.eq_zero_or_pos m with h0 | h0
    · exact h0
    · obtain ⟨ad, h, _⟩ := hr.2 h0
      cases h
   subst hm
   have hn : news = [] := List.eq_nil_of_length_eq_zero (by simpa using hr.1)
   subst hn
   exact ⟨v, w, run_append_of_nil w base t ty e i size ht hi v n xs hown c, by simpa using hown, World.grownBy.refl w _, .inl rfl⟩
 · have hcells : ∀ j u, news[j]? = some u -> w.cell? (ad.add j) = some u := by
    intro j u hu
    rcases Nat.eq_zero_or_pos m with h0 | h0
    · subst h0
      have hn : news = [] := List.eq_nil_of_length_eq_zero (by simpa using hr.1)
      subst hn
      simp at hu
    · obtain ⟨ad', h, _, hc⟩ := hr.2 h0
      injection h with h
      subst h
      exact hc j u hu
   obtain ⟨v', w', hrun, h2, h3, _, h5⟩ := run_append_own_at (P := P) w base t ty e i z size bytes ht hi hz hsize hby hzs hsz v n xs hown ad m c news hr.1 hcells h1 h63 hbytes hbase
   exact ⟨v', w', hrun, h2, h3, h5⟩
theorem wp_append_any {o : Oper} {a : Act} {K : Act -> World -> Prop} {Q : Exit -> Act -> World -> Prop} (s x : Operand) (t : TypeId)
    (ho : o.op = .call { callee := .builtin .append, args := #[s, x], argTypes := #[t, t] })
    (base : Nat) (e : TypeId) (i : TypeInfo) (z : Value) (size bytes : Nat) (ht : P.underlying t = some (.slice e)) (hi : P.info? e = some i) (hz : i.zero = some z)
    (hsize : i.size = size) (hby : i.bytes = bytes) (hzs : z.cells.size = size) (hsz : 0 < size)
    (v : Value) (n : Nat) (xs : List Value) (hs : a.eval s = v) (hown : w.ownsRow base e size v n xs)
    (B : Nat) (A : Option Addr) (m c : Nat) (news : List Value) (hx : a.eval x = .slice A m c) (hr : Reads w B size A m news) (h1 : ∀ u ∈ news, u.oneCell' = true)
    (h63 : n + m <= maxLen) (hbytes : (n + m) * bytes <= 140737488355328) (hbase : base <= w.heap.size)
    (h : ∀ v' w', w'.ownsRow base e size v' (n + m) (xs ++ news) -> w.grownBy w' v.ownBlock -> (v'.ownBlock = v.ownBlock ∨ v'.ownBlock = some w.heap.size) -> K (a.put o.dst v') w') : o.wp P a w K Q := by
 obtain ⟨v', w', hrun, h2, h3, h4⟩ := run_append_any (P := P) w base t o.type e i z size bytes ht hi hz hsize hby hzs hsz v n xs hown B A m c news hr h1 h63 hbytes hbase
 unfold Oper.wp execOp
 simp only [ho, resolve, invoke, builtin, Sem.run_bind, Sem.run_pure, Result.andThen_ok, List.map_toArray, List.map_cons, List.map_nil, hs, hx, hrun]
 exact h v' w' h2 h3 h4
theorem wpList_append_any {ops : Array Oper} {rest : List Oper} {o : Oper} {a : Act} {Q : Exit -> Act -> World -> Prop} (hgd : o.guard = none) (s x : Operand) (t : TypeId)
    (ho : o.op = .call { callee := .builtin .append, args := #[s, x], argTypes := #[t, t] })
    (base : Nat) (e : TypeId) (i : TypeInfo) (z : Value) (size bytes : Nat) (ht : P.underlying t = some (.slice e)) (hi : P.info? e = some i) (hz : i.zero = some z)
    (hsize : i.size = size) (hby : i.bytes = bytes) (hzs : z.cells.size = size) (hsz : 0 < size)
    (v : Value) (n : Nat) (xs : List Value) (hs : a.eval s = v) (hown : w.ownsRow base e size v n xs)
    (B : Nat) (A : Option Addr) (m c : Nat) (news : List Value) (hx : a.eval x = .slice A m c) (hr : Reads w B size A m news) (h1 : ∀ u ∈ news, u.oneCell' = true)
    (h63 : n + m <= maxLen) (hbytes : (n + m) * bytes <= 140737488355328) (hbase : base <= w.heap.size)
    (h : ∀ v' w', w'.ownsRow base e size v' (n + m) (xs ++ news) -> w.grownBy w' v.ownBlock -> (v'.ownBlock = v.ownBlock ∨ v'.ownBlock = some w.heap.size) -> wpList P ops Q rest (a.put o.dst v') w') : wpList P ops Q (o :: rest) a w :=
 wpList_plain hgd fun _ hK => wp_append_any w s x t ho base e i z size bytes ht hi hz hsize hby hzs hsz v n xs hs hown B A m c news hx hr h1 h63 hbytes hbase fun v' w' h2 h3 h4 => hK _ _ (h v' w' h2 h3 h4)
theorem step_append_any {ops : Array Oper} {o : Oper} {a : Act} {K : Act -> World -> Prop} {Q : Exit -> Act -> World -> Prop} {E : Prop} (hgd : o.guard = none) (s x : Operand) (t : TypeId)
    (ho : o.op = .call { callee := .builtin .append, args := #[s, x], argTypes := #[t, t] })
    (base : Nat) (e : TypeId) (i : TypeInfo) (z : Value) (size bytes : Nat) (ht : P.underlying t = some (.slice e)) (hi : P.info? e = some i) (hz : i.zero = some z)
    (hsize : i.size = size) (hby : i.bytes = bytes) (hzs : z.cells.size = size) (hsz : 0 < size)
    (v : Value) (n : Nat) (xs : List Value) (hs : a.eval s = v) (hown : w.ownsRow base e size v n xs)
    (B : Nat) (A : Option Addr) (m c : Nat) (news : List Value) (hx : a.eval x = .slice A m c) (hr : Reads w B size A m news) (h1 : ∀ u ∈ news, u.oneCell' = true)
    (h63 : n + m <= maxLen) (hbytes : (n + m) * bytes <= 140737488355328) (hbase : base <= w.heap.size)
    (h : ∀ v' w', w'.ownsRow base e size v' (n + m) (xs ++ news) -> w.grownBy w' v.ownBlock -> (v'.ownBlock = v.ownBlock ∨ v'.ownBlock = some w.heap.size) -> K (a.put o.dst v') w') :
    if Region.wanted o (yielded ops a.tmps) = true then Oper.wp P o a w K Q else E := by
 have hw : Region.wanted o (yielded ops a.tmps) = true := by simp [Region.wanted, hgd]
 rw [if_pos hw]
 exact wp_append_any w s x t ho base e i z size bytes ht hi hz hsize hby hzs hsz v n xs hs hown B A m c news hx hr h1 h63 hbytes hbase h
end
structure Kp (S : Nat -> Prop) (w w' : World) : Prop where
  os : w'.os = w.os
  tape : w'.tape = w.tape
  output : w'.output = w.output
  size : w.heap.size <= w'.heap.size
  block : ∀ k, k < w.heap.size -> ¬ S k -> w'.heap[k]? = w.heap[k]?
theorem below_keep {w w' : World} (h : Below w.heap.size w w') {p : Addr} {x : Value} (hc : w.cell? p = some x) : w'.cell? p = some x := (h.cell (World.block_lt_of_cell? _ _ hc)).trans hc
theorem below_drewN {B : Nat} {a w : World} (h : Below B a w) (n : Nat) : Below B a (w.drewN n) := ⟨h.os, h.tape, h.output, h.size, h.block⟩
section
variable {S S' : Nat -> Prop} {w w1 w' : World}
theorem Kp.refl (S : Nat -> Prop) (w : World) : Kp S w w := ⟨rfl, rfl, rfl, Nat.le_refl _, fun _ _ _ => rfl⟩
theorem Kp.of_below (h : Below w.heap.size w w') : Kp S w w' := ⟨h.os, h.tape, h.output, h.size, fun k hk _ => h.block k hk⟩
theorem Kp.trans (h : Kp S w w1) (k : Kp S' w1 w') (hs : ∀ b, b < w.heap.size -> S' b -> S b) : Kp S w w' :=
 ⟨k.os.trans h.os, k.tape.trans h.tape, k.output.trans h.output, Nat.le_trans h.size k.size, fun b hb hn =>
  (k.block b (Nat.lt_of_lt_of_le hb h.size) (fun hb' => hn (hs b hb hb'))).trans (h.block b hb hn)⟩
theorem Kp.mono (h : Kp S w w') (hs : ∀ b, b < w.heap.size -> S b -> S' b) : Kp S' w w' := ⟨h.os, h.tape, h.output, h.size, fun b hb hn => h.block b hb (fun hb' => hn (hs b hb hb'))⟩
theorem Kp.drewN (h : Kp S w w') (n : Nat) : Kp S w (w'.drewN n) := ⟨h.os, h.tape, h.output, h.size, h.block⟩
theorem Kp.alloc (h : Kp S w w') (o : Obj) : Kp S w (w'.alloc o) := ⟨h.os, h.tape, h.output, Nat.le_trans h.size (by simp), fun b hb hn => (Below.heap_alloc w' o b (Nat.lt_of_lt_of_le hb h.size)).trans (h.block b hb hn)⟩
theorem Kp.setCell (h : Kp S w w') {p : Addr} (hp : S p.block ∨ w.heap.size <= p.block) (u : Value) : Kp S w (w'.setCell p u) :=
 ⟨h.os, h.tape, h.output, by simpa [World.setCell] using h.size, fun b hb hn => (Below.heap_setCell w' p u b (by
  rintro rfl
  rcases hp with hp | hp
  · exact hn hp
  · omega)).trans (h.block b hb hn)⟩
theorem Kp.below {B : Nat} {a : World} (h : Below B a w) (k : Kp S w w') (hB : B <= w.heap.size) (hs : ∀ b, b < B -> ¬ S b) : Below B a w' :=
 ⟨k.os.trans h.os, k.tape.trans h.tape, k.output.trans h.output, Nat.le_trans h.size k.size, fun b hb => (k.block b (by omega) (hs b hb)).trans (h.block b hb)⟩
theorem Kp.blk {g : Nat} {t : TypeId} {cs : Array Value} (h : Kp S w w') (hb : Blk w g t cs) (hs : ¬ S g) : Blk w' g t cs := (h.block g hb.lt hs).trans hb
theorem Kp.cell (h : Kp S w w') {p : Addr} {v : Value} (hc : w.cell? p = some v) (hs : ¬ S p.block) : w'.cell? p = some v :=
 (World.cell?_of_block (h.block p.block (World.block_lt_of_cell? _ _ hc) hs)).trans hc
end
theorem blk_set4 {w : World} {g : Nat} {t : TypeId} {a0 a1 a2 a3 : Value} (h : Blk w g t #[a0, a1, a2, a3]) (c0 c1 c2 c3 : Value) :
    Blk ((((w.setCell ⟨g, 0, none⟩ c0).setCell ⟨g, 1, none⟩ c1).setCell ⟨g, 2, none⟩ c2).setCell ⟨g, 3, none⟩ c3) g t #[c0, c1, c2, c3] := by
 have := (((h.set_ 0 c0).set_ 1 c1).set_ 2 c2).set_ 3 c3
 simpa using this
theorem kp_set4 {S : Nat -> Prop} {w0 w : World} {g : Nat} (h : Kp S w0 w) (hg : S g ∨ w0.heap.size <= g) (c0 c1 c2 c3 : Value) :
    Kp S w0 ((((w.setCell ⟨g, 0, none⟩ c0).setCell ⟨g, 1, none⟩ c1).setCell ⟨g, 2, none⟩ c2).setCell ⟨g, 3, none⟩ c3) :=
 (((h.setCell (p := ⟨g, 0, none⟩) hg _).setCell (p := ⟨g, 1, none⟩) hg _).setCell (p := ⟨g, 2, none⟩) hg _).setCell (p := ⟨g, 3, none⟩) hg _
theorem kp_none {w w' : World} (h : Kp (fun _ => False) w w') : Below w.heap.size w w' := Kp.below (Below.refl w.heap.size w) h (Nat.le_refl _) (fun _ _ h => h)
theorem blk_set2 {w : World} {g : Nat} {t : TypeId} {a0 a1 : Value} (h : Blk w g t #[a0, a1]) (c0 c1 : Value) : Blk ((w.setCell ⟨g, 0, none⟩ c0).setCell ⟨g, 1, none⟩ c1) g t #[c0, c1] := by
 have := (h.set_ 0 c0).set_ 1 c1
 simpa using this
theorem kp_set2 {S : Nat -> Prop} {w0 w : World} {g : Nat} (h : Kp S w0 w) (hg : S g ∨ w0.heap.size <= g) (c0 c1 : Value) : Kp S w0 ((w.setCell ⟨g, 0, none⟩ c0).setCell ⟨g, 1, none⟩ c1) :=
 (h.setCell (p := ⟨g, 0, none⟩) hg _).setCell (p := ⟨g, 1, none⟩) hg _
theorem kp_undrew {S : Nat -> Prop} {w w' : World} (h : Kp S w.drew w') : Kp S w w' := ⟨h.os, h.tape, h.output, h.size, h.block⟩
theorem kp_setTwo {S : Nat -> Prop} {w0 w : World} {g : Nat} (h : Kp S w0 w) (hg : S g ∨ w0.heap.size <= g) (i j : Nat) (c0 c1 : Value) : Kp S w0 ((w.setCell ⟨g, i, none⟩ c0).setCell ⟨g, j, none⟩ c1) :=
 (h.setCell (p := ⟨g, i, none⟩) hg _).setCell (p := ⟨g, j, none⟩) hg _
theorem own_form {w : World} {base : Nat} {e : TypeId} {size : Nat} {v : Value} {n : Nat} {xs : List Value} (h : w.ownsRow base e size v n xs) : ∃ A c, v = .slice A n c := by
 rcases h.2 with ⟨rfl, rfl⟩ | ⟨g, cap, cur, rfl, _⟩
 · exact ⟨none, 0, rfl⟩
 · exact ⟨_, _, rfl⟩
theorem ret_int {k : IntKind} {a b : Int} (h : a = b) : Ending.returned (.int k a) = .returned (.int k b) := by rw [h]
theorem ret_bool {a b : Bool} (h : a = b) : Ending.returned (.bool a) = .returned (.bool b) := by rw [h]
def Gives (v : Value) (w : World) (e : Ending) (w' : World) : Prop := e = .returned v ∧ ∃ n, w' = w.drewN n
def Makes (v : Value) (w : World) (e : Ending) (w' : World) : Prop := e = .returned v ∧ Below w.heap.size w w'
def Okay (w : World) (e : Ending) (w' : World) : Prop := e = .returned (.bool true) ∧ Below w.heap.size w w'
def nums (k : IntKind) (l : List Int) : List Value := l.map (Value.int k)
theorem nums_one (k : IntKind) (l : List Int) : ∀ u ∈ nums k l, u.oneCell' = true := by
 intro u hu
 simp only [nums, List.mem_map] at hu
 obtain ⟨a, _, rfl⟩ := hu
 rfl
theorem nums_get (k : IntKind) (l : List Int) (i : Nat) (h : i < l.length) : (nums k l)[i]? = some (.int k (l.getD i 0)) := by
 simp [nums, List.getD_eq_getElem?_getD, h]
theorem nums_length (k : IntKind) (l : List Int) : (nums k l).length = l.length := by simp [nums]
theorem Reads.num {w : World} {B : Nat} {A : Option Addr} {k : IntKind} {l : List Int} {n : Nat} (h : Reads w B 1 A n (nums k l)) {i : Nat} (hi : i < l.length) : ∃ ad, A = some ad ∧ ad.block < B ∧ w.cell? (ad.add i) = some (.int k (l.getD i 0)) := by
 have hn : i < n := by have := h.1; rw [nums_length] at this; omega
 obtain ⟨ad, e, hb, hc⟩ := h.2 (by omega)
 exact ⟨ad, e, hb, hc i _ (nums_get k l i hi)⟩
end Go.Proofs.YtfabgbmbnmbjkaaGreatDoor

/- Pruned. -/
namespace Go.Proofs.YtfabgbmbnmbjkaaGreatDoor
structure Pl where
  t : Int
  b : Int
  z : Int
  k : Int
deriving DecidableEq
def Pl.n (p : Pl) : Int × Int := (p.t, p.b)
def Pl.a (p : Pl) : Int × Int := (p.z, p.k)
theorem Pl.ext_ {p q : Pl} (h1 : p.n = q.n) (h2 : p.a = q.a) : p = q := by
 cases p; cases q
 simp only [Pl.n, Pl.a, Prod.mk.injEq] at h1 h2
 obtain ⟨rfl, rfl⟩ := h1
 obtain ⟨rfl, rfl⟩ := h2
 rfl
def Uniq (L : List Pl) : Prop := L.Pairwise (fun p q => p.n ≠ q.n ∧ p.a ≠ q.a)
def atOf (L : List Pl) (n : Int × Int) : Option (Int × Int) := (L.find? (fun p => decide (p.n = n))).map Pl.a
def inAt (L : List Pl) (a : Int × Int) : Option (Int × Int) := (L.find? (fun p => decide (p.a = a))).map Pl.n
def cnt (L : List Pl) (t : Int) : Nat := L.countP (fun p => decide (p.t = t))
def cut (L : List Pl) (n : Int × Int) : List Pl := L.filter (fun p => !decide (p.n = n))
def free (L : List Pl) (a : Int × Int) : List Pl := L.filter (fun p => !decide (p.a = a))
section
variable {L : List Pl} {n m a : Int × Int} {p q : Pl}
theorem Uniq.filter (h : Uniq L) (f : Pl -> Bool) : Uniq (L.filter f) := List.Pairwise.filter _ h
theorem Uniq.cut (h : Uniq L) (n) : Uniq (cut L n) := h.filter _
theorem Uniq.mem (h : Uniq L) (hp : p ∈ L) (hq : q ∈ L) (he : p.n = q.n ∨ p.a = q.a) : p = q := by
 induction L with
 | nil => cases hp
 | cons x r ih =>
   obtain ⟨h1, h2⟩ := List.pairwise_cons.1 h
   rcases List.mem_cons.1 hp with rfl | hp'
   · rcases List.mem_cons.1 hq with rfl | hq'
     · rfl
     · rcases he with he | he
       · exact absurd he (h1 q hq').1
       · exact absurd he (h1 q hq').2
   · rcases List.mem_cons.1 hq with rfl | hq'
     · rcases he with he | he
       · exact absurd he.symm (h1 p hp').1
       · exact absurd he.symm (h1 p hp').2
     · exact ih h2 hp' hq'
theorem Uniq.eqn (h : Uniq L) (hp : p ∈ L) (hq : q ∈ L) (he : p.n = q.n) : p = q := h.mem hp hq (.inl he)
theorem Uniq.eqa (h : Uniq L) (hp : p ∈ L) (hq : q ∈ L) (he : p.a = q.a) : p = q := h.mem hp hq (.inr he)
theorem atOf_some (h : Uniq L) : atOf L n = some a ↔ ∃ p ∈ L, p.n = n ∧ p.a = a := by
 unfold atOf
 constructor
 · intro e
   obtain ⟨p, hp, rfl⟩ := Option.map_eq_some_iff.1 e
   exact ⟨p, List.mem_of_find?_eq_some hp, by simpa using List.find?_some hp, rfl⟩
 · rintro ⟨p, hp, rfl, rfl⟩
   obtain ⟨q, hq⟩ := Option.isSome_iff_exists.1 (List.find?_isSome.2 ⟨p, hp, decide_eq_true rfl⟩ : (L.find? (fun x => decide (x.n = p.n))).isSome = true)
   rw [hq, Option.map_some, h.eqn (List.mem_of_find?_eq_some hq) hp (by simpa using List.find?_some hq)]
theorem atOf_none : atOf L n = none ↔ ∀ p ∈ L, p.n ≠ n := by
 unfold atOf
 rw [Option.map_eq_none_iff, List.find?_eq_none]
 exact ⟨fun h p hp e => h p hp (decide_eq_true e), fun h p hp e => h p hp (of_decide_eq_true e)⟩
theorem inAt_some (h : Uniq L) : inAt L a = some n ↔ ∃ p ∈ L, p.n = n ∧ p.a = a := by
 unfold inAt
 constructor
 · intro e
   obtain ⟨p, hp, rfl⟩ := Option.map_eq_some_iff.1 e
   exact ⟨p, List.mem_of_find?_eq_some hp, rfl, by simpa using List.find?_some hp⟩
 · rintro ⟨p, hp, rfl, rfl⟩
   obtain ⟨q, hq⟩ := Option.isSome_iff_exists.1 (List.find?_isSome.2 ⟨p, hp, decide_eq_true rfl⟩ : (L.find? (fun x => decide (x.a = p.a))).isSome = true)
   rw [hq, Option.map_some, h.eqa (List.mem_of_find?_eq_some hq) hp (by simpa using List.find?_some hq)]
theorem inAt_none : inAt L a = none ↔ ∀ p ∈ L, p.a ≠ a := by
 unfold inAt
 rw [Option.map_eq_none_iff, List.find?_eq_none]
 exact ⟨fun h p hp e => h p hp (decide_eq_true e), fun h p hp e => h p hp (of_decide_eq_true e)⟩
theorem atOf_of_inAt (h : Uniq L) (e : inAt L a = some n) : atOf L n = some a := (atOf_some h).2 ((inAt_some h).1 e)
theorem mem_cut : p ∈ cut L n ↔ p ∈ L ∧ p.n ≠ n := by simp [cut]
theorem mem_free : p ∈ free L a ↔ p ∈ L ∧ p.a ≠ a := by simp [free]
theorem opt_ext {α : Type} {x y : Option α} (h : ∀ a, x = some a ↔ y = some a) : x = y := by
 cases x with
 | none =>
   cases y with
   | none => rfl
   | some b => exact absurd ((h b).2 rfl) (by simp)
 | some b => exact ((h b).1 rfl).symm
theorem atOf_cut_same : atOf (cut L n) n = none := atOf_none.2 fun _ hp => (mem_cut.1 hp).2
theorem atOf_cut_other (h : Uniq L) (hne : m ≠ n) : atOf (cut L n) m = atOf L m := opt_ext fun a => by
 rw [atOf_some (h.cut n), atOf_some h]
 exact ⟨fun ⟨p, hp, e⟩ => ⟨p, (mem_cut.1 hp).1, e⟩, fun ⟨p, hp, e1, e2⟩ => ⟨p, mem_cut.2 ⟨hp, by rw [e1]; exact hne⟩, e1, e2⟩⟩
theorem cut_none (e : atOf L n = none) : cut L n = L := List.filter_eq_self.2 fun p hp => by simpa using atOf_none.1 e p hp
theorem free_none (e : inAt L a = none) : free L a = L := List.filter_eq_self.2 fun p hp => by simpa using inAt_none.1 e p hp
theorem free_some (h : Uniq L) (e : inAt L a = some n) : free L a = cut L n := by
 obtain ⟨q, hq, q1, q2⟩ := (inAt_some h).1 e
 refine List.filter_congr fun p hp => ?_
 congr 1
 rw [decide_eq_decide]
 exact ⟨fun hpa => by rw [h.eqa hp hq (hpa.trans q2.symm)]; exact q1, fun hpn => by rw [h.eqn hp hq (hpn.trans q1.symm)]; exact q2⟩
theorem inAt_cut_same (h : Uniq L) (e : atOf L n = some a) : inAt (cut L n) a = none := inAt_none.2 fun _ hp hpa => by
 obtain ⟨q, hq, q1, q2⟩ := (atOf_some h).1 e
 obtain ⟨hp1, hp2⟩ := mem_cut.1 hp
 exact hp2 (by rw [h.eqa hp1 hq (hpa.trans q2.symm)]; exact q1)
theorem inAt_cut_other (h : Uniq L) (e : atOf L n = some a) {c : Int × Int} (hne : c ≠ a) : inAt (cut L n) c = inAt L c := opt_ext fun m => by
 rw [inAt_some (h.cut n), inAt_some h]
 refine ⟨fun ⟨p, hp, e⟩ => ⟨p, (mem_cut.1 hp).1, e⟩, fun ⟨p, hp, e1, e2⟩ => ⟨p, mem_cut.2 ⟨hp, fun hpn => hne ?_⟩, e1, e2⟩⟩
 obtain ⟨q, hq, q1, q2⟩ := (atOf_some h).1 e
 rw [<- e2, h.eqn hp hq (hpn.trans q1.symm), q2]
theorem cnt_cut (h : Uniq L) (e : atOf L n = some a) (t : Int) : cnt (cut L n) t + (if t = n.1 then 1 else 0) = cnt L t := by
 obtain ⟨q, hq, q1, q2⟩ := (atOf_some h).1 e
 clear e q2
 induction L with
 | nil => cases hq
 | cons x r ih =>
   obtain ⟨h1, h2⟩ := List.pairwise_cons.1 h
   by_cases hx : x.n = n
   · have hr : cut r n = r := List.filter_eq_self.2 fun p hp => by
      have := (h1 p hp).1
      rw [hx] at this
      simpa using fun e => this e.symm
     have e1 : cut (x :: r) n = r := by
      unfold cut at hr ⊢
      rw [List.filter_cons_of_neg (by simp [hx]), hr]
     have hxt : x.t = n.1 := by rw [<- hx]; rfl
     rw [e1]
     unfold cnt
     rw [List.countP_cons]
     by_cases ht : t = n.1
     · subst ht; simp [hxt]
     · simp [ht, hxt]; intro e; exact absurd e.symm ht
   · have hq' : q ∈ r := by
      rcases List.mem_cons.1 hq with rfl | hq
      · exact absurd q1 hx
      · exact hq
     have := ih h2 hq'
     have e1 : cut (x :: r) n = x :: cut r n := by
      unfold cut
      rw [List.filter_cons_of_pos (by simp [hx])]
     rw [e1]
     unfold cnt at this ⊢
     rw [List.countP_cons, List.countP_cons]
     omega
theorem cnt_le (L : List Pl) (t : Int) : cnt L t <= L.length := List.countP_le_length
theorem cut_length (L : List Pl) (n) : (cut L n).length <= L.length := List.length_filter_le _ _
theorem free_length (L : List Pl) (n) : (free L n).length <= L.length := List.length_filter_le _ _
theorem Uniq.cons (h : Uniq L) (h1 : atOf L p.n = none) (h2 : inAt L p.a = none) : Uniq (p :: L) :=
 List.pairwise_cons.2 ⟨fun q hq => ⟨fun e => atOf_none.1 h1 q hq e.symm, fun e => inAt_none.1 h2 q hq e.symm⟩, h⟩
theorem atOf_cons : atOf (p :: L) n = if n = p.n then some p.a else atOf L n := by
 unfold atOf
 rw [List.find?_cons]
 by_cases h : n = p.n
 · simp [h]
 · have h' : ¬ p.n = n := fun e => h e.symm
   rw [if_neg h, decide_eq_false h']
theorem inAt_cons : inAt (p :: L) a = if a = p.a then some p.n else inAt L a := by
 unfold inAt
 rw [List.find?_cons]
 by_cases h : a = p.a
 · simp [h]
 · have h' : ¬ p.a = a := fun e => h e.symm
   rw [if_neg h, decide_eq_false h']
theorem cnt_cons {t : Int} : cnt (p :: L) t = cnt L t + (if t = p.t then 1 else 0) := by
 unfold cnt
 rw [List.countP_cons]
 by_cases h : t = p.t
 · simp [h]
 · simp [h]; exact fun e => h e.symm
theorem Uniq.perm {M : List Pl} (h : Uniq L) (hp : L.Perm M) : Uniq M := (hp.pairwise_iff (fun hab => ⟨Ne.symm hab.1, Ne.symm hab.2⟩)).1 h
theorem atOf_perm {M : List Pl} (h : Uniq L) (hp : L.Perm M) : atOf L = atOf M := funext fun n => opt_ext fun a => by
 rw [atOf_some h, atOf_some (h.perm hp)]
 exact ⟨fun ⟨p, hp', e⟩ => ⟨p, hp.mem_iff.1 hp', e⟩, fun ⟨p, hp', e⟩ => ⟨p, hp.mem_iff.2 hp', e⟩⟩
end
end Go.Proofs.YtfabgbmbnmbjkaaGreatDoor

