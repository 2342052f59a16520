/- Joined texts: Law Wd Sg Sg2 By Cr Zn Re Cr2 Wi Bz Re2 Re3. -/
import Derived.Test.YtgjcofoicnnnhaaDoorRows
import Derived.WalkKit
import Derived.ProofKit
import Derived.OpenShut
import Derived.SizedLaws
import Derived.Below
import Derived.Laws.OwnMore
import Derived.Laws.Rows
import Derived.Deep.AppendLies
import Derived.Deep.Draws
import Derived.Maps.AppendAt
import Derived.RegionTactic
import Derived.OwnWalk
import Derived.Deep.Slices
import Derived.Test.YtgjcofoicnnnhaaDoorChecked
import Derived.WalkLawsBesides
import Derived.BigQuiet
import Derived.Deep.QuietTactic
import Derived.Deep.RegionWith
import Derived.Lib.Hide
import Derived.Laws.CopyOwn
import Derived.Laws.MakeOwn
import Derived.Deep.RegionLaw
import Derived.WalkSpells
import Derived.Handy
import Derived.Deep.CutRange
import Derived.Deep.RegionHeld3
import Derived.StillTailTactics
import Derived.Lib.AppendZeros
import Derived.Laws.IdiomCopy
/- The step from a law's walk to its row, for a law of any parameters: the call answers true, and nothing that was there has changed. -/
namespace Go.Proofs.YtgjcofoicnnnhaaDoor
open Go.ChangeShapes Go.WideShapes Go.ChangeAt Go.RowKit

theorem own : ownKnob Tryd.prog.godebug = none := by kernel_rfl
theorem laidOut : laidOutB Tryd.prog = true := by kernel_rfl

section
variable {H : Type} {enc : TypeId × Value → H} {P : Program}

theorem trodAll_length {w : World} {base : Nat} {spare : Nat → Bool} {held : Bool} : ∀ {ts : List TypeId} {vs : List Value} {ds : List (DataW H)} {ps : List MemPlace}, DataW.TrodAll enc P w base spare held ts vs ds ps → ds.length = ts.length
  | [], vs, ds, ps, h => by
    cases vs <;> cases ds <;> simp_all [DataW.TrodAll]
  | t :: ts, vs, ds, ps, h => by
    obtain ⟨v, vs', d, ds', p, q, rfl, rfl, rfl, _, hr⟩ := trodAll_cons h
    simp [trodAll_length hr]

theorem trodAll_stays (hl : laidOutB P = true) {W W' : World} {sp : Nat → Bool} : ∀ {ts : List TypeId} {vs : List Value} {ds : List (DataW H)} {ps : List MemPlace}, ts.all (fun t => P.readableRec t && decide (t < P.types.size)) = true →
    DataW.TrodAll enc P W 0 (fun _ => true) true ts vs ds ps → (∀ p ∈ ps, W.sameAt W' p) → (∀ p ∈ ps, sp p.block = true) → DataW.TrodAll enc P W' 0 sp true ts vs ds ps
  | [], vs, ds, ps, _, h, _, _ => by
    cases vs <;> cases ds <;> simp_all [DataW.TrodAll]
  | t :: ts, vs, ds, ps, hr, h, hsame, hsp => by
    obtain ⟨v, vs', d, ds', p, q, rfl, rfl, rfl, hd, hrest⟩ := trodAll_cons h
    simp only [List.all_cons, Bool.and_eq_true, decide_eq_true_eq] at hr
    refine trodAll_cons_mk (WideElems.Trod_stays hl hr.1.1 hr.1.2 hd (fun x hx => hsame x (by simp [hx])) (fun x hx => hsp x (by simp [hx]))) ?_
    exact trodAll_stays hl hr.2 hrest (fun x hx => hsame x (by simp [hx])) (fun x hx => hsp x (by simp [hx]))

theorem post_of_below {f : Func} {s : ChangeSpec} {apart fresh handsOn again : Bool} {W W' : World} {args : Array Value} {v : Value} {ds gs : List (DataW H)} {before pa pv : List MemPlace}
    (hW : DataW.Whole enc P f.params.toList s.vars apart W args.toList ds gs before)
    (hres : ∀ (b : Nat) (sp : Nat → Bool) (hd : Bool), DataW.TrodAll enc P W' b sp hd f.resultTypes.toList (v.resultList f.resultTypes.size) (s.fn H (ds ++ gs)).results [])
    (hargs : ∀ sp : Nat → Bool, (∀ p ∈ before, sp p.block = true) → DataW.TrodAll enc P W' 0 sp true f.params.toList args.toList (s.fn H (ds ++ gs)).args pa)
    (hvars : ∀ sp : Nat → Bool, (∀ p ∈ before, sp p.block = true) → DataW.TrodVars enc P W' sp s.vars (s.fn H (ds ++ gs)).vars pv)
    (hps : before = pa ++ pv) (hb : Below W.heap.size W W')
    (hok : ∀ (j : Nat) (t : TypeId) (r : Value), f.resultTypes[j]? = some t → (v.resultList f.resultTypes.size)[j]? = some r → Value.okWide P W' .any 0 t r) :
    s.post enc P f apart fresh handsOn again W args v W' := by
  have hlt : ∀ p ∈ before, p.block < W.heap.size := fun p hp => hW.lt p hp
  have hold : ∀ p ∈ before, (fun b => decide (b < W.heap.size)) p.block = true := fun p hp => by simpa using hlt p hp
  refine ⟨ds, gs, before, [], pa, pv, hW, hres _ _ _, hargs _ hold, hvars _ hold, World.keptBut_mono (fun p hp => ⟨hp, ?_⟩) (hb.frame (· ∈ before)), fun _ => ?_⟩
  · rw [hps, List.mem_append] at hp
    exact Or.inr hp
  · obtain ⟨_, _, _, _, _, hz, hn⟩ := hW
    refine ⟨hok, _, _, ([] ++ pa) ++ pv, ⟨[] ++ pa, pv, trodAll_append (hargs _ (fun _ _ => rfl)) (hres _ _ _), hvars _ (fun _ _ => rfl), rfl, ?_, ?_⟩, ?_⟩
    · intro b off hp
      have hin : MemPlace.cell b off ∈ before := by rw [hps]; simpa using hp
      rw [hb.frozen (hlt _ hin)]
      exact hz b off hin
    · intro ha
      have := hn ha
      rw [hps] at this
      simpa using this
    · intro p hp _
      rw [hps]
      simpa using hp

/-- The row's post, where the call answers true and nothing that was there has changed. -/
theorem law_post {fn : Func} {s : ChangeSpec} {tb : TypeId} (hl : laidOutB P = true) (hr : fn.params.toList.all (fun t => P.readableRec t && decide (t < P.types.size)) = true)
    (hrt : fn.resultTypes = #[tb]) (hb : P.underlying tb = some .bool) (hvars : s.vars = [])
    (hs : ∀ ds : List (DataW H), ds.length = fn.params.size → s.fn H ds = { results := [.lit (.bool true)], args := ds })
    {W W' : World} {args : Array Value} {ds gs : List (DataW H)} {before : List MemPlace}
    (hW : DataW.Whole enc P fn.params.toList s.vars false W args.toList ds gs before) (hbelow : Below W.heap.size W W') :
    s.post enc P fn false true false false W args (.bool true) W' := by
  have hW' := hW
  obtain ⟨p, q, hA, hV, rfl, hfz, hnd⟩ := hW
  have hV2 := hV
  rw [hvars] at hV2
  obtain ⟨rfl, rfl⟩ := trodVars_none hV2
  have hlen := trodAll_length hA
  have hfn : s.fn H (ds ++ []) = { results := [.lit (.bool true)], args := ds } := by rw [List.append_nil]; exact hs ds (by simpa using hlen)
  have hlt : ∀ x ∈ p, x.block < W.heap.size := fun x hx => hW'.lt x (by simp [hx])
  refine post_of_below (pa := p) (pv := []) hW' (fun b sp hd => ?_) (fun sp hsp => ?_) (fun sp _ => ?_) rfl hbelow ?_
  · rw [hfn, hrt]
    exact trodAll_cons_mk (shut_bool hb _) trodAll_mk0
  · rw [hfn]
    exact trodAll_stays hl hr hA (fun x hx => hbelow.same (hlt x hx)) (fun x hx => hsp x (by simp [hx]))
  · rw [hfn, hvars]; rfl
  · exact ok_one hrt rfl (okWide_bool_mk hb _)
end
end Go.Proofs.YtgjcofoicnnnhaaDoor

/- Words for memory: a slice that reads as a list; a block that is known whole; append onto a row of the call's own (after the guide's plain theorems to copy). -/
namespace Go.Proofs.YtgjcofoicnnnhaaDoor
open Go.RowKit

theorem block_of_add (a : Addr) (n : Nat) : (a.add n).block = a.block := by unfold Addr.add; split <;> rfl
theorem add_of_add (a : Addr) (i j : Nat) : (a.add i).add j = a.add (i + j) := by
  unfold Addr.add
  by_cases hi : i = 0 <;> by_cases hj : j = 0 <;> simp [hi, hj, Nat.add_assoc]

def Reads (w : World) (B size : Nat) (A : Option Addr) (n : Nat) (xs : List Value) : Prop :=
  xs.length = n * size ∧ (0 < n → ∃ ad, A = some ad ∧ ad.block < B ∧ ∀ j u, xs[j]? = some u → w.cell? (ad.add j) = some u)

section
variable {w w' : World} {B B' size n : Nat} {A : Option Addr} {xs : List Value}
theorem Reads.none_ : Reads w B size A 0 [] := ⟨by simp, fun h => absurd h (by omega)⟩
theorem Reads.at_ {k : Nat} (h : Reads w B 1 A n xs) (hk : k < n) : ∃ ad u, A = some ad ∧ ad.block < B ∧ xs[k]? = some u ∧ w.cell? (ad.add k) = some u := by
  obtain ⟨ad, e, hb, hc⟩ := h.2 (by omega)
  have hl : k < xs.length := by have := h.1; omega
  exact ⟨ad, xs[k], e, hb, List.getElem?_eq_getElem hl, hc k _ (List.getElem?_eq_getElem hl)⟩
theorem Reads.keep (h : Reads w B size A n xs) (hk : ∀ p : Addr, p.block < B → w'.cell? p = w.cell? p) : Reads w' B size A n xs :=
  ⟨h.1, fun hn => by
    obtain ⟨ad, e, hb, hc⟩ := h.2 hn
    exact ⟨ad, e, hb, fun j u hu => (hk _ (by rw [block_of_add]; exact hb)).trans (hc j u hu)⟩⟩
theorem Reads.more (h : Reads w B size A n xs) (hB : B ≤ B') : Reads w B' size A n xs :=
  ⟨h.1, fun hn => by
    obtain ⟨ad, e, hb, hc⟩ := h.2 hn
    exact ⟨ad, e, by omega, hc⟩⟩
theorem Reads.below (h : Reads w B size A n xs) (hb : Below B w w') : Reads w' B size A n xs := h.keep fun _ hp => hb.cell hp
theorem Reads.drew (h : Reads w B size A n xs) : Reads w.drew B size A n xs := h
theorem Reads.drewN (h : Reads w B size A n xs) (k : Nat) : Reads (w.drewN k) B size A n xs := h
theorem Reads.alloc (h : Reads w B size A n xs) (hB : B ≤ w.heap.size) (o : Obj) : Reads (w.alloc o) B size A n xs := h.keep fun p hp => World.cell?_alloc_lt w o p (by omega)
theorem Reads.setCell (h : Reads w B size A n xs) {p : Addr} (hB : B ≤ p.block) (u : Value) : Reads (w.setCell p u) B size A n xs :=
  h.keep fun q hq => World.cell?_setCell_other w p q u (fun e => by subst e; omega)
theorem Reads.grown (h : Reads w B size A n xs) {row : Option Nat} (hg : w.grownBy w' row) (hB : B ≤ w.heap.size) (hr : ∀ g, row = some g → B ≤ g) : Reads w' B size A n xs :=
  h.keep fun p hp => World.cell?_of_block (hg.block p.block (by omega) (fun e => by have := hr _ e.symm; omega))
theorem Reads.cut (h : Reads w B size A n xs) {k cap : Nat} (hk : k ≤ n) (hc : n ≤ cap) :
    Reads w B size (if cap = k then A else A.map (·.add (k * size))) (n - k) (xs.drop (k * size)) := by
  refine ⟨by rw [List.length_drop, h.1, Nat.sub_mul], fun hn => ?_⟩
  obtain ⟨ad, rfl, hb, hcell⟩ := h.2 (by omega)
  rw [if_neg (by omega)]
  refine ⟨ad.add (k * size), rfl, by rw [block_of_add]; exact hb, fun j u hu => ?_⟩
  rw [add_of_add]
  exact hcell _ u (by rw [← hu, List.getElem?_drop])
theorem Reads.of_own {base : Nat} {e : TypeId} {c : Nat} (h : w.ownsRow base e size (.slice A n c) n xs) : Reads w w.heap.size size A n xs := by
  refine ⟨h.1, fun hn => ?_⟩
  obtain ⟨g, cap, hv, _, hlt⟩ := h.form hn
  have hA : A = some ⟨g, 0, none⟩ := by injection hv
  subst hA
  exact ⟨_, rfl, hlt, h.cells (g := g) rfl⟩
end

def Blk (w : World) (g : Nat) (t : TypeId) (cs : Array Value) : Prop := w.heap[g]? = some (.cells cs t (0, 0))

section
variable {w w' : World} {g : Nat} {t : TypeId} {cs : Array Value}
theorem Blk.lt (h : Blk w g t cs) : g < w.heap.size := by
  rcases Nat.lt_or_ge g w.heap.size with hlt | hge
  · exact hlt
  · unfold Blk at h; rw [Array.getElem?_eq_none hge] at h; cases h
theorem Blk.cell (h : Blk w g t cs) (i : Nat) : w.cell? ⟨g, i, none⟩ = cs[i]? := cell_of_row w g i cs t (0, 0) h
theorem Blk.frozen (h : Blk w g t cs) (i : Nat) : w.frozen? ⟨g, i, none⟩ = false := by
  unfold Blk at h
  simp [World.frozen?, h]
theorem Blk.new (w : World) (t : TypeId) (cs : Array Value) : Blk (w.alloc (.cells cs t)) w.heap.size t cs := heap_alloc_new w _
theorem Blk.drew (h : Blk w g t cs) : Blk w.drew g t cs := h
theorem Blk.drewN (h : Blk w g t cs) (n : Nat) : Blk (w.drewN n) g t cs := h
theorem Blk.alloc (h : Blk w g t cs) (o : Obj) : Blk (w.alloc o) g t cs := (Below.heap_alloc w o g h.lt).trans h
theorem Blk.set_ (h : Blk w g t cs) (i : Nat) (u : Value) : Blk (w.setCell ⟨g, i, none⟩ u) g t (cs.setIfInBounds i u) := by
  unfold Blk at h ⊢
  simp [World.setCell, Array.getElem?_modify, h]
theorem Blk.far (h : Blk w g t cs) {p : Addr} (hp : g ≠ p.block) (u : Value) : Blk (w.setCell p u) g t cs := (Below.heap_setCell w p u g hp).trans h
theorem Blk.below {B : Nat} (h : Blk w g t cs) (hb : Below B w w') (hg : g < B) : Blk w' g t cs := (hb.block g hg).trans h
theorem Blk.grown {row : Option Nat} (h : Blk w g t cs) (hb : w.grownBy w' row) (hg : some g ≠ row) : Blk w' g t cs := (hb.block g h.lt hg).trans h
theorem Blk.ne_ {g' : Nat} {t' : TypeId} {cs' : Array Value} (h : Blk w g t cs) (h' : Blk w g' t' cs') (hne : t ≠ t') : g ≠ g' := by
  rintro rfl
  unfold Blk at h h'
  rw [h] at h'
  injection h' with h'
  injection h' with _ ht
  exact hne ht
theorem own_blk_ne {base : Nat} {e : TypeId} {size n : Nat} {v : Value} {xs : List Value} (h : w.ownsRow base e size v n xs) (hg : Blk w g t cs) (hne : e ≠ t) : v.ownBlock ≠ some g := by
  rcases h.2 with ⟨rfl, _⟩ | ⟨g', cap, cur, rfl, _, hh, _⟩
  · simp [Value.ownBlock]
  · intro he
    have : g' = g := by simpa [Value.ownBlock] using he
    subst this
    exact Blk.ne_ (t := e) hh hg hne rfl
end

section
variable {P : Program} (w : World)

theorem run_append_of_nil (base : Nat) (t ty e : TypeId) (i : TypeInfo) (size : Nat) (ht : P.underlying t = some (.slice e)) (hi : P.info? e = some i)
    (v : Value) (n : Nat) (xs : List Value) (hown : w.ownsRow base e size v n xs) (c : Nat) : (Builtin.append_ #[t, t] ty #[v, .slice none 0 c]).run P w = .ok v w := by
  rcases hown.2 with ⟨rfl, rfl⟩ | ⟨g, cap, cur, rfl, _, _, hnc, _⟩
  · simp [Builtin.append_, run_underlying ht, sizeOf, typeInfo, hi, Builtin.lenOf, Builtin.firstCells]
  · simp [Builtin.append_, run_underlying ht, sizeOf, typeInfo, hi, Builtin.lenOf, Builtin.firstCells, hnc, storeCells]

theorem run_append_any (base : Nat) (t ty e : TypeId) (i : TypeInfo) (z : Value) (size bytes : Nat) (ht : P.underlying t = some (.slice e)) (hi : P.info? e = some i) (hz : i.zero = some z)
    (hsize : i.size = size) (hby : i.bytes = bytes) (hzs : z.cells.size = size) (hsz : 0 < size)
    (v : Value) (n : Nat) (xs : List Value) (hown : w.ownsRow base e size v n xs)
    (B : Nat) (A : Option Addr) (m c : Nat) (news : List Value) (hr : Reads w B size A m news) (h1 : ∀ u ∈ news, u.oneCell' = true)
    (h63 : n + m ≤ maxLen) (hbytes : (n + m) * bytes ≤ 140737488355328) (hbase : base ≤ w.heap.size) :
    ∃ v' w', (Builtin.append_ #[t, t] ty #[v, .slice A m c]).run P w = .ok v' w' ∧ w'.ownsRow base e size v' (n + m) (xs ++ news) ∧ w.grownBy w' v.ownBlock ∧
      (v'.ownBlock = v.ownBlock ∨ v'.ownBlock = some w.heap.size) := by
  rcases A with _ | ad
  · have hm : m = 0 := by
      rcases Nat.eq_zero_or_pos m with h0 | h0
      · exact h0
      · obtain ⟨ad, h, _⟩ := hr.2 h0
        cases h
    subst hm
    have hn : news = [] := List.eq_nil_of_length_eq_zero (by simpa using hr.1)
    subst hn
    exact ⟨v, w, run_append_of_nil w base t ty e i size ht hi v n xs hown c, by simpa using hown, World.grownBy.refl w _, .inl rfl⟩
  · have hcells : ∀ j u, news[j]? = some u → w.cell? (ad.add j) = some u := by
      intro j u hu
      rcases Nat.eq_zero_or_pos m with h0 | h0
      · subst h0
        have hn : news = [] := List.eq_nil_of_length_eq_zero (by simpa using hr.1)
        subst hn
        simp at hu
      · obtain ⟨ad', h, _, hc⟩ := hr.2 h0
        injection h with h
        subst h
        exact hc j u hu
    obtain ⟨v', w', hrun, h2, h3, _, h5⟩ := run_append_own_at (P := P) w base t ty e i z size bytes ht hi hz hsize hby hzs hsz v n xs hown ad m c news hr.1 hcells h1 h63 hbytes hbase
    exact ⟨v', w', hrun, h2, h3, h5⟩

theorem wp_append_any {o : Oper} {a : Act} {K : Act → World → Prop} {Q : Exit → Act → World → Prop} (s x : Operand) (t : TypeId)
    (ho : o.op = .call { callee := .builtin .append, args := #[s, x], argTypes := #[t, t] })
    (base : Nat) (e : TypeId) (i : TypeInfo) (z : Value) (size bytes : Nat) (ht : P.underlying t = some (.slice e)) (hi : P.info? e = some i) (hz : i.zero = some z)
    (hsize : i.size = size) (hby : i.bytes = bytes) (hzs : z.cells.size = size) (hsz : 0 < size)
    (v : Value) (n : Nat) (xs : List Value) (hs : a.eval s = v) (hown : w.ownsRow base e size v n xs)
    (B : Nat) (A : Option Addr) (m c : Nat) (news : List Value) (hx : a.eval x = .slice A m c) (hr : Reads w B size A m news) (h1 : ∀ u ∈ news, u.oneCell' = true)
    (h63 : n + m ≤ maxLen) (hbytes : (n + m) * bytes ≤ 140737488355328) (hbase : base ≤ w.heap.size)
    (h : ∀ v' w', w'.ownsRow base e size v' (n + m) (xs ++ news) → w.grownBy w' v.ownBlock → (v'.ownBlock = v.ownBlock ∨ v'.ownBlock = some w.heap.size) → K (a.put o.dst v') w') : o.wp P a w K Q := by
  obtain ⟨v', w', hrun, h2, h3, h4⟩ := run_append_any (P := P) w base t o.type e i z size bytes ht hi hz hsize hby hzs hsz v n xs hown B A m c news hr h1 h63 hbytes hbase
  unfold Oper.wp execOp
  simp only [ho, resolve, invoke, builtin, Sem.run_bind, Sem.run_pure, Result.andThen_ok, List.map_toArray, List.map_cons, List.map_nil, hs, hx, hrun]
  exact h v' w' h2 h3 h4

theorem wpList_append_any {ops : Array Oper} {rest : List Oper} {o : Oper} {a : Act} {Q : Exit → Act → World → Prop} (hgd : o.guard = none) (s x : Operand) (t : TypeId)
    (ho : o.op = .call { callee := .builtin .append, args := #[s, x], argTypes := #[t, t] })
    (base : Nat) (e : TypeId) (i : TypeInfo) (z : Value) (size bytes : Nat) (ht : P.underlying t = some (.slice e)) (hi : P.info? e = some i) (hz : i.zero = some z)
    (hsize : i.size = size) (hby : i.bytes = bytes) (hzs : z.cells.size = size) (hsz : 0 < size)
    (v : Value) (n : Nat) (xs : List Value) (hs : a.eval s = v) (hown : w.ownsRow base e size v n xs)
    (B : Nat) (A : Option Addr) (m c : Nat) (news : List Value) (hx : a.eval x = .slice A m c) (hr : Reads w B size A m news) (h1 : ∀ u ∈ news, u.oneCell' = true)
    (h63 : n + m ≤ maxLen) (hbytes : (n + m) * bytes ≤ 140737488355328) (hbase : base ≤ w.heap.size)
    (h : ∀ v' w', w'.ownsRow base e size v' (n + m) (xs ++ news) → w.grownBy w' v.ownBlock → (v'.ownBlock = v.ownBlock ∨ v'.ownBlock = some w.heap.size) → wpList P ops Q rest (a.put o.dst v') w') : wpList P ops Q (o :: rest) a w :=
  wpList_plain hgd fun _ hK => wp_append_any w s x t ho base e i z size bytes ht hi hz hsize hby hzs hsz v n xs hs hown B A m c news hx hr h1 h63 hbytes hbase fun v' w' h2 h3 h4 => hK _ _ (h v' w' h2 h3 h4)

theorem step_append_any {ops : Array Oper} {o : Oper} {a : Act} {K : Act → World → Prop} {Q : Exit → Act → World → Prop} {E : Prop} (hgd : o.guard = none) (s x : Operand) (t : TypeId)
    (ho : o.op = .call { callee := .builtin .append, args := #[s, x], argTypes := #[t, t] })
    (base : Nat) (e : TypeId) (i : TypeInfo) (z : Value) (size bytes : Nat) (ht : P.underlying t = some (.slice e)) (hi : P.info? e = some i) (hz : i.zero = some z)
    (hsize : i.size = size) (hby : i.bytes = bytes) (hzs : z.cells.size = size) (hsz : 0 < size)
    (v : Value) (n : Nat) (xs : List Value) (hs : a.eval s = v) (hown : w.ownsRow base e size v n xs)
    (B : Nat) (A : Option Addr) (m c : Nat) (news : List Value) (hx : a.eval x = .slice A m c) (hr : Reads w B size A m news) (h1 : ∀ u ∈ news, u.oneCell' = true)
    (h63 : n + m ≤ maxLen) (hbytes : (n + m) * bytes ≤ 140737488355328) (hbase : base ≤ w.heap.size)
    (h : ∀ v' w', w'.ownsRow base e size v' (n + m) (xs ++ news) → w.grownBy w' v.ownBlock → (v'.ownBlock = v.ownBlock ∨ v'.ownBlock = some w.heap.size) → K (a.put o.dst v') w') :
    if Region.wanted o (yielded ops a.tmps) = true then Oper.wp P o a w K Q else E := by
  have hw : Region.wanted o (yielded ops a.tmps) = true := by simp [Region.wanted, hgd]
  rw [if_pos hw]
  exact wp_append_any w s x t ho base e i z size bytes ht hi hz hsize hby hzs hsz v n xs hs hown B A m c news hx hr h1 h63 hbytes hbase h
end


/-- Only blocks of S, and what is new, may have changed. -/
structure Kp (S : Nat → Prop) (w w' : World) : Prop where
  os : w'.os = w.os
  tape : w'.tape = w.tape
  output : w'.output = w.output
  size : w.heap.size ≤ w'.heap.size
  block : ∀ k, k < w.heap.size → ¬ S k → w'.heap[k]? = w.heap[k]?

theorem below_keep {w w' : World} (h : Below w.heap.size w w') {p : Addr} {x : Value} (hc : w.cell? p = some x) : w'.cell? p = some x := (h.cell (World.block_lt_of_cell? _ _ hc)).trans hc
theorem below_drewN {B : Nat} {a w : World} (h : Below B a w) (n : Nat) : Below B a (w.drewN n) := ⟨h.os, h.tape, h.output, h.size, h.block⟩

section
variable {S S' : Nat → Prop} {w w1 w' : World}
theorem Kp.refl (S : Nat → Prop) (w : World) : Kp S w w := ⟨rfl, rfl, rfl, Nat.le_refl _, fun _ _ _ => rfl⟩
theorem Kp.of_below (h : Below w.heap.size w w') : Kp S w w' := ⟨h.os, h.tape, h.output, h.size, fun k hk _ => h.block k hk⟩
theorem Kp.trans (h : Kp S w w1) (k : Kp S' w1 w') (hs : ∀ b, b < w.heap.size → S' b → S b) : Kp S w w' :=
  ⟨k.os.trans h.os, k.tape.trans h.tape, k.output.trans h.output, Nat.le_trans h.size k.size, fun b hb hn =>
    (k.block b (Nat.lt_of_lt_of_le hb h.size) (fun hb' => hn (hs b hb hb'))).trans (h.block b hb hn)⟩
theorem Kp.mono (h : Kp S w w') (hs : ∀ b, b < w.heap.size → S b → S' b) : Kp S' w w' := ⟨h.os, h.tape, h.output, h.size, fun b hb hn => h.block b hb (fun hb' => hn (hs b hb hb'))⟩
theorem Kp.drewN (h : Kp S w w') (n : Nat) : Kp S w (w'.drewN n) := ⟨h.os, h.tape, h.output, h.size, h.block⟩
theorem Kp.alloc (h : Kp S w w') (o : Obj) : Kp S w (w'.alloc o) := ⟨h.os, h.tape, h.output, Nat.le_trans h.size (by simp), fun b hb hn => (Below.heap_alloc w' o b (Nat.lt_of_lt_of_le hb h.size)).trans (h.block b hb hn)⟩
theorem Kp.setCell (h : Kp S w w') {p : Addr} (hp : S p.block ∨ w.heap.size ≤ p.block) (u : Value) : Kp S w (w'.setCell p u) :=
  ⟨h.os, h.tape, h.output, by simpa [World.setCell] using h.size, fun b hb hn => (Below.heap_setCell w' p u b (by
    rintro rfl
    rcases hp with hp | hp
    · exact hn hp
    · omega)).trans (h.block b hb hn)⟩
/-- What may change is new: then nothing below has. -/
theorem Kp.below {B : Nat} {a : World} (h : Below B a w) (k : Kp S w w') (hB : B ≤ w.heap.size) (hs : ∀ b, b < B → ¬ S b) : Below B a w' :=
  ⟨k.os.trans h.os, k.tape.trans h.tape, k.output.trans h.output, Nat.le_trans h.size k.size, fun b hb => (k.block b (by omega) (hs b hb)).trans (h.block b hb)⟩
theorem Kp.blk {g : Nat} {t : TypeId} {cs : Array Value} (h : Kp S w w') (hb : Blk w g t cs) (hs : ¬ S g) : Blk w' g t cs := (h.block g hb.lt hs).trans hb
theorem Kp.cell (h : Kp S w w') {p : Addr} {v : Value} (hc : w.cell? p = some v) (hs : ¬ S p.block) : w'.cell? p = some v :=
  (World.cell?_of_block (h.block p.block (World.block_lt_of_cell? _ _ hc) hs)).trans hc
theorem Reads.kp {B size n : Nat} {A : Option Addr} {xs : List Value} (h : Reads w B size A n xs) (k : Kp S w w') (hB : B ≤ w.heap.size) (hs : ∀ b, b < B → ¬ S b) : Reads w' B size A n xs :=
  h.keep fun p hp => World.cell?_of_block (k.block p.block (by omega) (hs _ hp))
end

theorem blk_set4 {w : World} {g : Nat} {t : TypeId} {a0 a1 a2 a3 : Value} (h : Blk w g t #[a0, a1, a2, a3]) (c0 c1 c2 c3 : Value) :
    Blk ((((w.setCell ⟨g, 0, none⟩ c0).setCell ⟨g, 1, none⟩ c1).setCell ⟨g, 2, none⟩ c2).setCell ⟨g, 3, none⟩ c3) g t #[c0, c1, c2, c3] := by
  have := (((h.set_ 0 c0).set_ 1 c1).set_ 2 c2).set_ 3 c3
  simpa using this
theorem kp_set4 {S : Nat → Prop} {w0 w : World} {g : Nat} (h : Kp S w0 w) (hg : S g ∨ w0.heap.size ≤ g) (c0 c1 c2 c3 : Value) :
    Kp S w0 ((((w.setCell ⟨g, 0, none⟩ c0).setCell ⟨g, 1, none⟩ c1).setCell ⟨g, 2, none⟩ c2).setCell ⟨g, 3, none⟩ c3) :=
  (((h.setCell (p := ⟨g, 0, none⟩) hg _).setCell (p := ⟨g, 1, none⟩) hg _).setCell (p := ⟨g, 2, none⟩) hg _).setCell (p := ⟨g, 3, none⟩) hg _
theorem kp_none {w w' : World} (h : Kp (fun _ => False) w w') : Below w.heap.size w w' := Kp.below (Below.refl w.heap.size w) h (Nat.le_refl _) (fun _ _ h => h)
theorem blk_set2 {w : World} {g : Nat} {t : TypeId} {a0 a1 : Value} (h : Blk w g t #[a0, a1]) (c0 c1 : Value) : Blk ((w.setCell ⟨g, 0, none⟩ c0).setCell ⟨g, 1, none⟩ c1) g t #[c0, c1] := by
  have := (h.set_ 0 c0).set_ 1 c1
  simpa using this
theorem kp_set2 {S : Nat → Prop} {w0 w : World} {g : Nat} (h : Kp S w0 w) (hg : S g ∨ w0.heap.size ≤ g) (c0 c1 : Value) : Kp S w0 ((w.setCell ⟨g, 0, none⟩ c0).setCell ⟨g, 1, none⟩ c1) :=
  (h.setCell (p := ⟨g, 0, none⟩) hg _).setCell (p := ⟨g, 1, none⟩) hg _
theorem kp_undrew {S : Nat → Prop} {w w' : World} (h : Kp S w.drew w') : Kp S w w' := ⟨h.os, h.tape, h.output, h.size, h.block⟩
theorem kp_setTwo {S : Nat → Prop} {w0 w : World} {g : Nat} (h : Kp S w0 w) (hg : S g ∨ w0.heap.size ≤ g) (i j : Nat) (c0 c1 : Value) : Kp S w0 ((w.setCell ⟨g, i, none⟩ c0).setCell ⟨g, j, none⟩ c1) :=
  (h.setCell (p := ⟨g, i, none⟩) hg _).setCell (p := ⟨g, j, none⟩) hg _
theorem own_form {w : World} {base : Nat} {e : TypeId} {size : Nat} {v : Value} {n : Nat} {xs : List Value} (h : w.ownsRow base e size v n xs) : ∃ A c, v = .slice A n c := by
  rcases h.2 with ⟨rfl, rfl⟩ | ⟨g, cap, cur, rfl, _⟩
  · exact ⟨none, 0, rfl⟩
  · exact ⟨_, _, rfl⟩

theorem ret_int {k : IntKind} {a b : Int} (h : a = b) : Ending.returned (.int k a) = .returned (.int k b) := by rw [h]
theorem ret_bool {a b : Bool} (h : a = b) : Ending.returned (.bool a) = .returned (.bool b) := by rw [h]

/-- This value comes back; nothing but draws happens. -/
def Gives (v : Value) (w : World) (e : Ending) (w' : World) : Prop := e = .returned v ∧ ∃ n, w' = w.drewN n
/-- This value comes back; nothing that was there has changed. -/
def Makes (v : Value) (w : World) (e : Ending) (w' : World) : Prop := e = .returned v ∧ Below w.heap.size w w'
/-- The call answers true; nothing that was there has changed. -/
def Okay (w : World) (e : Ending) (w' : World) : Prop := e = .returned (.bool true) ∧ Below w.heap.size w w'

/-- Numbers of a list, as cells. -/
def nums (k : IntKind) (l : List Int) : List Value := l.map (Value.int k)
theorem nums_one (k : IntKind) (l : List Int) : ∀ u ∈ nums k l, u.oneCell' = true := by
  intro u hu
  simp only [nums, List.mem_map] at hu
  obtain ⟨a, _, rfl⟩ := hu
  rfl
theorem nums_get (k : IntKind) (l : List Int) (i : Nat) (h : i < l.length) : (nums k l)[i]? = some (.int k (l.getD i 0)) := by
  simp [nums, List.getD_eq_getElem?_getD, h]
theorem nums_length (k : IntKind) (l : List Int) : (nums k l).length = l.length := by simp [nums]
theorem Reads.num {w : World} {B : Nat} {A : Option Addr} {k : IntKind} {l : List Int} {n : Nat} (h : Reads w B 1 A n (nums k l)) {i : Nat} (hi : i < l.length) : ∃ ad, A = some ad ∧ ad.block < B ∧ w.cell? (ad.add i) = some (.int k (l.getD i 0)) := by
  have hn : i < n := by have := h.1; rw [nums_length] at this; omega
  obtain ⟨ad, e, hb, hc⟩ := h.2 (by omega)
  exact ⟨ad, e, hb, hc i _ (nums_get k l i hi)⟩
theorem Reads.len {w : World} {B : Nat} {A : Option Addr} {k : IntKind} {l : List Int} {n : Nat} (h : Reads w B 1 A n (nums k l)) : n = l.length := by have := h.1; rw [nums_length] at this; omega
end Go.Proofs.YtgjcofoicnnnhaaDoor

/- Contracts of package seg, of its reference, and of what they call. -/
namespace Go.Proofs.YtgjcofoicnnnhaaDoor
open Go.RowKit

/-- May a shape be? -/
def rightB (z zb bl rs : Int) : Bool := decide (6 ≤ z ∧ z ≤ 256 ∧ 8 ≤ zb ∧ zb ≤ 4096 ∧ (bl = 64 ∨ bl = 128 ∨ bl = 256 ∨ bl = 512 ∨ bl = 1024 ∨ bl = 2048 ∨ bl = 4096) ∧ 2 ≤ rs ∧ rs ≤ z - 4)

def powB (bl : Int) : Bool := bits .and .i64 bl (bl - 1) != 0
theorem pow_all : (List.range 4097).all (fun n => decide (n < 64) || (powB n == !(n == 64 || n == 128 || n == 256 || n == 512 || n == 1024 || n == 2048 || n == 4096))) = true := by kernel_rfl
theorem pow_at (bl : Int) (h1 : 64 ≤ bl) (h2 : bl ≤ 4096) : powB bl = !decide (bl = 64 ∨ bl = 128 ∨ bl = 256 ∨ bl = 512 ∨ bl = 1024 ∨ bl = 2048 ∨ bl = 4096) := by
  obtain ⟨n, rfl⟩ := Int.eq_ofNat_of_zero_le (show 0 ≤ bl by omega)
  have := List.all_eq_true.1 pow_all n (List.mem_range.2 (by omega))
  simp only [Bool.or_eq_true, decide_eq_true_eq, beq_iff_eq] at this
  rcases this with h | h
  · omega
  · rw [h]
    congr 1
    rw [Bool.eq_iff_iff]
    simp
    omega

theorem pow_t (bl : Int) (h1 : 64 ≤ bl) (h2 : bl ≤ 4096) (h : (bits .and .i64 bl (bl - 1) != 0) = true) : ¬ (bl = 64 ∨ bl = 128 ∨ bl = 256 ∨ bl = 512 ∨ bl = 1024 ∨ bl = 2048 ∨ bl = 4096) := by
  have := pow_at bl h1 h2
  unfold powB at this
  rw [h] at this
  simpa using this.symm
theorem pow_f (bl : Int) (h1 : 64 ≤ bl) (h2 : bl ≤ 4096) (h : (bits .and .i64 bl (bl - 1) != 0) = false) : bl = 64 ∨ bl = 128 ∨ bl = 256 ∨ bl = 512 ∨ bl = 1024 ∨ bl = 2048 ∨ bl = 4096 := by
  have := pow_at bl h1 h2
  unfold powB at this
  rw [h] at this
  exact of_decide_eq_true (by simpa only [Bool.not_eq_eq_eq_not, Bool.not_false] using this.symm)

theorem right_any (z zb bl rs : Int) (w : World) (hz : -9223372036854775808 ≤ z ∧ z ≤ 9223372036854775807) (hb : -9223372036854775808 ≤ bl ∧ bl ≤ 9223372036854775807) :
    Calls Tryd.prog 40 #[.agg #[.int .i64 z, .int .i64 zb, .int .i64 bl, .int .i64 rs]] w (Makes (.bool (rightB z zb bl rs)) w) := by
  go_enter Tryd.func40, Tryd.ntmps40
  go_wp2
  all_goals go_ret
  all_goals refine ⟨?_, (Below.refl _ _).alloc (Nat.le_refl _) _⟩
  all_goals first
    | exact ret_bool (decide_eq_false (by omega)).symm
    | exact ret_bool (decide_eq_false (by have := pow_t bl (by omega) (by omega) (by assumption); omega)).symm
    | (have hp := pow_f bl (by omega) (by omega) (by assumption)
       exact ret_bool (decide_eq_decide.2 (by omega)))

/-- Is it a block's size? -/
def PW (bl : Int) : Prop := bl = 64 ∨ bl = 128 ∨ bl = 256 ∨ bl = 512 ∨ bl = 1024 ∨ bl = 2048 ∨ bl = 4096
instance (bl : Int) : Decidable (PW bl) := by unfold PW; infer_instance
def PX (x : Int) : Prop := x = 64 ∨ x = 128 ∨ x = 256 ∨ x = 512 ∨ x = 1024 ∨ x = 2048 ∨ x = 4096 ∨ x = 8192
theorem pw_step (x bl : Int) (hx : PX x) (h : x ≤ 4096) : PX (2 * x) ∧ (decide (PW bl ∧ bl < 2 * x) = (decide (PW bl ∧ bl < x) || (x == bl))) := by
  refine ⟨by unfold PX at *; omega, ?_⟩
  rw [Bool.eq_iff_iff]
  simp only [Bool.or_eq_true, decide_eq_true_eq, beq_iff_eq]
  unfold PX PW at *
  omega

/-- The numbers of a byte's slice stand so in a block. -/
theorem mul_one_any (n : Nat) (hn : n ≤ 65536) (w : World) : Calls Tryd.prog 86 #[.int .u64 1, .int .u64 n] w fun e w' => e = .returned (.tuple #[.int .u64 0, .int .u64 n]) ∧ w = w' := by
  have h1 : bits .and .u64 1 4294967295 = 1 := by kernel_rfl
  have h0 : bits .and .u64 0 4294967295 = 0 := by kernel_rfl
  have h2 : bits .and .u64 (n : Int) 4294967295 = n := by
    have e := u64_and_nat n 4294967295 (by omega) (by omega)
    rw [show ((4294967295 : Nat) : Int) = 4294967295 from rfl] at e
    rw [e, show (4294967295 : Nat) = 2 ^ 32 - 1 from rfl, Nat.and_two_pow_sub_one_eq_mod, Nat.mod_eq_of_lt (by omega)]
  have h3 : (n : Int) / 4294967296 = 0 := by omega
  go_enter Tryd.func86, Tryd.ntmps86
  go_wp2
  go_ret2
  exact ⟨rfl, rfl⟩

theorem mulu_any (n : Nat) (hn : n ≤ 65536) (w : World) : Calls Tryd.prog 75 #[.int .u64 1, .int .u64 n] w fun e w' => e = .returned (.tuple #[.int .u64 0, .int .u64 n]) ∧ w = w' := by
  have H := Lib.hid (mul_one_any n hn)
  go_enter Tryd.func75, Tryd.ntmps75
  go_wp2_with (go_at_call 86; refine (H.out _).mono ?_; rintro e w' ⟨rfl, rfl⟩)
  go_ret2
  exact ⟨rfl, rfl⟩

end Go.Proofs.YtgjcofoicnnnhaaDoor

/- Contracts of package seg, of its reference, and of what they call: bytes laid again and again; places in a list. -/
namespace Go.Proofs.YtgjcofoicnnnhaaDoor
open Go.RowKit
set_option maxRecDepth 20000

/-- The first k of n bytes are v, the others nought. -/
def fillv (v : Int) (n k : Nat) : List Value := List.replicate k (.int .u8 v) ++ List.replicate (n - k) (.int .u8 0)
theorem fillv_length (v : Int) (n k : Nat) (h : k ≤ n) : (fillv v n k).length = n := by simp [fillv]; omega
theorem fillv_get (v : Int) (n k i : Nat) (h : i < k) : (fillv v n k)[i]? = some (.int .u8 v) := by
  unfold fillv
  rw [List.getElem?_append_left (by simpa using h)]
  simp [h]
theorem fillv_splice (v : Int) (n k m : Nat) (h : k + m ≤ n) : splice (fillv v n k) k (List.replicate m (.int .u8 v)) = fillv v n (k + m) := by
  unfold splice fillv
  rw [List.take_append_of_le_length (by simp), List.take_of_length_le (by simp), List.length_replicate, List.drop_append]
  simp only [List.length_replicate]
  rw [List.drop_eq_nil_of_le (by simp), List.nil_append, List.drop_replicate, ← List.append_assoc, List.replicate_append_replicate]
  congr 2; omega

theorem u8_info : (Tryd.prog.info? 5).map (fun i => (i.zero, i.size, i.bytes)) = some (some (.int .u8 0), 1, 1) := by kernel_rfl

set_option maxRecDepth 20000 in
theorem run_make_u8 (n : Nat) (h : n ≤ 65536) (w : World) : (Instr.makeSlice 35 (.int .i64 (n : Int)) (.int .i64 (n : Int))).run Tryd.prog w = .ok (.slice (some ⟨w.heap.size, 0, none⟩) n n) (w.alloc (.cells (fillv 0 n 0).toArray 5)) := by
  obtain ⟨i, hi, hz, hs, hb⟩ := info_parts u8_info
  have hr := run_make (P := Tryd.prog) w 35 5 i (.int .u8 0) Tryd.underlying35 hi hz .i64 .i64 n n (by omega) (by omega) (by rw [hb]; omega) (by omega)
  simp only [Int.toNat_natCast] at hr
  rw [hr, hs, Nat.mul_one]
  congr 3
  refine Array.ext (by simp [madeCells, fillv]) (fun j h1 h2 => ?_)
  have e : (Value.int IntKind.u8 0).cells = #[Value.int IntKind.u8 0] := rfl
  simp [madeCells, fillv, e, Nat.mod_one]

theorem one_byte {v : Int} : ∀ u ∈ [Value.int .u8 v], u.oneCell' = true := by
  intro u hu
  simp at hu
  subst hu
  rfl

set_option maxHeartbeats 400000 in
theorem repeat_any (v : Int) (n c : Nat) (A : Option Addr) (hn1 : 1 ≤ n) (hn : n ≤ 65536) (w : World) (h : Reads w w.heap.size 1 A 1 [.int .u8 v]) :
    Calls Tryd.prog 61 #[.slice A 1 c, .int .i64 n] w fun e w' => ∃ g, e = .returned (.slice (some ⟨g, 0, none⟩) n n) ∧ w.heap.size ≤ g ∧ Blk w' g 5 (fillv v n n).toArray ∧ Below w.heap.size w w' := by
  obtain ⟨ad, u, rfl, hb, hu, hc⟩ := h.at_ (k := 0) (by omega)
  have hc : w.cell? ad = some (.int .u8 v) := by
    simp at hu
    subst hu
    simpa [Addr.add] using hc
  have hmk := run_make_u8 n hn
  have HF := Lib.hid (fun k m h => fillv_splice v n k m h)
  have HL := Lib.hid (fun k h => fillv_length v n k h)
  have HG := Lib.hid (fun k i h => fillv_get v n k i h)
  have hz : fillv 0 n 0 = fillv v n 0 := by simp [fillv]
  rw [hz] at hmk
  clear hz h hu
  have hsz : (Tryd.prog.info? 5).map (·.size) = some 1 := by kernel_rfl
  have HSZ := Lib.hid hsz
  have HC2 : Hid (0 + [Value.int .u8 v].length ≤ (fillv v n 0).length) := by unfold Hid; rw [fillv_length v n 0 (by omega)]; simpa using hn1
  clear hsz
  generalize hfv : fillv v n = fv at *
  clear hfv
  have HC0 : Hid ((w.alloc (.cells (fv 0).toArray 5)).heap[w.heap.size]? = some (.cells (fv 0).toArray 5 (0, 0))) := heap_alloc_new w _
  have HC1 : Hid (∀ (j : Nat) (u : Value), [Value.int .u8 v][j]? = some u → (w.alloc (.cells (fv 0).toArray 5)).cell? (ad.add j) = some u) := by
    intro j u hu
    match j, hu with
    | 0, hu =>
      simp at hu
      subst hu
      have := World.block_lt_of_cell? _ _ hc
      rw [World.cell?_alloc_lt w _ _ (by rw [block_of_add]; exact this)]
      simpa [Addr.add] using hc
    | j + 1, hu => simp at hu
  go_enter Tryd.func61, Tryd.ntmps61
  go_wp2_with (first
    | (go_at_call 75; refine (mulu_any _ hn _).mono ?_; rintro e w' ⟨rfl, rfl⟩)
    | (refine wpList_copy_splice rfl (.tmp 31) (.tmp 32) 35 35 rfl 5 Tryd.underlying35 HSZ.out _ _ n n 1 c rfl rfl w.heap.size 0 (fv 0) 5 HC0.out [.int .u8 v] (Nat.min_eq_left hn1).symm (fun _ => ⟨rfl, ad, rfl, HC1.out⟩) (HC2.out) one_byte w.heap.size w ((Below.refl _ _).alloc (Nat.le_refl _) _) (Nat.le_refl _) ?_
       intro w2 hg2 hb2))
  have hg2' := hg2.out
  have h01 := HF.out 0 1 (by omega)
  rw [Nat.zero_add, List.replicate_one] at h01
  rw [h01] at hg2'
  have HG2 := Lib.hid hg2'
  clear hg2' h01 hg2 HC0 HC1 HC2 hmk
  go_wp2_with (fail)
  go_loopw [8] (fun i wr => ∃ k : Nat, 1 ≤ k ∧ k ≤ n ∧ i = .int .i64 k ∧ Hid (wr.heap[w.heap.size]? = some (.cells (fv k).toArray 5 (0, 0))) ∧ Below w.heap.size w wr) (fun i _ => n - (intOf i).toNat)
  case atStart => exact ⟨1, Nat.le_refl _, hn1, rfl, HG2, hb2⟩
  case round =>
    obtain ⟨k, hk1, hkn, rfl, hgk, hbk⟩ := hrel
    by_cases hlt : k < n
    · obtain ⟨m, hm, hm1, hm2, hm3⟩ : ∃ m, Nat.min k (n - k) = m ∧ 1 ≤ m ∧ m ≤ k ∧ k + m ≤ n := by
        rcases Nat.le_total k (n - k) with h | h
        · exact ⟨k, Nat.min_eq_left h, by omega, by omega, by omega⟩
        · exact ⟨n - k, Nat.min_eq_right h, by omega, by omega, by omega⟩
      have HM := Lib.hid hm
      have HFS := Lib.hid (HF.out k m hm3)
      clear hm
      have HSRC : Hid (∀ (j : Nat) (u : Value), (List.replicate m (Value.int IntKind.u8 v))[j]? = some u → wr.cell? ((⟨w.heap.size, 0, none⟩ : Addr).add j) = some u) := by
        intro j u hu
        obtain ⟨hj, hu⟩ := List.getElem?_eq_some_iff.1 hu
        simp only [List.length_replicate] at hj
        simp only [List.getElem_replicate] at hu
        subst hu
        have hb : Blk wr w.heap.size 5 (fv k).toArray := hgk.out
        have hc2 := hb.cell j
        have he : (⟨w.heap.size, 0, none⟩ : Addr).add j = ⟨w.heap.size, j, none⟩ := by unfold Addr.add; split <;> simp_all
        rw [he, hc2, List.getElem?_toArray]
        exact HG.out k j (by omega)
      have HR : Hid (∀ u ∈ List.replicate m (Value.int IntKind.u8 v), u.oneCell' = true) := fun u hu => by rw [(List.mem_replicate.1 hu).2]; rfl
      have HFIT : Hid (k + (List.replicate m (Value.int IntKind.u8 v)).length ≤ (fv k).length) := by unfold Hid; rw [HL.out k hkn, List.length_replicate]; omega
      have HN : Hid ((List.replicate m (Value.int IntKind.u8 v)).length = Nat.min k (n - k)) := by unfold Hid; rw [List.length_replicate]; exact HM.out.symm
      have hlen : (List.replicate m (Value.int IntKind.u8 v)).length = m := by simp
      have HLEN := Lib.hid hlen
      clear hlen
      generalize List.replicate m (Value.int IntKind.u8 v) = cs at *
      have hkm : IntKind.i64.wrap ((k : Int) + (m : Int)) = (k : Int) + m := by rw [IntKind.wrap_i64]; omega
      have hnk : ¬ n = k := by omega
      go_wp2_with (fail)
      go_region_law (refine step_copy_splice rfl (.tmp 41) (.tmp 44) 35 35 rfl 5 Tryd.underlying35 HSZ.out (some ⟨w.heap.size, k, none⟩) (some ⟨w.heap.size, 0, none⟩) (n - k) (n - k) k n ?hd ?hs w.heap.size k (fv k) 5 ?hg cs HN.out (fun _ => ⟨rfl, ⟨w.heap.size, 0, none⟩, rfl, ?hsrc⟩) HFIT.out HR.out w.heap.size w ?hb (Nat.le_refl _) ?_; (case hd => go_simp); (case hs => go_simp); (case hg => exact hgk.out); (case hsrc => exact HSRC.out); (case hb => exact hbk.drew); intro w4 hg4 hb4)
      all_goals
        rw [HFS.out] at hg4
        rw [HLEN.out]
        go_simp
        go_wp2
        go_roundw
        case rel => exact ⟨k + m, by omega, by omega, by go_num, hg4, hb4⟩
        case measure => simp [intOf]; omega
    · have hkk : k = n := by omega
      subst hkk
      go_wp2
      go_ret
      exact ⟨_, rfl, Nat.le_refl _, hgk.out, hbk⟩
end Go.Proofs.YtgjcofoicnnnhaaDoor

/- Rows of bytes: append onto one of the call's own; slices.Clone. -/
namespace Go.Proofs.YtgjcofoicnnnhaaDoor
open Go.RowKit
set_option maxRecDepth 20000

/-- A row of bytes of one's own. -/
def BRow (w : World) (base : Nat) (A : Option Addr) (c : Nat) (xs : List Int) : Prop := w.ownsRow base 5 1 (.slice A xs.length c) xs.length (nums .u8 xs)
theorem nums_app (k : IntKind) (l r : List Int) : nums k (l ++ r) = nums k l ++ nums k r := List.map_append ..
theorem BRow.nil (w : World) (base : Nat) : BRow w base none 0 [] := World.ownsRow_nil w base 5 1
section
variable {w w' : World} {base c : Nat} {A : Option Addr} {xs : List Int}
theorem BRow.reads (h : BRow w base A c xs) : Reads w w.heap.size 1 A xs.length (nums .u8 xs) := Reads.of_own h
theorem BRow.lt (h : BRow w base A c xs) {b : Nat} (hb : (Value.slice A xs.length c).ownBlock = some b) : base ≤ b ∧ b < w.heap.size := World.ownsRow.lt h b hb
theorem BRow.of_block (h : BRow w base A c xs) (hb : ∀ b, (Value.slice A xs.length c).ownBlock = some b → w'.heap[b]? = w.heap[b]?) : BRow w' base A c xs := by
  refine ⟨h.1, ?_⟩
  rcases h.2 with hn | ⟨g, cap, cur, hv, hg, hh, rest⟩
  · exact .inl hn
  · exact .inr ⟨g, cap, cur, hv, hg, (hb g (by rw [hv]; rfl)).trans hh, rest⟩
theorem BRow.below {B : Nat} (h : BRow w base A c xs) (hb : Below B w w') (hB : w.heap.size ≤ B) : BRow w' base A c xs := h.of_block fun b he => hb.block b (Nat.lt_of_lt_of_le (h.lt he).2 hB)
theorem BRow.kp {S : Nat → Prop} (h : BRow w base A c xs) (hk : Kp S w w') (hs : ∀ b, (Value.slice A xs.length c).ownBlock = some b → ¬ S b) : BRow w' base A c xs := h.of_block fun b he => hk.block b (h.lt he).2 (hs b he)
theorem BRow.alloc (h : BRow w base A c xs) (o : Obj) : BRow (w.alloc o) base A c xs := World.ownsRow.alloc h o
theorem BRow.drew (h : BRow w base A c xs) : BRow w.drew base A c xs := h
theorem BRow.drewN (h : BRow w base A c xs) (n : Nat) : BRow (w.drewN n) base A c xs := h
theorem BRow.at_ (h : BRow w base A c xs) {k : Nat} (hk : k < xs.length) : ∃ g, A = some ⟨g, 0, none⟩ ∧ w.cell? ⟨g, k, none⟩ = some (.int .u8 (xs.getD k 0)) := by
  rcases h.2 with ⟨_, h0⟩ | ⟨g, cap, cur, hv, hg, hh, rest⟩
  · omega
  · injection hv with hA
    subst hA
    refine ⟨g, rfl, ?_⟩
    rw [World.ownsRow.cellAt h k (by omega), nums_get .u8 xs k hk]
theorem BRow.frozen {g : Nat} (h : BRow w base (some ⟨g, 0, none⟩) c xs) (k : Nat) : w.frozen? ⟨g, k, none⟩ = false := World.ownsRow.frozenAt h k
theorem BRow.rebase (h : BRow w base A c xs) {base' : Nat} (hb : ∀ b, (Value.slice A xs.length c).ownBlock = some b → base' ≤ b) : BRow w base' A c xs := by
  refine ⟨h.1, ?_⟩
  rcases h.2 with hn | ⟨g, cap, cur, hv, hg, rest⟩
  · exact .inl hn
  · exact .inr ⟨g, cap, cur, hv, hb g (by rw [hv]; rfl), rest⟩
end

/-- 'out = append(out, xs...)' of bytes. -/
theorem wpList_append_u8 (w : World) {ops : Array Oper} {rest : List Oper} {o : Oper} {a : Act} {Q : Exit → Act → World → Prop} (hgd : o.guard = none) (s x : Operand)
    (ho : o.op = .call { callee := .builtin .append, args := #[s, x], argTypes := #[35, 35] }) {base c : Nat} {A : Option Addr} (O : List Int) (hown : BRow w base A c O) {n : Nat} (hn : n = O.length) (hs : a.eval s = .slice A n c)
    {B m c2 : Nat} {A2 : Option Addr} (news : List Int) (hx : a.eval x = .slice A2 m c2) (hr : Reads w B 1 A2 m (nums .u8 news)) (hlen : O.length + m ≤ 100000000) (hbase : base ≤ w.heap.size)
    (h : ∀ A' c' w', BRow w' base A' c' (O ++ news) → Kp (fun i => (Value.slice A O.length c).ownBlock = some i) w w' → ((Value.slice A' (O ++ news).length c').ownBlock = (Value.slice A O.length c).ownBlock ∨ (Value.slice A' (O ++ news).length c').ownBlock = some w.heap.size) →
      wpList Tryd.prog ops Q rest (a.put o.dst (.slice A' (O ++ news).length c')) w') :
    wpList Tryd.prog ops Q (o :: rest) a w := by
  subst hn
  obtain ⟨i0, hi0, hz0, hz1, hz2⟩ := info_parts u8_info
  have hm : m = news.length := by have := hr.1; rw [nums_length] at this; omega
  refine wpList_append_any _ hgd s x _ ho base 5 i0 _ 1 1 Tryd.underlying35 hi0 hz0 hz1 hz2 rfl (by omega) (.slice A O.length c) O.length (nums .u8 O) hs hown _ _ m c2 (nums .u8 news) hx hr (nums_one _ _) (by simp only [maxLen]; omega) (by omega) hbase ?_
  intro v' w' hown' hg hat
  obtain ⟨A', c', rfl⟩ := own_form hown'
  rw [← nums_app, show O.length + m = (O ++ news).length by simp [hm]] at hown'
  rw [show O.length + m = (O ++ news).length by simp [hm]] at hat ⊢
  exact h A' c' w' hown' ⟨hg.os, hg.tape, hg.output, hg.size, fun i hi hn => hg.block i hi (fun e => hn e.symm)⟩ hat

theorem Reads.more_ {w : World} {B size n : Nat} {A : Option Addr} {xs : List Value} (h : Reads w B size A n xs) (hs : 0 < size) : Reads w w.heap.size size A n xs :=
  ⟨h.1, fun hn => by
    obtain ⟨ad, e, hb, hc⟩ := h.2 hn
    have hl : 0 < xs.length := by rw [h.1]; exact Nat.mul_pos hn hs
    have := World.block_lt_of_cell? _ _ (hc 0 xs[0] (List.getElem?_eq_getElem hl))
    rw [block_of_add] at this
    exact ⟨ad, e, this, hc⟩⟩
theorem reads_u8 (w : World) (x : Int) : Reads (w.alloc (.cells #[.int .u8 x] 5)) (w.heap.size + 1) 1 (some ⟨w.heap.size, 0, none⟩) 1 (nums .u8 [x]) := by
  have hb := Blk.new w 5 #[.int .u8 x]
  refine ⟨rfl, fun _ => ⟨_, rfl, Nat.lt_succ_self _, fun j u hu => ?_⟩⟩
  rw [show ((⟨w.heap.size, 0, none⟩ : Addr).add j) = ⟨w.heap.size, j, none⟩ by unfold Addr.add; split <;> simp_all, hb.cell, List.getElem?_toArray]
  exact hu

/-- 'out = append(out, x)' of a byte. -/
theorem wpList_append_byte (w : World) {ops : Array Oper} {rest : List Oper} {o : Oper} {a : Act} {Q : Exit → Act → World → Prop} (hgd : o.guard = none) (s x : Operand)
    (ho : o.op = .call { callee := .builtin .append, args := #[s, x], argTypes := #[35, 35] }) {base c : Nat} {A : Option Addr} (O : List Int) (y : Int) (hown : BRow w base A c O) {n : Nat} (hn : n = O.length) (hs : a.eval s = .slice A n c)
    (hx : a.eval x = .slice (some ⟨w.heap.size, 0, none⟩) 1 1) (hlen : O.length ≤ 1000000) (hbase : base ≤ w.heap.size)
    (h : ∀ A' c' w', BRow w' base A' c' (O ++ [y]) → Kp (fun i => (Value.slice A O.length c).ownBlock = some i) w w' →
      wpList Tryd.prog ops Q rest (a.put o.dst (.slice A' (O ++ [y]).length c')) w') :
    wpList Tryd.prog ops Q (o :: rest) a (w.alloc (.cells #[.int .u8 y] 5)) := by
  refine wpList_append_u8 _ hgd s x ho O (hown.alloc _) hn hs [y] hx (reads_u8 w y) (by omega) (by simp; omega) ?_
  intro A' c' w' h1 h2 _
  exact h A' c' w' h1 (((Kp.refl _ w).alloc _).trans h2 (fun _ _ h => h))

theorem Reads.take_ {w : World} {B size n m : Nat} {A : Option Addr} {xs : List Value} (h : Reads w B size A n xs) (hm : m ≤ n) : Reads w B size A m (xs.take (m * size)) := by
  refine ⟨by rw [List.length_take, h.1, Nat.min_eq_left (Nat.mul_le_mul_right _ hm)], fun h0 => ?_⟩
  obtain ⟨ad, e, hb, hc⟩ := h.2 (by omega)
  refine ⟨ad, e, hb, fun j u hu => hc j u ?_⟩
  rw [List.getElem?_take] at hu
  split at hu
  · exact hu
  · cases hu
theorem nums_drop (k : IntKind) (l : List Int) (n : Nat) : (nums k l).drop n = nums k (l.drop n) := by simp [nums]
theorem nums_take (k : IntKind) (l : List Int) (n : Nat) : (nums k l).take n = nums k (l.take n) := by simp [nums]

set_option maxHeartbeats 400000 in
/-- 'b[lo:hi]' -/
theorem run_cut_u8 (A : Option Addr) (n c lo m : Nat) (h : lo + m ≤ c) (u : World) :
    (Instr.slice 35 (.slice A n c) (some (.int .i64 (lo : Int))) (some (.int .i64 ((lo : Int) + m))) none).run Tryd.prog u = .ok (.slice (if c = lo then A else A.map (·.add lo)) m (c - lo)) u := by
  obtain ⟨i0, hi0, _, hz1, _⟩ := info_parts u8_info
  have hel : Tryd.prog.underlying 35 = some (.slice (Tryd.prog.elem 35)) := by kernel_rfl
  have hsz : (sizeOf (Tryd.prog.elem 35)).run Tryd.prog u = .ok 1 u := by
    have e : Tryd.prog.elem 35 = 5 := by kernel_rfl
    rw [e]
    simp [sizeOf, typeInfo, hi0, hz1]
  rw [run_slice_lh u _ A n c hel .i64 .i64 (lo : Int) ((lo : Int) + m) (by omega) (by omega) (by omega), hsz]
  have e1 : ((lo : Int) + m).toNat = lo + m := by omega
  simp only [Result.andThen, sliced, e1, Int.toNat_natCast, Nat.mul_one, Nat.add_sub_cancel_left]

theorem clone_any (w : World) (B : Nat) (A : Option Addr) (n c : Nat) (xs : List Int) (hr : Reads w B 1 A n (nums .u8 xs)) (hn : n ≤ 100000000) :
    Calls Tryd.prog 35 #[.slice A n c] w fun e w' => ∃ A' c', e = .returned (.slice A' n c') ∧ BRow w' w.heap.size A' c' xs ∧ Below w.heap.size w w' := by
  have hm : n = xs.length := by have := hr.1; rw [nums_length] at this; omega
  subst hm
  have HR := Lib.hid hr
  have hq : ∀ (w : World), (binOp .eql 35 (.slice A xs.length c) (.slice none 0 0)).run Tryd.prog w = .ok (.bool A.isNone) w := fun w => Lib.run_eql_slice_nil w _ 5 A xs.length c 0 0 Tryd.underlying35
  clear hr
  cases A with
  | none =>
    have h0 : xs = [] := by
      rcases Nat.eq_zero_or_pos xs.length with h0 | h0
      · exact List.eq_nil_of_length_eq_zero h0
      · obtain ⟨ad, h, _⟩ := HR.out.2 h0
        cases h
    subst h0
    simp only [Option.isNone, List.length_nil] at hq
    go_enter Tryd.func35, Tryd.ntmps35
    go_wp2
    go_ret
    exact ⟨none, 0, rfl, BRow.nil _ _, Below.refl _ _⟩
  | some ad =>
    simp only [Option.isNone] at hq
    have HOWN : Hid (BRow (w.alloc (.cells #[] 5)) w.heap.size (some ⟨w.heap.size, 0, none⟩) 0 []) := ⟨rfl, .inr ⟨w.heap.size, 0, #[], rfl, Nat.le_refl _, heap_alloc_new w _, Nat.le_refl _, Nat.zero_le _, rfl, rfl⟩⟩
    have HR1 : Hid (Reads (w.alloc (.cells #[] 5)) w.heap.size 1 (some ad) xs.length (nums .u8 xs)) := (HR.out.more_ (by omega)).alloc (Nat.le_refl _) _
    have HL : Hid (([] : List Int).length + xs.length ≤ 100000000) := by unfold Hid; simpa using hn
    have HB : Hid (w.heap.size ≤ (w.alloc (.cells #[] 5)).heap.size) := by unfold Hid; simp
    clear HR
    go_enter Tryd.func35, Tryd.ntmps35
    go_wp2_with (first
      | (at_builtin
         refine wpList_append_u8 _ rfl (.tmp 5) (.tmp 6) rfl [] HOWN.out rfl rfl xs rfl HR1.out HL.out HB.out ?_
         intro A1 c1 w1 hb1 hk1 _
         have H1 := Lib.hid hb1
         have H2 := Lib.hid hk1
         clear hb1 hk1))
    go_ret
    exact ⟨A1, c1, rfl, H1.out, Kp.below ((Below.refl _ w).alloc (Nat.le_refl _) _) H2.out (by simp) (fun b hb e => by simp [Value.ownBlock] at e; omega)⟩
end Go.Proofs.YtgjcofoicnnnhaaDoor

/- Package crc: check sums. -/
namespace Go.Proofs.YtgjcofoicnnnhaaDoor
open Go.RowKit
set_option maxRecDepth 20000

theorem getD_mem {α : Type} {l : List α} {k : Nat} {d : α} (h : k < l.length) : l.getD k d ∈ l := by
  rw [List.getD_eq_getElem?_getD, List.getElem?_eq_getElem h]
  exact List.getElem_mem h
def ByteOk (x : Int) : Prop := 0 ≤ x ∧ x ≤ 255
def U32 (x : Int) : Prop := 0 ≤ x ∧ x ≤ 4294967295
/-- One bit of a sum. -/
def bitS (c : Int) : Int := if c % 2 = 1 then bits .xor .u32 (c / 2) 3988292384 else c / 2
def bitsS : Nat → Int → Int
  | 0, c => c
  | n + 1, c => bitsS n (bitS c)
theorem bitsS_succ (n : Nat) (c : Int) : bitsS (n + 1) c = bitS (bitsS n c) := by
  induction n generalizing c with
  | zero => rfl
  | succ n ih => exact ih (bitS c)
theorem bitsS_add (m n : Nat) (c : Int) : bitsS m (bitsS n c) = bitsS (n + m) c := by
  induction m with
  | zero => rfl
  | succ m ih => rw [bitsS_succ, ih, ← Nat.add_assoc, bitsS_succ]

theorem u32_xor_bd (a b : Int) (ha : U32 a) (hb : U32 b) : U32 (bits .xor .u32 a b) := by
  obtain ⟨n, rfl⟩ := Int.eq_ofNat_of_zero_le ha.1
  obtain ⟨m, rfl⟩ := Int.eq_ofNat_of_zero_le hb.1
  have h1 := ha.2
  have h2 := hb.2
  rw [u32_xor_nat n m (by omega) (by omega)]
  have : n ^^^ m < 2 ^ 32 := Nat.xor_lt_two_pow (by omega) (by omega)
  exact ⟨by omega, by omega⟩
theorem u32_xor_zero (a : Int) (ha : U32 a) : bits .xor .u32 a 0 = a := by
  obtain ⟨n, rfl⟩ := Int.eq_ofNat_of_zero_le ha.1
  have h1 := ha.2
  have := u32_xor_nat n 0 (by omega) (by omega)
  rw [Nat.xor_zero] at this
  exact this
theorem u32_and_one (a : Int) (ha : U32 a) : bits .and .u32 a 1 = a % 2 := by
  obtain ⟨n, rfl⟩ := Int.eq_ofNat_of_zero_le ha.1
  have h1 := ha.2
  have := u32_and_nat n 1 (by omega) (by omega)
  rw [Nat.and_one_is_mod] at this
  exact this
theorem bitS_bd (y : Int) (hy : U32 y) : U32 (bitS y) := by
  unfold bitS
  split
  · exact u32_xor_bd _ _ ⟨by have := hy.1; omega, by have := hy.2; omega⟩ ⟨by omega, by omega⟩
  · exact ⟨by have := hy.1; omega, by have := hy.2; omega⟩
theorem bitsS_bd : ∀ (n : Nat) (y : Int), U32 y → U32 (bitsS n y)
  | 0, _, h => h
  | n + 1, y, h => bitsS_bd n (bitS y) (bitS_bd y h)
theorem step_eq (y : Int) (hy : U32 y) : bits .xor .u32 (y / 2) (bits .and .u32 3988292384 (-bits .and .u32 y 1 % 4294967296)) = bitS y := by
  have h2 : U32 (y / 2) := ⟨by have := hy.1; omega, by have := hy.2; omega⟩
  rw [u32_and_one y hy]
  unfold bitS
  have hp : y % 2 = 0 ∨ y % 2 = 1 := by omega
  rcases hp with h | h
  · rw [h, if_neg (by decide)]
    have : bits .and .u32 3988292384 (-0 % 4294967296) = 0 := by kernel_rfl
    rw [this, u32_xor_zero _ h2]
  · rw [h, if_pos rfl]
    have : bits .and .u32 3988292384 (-1 % 4294967296) = 3988292384 := by kernel_rfl
    rw [this]

theorem half_any (c : Int) (hc : U32 c) (w : World) : Calls Tryd.prog 87 #[.int .u32 c] w fun e w' => e = .returned (.int .u32 (bitsS 4 c)) ∧ w = w' := by
  obtain ⟨h0, h1⟩ := hc
  go_enter Tryd.func87, Tryd.ntmps87
  go_wp2
  go_loop [0, 3] (fun x i => ∃ (k : Nat) (y : Int), k ≤ 4 ∧ 0 ≤ y ∧ y ≤ 4294967295 ∧ i = .int .i64 k ∧ x = .int .u32 y ∧ Hid (y = bitsS k c)) (fun _ i => 4 - (intOf i).toNat)
  case atStart => exact ⟨0, c, by omega, h0, h1, rfl, rfl, rfl⟩
  case round =>
    obtain ⟨k, y, hk, hy0, hy1, rfl, rfl, hy⟩ := hrel
    by_cases hlt : k < 4
    · have hb := bitS_bd y ⟨hy0, hy1⟩
      have HS := Lib.hid (step_eq y ⟨hy0, hy1⟩)
      go_wp2
      go_round
      case rel => exact ⟨k + 1, bitS y, by omega, hb.1, hb.2, by go_num, by rw [HS.out], by unfold Hid; rw [bitsS_succ, ← hy.out]⟩
      case measure => simp [intOf]; omega
    · obtain rfl : k = 4 := by omega
      go_wp2
      go_ret
      exact ⟨ret_int hy.out, rfl⟩

def notS (c : Int) : Int := bits .xor .u32 IntKind.u32.max c
theorem u32_max : IntKind.u32.max = 4294967295 := by kernel_rfl
theorem notS_bd (c : Int) (h : U32 c) : U32 (notS c) := u32_xor_bd _ _ (by rw [u32_max]; exact ⟨by omega, by omega⟩) h
/-- One byte more. -/
def nextS (c b : Int) : Int := notS (bitsS 8 (bits .xor .u32 (notS c) b))
theorem nextA_bd (c b : Int) (hc : U32 c) (hb : ByteOk b) : U32 (bits .xor .u32 (notS c) b) := u32_xor_bd _ _ (notS_bd c hc) ⟨hb.1, by have := hb.2; omega⟩
theorem nextS_bd (c b : Int) (hc : U32 c) (hb : ByteOk b) : U32 (nextS c b) := notS_bd _ (bitsS_bd 8 _ (nextA_bd c b hc hb))
theorem next_any (c b : Int) (hc : U32 c) (hb : ByteOk b) (w : World) : Calls Tryd.prog 78 #[.int .u32 c, .int .u8 b] w fun e w' => e = .returned (.int .u32 (nextS c b)) ∧ w = w' := by
  have H1 := Lib.hid (nextA_bd c b hc hb)
  have H2 := Lib.hid (half_any _ H1.out)
  have H3 := Lib.hid (half_any _ (bitsS_bd 4 _ H1.out))
  have H4 : Hid (notS (bitsS 4 (bitsS 4 (bits .xor .u32 (notS c) b))) = nextS c b) := by unfold Hid nextS; rw [bitsS_add]
  unfold notS at H2 H3 H4
  obtain ⟨c0, c1⟩ := hc
  obtain ⟨b0, b1⟩ := hb
  go_enter Tryd.func78, Tryd.ntmps78
  go_wp2_with (fail)
  refine (H2.out _).mono ?_
  rintro e w' ⟨rfl, rfl⟩
  go_wp2_with (fail)
  refine (H3.out _).mono ?_
  rintro e w' ⟨rfl, rfl⟩
  go_wp2
  go_ret
  exact ⟨ret_int H4.out, rfl⟩

/-- The sum of bytes behind a sum. -/
def sumS : Int → List Int → Int
  | c, [] => c
  | c, b :: r => sumS (nextS c b) r
theorem sumS_app (c : Int) (l r : List Int) : sumS c (l ++ r) = sumS (sumS c l) r := by
  induction l generalizing c with
  | nil => rfl
  | cons b l ih => exact ih (nextS c b)
theorem sumS_bd : ∀ (l : List Int) (c : Int), U32 c → (∀ x ∈ l, ByteOk x) → U32 (sumS c l)
  | [], _, h, _ => h
  | b :: r, c, h, hl => sumS_bd r (nextS c b) (nextS_bd c b h (hl b (by simp))) (fun x hx => hl x (by simp [hx]))
theorem sumS_take (c : Int) (l : List Int) (k : Nat) (h : k < l.length) : sumS c (l.take (k + 1)) = nextS (sumS c (l.take k)) (l.getD k 0) := by
  rw [List.take_succ_eq_append_getElem h, sumS_app, List.getD_eq_getElem?_getD, List.getElem?_eq_getElem h]
  rfl
end Go.Proofs.YtgjcofoicnnnhaaDoor

/- Package zone's device: what it holds; its first contracts. -/
namespace Go.Proofs.YtgjcofoicnnnhaaDoor
open Go.RowKit
set_option maxRecDepth 20000

/-- A shape. -/
structure Sh where
  z : Nat
  zb : Nat
  bl : Nat
  rs : Nat
structure Sh.ok (s : Sh) : Prop where
  is : rightB s.z s.zb s.bl s.rs = true
def shV (s : Sh) : Value := .agg #[.int .i64 s.z, .int .i64 s.zb, .int .i64 s.bl, .int .i64 s.rs]
theorem Sh.ok.facts {s : Sh} (h : s.ok) : 6 ≤ s.z ∧ s.z ≤ 256 ∧ 8 ≤ s.zb ∧ s.zb ≤ 4096 ∧ (s.bl = 64 ∨ s.bl = 128 ∨ s.bl = 256 ∨ s.bl = 512 ∨ s.bl = 1024 ∨ s.bl = 2048 ∨ s.bl = 4096) ∧ 2 ≤ s.rs ∧ s.rs + 4 ≤ s.z := by
  have := of_decide_eq_true h.is
  omega
theorem Sh.ok.blk {s : Sh} (h : s.ok) : 64 ≤ s.bl ∧ s.bl ≤ 4096 := by have := h.facts; omega
theorem sh_of {z zb bl rs : Int} (h : rightB z zb bl rs = true) : ∃ s : Sh, z = s.z ∧ zb = s.zb ∧ bl = s.bl ∧ rs = s.rs ∧ s.ok := by
  have h1 := of_decide_eq_true h
  refine ⟨⟨z.toNat, zb.toNat, bl.toNat, rs.toNat⟩, ?_, ?_, ?_, ?_, ?_⟩
  · simp; omega
  · simp; omega
  · simp; omega
  · simp; omega
  · refine ⟨?_⟩
    rw [← h]
    congr 1 <;> simp <;> omega

/-- A zone: its blocks, how many of them are durable. -/
structure Part where
  bs : List (List Int)
  du : Nat
def pt0 : Part := ⟨[], 0⟩
def Part.by (p : Part) : List Int := p.bs.flatten
structure PartOk (s : Sh) (p : Part) : Prop where
  len : ∀ b ∈ p.bs, b.length = s.bl
  fit : p.bs.length ≤ s.zb
  du : p.du ≤ p.bs.length
  byt : ∀ b ∈ p.bs, ∀ x ∈ b, ByteOk x
theorem PartOk.zero (s : Sh) : PartOk s pt0 := ⟨(fun b hb => by cases hb), Nat.zero_le _, Nat.le_refl _, (fun b hb => by cases hb)⟩
theorem flatten_len {n : Nat} : ∀ {l : List (List Int)}, (∀ b ∈ l, b.length = n) → l.flatten.length = l.length * n
  | [], _ => by simp
  | b :: r, h => by
    have := flatten_len (l := r) (fun x hx => h x (by simp [hx]))
    simp only [List.flatten_cons, List.length_append, List.length_cons]
    rw [this, h b (by simp), Nat.add_mul]
    omega
theorem PartOk.bylen {s : Sh} {p : Part} (h : PartOk s p) : p.by.length = p.bs.length * s.bl := flatten_len h.len
theorem PartOk.bymax {s : Sh} {p : Part} (h : PartOk s p) (hs : s.ok) : p.by.length ≤ 16777216 := by
  rw [h.bylen]
  have h1 := hs.facts
  have h2 := h.fit
  exact Nat.le_trans (Nat.mul_le_mul (show p.bs.length ≤ 4096 by omega) (show s.bl ≤ 4096 by omega)) (by omega)
theorem flatten_cut {n : Nat} : ∀ {l : List (List Int)} (k : Nat), (∀ b ∈ l, b.length = n) → k < l.length → (l.flatten.drop (k * n)).take n = l.getD k []
  | [], k, _, hk => by simp at hk
  | b :: r, 0, h, _ => by
    have := h b (by simp)
    simp [List.getD_eq_getElem?_getD, ← this]
  | b :: r, k + 1, h, hk => by
    have hb := h b (by simp)
    have ih := flatten_cut (l := r) k (fun x hx => h x (by simp [hx])) (by simpa using hk)
    rw [List.flatten_cons, Nat.add_mul, Nat.one_mul, Nat.add_comm, ← List.drop_drop, ← hb, List.drop_left, hb, ih]
    simp [List.getD_eq_getElem?_getD]

/-- A device: its struct is block d, its zones stand in block p, zone i's bytes are the slice V i; none of it lies in X. -/
structure DevV (X : Nat → Prop) (w : World) (d p : Nat) (V : Nat → Value) (cs : Array Value) (s : Sh) (P : List Part) : Prop where
  top : Blk w d 87 #[.int .i64 s.z, .int .i64 s.zb, .int .i64 s.bl, .int .i64 s.rs, .slice (some ⟨p, 0, none⟩) P.length P.length]
  row : Blk w p 89 cs
  cz : cs.size = P.length * 2
  c0 : ∀ i, i < P.length → cs[i * 2]? = some (V i)
  c1 : ∀ i, i < P.length → cs[i * 2 + 1]? = some (.int .i64 (P.getD i pt0).du)
  own : ∀ i, i < P.length → w.ownsRow 0 5 1 (V i) (P.getD i pt0).by.length (nums .u8 (P.getD i pt0).by)
  nx : ∀ i, i < P.length → ∀ b, (V i).ownBlock = some b → ¬ X b ∧ b ≠ d ∧ b ≠ p
  dj : ∀ i j, i < P.length → j < P.length → i ≠ j → ∀ b, (V i).ownBlock = some b → (V j).ownBlock ≠ some b
  xd : ¬ X d
  xp : ¬ X p
  cl : ∀ b, X b → b < w.heap.size
  sz : P.length = s.z
  ok : s.ok
  fit : ∀ i, i < P.length → PartOk s (P.getD i pt0)
def DevIs (X : Nat → Prop) (w : World) (d : Nat) (s : Sh) (P : List Part) : Prop := ∃ p V cs, DevV X w d p V cs s P

theorem ownsRow_of_block {w w' : World} {base : Nat} {e : TypeId} {size : Nat} {v : Value} {n : Nat} {xs : List Value} (h : w.ownsRow base e size v n xs) (hb : ∀ b, v.ownBlock = some b → w'.heap[b]? = w.heap[b]?) : w'.ownsRow base e size v n xs := by
  refine ⟨h.1, ?_⟩
  rcases h.2 with hn | ⟨g, cap, cur, rfl, hg, hh, rest⟩
  · exact .inl hn
  · exact .inr ⟨g, cap, cur, rfl, hg, (hb g rfl).trans hh, rest⟩

section
variable {X X' S : Nat → Prop} {w w' : World} {d p : Nat} {V : Nat → Value} {cs : Array Value} {s : Sh} {P : List Part}
theorem DevV.ne_ (h : DevV X w d p V cs s P) : d ≠ p := h.top.ne_ h.row (by decide)
theorem DevV.vlt (h : DevV X w d p V cs s P) {i : Nat} (hi : i < P.length) {b : Nat} (hb : (V i).ownBlock = some b) : b < w.heap.size := ((h.own i hi).lt b hb).2
theorem DevV.move (h : DevV X w d p V cs s P) (hb : ∀ b, b < w.heap.size → ¬ X b → w'.heap[b]? = w.heap[b]?) (hx : ∀ b, X' b → b < w'.heap.size ∧ (X b ∨ w.heap.size ≤ b)) : DevV X' w' d p V cs s P := by
  have nn : ∀ b, b < w.heap.size → ¬ X b → ¬ X' b := fun b hb hn hx' => by
    rcases (hx b hx').2 with h1 | h1
    · exact hn h1
    · omega
  exact ⟨(hb d h.top.lt h.xd).trans h.top, (hb p h.row.lt h.xp).trans h.row, h.cz, h.c0, h.c1, fun i hi => ownsRow_of_block (h.own i hi) (fun b he => hb b (h.vlt hi he) (h.nx i hi b he).1),
    fun i hi b he => ⟨nn b (h.vlt hi he) (h.nx i hi b he).1, (h.nx i hi b he).2⟩, h.dj, nn d h.top.lt h.xd, nn p h.row.lt h.xp, fun b hx' => (hx b hx').1, h.sz, h.ok, h.fit⟩
theorem DevIs.move (h : DevIs X w d s P) (hb : ∀ b, b < w.heap.size → ¬ X b → w'.heap[b]? = w.heap[b]?) (hx : ∀ b, X' b → b < w'.heap.size ∧ (X b ∨ w.heap.size ≤ b)) : DevIs X' w' d s P := by
  obtain ⟨p, V, cs, h⟩ := h
  exact ⟨p, V, cs, h.move hb hx⟩
theorem DevIs.cl (h : DevIs X w d s P) : ∀ b, X b → b < w.heap.size := by
  obtain ⟨p, V, cs, h⟩ := h
  exact h.cl
theorem DevIs.below (h : DevIs X w d s P) (hb : Below w.heap.size w w') : DevIs X w' d s P :=
  h.move (fun b hlt _ => hb.block b hlt) (fun b hx => ⟨Nat.lt_of_lt_of_le (h.cl b hx) hb.size, .inl hx⟩)
theorem DevIs.kp (h : DevIs X w d s P) (hk : Kp S w w') (hs : ∀ b, S b → X b) : DevIs X w' d s P :=
  h.move (fun b hlt hx => hk.block b hlt (fun hs' => hx (hs b hs'))) (fun b hx => ⟨Nat.lt_of_lt_of_le (h.cl b hx) hk.size, .inl hx⟩)
theorem DevIs.drewN (h : DevIs X w d s P) (n : Nat) : DevIs X (w.drewN n) d s P := h.below ⟨rfl, rfl, rfl, Nat.le_refl _, fun _ _ => rfl⟩
theorem DevIs.drew (h : DevIs X w d s P) : DevIs X w.drew d s P := h.below ⟨rfl, rfl, rfl, Nat.le_refl _, fun _ _ => rfl⟩
theorem DevIs.alloc (h : DevIs X w d s P) (o : Obj) : DevIs X (w.alloc o) d s P := h.below ((Below.refl _ _).alloc (Nat.le_refl _) o)
theorem DevIs.less (h : DevIs X w d s P) (hx : ∀ b, X' b → X b) : DevIs X' w d s P := h.move (fun _ _ _ => rfl) (fun b hb => ⟨h.cl b (hx b hb), .inl (hx b hb)⟩)
theorem DevIs.ok (h : DevIs X w d s P) : s.ok := by
  obtain ⟨p, V, cs, h⟩ := h
  exact h.ok
theorem DevIs.sz (h : DevIs X w d s P) : P.length = s.z := by
  obtain ⟨p, V, cs, h⟩ := h
  exact h.sz
theorem DevIs.fit (h : DevIs X w d s P) {i : Nat} (hi : i < P.length) : PartOk s (P.getD i pt0) := by
  obtain ⟨p, V, cs, h⟩ := h
  exact h.fit i hi
theorem DevV.below (h : DevV X w d p V cs s P) (hb : Below w.heap.size w w') : DevV X w' d p V cs s P :=
  h.move (fun b hlt _ => hb.block b hlt) (fun b hx => ⟨Nat.lt_of_lt_of_le (h.cl b hx) hb.size, .inl hx⟩)
theorem DevV.alloc (h : DevV X w d p V cs s P) (o : Obj) : DevV X (w.alloc o) d p V cs s P := h.below ((Below.refl _ _).alloc (Nat.le_refl _) o)
theorem DevV.t0 (h : DevV X w d p V cs s P) : w.cell? ⟨d, 0, none⟩ = some (.int .i64 s.z) := h.top.cell 0
theorem DevV.t1 (h : DevV X w d p V cs s P) : w.cell? ⟨d, 1, none⟩ = some (.int .i64 s.zb) := h.top.cell 1
theorem DevV.t2 (h : DevV X w d p V cs s P) : w.cell? ⟨d, 2, none⟩ = some (.int .i64 s.bl) := h.top.cell 2
theorem DevV.t3 (h : DevV X w d p V cs s P) : w.cell? ⟨d, 3, none⟩ = some (.int .i64 s.rs) := h.top.cell 3
theorem DevV.t4 (h : DevV X w d p V cs s P) : w.cell? ⟨d, 4, none⟩ = some (.slice (some ⟨p, 0, none⟩) P.length P.length) := h.top.cell 4
theorem DevV.r0 (h : DevV X w d p V cs s P) {i : Nat} (hi : i < P.length) : w.cell? ⟨p, i * 2, none⟩ = some (V i) := (h.row.cell _).trans (h.c0 i hi)
theorem DevV.r1 (h : DevV X w d p V cs s P) {i : Nat} (hi : i < P.length) : w.cell? ⟨p, i * 2 + 1, none⟩ = some (.int .i64 (P.getD i pt0).du) := (h.row.cell _).trans (h.c1 i hi)
theorem DevV.vform (h : DevV X w d p V cs s P) {i : Nat} (hi : i < P.length) : ∃ A c, V i = .slice A (P.getD i pt0).by.length c := own_form (h.own i hi)
end

theorem shape_any (X : Nat → Prop) (w : World) (d : Nat) (s : Sh) (P : List Part) (h : DevIs X w d s P) : Calls Tryd.prog 29 #[.pointer (some ⟨d, 0, none⟩)] w (Makes (shV s) w) := by
  obtain ⟨p, V, cs, h⟩ := h
  have h0 := h.t0
  have h1 := h.t1
  have h2 := h.t2
  have h3 := h.t3
  have hd := h.top.lt
  unfold shV
  clear h
  go_enter Tryd.func29, Tryd.ntmps29
  go_wp2
  go_returns
  exact ⟨rfl, (Below.refl _ _).alloc (Nat.le_refl _) _⟩

theorem has_any (X : Nat → Prop) (w : World) (d : Nat) (s : Sh) (P : List Part) (z : Int) (h : DevIs X w d s P) : Calls Tryd.prog 38 #[.pointer (some ⟨d, 0, none⟩), .int .i64 z] w fun e w' => e = .returned (.bool (decide (0 ≤ z ∧ z < P.length))) ∧ w = w' := by
  obtain ⟨p, V, cs, h⟩ := h
  have h4 := h.t4
  clear h
  by_cases hz : 0 ≤ z
  · have hd : decide (0 ≤ z) = true := decide_eq_true hz
    go_enter Tryd.func38, Tryd.ntmps38
    go_wp2
    go_ret
    exact ⟨ret_bool (by simp [hz]), rfl⟩
  · have hd : decide (0 ≤ z) = false := decide_eq_false hz
    go_enter Tryd.func38, Tryd.ntmps38
    go_wp2
    go_ret
    exact ⟨ret_bool (by simp), rfl⟩

theorem quot_nat (a b : Nat) : (a : Int).tdiv b = ((a / b : Nat) : Int) := rfl
theorem pcount_any (X : Nat → Prop) (w : World) (d : Nat) (s : Sh) (P : List Part) (A : Option Addr) (n c : Nat) (du : Int) (hn : n ≤ 16777216) (h : DevIs X w d s P) : Calls Tryd.prog 39 #[.pointer (some ⟨d, 0, none⟩), .agg #[.slice A n c, .int .i64 du]] w (Makes (.int .i64 ((n / s.bl : Nat) : Int)) w) := by
  obtain ⟨p, V, cs, h⟩ := h
  have h2 := (h.top.alloc (.cells #[.slice A n c, .int .i64 du] 89)).cell 2
  have hd := h.top.lt
  have hb := h.ok.blk
  have hq : n / s.bl ≤ n := Nat.div_le_self _ _
  have hb0 : (s.bl : Int) ≠ 0 := by omega
  clear h
  generalize s.bl = bl at *
  go_enter Tryd.func39, Tryd.ntmps39
  go_wp2
  go_quiet (fail)
  go_wp2
  go_ret
  refine ⟨ret_int ?_, below_drewN ((Below.refl _ _).alloc (Nat.le_refl _) _) _⟩
  rw [← Int.natCast_ediv]
  generalize n / bl = q at *
  unfold wrap64
  omega
theorem pcount_at {X : Nat → Prop} {w : World} {d p : Nat} {V : Nat → Value} {cs : Array Value} {s : Sh} {P : List Part} (h : DevV X w d p V cs s P) {z : Nat} (hz : z < P.length) :
    ∃ A c, V z = .slice A (P.getD z pt0).by.length c ∧ ∀ u du, Below w.heap.size w u → Calls Tryd.prog 39 #[.pointer (some ⟨d, 0, none⟩), .agg #[.slice A (P.getD z pt0).by.length c, .int .i64 du]] u (Makes (.int .i64 ((P.getD z pt0).bs.length : Nat)) u) := by
  obtain ⟨A, c, hA⟩ := h.vform hz
  refine ⟨A, c, hA, fun u du hb => ?_⟩
  have := pcount_any X u d s P A _ c du ((h.fit z hz).bymax h.ok) (DevIs.below ⟨p, V, cs, h⟩ hb)
  have e : (P.getD z pt0).by.length / s.bl = (P.getD z pt0).bs.length := by rw [(h.fit z hz).bylen, Nat.mul_div_cancel _ (by have := h.ok.blk; omega)]
  rw [e] at this
  exact this
end Go.Proofs.YtgjcofoicnnnhaaDoor

/- Package rec: how many items a block has room for; items that may be. -/
namespace Go.Proofs.YtgjcofoicnnnhaaDoor
open Go.RowKit
set_option maxRecDepth 20000

/-- An item of a record. -/
structure It where
  t : Int
  b : Int
  k : Int
  s : Int
  e : Int
def it0 : It := ⟨0, 0, 0, 0, 0⟩
def itV (i : It) : Value := .agg #[.int .u32 i.t, .int .u64 i.b, .int .u8 i.k, .int .u32 i.s, .int .u16 i.e]
/-- May it be? -/
structure ItOk (i : It) : Prop where
  t : 0 ≤ i.t ∧ i.t ≤ 4294967295
  b : 0 ≤ i.b ∧ i.b ≤ 18446744073709551615
  kk : i.k = 1 ∧ i.e ≤ 4096 ∨ i.k = 2 ∧ i.s = 0 ∧ i.e = 0
  s : 0 ≤ i.s ∧ i.s ≤ 4294967295
  e : 0 ≤ i.e ∧ i.e ≤ 65535

def roomN (bl : Nat) : Nat := (bl - 19) / 19
theorem pow_ok {s : Sh} (h : s.ok) : (bits .and .i64 (s.bl : Int) ((s.bl : Int) - 1) != 0) = false := by
  have h1 := h.blk
  have h2 := h.facts.2.2.2.2.1
  have := pow_at s.bl (by omega) (by omega)
  unfold powB at this
  rw [this]
  simp
  omega
theorem room_any (s : Sh) (h : s.ok) (w : World) : Calls Tryd.prog 52 #[.int .i64 s.bl] w fun e w' => e = .returned (.int .i64 (roomN s.bl : Nat)) ∧ w = w' := by
  have hp := pow_ok h
  have h1 := h.blk
  have hq : (roomN s.bl : Nat) = ((s.bl : Int) - 19) / 19 := by unfold roomN; omega
  rw [hq]
  generalize s.bl = bl at *
  clear hq
  go_enter Tryd.func52, Tryd.ntmps52
  go_wp2
  go_ret
  exact ⟨ret_int (by omega), rfl⟩

theorem may_any (i : It) (h : ItOk i) (w : World) : Calls Tryd.prog 70 #[itV i] w (Makes (.bool true) w) := by
  obtain ⟨t, b, k, s, e⟩ := i
  have hs := h.s
  have he := h.e
  have hk := h.kk
  simp only at hs he hk
  unfold itV
  clear h
  rcases hk with ⟨rfl, h2⟩ | ⟨rfl, rfl, rfl⟩
  · go_enter Tryd.func70, Tryd.ntmps70
    go_wp2
    go_ret
    exact ⟨rfl, (Below.refl _ _).alloc (Nat.le_refl _) _⟩
  · go_enter Tryd.func70, Tryd.ntmps70
    go_wp2
    go_ret
    exact ⟨rfl, (Below.refl _ _).alloc (Nat.le_refl _) _⟩

theorem encode1_any (i : It) (h : ItOk i) (w : World) : Calls Tryd.prog 69 #[itV i] w (Makes (.bool false) w) := by
  have HM := Lib.hid (may_any i h)
  clear h
  unfold itV at *
  go_enter Tryd.func69, Tryd.ntmps69
  go_wp2_with (fail)
  refine (HM.out _).mono ?_
  rintro e w1 ⟨rfl, hb⟩
  go_wp2
  go_ret
  exact ⟨rfl, ((Below.refl _ _).alloc (Nat.le_refl _) _).trans (hb.mono (by simp))⟩

/-- An item stands at this place. -/
structure ItAt (w : World) (a : Addr) (i : It) : Prop where
  c0 : w.cell? a = some (.int .u32 i.t)
  c1 : w.cell? ⟨a.block, a.off + 1, none⟩ = some (.int .u64 i.b)
  c2 : w.cell? ⟨a.block, a.off + 2, none⟩ = some (.int .u8 i.k)
  c3 : w.cell? ⟨a.block, a.off + 3, none⟩ = some (.int .u32 i.s)
  c4 : w.cell? ⟨a.block, a.off + 4, none⟩ = some (.int .u16 i.e)
/-- A list of items stands in memory. -/
def ItsAt (w : World) (A : Option Addr) (l : List It) : Prop := ∀ i, i < l.length → ∃ g, A = some ⟨g, 0, none⟩ ∧ ItAt w ⟨g, i * 5, none⟩ (l.getD i it0)
theorem ItAt.below {w w' : World} {a : Addr} {i : It} (h : ItAt w a i) (hb : Below w.heap.size w w') : ItAt w' a i :=
  ⟨below_keep hb h.c0, below_keep hb h.c1, below_keep hb h.c2, below_keep hb h.c3, below_keep hb h.c4⟩
theorem ItsAt.below {w w' : World} {A : Option Addr} {l : List It} (h : ItsAt w A l) (hb : Below w.heap.size w w') : ItsAt w' A l := fun i hi => by
  obtain ⟨g, e, h1⟩ := h i hi
  exact ⟨g, e, h1.below hb⟩

theorem itsfind_any (l : List It) (A : Option Addr) (c : Nat) (w : World) (h : ItsAt w A l) (hok : ∀ i ∈ l, ItOk i) (hn : l.length ≤ 100000) :
    Calls Tryd.prog 80 #[.slice A l.length c, .func (.func 69) #[] #[]] w (Makes (.int .i64 (-1)) w) := by
  have HI := Lib.hid h
  have HO := Lib.hid hok
  clear h hok
  go_enter Tryd.func80, Tryd.ntmps80
  go_wp2_with (fail)
  go_loopw [8] (fun i wr => ∃ k : Nat, k ≤ l.length ∧ i = .int .i64 k ∧ Hid (Below w.heap.size w wr)) (fun i _ => l.length - (intOf i).toNat)
  case atStart => exact ⟨0, Nat.zero_le _, rfl, Below.refl _ _⟩
  case round =>
    obtain ⟨k, hk, rfl, hb⟩ := hrel
    by_cases hlt : k < l.length
    · obtain ⟨g, rfl, hat⟩ := (HI.out.below hb.out) k hlt
      obtain ⟨c0, c1, c2, c3, c4⟩ := hat
      have HE := Lib.hid (fun w => encode1_any (l.getD k it0) (HO.out _ (getD_mem hlt)) w)
      unfold itV at HE
      generalize l.getD k it0 = x at *
      go_wp2_with (fail)
      refine (HE.out _).mono ?_
      rintro e w1 ⟨rfl, hb1⟩
      have HB := Lib.hid (hb.out.trans (hb1.mono hb.out.size))
      clear hb1 c0 c1 c2 c3 c4 hb
      go_wp2
      go_roundw
      case rel => exact ⟨k + 1, by omega, by go_num, HB⟩
      case measure => simp [intOf]; omega
    · obtain rfl : k = l.length := by omega
      go_wp2
      go_ret
      exact ⟨rfl, hb.out⟩

theorem itsok_any (l : List It) (A : Option Addr) (c : Nat) (w : World) (h : ItsAt w A l) (hok : ∀ i ∈ l, ItOk i) (hn : l.length ≤ 100000) :
    Calls Tryd.prog 68 #[.slice A l.length c, .func (.func 69) #[] #[]] w (Makes (.bool false) w) := by
  have HF := Lib.hid (itsfind_any l A c w h hok hn)
  clear h hok
  go_enter Tryd.func68, Tryd.ntmps68
  go_wp2_with (fail)
  refine HF.out.mono ?_
  rintro e w1 ⟨rfl, hb⟩
  go_wp2
  go_ret
  exact ⟨rfl, hb⟩
end Go.Proofs.YtgjcofoicnnnhaaDoor

/- Package crc: the sum of lists of bytes. -/
namespace Go.Proofs.YtgjcofoicnnnhaaDoor
open Go.RowKit
set_option maxRecDepth 20000

/-- Lists of bytes stand in a row. -/
def ListsAt (w : World) (B : Nat) (A : Option Addr) (ls : List (List Int)) : Prop :=
  ∀ i, i < ls.length → ∃ ad Ai ci, A = some ad ∧ w.cell? (ad.add i) = some (.slice Ai (ls.getD i []).length ci) ∧ Reads w B 1 Ai (ls.getD i []).length (nums .u8 (ls.getD i []))
theorem add0 (g i : Nat) : (⟨g, 0, none⟩ : Addr).add i = ⟨g, i, none⟩ := by unfold Addr.add; split <;> simp_all
theorem listsAt_blk {w : World} {B g : Nat} {t : TypeId} {cs : Array Value} {ls : List (List Int)} (hb : Blk w g t cs) (h : ∀ i, i < ls.length → ∃ Ai ci, cs[i]? = some (.slice Ai (ls.getD i []).length ci) ∧ Reads w B 1 Ai (ls.getD i []).length (nums .u8 (ls.getD i []))) : ListsAt w B (some ⟨g, 0, none⟩) ls := fun i hi => by
  obtain ⟨Ai, ci, h1, h2⟩ := h i hi
  exact ⟨_, Ai, ci, rfl, by rw [add0, hb.cell]; exact h1, h2⟩
theorem flat_take (l : List (List Int)) (k : Nat) (h : k < l.length) : (l.take (k + 1)).flatten = (l.take k).flatten ++ l.getD k [] := by
  rw [List.take_succ_eq_append_getElem h, List.flatten_append, List.getD_eq_getElem?_getD, List.getElem?_eq_getElem h]
  simp

theorem sum_any (w : World) (B : Nat) (A : Option Addr) (cp : Nat) (ls : List (List Int)) (h : ListsAt w B A ls) (hby : ∀ l ∈ ls, ∀ x ∈ l, ByteOk x) (hn : ls.length ≤ 1000) (hl : ∀ l ∈ ls, l.length ≤ 100000000) :
    Calls Tryd.prog 66 #[.slice A ls.length cp] w fun e w' => e = .returned (.int .u32 (sumS 0 ls.flatten)) ∧ w = w' := by
  have HA := Lib.hid h
  have HB := Lib.hid hby
  have HL := Lib.hid hl
  clear h hby hl
  go_enter Tryd.func66, Tryd.ntmps66
  go_wp2_with (fail)
  go_loop [3, 10] (fun x i => ∃ (k : Nat) (c : Int), k ≤ ls.length ∧ i = .int .i64 k ∧ x = .int .u32 c ∧ Hid (c = sumS 0 (ls.take k).flatten ∧ U32 c)) (fun _ i => ls.length - (intOf i).toNat)
  case atStart => exact ⟨0, 0, Nat.zero_le _, rfl, rfl, rfl, by omega, by omega⟩
  case round =>
    obtain ⟨k, c, hk, rfl, rfl, hc⟩ := hrel
    by_cases hlt : k < ls.length
    · obtain ⟨ad, Ai, ci, rfl, hcell, hrd⟩ := HA.out k hlt
      have hmem : ls.getD k [] ∈ ls := getD_mem hlt
      have HBK := Lib.hid (HB.out _ hmem)
      have hln := HL.out _ hmem
      have HT := Lib.hid (flat_take ls k hlt)
      have HRD := Lib.hid hrd
      have HLT := Lib.hid hlt
      clear hmem hrd
      generalize ls.getD k [] = b at *
      go_wp2_with (fail)
      go_loop [3, 16] (fun x i => ∃ (j : Nat) (c2 : Int), j ≤ b.length ∧ i = .int .i64 j ∧ x = .int .u32 c2 ∧ Hid (c2 = sumS c (b.take j) ∧ U32 c2)) (fun _ i => b.length - (intOf i).toNat)
      case atStart => exact ⟨0, c, Nat.zero_le _, rfl, rfl, rfl, hc.out.2⟩
      case round =>
        obtain ⟨j, c2, hj, rfl, rfl, hc2⟩ := hrel
        by_cases hlt2 : j < b.length
        · obtain ⟨ai, rfl, _, hcj⟩ := HRD.out.num hlt2
          have HN := Lib.hid (next_any c2 (b.getD j 0) hc2.out.2 (HBK.out _ (getD_mem hlt2)))
          have HN2 : Hid (nextS c2 (b.getD j 0) = sumS c (b.take (j + 1)) ∧ U32 (nextS c2 (b.getD j 0))) := ⟨by rw [sumS_take c b j hlt2, ← hc2.out.1], nextS_bd _ _ hc2.out.2 (HBK.out _ (getD_mem hlt2))⟩
          generalize b.getD j 0 = y at *
          go_wp2_with (fail)
          refine (HN.out _).mono ?_
          rintro e w' ⟨rfl, rfl⟩
          go_wp2
          go_round
          case rel => exact ⟨j + 1, _, by omega, by go_num, rfl, HN2⟩
          case measure => simp [intOf]; omega
        · obtain rfl : j = b.length := by omega
          have HN2 : Hid (c2 = sumS 0 (ls.take (k + 1)).flatten ∧ U32 c2) := ⟨by rw [HT.out, sumS_app, ← hc.out.1, hc2.out.1, List.take_length], hc2.out.2⟩
          have hk1 := HLT.out
          clear hc2 HT
          go_wp2
          go_round
          case rel => exact ⟨k + 1, _, by omega, by go_num, rfl, HN2⟩
          case measure => simp [intOf]; omega
    · obtain rfl : k = ls.length := by omega
      have HC : Hid (c = sumS 0 ls.flatten) := by have := hc.out.1; rw [List.take_length] at this; exact this
      go_wp2
      go_ret
      exact ⟨ret_int HC.out, rfl⟩
end Go.Proofs.YtgjcofoicnnnhaaDoor

/- Package wire: numbers as bytes. -/
namespace Go.Proofs.YtgjcofoicnnnhaaDoor
open Go.RowKit
set_option maxRecDepth 20000

def widthN (n : Int) : Nat := if n = 1 then 1 else if n = 2 then 2 else if n = 4 then 4 else 8
theorem widthN_bd (n : Int) : 1 ≤ widthN n ∧ widthN n ≤ 8 := by
  unfold widthN
  split
  · omega
  · split
    · omega
    · split <;> omega
theorem width_any (n : Int) (w : World) : Calls Tryd.prog 81 #[.int .i64 n] w fun e w' => e = .returned (.int .i64 (widthN n : Nat)) ∧ w = w' := by
  unfold widthN
  by_cases h1 : n = 1
  · subst h1
    go_enter Tryd.func81, Tryd.ntmps81
    go_wp2
    go_ret
    exact ⟨rfl, rfl⟩
  · by_cases h2 : n = 2
    · subst h2
      go_enter Tryd.func81, Tryd.ntmps81
      go_wp2
      go_ret
      exact ⟨rfl, rfl⟩
    · by_cases h4 : n = 4
      · subst h4
        go_enter Tryd.func81, Tryd.ntmps81
        go_wp2
        go_ret
        exact ⟨rfl, rfl⟩
      · rw [if_neg h1, if_neg h2, if_neg h4]
        have e1 : (n == 1) = false := by simpa using h1
        have e2 : (n == 2) = false := by simpa using h2
        have e4 : (n == 4) = false := by simpa using h4
        clear h1 h2 h4
        go_enter Tryd.func81, Tryd.ntmps81
        go_wp2
        go_ret
        exact ⟨rfl, rfl⟩

/-- A number's bytes, the highest first. -/
def beB (w : Nat) (v : Int) : List Int := (List.range w).map (fun i => v / 2 ^ (8 * (w - 1 - i)) % 256)
theorem beB_length (w : Nat) (v : Int) : (beB w v).length = w := by simp [beB]
theorem beB_take (w : Nat) (v : Int) (i : Nat) (h : i < w) : (beB w v).take (i + 1) = (beB w v).take i ++ [v / 2 ^ (8 * (w - 1 - i)) % 256] := by
  rw [List.take_succ_eq_append_getElem (by rw [beB_length]; exact h)]
  simp [beB]
theorem beB_bd (w : Nat) (v : Int) : ∀ x ∈ beB w v, ByteOk x := by
  intro x hx
  obtain ⟨i, _, rfl⟩ := List.mem_map.1 hx
  exact ⟨Int.emod_nonneg _ (by decide), by have := Int.emod_lt_of_pos (v / 2 ^ (8 * (w - 1 - i))) (show (0 : Int) < 256 by decide); omega⟩
def packS (ws vs : List Int) : List Int := (List.zip ws vs).flatMap (fun p => beB (widthN p.1) p.2)
def packTo (ws vs : List Int) (k : Nat) : List Int := ((List.zip ws vs).take k).flatMap (fun p => beB (widthN p.1) p.2)
theorem packTo_all (ws vs : List Int) (k : Nat) (h : min ws.length vs.length ≤ k) : packTo ws vs k = packS ws vs := by
  unfold packTo packS
  rw [List.take_of_length_le (by simpa using h)]
theorem packTo_succ (ws vs : List Int) (k : Nat) (h1 : k < ws.length) (h2 : k < vs.length) : packTo ws vs (k + 1) = packTo ws vs k ++ beB (widthN (ws.getD k 0)) (vs.getD k 0) := by
  unfold packTo
  rw [List.take_succ_eq_append_getElem (by simp; omega), List.flatMap_append]
  simp [List.getD_eq_getElem?_getD, h1, h2]
theorem packTo_len (ws vs : List Int) : ∀ k, (packTo ws vs k).length ≤ 8 * k := by
  intro k
  induction k with
  | zero => simp [packTo]
  | succ k ih =>
    by_cases h : k < ws.length ∧ k < vs.length
    · rw [packTo_succ ws vs k h.1 h.2, List.length_append, beB_length]
      have := (widthN_bd (ws.getD k 0)).2
      omega
    · have e : packTo ws vs (k + 1) = packTo ws vs k := by
        rw [packTo_all _ _ _ (by omega), packTo_all _ _ _ (by omega)]
      rw [e]
      omega

theorem pack_any (w : World) (B1 B2 : Nat) (A1 A2 : Option Addr) (c1 c2 : Nat) (ws vs : List Int) (h1 : Reads w B1 1 A1 ws.length (nums .i64 ws)) (h2 : Reads w B2 1 A2 vs.length (nums .u64 vs)) (_hn : ws.length ≤ 1000) (hm : ws.length ≤ vs.length) (hmm : vs.length ≤ 1000) (hv : ∀ x ∈ vs, 0 ≤ x ∧ x ≤ 18446744073709551615) :
    Calls Tryd.prog 71 #[.slice A1 ws.length c1, .slice A2 vs.length c2] w fun e w' => ∃ A c, e = .returned (.slice A (packS ws vs).length c) ∧ BRow w' w.heap.size A c (packS ws vs) ∧ Below w.heap.size w w' := by
  have HR1 := Lib.hid (h1.more_ (by omega))
  have HR2 := Lib.hid (h2.more_ (by omega))
  have HV := Lib.hid hv
  have HL := Lib.hid (packTo_len ws vs)
  clear h1 h2 hv
  go_enter Tryd.func71, Tryd.ntmps71
  have hmin : min (ws.length : Int) vs.length = ws.length := by omega
  go_wp2_with (fail)
  go_loopw [5, 13] (fun o i wr => ∃ (k : Nat) (A : Option Addr) (c : Nat), k ≤ ws.length ∧ i = .int .i64 k ∧ o = .slice A (packTo ws vs k).length c ∧ Hid (BRow wr w.heap.size A c (packTo ws vs k) ∧ Below w.heap.size w wr)) (fun _ i _ => ws.length - (intOf i).toNat)
  case atStart => exact ⟨0, none, 0, Nat.zero_le _, rfl, rfl, BRow.nil _ _, Below.refl _ _⟩
  case round =>
    obtain ⟨k, A, c, hk, rfl, rfl, hR⟩ := hrel
    by_cases hlt : k < ws.length
    · obtain ⟨ad1, rfl, hb1, hc1⟩ := ((HR1.out).below hR.out.2).num hlt
      obtain ⟨ad2, rfl, hb2, hc2⟩ := ((HR2.out).below hR.out.2).num (show k < vs.length by omega)
      obtain ⟨_, e2, _, hc2w⟩ := HR2.out.num (show k < vs.length by omega)
      cases e2
      have HC2 := Lib.hid hc2w
      clear hc2w
      have HB2 : Hid ((ad2.add k).block < w.heap.size) := by unfold Hid; rw [block_of_add]; exact hb2
      have HS := Lib.hid (packTo_succ ws vs k hlt (by omega))
      have HV2 := Lib.hid (HV.out _ (getD_mem (d := 0) (show k < vs.length by omega)))
      have HLK := Lib.hid (HL.out k)
      have HW := Lib.hid (fun u => width_any (ws.getD k 0) u)
      have hwb := widthN_bd (ws.getD k 0)
      have hkv : k < vs.length := by omega
      clear hb1 hb2
      generalize ws.getD k 0 = wk at *
      generalize vs.getD k 0 = vk at *
      generalize widthN wk = W at *
      generalize packTo ws vs k = O at *
      go_wp2_with (fail)
      refine (HW.out _).mono ?_
      rintro e w' ⟨rfl, rfl⟩
      go_wp2_with (fail)
      go_loopw [5, 7] (fun o kk w2 => ∃ (j : Nat) (A : Option Addr) (c : Nat), j ≤ W ∧ kk = .int .i64 (8 * ((W : Int) - j)) ∧ o = .slice A (O ++ (beB W vk).take j).length c ∧ Hid (BRow w2 w.heap.size A c (O ++ (beB W vk).take j) ∧ Below w.heap.size w w2)) (fun _ i _ => (intOf i).toNat)
      case atStart => exact ⟨0, A, c, Nat.zero_le _, by simp, by simp, by simpa using hR.out.1, hR.out.2⟩
      case round =>
        obtain ⟨j, A3, c3, hj, rfl, rfl, hR3⟩ := hrel
        by_cases hlt2 : j < W
        · have HT := Lib.hid (beB_take W vk j hlt2)
          have hc2 := (hR3.out.2.cell HB2.out).trans HC2.out
          obtain ⟨q, hq⟩ : ∃ q : Nat, q = W - 1 - j := ⟨_, rfl⟩
          have hqb : (q : Int) ≤ 7 := by omega
          have hq8 : 8 * ((W : Int) - j) = 8 * (q : Int) + 8 := by omega
          have HOB : Hid ((O ++ (beB W vk).take j).length ≤ 1000000) := by have := HLK.out; unfold Hid; simp; omega
          have HBW : Hid (w.heap.size ≤ wr.heap.size) := hR3.out.2.size
          rw [hq8]
          rw [← hq] at HT
          have HQ := Lib.hid hq
          have HR3 := Lib.hid hR3.out
          clear hq hq8 hR3
          obtain ⟨O3, hO3⟩ : ∃ O3, O ++ (beB W vk).take j = O3 := ⟨_, rfl⟩
          rw [hO3] at HR3 HOB ⊢
          have HO3 := Lib.hid hO3
          clear hO3
          go_wp2_with (first
            | (at_builtin
               refine wpList_append_byte wr rfl (.tmp 26) (.tmp 34) rfl O3 _ HR3.out.1 rfl rfl rfl HOB.out HBW.out ?_
               intro A4 c4 w4 h4 k4
               have H4 := Lib.hid h4
               have K4 := Lib.hid k4
               clear h4 k4))
          go_roundw
          case rel =>
            have e : O ++ (beB W vk).take (j + 1) = O3 ++ [vk / 2 ^ (8 * q) % 256] := by rw [HT.out, ← List.append_assoc, HO3.out]
            refine ⟨j + 1, A4, c4, hlt2, ?_, ?_, ?_⟩
            · have := HQ.out
              congr 1
              omega
            · rw [e]; simp
            · rw [e]
              exact ⟨H4.out, Kp.below HR3.out.2 K4.out HBW.out (fun b hb e => by have := (HR3.out.1.lt e).1; omega)⟩
          case measure => simp [intOf]; omega
        · obtain rfl : j = W := by omega
          have hR4 := hR3.out
          rw [List.take_of_length_le (by rw [beB_length]; exact Nat.le_refl _), ← HS.out] at hR4 ⊢
          have HR4 := Lib.hid hR4
          have e0 : 8 * ((j : Int) - j) = 0 := by omega
          rw [e0]
          clear hR3 hR4 HS e0
          go_wp2
          go_roundw
          case rel => exact ⟨k + 1, A3, c3, by omega, by go_num, rfl, HR4⟩
          case measure => simp [intOf]; omega
    · obtain rfl : k = ws.length := by omega
      have hR2 := hR.out
      rw [packTo_all ws vs ws.length (by omega)] at hR2 ⊢
      have HR3 := Lib.hid hR2
      clear hR hR2
      go_wp2
      go_ret
      exact ⟨A, c, rfl, HR3.out⟩
end Go.Proofs.YtgjcofoicnnnhaaDoor

/- Rows of bytes: noughts behind one of the call's own. -/
namespace Go.Proofs.YtgjcofoicnnnhaaDoor
open Go.RowKit
set_option maxRecDepth 20000

/-- Cells written one behind the other into a block. -/
theorem Blk.setCells {g : Nat} {e : TypeId} : ∀ (vs : List Value) (o : Nat) (w : World) (cs : Array Value), Blk w g e cs → o + vs.length ≤ cs.size →
    ∃ cs' : Array Value, Blk (w.setCells g o vs) g e cs' ∧ cs'.size = cs.size ∧ cs'.toList = cs.toList.take o ++ vs ++ cs.toList.drop (o + vs.length)
  | [], o, w, cs, h, _ => ⟨cs, h, rfl, by simp⟩
  | v :: r, o, w, cs, h, hl => by
    simp only [List.length_cons] at hl
    obtain ⟨cs', h1, h2, h3⟩ := Blk.setCells r (o + 1) _ _ (h.set_ o v) (by simp; omega)
    refine ⟨cs', h1, by simpa using h2, ?_⟩
    have hlt : o < cs.toList.length := by simp; omega
    rw [h3, Array.toList_setIfInBounds, List.take_succ_eq_append_getElem (by simpa using hlt), List.take_set_of_le (Nat.le_refl _), List.getElem_set_self, List.drop_set_of_lt (by omega)]
    simp [Nat.add_assoc, Nat.add_comm 1]
theorem World.setCells_kp (g : Nat) : ∀ (vs : List Value) (o : Nat) (w : World), Kp (fun i => i = g) w (w.setCells g o vs)
  | [], _, w => Kp.refl _ w
  | v :: r, o, w => ((Kp.refl (fun i => i = g) w).setCell (p := ⟨g, o, none⟩) (.inl rfl) v).trans (World.setCells_kp g r (o + 1) _) (fun _ _ h => h)
theorem zeros_u8 (m : Nat) : (Builtin.zeroCells (Value.int .u8 0).cells m).toList = nums .u8 (List.replicate m 0) := by
  have e : (Value.int .u8 0).cells = #[Value.int .u8 0] := rfl
  rw [e]
  refine List.ext_getElem? fun j => ?_
  unfold Builtin.zeroCells nums
  simp only [Array.getElem?_toList]
  by_cases h : j < m
  · simp [h, Nat.mod_one]
  · simp [h]

theorem zeros_arr (m : Nat) : Builtin.zeroCells (Value.int .u8 0).cells m = (nums .u8 (List.replicate m 0)).toArray := by
  rw [← zeros_u8]

/-- 'append(out, make([]byte, m)...)' -/
theorem run_append_zeros_b (w : World) (base c m : Nat) (A : Option Addr) (xs : List Int) (ty : TypeId) (hown : BRow w base A c xs) (h0 : 0 < xs.length) (hlen : xs.length + m ≤ 100000000) (hbase : base ≤ w.heap.size) :
    ∃ A' c' w', (Builtin.append_ #[35, 3] ty #[.slice A xs.length c, .int .i64 m]).run Tryd.prog w = .ok (.slice A' (xs ++ List.replicate m 0).length c') w' ∧ BRow w' base A' c' (xs ++ List.replicate m 0) ∧
      Kp (fun i => (Value.slice A xs.length c).ownBlock = some i) w w' ∧ ((Value.slice A' (xs ++ List.replicate m 0).length c').ownBlock = (Value.slice A xs.length c).ownBlock ∨ (Value.slice A' (xs ++ List.replicate m 0).length c').ownBlock = some w.heap.size) := by
  obtain ⟨i, hi, hz, hs, hb⟩ := info_parts u8_info
  have ht : Tryd.prog.underlying 35 = some (.slice 5) := Tryd.underlying35
  have hti : Tryd.prog.underlying 3 = some (.int .i64) := Tryd.underlying3
  have hw : IntKind.i64.wrap (m : Int) = m := by rw [IntKind.wrap_i64]; omega
  have hneg : ¬ ((m : Int) < 0) := by omega
  have hbig : ¬ (281474976710656 < (m : Int)) := by omega
  have hl : (nums .u8 (List.replicate m (0 : Int))).length = m := by simp [nums]
  have hlx : (nums .u8 xs).length = xs.length := nums_length _ _
  have hlen2 : (xs ++ List.replicate m (0 : Int)).length = xs.length + m := by simp
  have hones : ∀ u ∈ nums .u8 (List.replicate m (0 : Int)), u.oneCell' = true := nums_one _ _
  rcases hown.2 with ⟨_, h⟩ | ⟨g, cap, cur, hv, hbg, hg, hnc, hcm, hcs, htake⟩
  · omega
  · injection hv with e1 e2 e3
    subst e1 e3
    rw [Nat.mul_one] at hcs htake
    by_cases hroom : xs.length + m ≤ c
    · have hblk : Blk w g 5 cur := hg
      obtain ⟨cur', h3, h4, h5⟩ := Blk.setCells (nums .u8 (List.replicate m (0 : Int))) xs.length w cur hblk (by rw [hl, hcs]; exact hroom)
      have hadd : (⟨g, 0, none⟩ : Addr).add xs.length = ⟨g, xs.length, none⟩ := by unfold Addr.add; split <;> simp_all
      have hw0 : IntKind.i64.wrap 0 = 0 := by rw [IntKind.wrap_i64]; rfl
      have hkp := World.setCells_kp g (nums .u8 (List.replicate m (0 : Int))) xs.length w
      have hst := run_storeCells_cells (P := Tryd.prog) g xs.length (nums .u8 (List.replicate m (0 : Int))) 0 w (fun j hj => by rw [hblk.cell]; simp; omega) (fun j _ => hblk.frozen _) hones
      simp only [Nat.add_zero] at hst
      refine ⟨some ⟨g, 0, none⟩, c, w.setCells g xs.length (nums .u8 (List.replicate m (0 : Int))), ?_, ?_, hkp.mono (fun b _ e => by rw [e]; rfl), .inl rfl⟩
      · rw [hlen2]
        by_cases hm : m = 0
        · subst hm
          have e0 : nums .u8 (List.replicate 0 (0 : Int)) = [] := rfl
          rw [e0] at hst ⊢
          simp [Builtin.append_, run_underlying ht, run_underlying hti, sizeOf, typeInfo, hi, hs, hb, asInt, asIntOf, hw0, hnc, hadd, hst]
        · simp [Builtin.append_, run_underlying ht, run_underlying hti, sizeOf, typeInfo, zeroValue, hi, hz, hs, hb, asInt, asIntOf, hw, hneg, hbig, hroom, hm, zeros_arr, hadd, hst]
      · refine ⟨by rw [nums_length, Nat.mul_one], .inr ⟨g, c, cur', by rw [hlen2], hbg, h3, by rw [hlen2]; exact hroom, hcm, by rw [h4, hcs, Nat.mul_one], ?_⟩⟩
        rw [h5, htake, nums_app, Nat.mul_one]
        exact List.take_left' (by rw [List.length_append, hl, hlx, hlen2])
    · have holds : ∀ j u, (nums .u8 xs)[j]? = some u → w.cell? ((⟨g, 0, none⟩ : Addr).add j) = some u := World.ownsRow.cells hown (g := g) rfl
      have hfo : (Builtin.firstCells 1 xs.length (.slice (some ⟨g, 0, none⟩) xs.length c)).run Tryd.prog w.drew = .ok (nums .u8 xs).toArray w.drew := run_firstCells_some (P := Tryd.prog) w.drew 1 xs.length _ xs.length c (nums .u8 xs) (by rw [hlx, Nat.mul_one]) (by simpa using holds)
      have h63' : ¬ (9223372036854775807 < ((xs.length : Int) + (m : Int))) := by omega
      have hfit := growslice_fits (bytes := 1) (show c < xs.length + m by omega) (by omega)
      have h48' : ¬ (281474976710656 < Builtin.nextslicecap (xs.length + m) c) := by omega
      have hm : ¬ m = 0 := by omega
      have hge := grownCap_ge w (xs.length + m) c 5
      have hcm' : grownCap w (xs.length + m) c 5 ≤ maxLen := grownCap_le_maxLen w (xs.length + m) c 5 (by simp only [maxLen]; omega)
      refine ⟨some ⟨w.heap.size, 0, none⟩, grownCap w (xs.length + m) c 5, w.drew.alloc (.cells ((nums .u8 xs).toArray ++ (nums .u8 (List.replicate m 0)).toArray ++ Builtin.zeroCells (Value.int .u8 0).cells (grownCap w (xs.length + m) c 5 - (xs.length + m))) 5), ?_, ?_, ⟨rfl, rfl, rfl, by simp, fun k hk _ => heap_alloc_old w.drew _ hk⟩, .inr rfl⟩
      · rw [hlen2]
        simp [Builtin.append_, run_underlying ht, run_underlying hti, sizeOf, typeInfo, zeroValue, hi, hz, hs, hb, asInt, asIntOf, hw, hneg, hbig, hroom, h63', h48', Question.forced, hfo, newRow, grownCap, hm, zeros_arr]
      · refine ⟨by rw [nums_length, Nat.mul_one], .inr ⟨w.heap.size, _, _, by rw [hlen2], hbase, heap_alloc_new w.drew _, by rw [hlen2]; exact hge, hcm', ?_, ?_⟩⟩
        · rw [zeros_arr]
          simp [nums]
          omega
        · rw [hlen2, nums_app, Nat.mul_one]
          simp only [Array.toList_append, List.append_assoc]
          rw [← List.append_assoc]
          exact List.take_left' (by rw [List.length_append, hl, hlx])
end Go.Proofs.YtgjcofoicnnnhaaDoor

/- Package rec: a block's sum. -/
namespace Go.Proofs.YtgjcofoicnnnhaaDoor
open Go.RowKit
set_option maxRecDepth 20000

theorem sizeOf_u8 (u : World) : (sizeOf (Tryd.prog.elem 35)).run Tryd.prog u = .ok 1 u := by
  obtain ⟨i0, hi0, _, hz1, _⟩ := info_parts u8_info
  have e : Tryd.prog.elem 35 = 5 := by kernel_rfl
  rw [e]
  simp [sizeOf, typeInfo, hi0, hz1]
theorem elem_u8 : Tryd.prog.underlying 35 = some (.slice (Tryd.prog.elem 35)) := by kernel_rfl
/-- 'b[:hi]' -/
theorem run_front_u8 (A : Option Addr) (n c hi : Nat) (h : hi ≤ c) (u : World) :
    (Instr.slice 35 (.slice A n c) none (some (.int .i64 (hi : Int))) none).run Tryd.prog u = .ok (.slice (if c = 0 then A else A.map (·.add 0)) hi c) u := by
  rw [run_slice_h u _ A n c elem_u8 .i64 (hi : Int) (by omega) (by omega), sizeOf_u8]
  simp only [Result.andThen, sliced, Int.toNat_natCast, Nat.zero_mul, Nat.sub_zero]
/-- 'b[lo:]' -/
theorem run_back_u8 (A : Option Addr) (n c lo : Nat) (h : lo ≤ n) (u : World) :
    (Instr.slice 35 (.slice A n c) (some (.int .i64 (lo : Int))) none none).run Tryd.prog u = .ok (.slice (if c = lo then A else A.map (·.add lo)) (n - lo) (c - lo)) u := by
  rw [run_slice_l u _ A n c elem_u8 .i64 (lo : Int) (by omega) (by omega), sizeOf_u8]
  simp only [Result.andThen, sliced, Int.toNat_natCast, Nat.mul_one]

theorem rsum_any (w : World) (B : Nat) (A : Option Addr) (n c : Nat) (xs : List Int) (h : Reads w B 1 A n (nums .u8 xs)) (h8 : 8 ≤ n) (hn : n ≤ 100000000) (hc : n ≤ c) (hby : ∀ x ∈ xs, ByteOk x) :
    Calls Tryd.prog 72 #[.slice A n c] w (Makes (.int .u32 (sumS 0 (xs.take 4 ++ [0, 0, 0, 0] ++ xs.drop 8))) w) := by
  have hmk : ∀ w : World, (Instr.makeSlice 35 (.int .i64 4) (.int .i64 4)).run Tryd.prog w = .ok (.slice (some ⟨w.heap.size, 0, none⟩) 4 4) (w.alloc (.cells #[.int .u8 0, .int .u8 0, .int .u8 0, .int .u8 0] 5)) := fun _ => by kernel_rfl
  have h1 : ∀ u : World, (Instr.slice 35 (.slice A n c) none (some (.int .i64 4)) none).run Tryd.prog u = .ok (.slice (if c = 0 then A else A.map (·.add 0)) 4 c) u := run_front_u8 A n c 4 (by omega)
  have h2 : ∀ u : World, (Instr.slice 35 (.slice A n c) (some (.int .i64 8)) none none).run Tryd.prog u = .ok (.slice (if c = 8 then A else A.map (·.add 8)) (n - 8) (c - 8)) u := run_back_u8 A n c 8 h8
  generalize hA1 : (if c = 0 then A else A.map (·.add 0)) = A1 at *
  generalize hA2 : (if c = 8 then A else A.map (·.add 8)) = A2 at *
  have HR := Lib.hid (h.more_ (by omega))
  clear h
  have hxl : xs.length = n := by have := HR.out.1; rw [nums_length] at this; omega
  have HS : Hid (Calls Tryd.prog 66 #[.slice (some ⟨w.heap.size + 1, 0, none⟩) 3 3] ((w.alloc (.cells #[.int .u8 0, .int .u8 0, .int .u8 0, .int .u8 0] 5)).alloc (.cells #[.slice A1 4 c, .slice (some ⟨w.heap.size, 0, none⟩) 4 4, .slice A2 (n - 8) (c - 8)] 35)).drew
      (Makes (.int .u32 (sumS 0 (xs.take 4 ++ [0, 0, 0, 0] ++ xs.drop 8))) ((w.alloc (.cells #[.int .u8 0, .int .u8 0, .int .u8 0, .int .u8 0] 5)).alloc (.cells #[.slice A1 4 c, .slice (some ⟨w.heap.size, 0, none⟩) 4 4, .slice A2 (n - 8) (c - 8)] 35)).drew)) := by
    have hz := (Blk.new w 5 #[.int .u8 0, .int .u8 0, .int .u8 0, .int .u8 0]).alloc (.cells #[.slice A1 4 c, .slice (some ⟨w.heap.size, 0, none⟩) 4 4, .slice A2 (n - 8) (c - 8)] 35)
    have hb := Blk.new (w.alloc (.cells #[.int .u8 0, .int .u8 0, .int .u8 0, .int .u8 0] 5)) 35 #[.slice A1 4 c, .slice (some ⟨w.heap.size, 0, none⟩) 4 4, .slice A2 (n - 8) (c - 8)]
    rw [World.size_alloc] at hb
    have hr := (HR.out.alloc (Nat.le_refl _) (.cells #[.int .u8 0, .int .u8 0, .int .u8 0, .int .u8 0] 5)).alloc (by simp) (.cells #[.slice A1 4 c, .slice (some ⟨w.heap.size, 0, none⟩) 4 4, .slice A2 (n - 8) (c - 8)] 35)
    generalize (w.alloc (.cells #[.int .u8 0, .int .u8 0, .int .u8 0, .int .u8 0] 5)).alloc (.cells #[.slice A1 4 c, .slice (some ⟨w.heap.size, 0, none⟩) 4 4, .slice A2 (n - 8) (c - 8)] 35) = w3 at *
    have g1 := (hr.cut (k := 0) (cap := c) (by omega) hc).take_ (m := 4) (by omega)
    have g2 := hr.cut (k := 8) (cap := c) h8 hc
    simp only [Nat.mul_one, List.drop_zero, hA1, hA2, nums_take, nums_drop] at g1 g2
    have g3 : Reads w3 (w.heap.size + 1) 1 (some ⟨w.heap.size, 0, none⟩) 4 (nums .u8 [0, 0, 0, 0]) := ⟨rfl, fun _ => ⟨_, rfl, Nat.lt_succ_self _, fun j u hu => by
      rw [add0, hz.cell, List.getElem?_toArray]
      exact hu⟩⟩
    have e1 : (xs.take 4).length = 4 := by simp; omega
    have e2 : (xs.drop 8).length = n - 8 := by simp; omega
    have hl : ListsAt w3.drew (w.heap.size + 1) (some ⟨w.heap.size + 1, 0, none⟩) [xs.take 4, [0, 0, 0, 0], xs.drop 8] := by
      refine listsAt_blk hb.drew fun i hi => ?_
      match i, hi with
      | 0, _ => exact ⟨A1, c, by simp [e1], by simpa [e1] using (g1.drew).more (Nat.le_succ _)⟩
      | 1, _ => exact ⟨_, 4, rfl, by simpa using g3.drew⟩
      | 2, _ => exact ⟨A2, c - 8, by simp [e2], by simpa [e2] using (g2.drew).more (Nat.le_succ _)⟩
    have := sum_any w3.drew _ _ 3 _ hl (by
      intro l hl x hx
      simp only [List.mem_cons, List.not_mem_nil, or_false] at hl
      rcases hl with rfl | rfl | rfl
      · exact hby x (List.mem_of_mem_take hx)
      · simp at hx; rw [hx]; exact ⟨by omega, by omega⟩
      · exact hby x (List.mem_of_mem_drop hx)) (by simp) (by
      intro l hl
      simp only [List.mem_cons, List.not_mem_nil, or_false] at hl
      rcases hl with rfl | rfl | rfl
      · rw [e1]; omega
      · simp
      · rw [e2]; omega)
    refine this.mono ?_
    rintro e w' ⟨rfl, rfl⟩
    exact ⟨by simp, Below.refl _ _⟩
  clear hby hA1 hA2 HR hxl
  generalize sumS 0 (xs.take 4 ++ [0, 0, 0, 0] ++ xs.drop 8) = S at *
  go_enter Tryd.func72, Tryd.ntmps72
  go_wp2_with (fail)
  go_region_with (go_at_call 66; refine HS.out.mono ?_; rintro e w9 ⟨rfl, hb9⟩; have HB9 := Lib.hid hb9; clear hb9)
  all_goals
    clear h1 h2 hmk
    go_wp2
    go_ret
    have hw : Below w.heap.size w ((w.alloc (.cells #[.int .u8 0, .int .u8 0, .int .u8 0, .int .u8 0] 5)).alloc (.cells #[.slice A1 4 c, .slice (some ⟨w.heap.size, 0, none⟩) 4 4, .slice A2 (n - 8) (c - 8)] 35)).drew := (((Below.refl _ w).alloc (Nat.le_refl _) _).alloc (by simp) _).drew
    exact ⟨rfl, hw.trans (HB9.out.mono hw.size)⟩
end Go.Proofs.YtgjcofoicnnnhaaDoor

/- Package rec: what a record's block is. -/
namespace Go.Proofs.YtgjcofoicnnnhaaDoor
open Go.RowKit
set_option maxRecDepth 20000

def itB (i : It) : List Int := packS [4, 8, 1, 4, 2] [i.t, i.b, i.k, i.s, i.e]
def headR (seq : Int) (n : Nat) : List Int := packS [4, 4, 8, 2] [1129074503, 0, seq, n]
theorem itB_length (i : It) : (itB i).length = 19 := by simp [itB, packS, beB_length, widthN]
theorem headR_length (seq : Int) (n : Nat) : (headR seq n).length = 18 := by simp [headR, packS, beB_length, widthN]
theorem packS_bd (ws vs : List Int) : ∀ x ∈ packS ws vs, ByteOk x := by
  intro x hx
  obtain ⟨p, _, hp⟩ := List.mem_flatMap.1 hx
  exact beB_bd _ _ x hp
/-- A record's front: its head, its items. -/
def frontR (seq : Int) (its : List It) (k : Nat) : List Int := headR seq its.length ++ (its.take k).flatMap itB
theorem frontR_length (seq : Int) (its : List It) (k : Nat) (h : k ≤ its.length) : (frontR seq its k).length = 18 + 19 * k := by
  induction k with
  | zero => simp [frontR, headR_length]
  | succ k ih =>
    have := ih (by omega)
    unfold frontR at this ⊢
    rw [List.take_succ_eq_append_getElem (by omega), List.flatMap_append]
    simp [itB_length] at this ⊢
    omega
theorem frontR_succ (seq : Int) (its : List It) (k : Nat) (h : k < its.length) : frontR seq its (k + 1) = frontR seq its k ++ itB (its.getD k it0) := by
  unfold frontR
  rw [List.take_succ_eq_append_getElem h, List.flatMap_append, List.getD_eq_getElem?_getD, List.getElem?_eq_getElem h]
  simp
theorem frontR_bd (seq : Int) (its : List It) (k : Nat) : ∀ x ∈ frontR seq its k, ByteOk x := by
  intro x hx
  rcases List.mem_append.1 hx with h | h
  · exact packS_bd _ _ x h
  · obtain ⟨i, _, hi⟩ := List.mem_flatMap.1 h
    exact packS_bd _ _ x hi
/-- A front, noughts, and a last byte. -/
def fillB (f : List Int) (bl : Nat) : List Int := (f ++ List.replicate (bl - f.length) 0).set (bl - 1) 231
theorem fillB_length (f : List Int) (bl : Nat) (h : f.length ≤ bl) : (fillB f bl).length = bl := by simp [fillB]; omega
theorem fillB_bd (f : List Int) (bl : Nat) (hf : ∀ x ∈ f, ByteOk x) : ∀ x ∈ fillB f bl, ByteOk x := by
  intro x hx
  rcases List.mem_or_eq_of_mem_set hx with h | rfl
  · rcases List.mem_append.1 h with h | h
    · exact hf x h
    · rw [List.eq_of_mem_replicate h]; exact ⟨by omega, by omega⟩
  · exact ⟨by omega, by omega⟩
/-- The sum is laid into its place. -/
def sumB (b : List Int) (S : Int) : List Int := b.take 4 ++ (beB 4 S ++ b.drop 8)
theorem sumB_length (b : List Int) (S : Int) (h : 8 ≤ b.length) : (sumB b S).length = b.length := by simp [sumB, beB_length]; omega
theorem sumB_bd (b : List Int) (S : Int) (h : ∀ x ∈ b, ByteOk x) : ∀ x ∈ sumB b S, ByteOk x := by
  intro x hx
  simp only [sumB, List.mem_append] at hx
  rcases hx with hx | hx | hx
  · exact h x (List.mem_of_mem_take hx)
  · exact beB_bd _ _ x hx
  · exact h x (List.mem_of_mem_drop hx)
def encR (seq : Int) (its : List It) (bl : Nat) : List Int :=
  sumB (fillB (frontR seq its its.length) bl) (sumS 0 ((fillB (frontR seq its its.length) bl).take 4 ++ [0, 0, 0, 0] ++ (fillB (frontR seq its its.length) bl).drop 8))
theorem roomN_fit {n bl : Nat} (h : n ≤ roomN bl) (hb : 64 ≤ bl) : 18 + 19 * n + 1 ≤ bl := by unfold roomN at h; omega
theorem encR_length (seq : Int) (its : List It) (bl : Nat) (h : its.length ≤ roomN bl) (hb : 64 ≤ bl) : (encR seq its bl).length = bl := by
  have h1 := roomN_fit h hb
  have h2 := fillB_length (frontR seq its its.length) bl (by rw [frontR_length _ _ _ (Nat.le_refl _)]; omega)
  unfold encR
  rw [sumB_length _ _ (by omega), h2]
theorem encR_bd (seq : Int) (its : List It) (bl : Nat) : ∀ x ∈ encR seq its bl, ByteOk x := sumB_bd _ _ (fillB_bd _ _ (frontR_bd _ _ _))

/-- A literal's cells. -/
theorem reads_lit {w : World} {g : Nat} {t : TypeId} {k : IntKind} {l : List Int} {cs : Array Value} (h : Blk w g t cs) (he : cs = (nums k l).toArray) : Reads w w.heap.size 1 (some ⟨g, 0, none⟩) l.length (nums k l) :=
  ⟨by rw [nums_length]; omega, fun _ => ⟨_, rfl, h.lt, fun j u hu => by
    rw [add0, h.cell, he, List.getElem?_toArray]
    exact hu⟩⟩
theorem BRow.set_last {w : World} {base g c k : Nat} {xs : List Int} (h : BRow w base (some ⟨g, 0, none⟩) c xs) (hk : k < xs.length) (v : Int) : BRow (w.setCell ⟨g, k, none⟩ (.int .u8 v)) base (some ⟨g, 0, none⟩) c (xs.set k v) := by
  refine ⟨by rw [nums_length, Nat.mul_one], ?_⟩
  rcases h.2 with ⟨_, h0⟩ | ⟨g', cap, cur, hv, hg, hh, hnc, hcm, hcs, ht⟩
  · omega
  · injection hv with e1 e2 e3
    injection e1 with e1
    have eg : g = g' := by injection e1
    subst eg e3
    have hb : Blk w g 5 cur := hh
    refine .inr ⟨g, c, _, by simp, hg, hb.set_ k (.int .u8 v), by simpa using hnc, hcm, by simpa using hcs, ?_⟩
    rw [List.length_set, Nat.mul_one] at *
    rw [Array.toList_setIfInBounds, List.take_set, ht]
    simp [nums, List.map_set]
theorem BRow.blk {w : World} {base g c : Nat} {xs : List Int} (h : BRow w base (some ⟨g, 0, none⟩) c xs) (h0 : 0 < xs.length) : ∃ ex, Blk w g 5 (nums .u8 xs ++ ex).toArray ∧ (nums .u8 xs ++ ex).length = c ∧ c ≤ maxLen ∧ base ≤ g := by
  rcases h.2 with ⟨_, h1⟩ | ⟨g', cap, cur, hv, hg, hh, hnc, hcm, hcs, ht⟩
  · omega
  · injection hv with e1 e2 e3
    injection e1 with e1
    have eg : g = g' := by injection e1
    subst eg e3
    rw [Nat.mul_one] at ht hcs
    refine ⟨cur.toList.drop xs.length, ?_, ?_, hcm, hg⟩
    · rw [← ht, List.take_append_drop]
      exact hh
    · rw [← ht, List.take_append_drop]
      simpa using hcs
theorem BRow.of_blk {w : World} {base g c : Nat} {xs : List Int} {ex : List Value} (h : Blk w g 5 (nums .u8 xs ++ ex).toArray) (hl : (nums .u8 xs ++ ex).length = c) (hm : c ≤ maxLen) (hb : base ≤ g) : BRow w base (some ⟨g, 0, none⟩) c xs := by
  refine ⟨by rw [nums_length, Nat.mul_one], .inr ⟨g, c, _, rfl, hb, h, ?_, hm, ?_, ?_⟩⟩
  · rw [← hl, List.length_append, nums_length]; omega
  · rw [Nat.mul_one]; simpa using hl
  · rw [Nat.mul_one]
    exact List.take_left' (nums_length _ _)
theorem splice_sum (b : List Int) (S : Int) (ex : List Value) (h : 8 ≤ b.length) : splice (nums .u8 b ++ ex) 4 (nums .u8 (beB 4 S)) = nums .u8 (sumB b S) ++ ex := by
  unfold splice sumB
  have h1 : (nums .u8 (beB 4 S)).length = 4 := by rw [nums_length, beB_length]
  rw [h1, List.take_append_of_le_length (by rw [nums_length]; omega), List.drop_append_of_le_length (by rw [nums_length]; omega)]
  simp [nums]
/-- 'copy(b[4:], ..)' of a sum. -/
theorem run_copy_sum (w : World) (base g c : Nat) (b : List Int) (h : BRow w base (some ⟨g, 0, none⟩) c b) (h8 : 8 ≤ b.length) (A2 : Option Addr) (c2 : Nat) (S : Int) (B2 : Nat) (hr : Reads w B2 1 A2 4 (nums .u8 (beB 4 S))) (ty : TypeId) :
    ∃ w', (Builtin.copy_ #[35, 35] ty #[.slice (some ⟨g, 4, none⟩) (b.length - 4) (c - 4), .slice A2 4 c2]).run Tryd.prog w = .ok (.int .i64 4) w' ∧ BRow w' base (some ⟨g, 0, none⟩) c (sumB b S) ∧ Kp (fun i => i = g) w w' := by
  obtain ⟨ex, hb, hl, hm, hbase⟩ := h.blk (by omega)
  obtain ⟨ad, rfl, _, hcell⟩ := hr.2 (by omega)
  have hsz : (Tryd.prog.info? 5).map (·.size) = some 1 := by kernel_rfl
  have hlen : (nums .u8 (beB 4 S)).length = 4 := by rw [nums_length, beB_length]
  have hll : (nums .u8 b).length = b.length := nums_length _ _
  have hrun := run_copy_row (P := Tryd.prog) w 35 35 ty 5 g 4 (b.length - 4) (c - 4) ad 4 c2 (nums .u8 b ++ ex).toArray 5 (nums .u8 (beB 4 S)) Tryd.underlying35 hsz hb (by rw [hlen]; exact (Nat.min_eq_left (by omega)).symm) hcell (by rw [hlen]; simp [hll]; omega) (nums_one _ _)
  have hsp := splice_sum b S ex h8
  unfold splice at hsp
  rw [← List.append_assoc] at hsp
  rw [hsp, hlen] at hrun
  refine ⟨_, hrun, BRow.of_blk (ex := ex) (setRow_heap w g _ _ 5 _ hb) ?_ hm hbase, ?_⟩
  · rw [← hl, List.length_append, List.length_append, nums_length, nums_length, sumB_length _ _ h8]
  · exact ⟨rfl, rfl, rfl, by simp [World.setRow], fun k hk hne => setRow_other w g k _ hne⟩
end Go.Proofs.YtgjcofoicnnnhaaDoor

