/- Joined texts: Rl Rl2. -/
import Derived.Test.YtfabgbmbnmbjkaaGreatDoorRaa
import Derived.Test.YtfabgbmbnmbjkaaGreatDoorRab
import Derived.Orders
import Derived.Below
/- Pruned. -/
namespace Go.Proofs.YtfabgbmbnmbjkaaGreatDoor
open Go.RowKit
set_option maxRecDepth 20000
theorem wpAny_inv {P : Program} {ops : Array Oper} {Q : Exit -> Act -> World -> Prop} (I : (Nat -> Bool) -> Act -> World -> Prop)
    (haft : ∀ i o, ops[i]? = some o -> ∀ e ∈ o.after, Region.binds .any e = true ∧ e.on < i)
    (hstep : ∀ (d : Nat -> Bool) a w i o, ops[i]? = some o -> d i = false -> (∀ e ∈ o.after, d e.on = true) -> I d a w -> wpOp P ops Q i (I (fun j => if j = i then true else d j)) a w)
    (hdone : ∀ (d : Nat -> Bool) a w, (∀ i, i < ops.size -> d i = true) -> I d a w -> Q .normal a w) :
    ∀ (fuel : Nat) (L : Array Bool) (a : Act) (w : World), L.size = ops.size -> L.toList.count false <= fuel -> I (fun j => L.getD j false) a w -> wpAny P .any ops Q fuel L a w := by
 have mem_ready : ∀ {L : Array Bool} {i : Nat}, i ∈ Region.ready .any ops L ↔ L.getD i true = false ∧ ∃ o, ops[i]? = some o ∧ ∀ e ∈ o.after, Region.binds .any e = true -> L.getD e.on false = true := by
  intro L i
  unfold Region.ready
  rw [List.mem_filter, List.mem_range]
  constructor
  · rintro ⟨_, h⟩
    rw [Bool.and_eq_true] at h
    refine ⟨by simpa using h.1, ?_⟩
    cases ho : ops[i]? with
    | none => rw [ho] at h; simp at h
    | some o =>
      refine ⟨o, rfl, fun e he hb => ?_⟩
      rw [ho] at h
      have h2 := Array.all_eq_true_iff_forall_mem.1 (show (o.after.all fun e => !Region.binds .any e || L.getD e.on false) = true by simpa using h.2) e he
      rw [hb] at h2
      simpa using h2
  · rintro ⟨h1, o, ho, h2⟩
    refine ⟨(Array.getElem?_eq_some_iff.1 ho).1, ?_⟩
    rw [Bool.and_eq_true]
    refine ⟨by simpa using h1, ?_⟩
    rw [ho]
    simp only [Option.map_some, Option.getD_some]
    refine Array.all_eq_true_iff_forall_mem.2 fun e he => ?_
    cases hb : Region.binds .any e with
    | false => simp
    | true => simpa using h2 e he hb
 have hnil : ∀ L : Array Bool, L.size = ops.size -> Region.ready .any ops L = [] -> ∀ i, i < ops.size -> L.getD i false = true := by
  intro L hL hr i
  induction i using Nat.strongRecOn with
  | _ i ih =>
    intro hi
    cases hv : L.getD i false with
    | true => rfl
    | false =>
      exfalso
      have hm : i ∈ Region.ready .any ops L := mem_ready.2 ⟨by
       rw [Array.getD_eq_getD_getElem?, Array.getElem?_eq_getElem (by omega)] at hv ⊢
       exact hv, ops[i], Array.getElem?_eq_getElem hi, fun e he _ => ih e.on (haft i _ (Array.getElem?_eq_getElem hi) e he).2 (by
        have := (haft i _ (Array.getElem?_eq_getElem hi) e he).2
        omega)⟩
      rw [hr] at hm
      cases hm
 intro fuel
 induction fuel with
 | zero =>
   intro L a w hL hc hI
   have hall : ∀ i, i < ops.size -> L.getD i false = true := fun i hi => by
    have h0 : ¬ false ∈ L.toList := fun hm => by
     have := List.count_pos_iff.2 hm
     omega
    rw [Array.getD_eq_getD_getElem?, Array.getElem?_eq_getElem (by omega)]
    cases hv : L[i]'(by omega) with
    | true => rfl
    | false => exact absurd (by rw [<- hv]; simp) h0
   have hr : Region.ready .any ops L = [] := List.eq_nil_iff_forall_not_mem.2 fun i hm => by
    obtain ⟨h1, o, ho, _⟩ := mem_ready.1 hm
    have hi : i < ops.size := (Array.getElem?_eq_some_iff.1 ho).1
    have h2 := hall i hi
    rw [Array.getD_eq_getD_getElem?, Array.getElem?_eq_getElem (by omega)] at h1 h2
    simp at h1 h2
    rw [h1] at h2
    cases h2
   exact ⟨hr, hdone _ a w hall hI⟩
 | succ fuel ih =>
   intro L a w hL hc hI
   refine ⟨fun hr => hdone _ a w (hnil L hL hr) hI, fun i hi => ?_⟩
   obtain ⟨h1, o, ho, h2⟩ := mem_ready.1 hi
   have hlt : i < ops.size := (Array.getElem?_eq_some_iff.1 ho).1
   have hd : L.getD i false = false := by
    rw [Array.getD_eq_getD_getElem?, Array.getElem?_eq_getElem (by omega)] at h1 ⊢
    exact h1
   refine wpOp_mono (fun a' w' hI' => ih _ a' w' (by simp [hL]) ?_ ?_) (hstep _ a w i o ho hd (fun e he => h2 e he (haft i o ho e he).1) hI)
   · have hf : L[i]'(by omega) = false := by
      rw [Array.getD_eq_getD_getElem?, Array.getElem?_eq_getElem (by omega)] at hd
      exact hd
     have := List.count_set (l := L.toList) (i := i) (a := true) (b := false) (by simp; omega)
     have hpos : 0 < L.toList.count false := List.count_pos_iff.2 (by rw [<- hf]; simp)
     have hf2 : L.toList[i]'(by simp; omega) = false := by simpa using hf
     rw [hf2] at this
     simp only [Array.toList_setIfInBounds]
     rw [this]
     have e1 : (false == false) = true := rfl
     have e2 : (true == false) = false := rfl
     simp only [e1, e2, if_true, Bool.false_eq_true, if_false]
     omega
   · have e : (fun j => if j = i then true else L.getD j false) = (fun j => (L.setIfInBounds i true).getD j false) := by
      funext j
      rw [Array.getD_eq_getD_getElem?, Array.getD_eq_getD_getElem?, Array.getElem?_setIfInBounds]
      by_cases hj : j = i
      · subst hj
        simp [hL, hlt]
      · simp [hj, Ne.symm hj]
     rw [<- e]
     exact hI'
def dstOf (ops : Array Oper) (i : Nat) : Option Tmp := (ops[i]?).bind (·.dst)
def partA (ops : Array Oper) (a0 : Act) (d : Nat -> Bool) (vs : Nat -> Value) : Nat -> Act
  | 0 => a0
  | k + 1 => if d k then (partA ops a0 d vs k).put (dstOf ops k) (vs k) else partA ops a0 d vs k
theorem partA_none {ops : Array Oper} {a0 : Act} {d : Nat -> Bool} {vs : Nat -> Value} (k : Nat) (h : ∀ j, d j = false) : partA ops a0 d vs k = a0 := by
 induction k with
 | zero => rfl
 | succ k ih => unfold partA; rw [h k, ih]; rfl
theorem partA_congr {ops : Array Oper} {a0 : Act} {d : Nat -> Bool} {vs : Nat -> Value} (k : Nat) (h : ∀ j, j < k -> d j = true) : partA ops a0 d vs k = partA ops a0 (fun _ => true) vs k := by
 induction k with
 | zero => rfl
 | succ k ih => unfold partA; rw [h k (by omega), ih (fun j hj => h j (by omega))]
theorem put_size (a : Act) (x : Option Tmp) (v : Value) : (a.put x v).tmps.size = a.tmps.size := by
 cases x <;> simp [Act.put]
theorem put_get (a : Act) (x : Option Tmp) (v : Value) (t : Tmp) : (a.put x v).tmps[t]? = if x = some t ∧ t < a.tmps.size then some v else a.tmps[t]? := by
 cases x with
 | none => simp [Act.put]
 | some d =>
   simp only [Act.put, Array.getElem?_setIfInBounds, Option.some.injEq]
   by_cases h : d = t
   · subst h
     by_cases h2 : d < a.tmps.size
     · simp [h2]
     · simp [h2]
   · simp [h]
theorem partA_size {ops : Array Oper} {a0 : Act} {d : Nat -> Bool} {vs : Nat -> Value} (k : Nat) : (partA ops a0 d vs k).tmps.size = a0.tmps.size := by
 induction k with
 | zero => rfl
 | succ k ih => unfold partA; split <;> simp only [put_size, ih]
theorem partA_old {ops : Array Oper} {a0 : Act} {d : Nat -> Bool} {vs : Nat -> Value} (t : Tmp) (k : Nat) (h : ∀ j, j < k -> d j = true -> dstOf ops j ≠ some t) : (partA ops a0 d vs k).tmps[t]? = a0.tmps[t]? := by
 induction k with
 | zero => rfl
 | succ k ih =>
   unfold partA
   split
   · rename_i hd
     rw [put_get, if_neg (fun e => h k (by omega) hd e.1), ih (fun j hj => h j (by omega))]
   · exact ih (fun j hj => h j (by omega))
theorem partA_new {ops : Array Oper} {a0 : Act} {d : Nat -> Bool} {vs : Nat -> Value} (t : Tmp) (i k : Nat) (hik : i < k) (hd : d i = true) (ht : dstOf ops i = some t) (hsz : t < a0.tmps.size) (hne : ∀ j, j ≠ i -> dstOf ops j ≠ some t) : (partA ops a0 d vs k).tmps[t]? = some (vs i) := by
 induction k with
 | zero => omega
 | succ k ih =>
   unfold partA
   by_cases hki : k = i
   · subst hki
     rw [if_pos hd, put_get, partA_size, if_pos ⟨ht, hsz⟩]
   · split
     · rw [put_get, if_neg (fun e => hne k hki e.1), ih (by omega)]
     · exact ih (by omega)
theorem partA_set {ops : Array Oper} {a0 : Act} {d : Nat -> Bool} {vs : Nat -> Value} {i : Nat} (v : Value) (hd : d i = false) (hne : ∀ j t, j ≠ i -> dstOf ops i = some t -> dstOf ops j ≠ some t) (k : Nat) :
    partA ops a0 (fun j => if j = i then true else d j) (fun j => if j = i then v else vs j) k = if i < k then (partA ops a0 d vs k).put (dstOf ops i) v else partA ops a0 d vs k := by
 have succ : ∀ d vs k, partA ops a0 d vs (k + 1) = if d k then (partA ops a0 d vs k).put (dstOf ops k) (vs k) else partA ops a0 d vs k := fun _ _ _ => rfl
 induction k with
 | zero => simp [partA]
 | succ k ih =>
   rw [succ, succ, ih]
   by_cases hki : k = i
   · subst hki
     have h1 : (if k = k then true else d k) = true := by simp
     have h2 : ¬ d k = true := by rw [hd]; decide
     rw [if_pos h1, if_neg (Nat.lt_irrefl k), if_pos (Nat.lt_succ_self k), if_neg h2, if_pos rfl]
   · have h1 : (if k = i then true else d k) = d k := by rw [if_neg hki]
     have h2 : (if k = i then v else vs k) = vs k := by rw [if_neg hki]
     rw [h1, h2]
     by_cases hik : i < k
     · rw [if_pos hik, if_pos (show i < k + 1 by omega)]
       by_cases hdk : d k = true
       · rw [if_pos hdk, if_pos hdk]
         exact Act.put_comm _ _ _ (fun t ht => hne k t hki ht)
       · rw [if_neg hdk, if_neg hdk]
     · rw [if_neg hik, if_neg (show ¬ i < k + 1 by omega)]
def pairsOf (ops : Array Oper) (d : Nat -> Bool) : Nat -> List (Tmp × Nat)
  | 0 => []
  | k + 1 => if d k then (match dstOf ops k with | some t => pairsOf ops d k ++ [(t, k)] | none => pairsOf ops d k) else pairsOf ops d k
theorem partA_fold (ops : Array Oper) (a0 : Act) (d : Nat -> Bool) (vs : Nat -> Value) (k : Nat) : partA ops a0 d vs k = (pairsOf ops d k).foldl (fun a p => a.put (some p.1) (vs p.2)) a0 := by
 induction k with
 | zero => rfl
 | succ k ih =>
   unfold partA pairsOf
   split
   · cases h : dstOf ops k with
     | none => simp only [Act.put]; exact ih
     | some t => simp only [List.foldl_append, List.foldl_cons, List.foldl_nil]; rw [ih]
   · exact ih
def relB (n : Nat) (ops : Array Oper) : Bool :=
 (List.range ops.size).all fun i => match ops[i]? with
   | none => true
   | some o => o.after.all (fun e => Region.binds .any e && decide (e.on < i)) && (match o.dst with | some t => decide (t < n) | none => true) &&
     (List.range ops.size).all fun j => match o.dst with
       | none => true
       | some t => j == i || dstOf ops j != some t
def dep (o : Oper) (j : Nat) : Bool := o.after.any (fun e => e.on == j)
def noDst (ops : Array Oper) (t : Tmp) : Bool := (List.range ops.size).all (fun j => dstOf ops j != some t)
def RelStep (G : World -> World -> Prop) (P : Program) (ops nops : Array Oper) (a0 : Act) (W : World) (R : Nat -> Value -> World -> Prop) (i : Nat) (o : Oper) : Prop :=
 ∀ (a : Act) (w : World), G W w -> (∀ j t, dep o j = true -> dstOf ops j = some t -> ∃ v, a.tmps[t]? = some v ∧ R j v w) -> (∀ t, noDst nops t = true -> a.tmps[t]? = a0.tmps[t]?) ->
   ∀ K : Act -> World -> Prop, (∀ v w', R i v w' -> G w w' -> K (a.put o.dst v) w') -> if Region.wanted o (yielded ops a.tmps) then o.wp P a w K (fun _ _ _ => False) else K (a.put o.dst undef) w
def relSteps (S : Nat -> Oper -> Prop) : Nat -> List Oper -> Prop
  | _, [] => True
  | k, o :: l => S k o ∧ relSteps S (k + 1) l
theorem relSteps_get {S : Nat -> Oper -> Prop} {l : List Oper} (k : Nat) (h : relSteps S k l) (i : Nat) (o : Oper) (hi : l[i]? = some o) : S (k + i) o := by
 induction l generalizing k i with
 | nil => simp at hi
 | cons x r ih =>
   cases i with
   | zero => simp at hi; subst hi; exact h.1
   | succ i =>
     have := ih (k + 1) h.2 i (by simpa using hi)
     rwa [show k + (i + 1) = k + 1 + i by omega]
theorem wp_region_relG {P : Program} {id : Nat} {l : List Oper} {Q : Exit -> Act -> World -> Prop} {a0 : Act} {W : World} (G : World -> World -> Prop) (hG : ∀ a b c, G a b -> G b c -> G a c) (hD : G W W.drew) (R : Nat -> Value -> World -> Prop) (hm : P.follows .mixedOrders = true) (hB : relB a0.tmps.size l.toArray = true)
    (hst : ∀ i v w w', R i v w -> G w w' -> R i v w')
    (hop : relSteps (RelStep G P l.toArray l.toArray a0 W R) 0 l)
    (hdone : ∀ (vs : Nat -> Value) (a : Act) (w : World), a = partA l.toArray a0 (fun _ => true) vs l.toArray.size -> G W w -> (∀ j, j < l.toArray.size -> R j (vs j) w) -> (∀ j t, dstOf l.toArray j = some t -> a.tmps[t]? = some (vs j)) -> (∀ t, noDst l.toArray t = true -> a.tmps[t]? = a0.tmps[t]?) -> a.tmps.size = a0.tmps.size -> a.defers = a0.defers -> Q .normal a w) :
    (Code.region id l.toArray true).wp P Q a0 W := by
 obtain ⟨ops, hops⟩ : ∃ ops, l.toArray = ops := ⟨_, rfl⟩
 have hop' : ∀ i o, ops[i]? = some o -> RelStep G P ops ops a0 W R i o := fun i o ho => by
  have := relSteps_get 0 hop i o (by rw [<- hops] at ho; simpa using ho)
  rw [hops] at this
  simpa using this
 rw [hops] at hB hdone ⊢
 clear hop hops
 have hB' : ∀ i o, ops[i]? = some o -> (∀ e ∈ o.after, Region.binds .any e = true ∧ e.on < i) ∧ (∀ t, o.dst = some t -> t < a0.tmps.size) ∧ ∀ j t, o.dst = some t -> j ≠ i -> dstOf ops j ≠ some t := by
  intro i o ho
  have hi : i < ops.size := (Array.getElem?_eq_some_iff.1 ho).1
  have h1 := List.all_eq_true.1 hB i (List.mem_range.2 hi)
  simp only [ho] at h1
  rw [Bool.and_eq_true, Bool.and_eq_true] at h1
  refine ⟨fun e he => by simpa using Array.all_eq_true_iff_forall_mem.1 h1.1.1 e he, fun t ht => by have := h1.1.2; rw [ht] at this; simpa using this, fun j t ht hne hj => ?_⟩
  have hjs : j < ops.size := by
   unfold dstOf at hj
   cases hh : ops[j]? with
   | none => rw [hh] at hj; cases hj
   | some x => exact (Array.getElem?_eq_some_iff.1 hh).1
  have h2 := List.all_eq_true.1 h1.2 j (List.mem_range.2 hjs)
  rw [ht] at h2
  simp only [Bool.or_eq_true] at h2
  rcases h2 with h | h
  · exact hne (by simpa using h)
  · rw [hj] at h; simp at h
 have hdst : ∀ j t, dstOf ops j = some t -> ∃ o, ops[j]? = some o ∧ o.dst = some t ∧ j < ops.size := fun j t hj => by
  unfold dstOf at hj
  cases hh : ops[j]? with
  | none => rw [hh] at hj; cases hj
  | some x => rw [hh] at hj; exact ⟨x, rfl, hj, (Array.getElem?_eq_some_iff.1 hh).1⟩
 have hnew : ∀ (d : Nat -> Bool) (vs : Nat -> Value) j t, d j = true -> dstOf ops j = some t -> (partA ops a0 d vs ops.size).tmps[t]? = some (vs j) := fun d vs j t hd hj => by
  obtain ⟨o, ho, ht, hjs⟩ := hdst j t hj
  obtain ⟨_, b2, b3⟩ := hB' j o ho
  exact partA_new t j _ hjs hd hj (b2 t ht) (fun k hk => b3 k t ht hk)
 have hold : ∀ (d : Nat -> Bool) (vs : Nat -> Value) t, noDst ops t = true -> (partA ops a0 d vs ops.size).tmps[t]? = a0.tmps[t]? := fun d vs t hn => partA_old t _ (fun j hj _ => by
  have := List.all_eq_true.1 hn j (List.mem_range.2 hj)
  simpa using this)
 have hdef : ∀ (d : Nat -> Bool) (vs : Nat -> Value) k, (partA ops a0 d vs k).defers = a0.defers := fun d vs k => by
  induction k with
  | zero => rfl
  | succ k ih =>
    unfold partA
    split
    · rw [<- ih]; cases dstOf ops k <;> rfl
    · exact ih
 refine wp_region_any hm (wpAny_inv (fun d a w => G W w ∧ ∃ vs, a = partA ops a0 d vs ops.size ∧ ∀ i, d i = true -> R i (vs i) w) (fun i o ho => (hB' i o ho).1) (fun d a w i o ho hd hdep hI => ?_) (fun d a w hd hI => ?_) ops.size _ _ _ (by simp) (by simp) ?_)
 · obtain ⟨hb, vs, rfl, hR⟩ := hI
   obtain ⟨b1, b2, b3⟩ := hB' i o ho
   have hi : i < ops.size := (Array.getElem?_eq_some_iff.1 ho).1
   have hdi : dstOf ops i = o.dst := by unfold dstOf; rw [ho]; rfl
   have hdj : ∀ j, dep o j = true -> d j = true := fun j hj => by
    obtain ⟨k, hk, he⟩ := Array.any_eq_true.1 hj
    have he' : o.after[k].on = j := by simpa using he
    rw [<- he']
    exact hdep _ (Array.getElem_mem hk)
   have h := hop' i o ho (partA ops a0 d vs ops.size) w hb (fun j t hj ht => ⟨vs j, hnew d vs j t (hdj j hj) ht, hR j (hdj j hj)⟩) (hold d vs)
     (fun a' w' => G W w' ∧ ∃ vs', a' = partA ops a0 (fun j => if j = i then true else d j) vs' ops.size ∧ ∀ j, (if j = i then true else d j) = true -> R j (vs' j) w') (fun v w' hv hw => by
       refine ⟨hG _ _ _ hb hw, fun j => if j = i then v else vs j, ?_, fun j hj => ?_⟩
       · rw [partA_set v hd (fun j t hne ht => b3 j t (by rw [<- hdi]; exact ht) hne) ops.size, if_pos hi, hdi]
       · dsimp only
         split
         · rename_i e; rw [e]; exact hv
         · rename_i e
           rw [if_neg e] at hj
           exact hst _ _ _ _ (hR j hj) hw)
   unfold wpOp
   rw [ho]
   simp only
   split
   · rename_i hw
     rw [if_pos hw] at h
     refine .inl ?_
     unfold Oper.wp at h ⊢
     generalize (execOp (partA ops a0 d vs ops.size).eval o).run P w = r at h ⊢
     cases r with
     | halt x w' => cases x <;> exact (show False from h).elim
     | ok n w' =>
       cases n
       case enter f args =>
        rw [Oper.upon_enter] at h ⊢
        refine h.mono ?_
        intro e w'' he
        cases e with
        | returned u => exact he
        | panicked c => exact he.elim
        | outgrown => obtain ⟨_, _, hf⟩ := he; exact hf.elim
       all_goals exact h
   · rename_i hw
     rw [if_neg hw] at h
     exact h
 · obtain ⟨hb, vs, rfl, hR⟩ := hI
   exact hdone vs _ w (partA_congr _ (fun j hj => hd j hj)) hb (fun j hj => hR j (hd j hj)) (fun j t hj => by
    obtain ⟨_, _, _, hjs⟩ := hdst j t hj
    exact hnew d vs j t (hd j hjs) hj) (hold d vs) (partA_size _) (hdef d vs _)
 · exact ⟨hD, fun _ => undef, (partA_none ops.size (fun j => by
    rw [Array.getD_eq_getD_getElem?, Array.getElem?_replicate]
    split <;> rfl)).symm, fun i hi => by
    exfalso
    dsimp only at hi
    rw [Array.getD_eq_getD_getElem?, Array.getElem?_replicate] at hi
    split at hi <;> cases hi⟩
theorem wp_region_rel {P : Program} {id : Nat} {l : List Oper} {Q : Exit -> Act -> World -> Prop} {a0 : Act} {W : World} (R : Nat -> Value -> World -> Prop) (hm : P.follows .mixedOrders = true) (hB : relB a0.tmps.size l.toArray = true)
    (hst : ∀ i v w w', R i v w -> Below w.heap.size w w' -> R i v w')
    (hop : relSteps (RelStep (fun a b => Below a.heap.size a b) P l.toArray l.toArray a0 W R) 0 l)
    (hdone : ∀ (vs : Nat -> Value) (a : Act) (w : World), a = partA l.toArray a0 (fun _ => true) vs l.toArray.size -> Below W.heap.size W w -> (∀ j, j < l.toArray.size -> R j (vs j) w) -> (∀ j t, dstOf l.toArray j = some t -> a.tmps[t]? = some (vs j)) -> (∀ t, noDst l.toArray t = true -> a.tmps[t]? = a0.tmps[t]?) -> a.tmps.size = a0.tmps.size -> a.defers = a0.defers -> Q .normal a w) :
    (Code.region id l.toArray true).wp P Q a0 W :=
 wp_region_relG (fun a b => Below a.heap.size a b) (fun _ _ _ h h' => h.trans (h'.mono h.size)) (Below.refl _ W).drew R hm hB hst hop hdone
section
variable {P : Program} {ops : Array Oper} {a : Act} {w w' : World} {o : Oper} {K : Act -> World -> Prop} {Q : Exit -> Act -> World -> Prop} {E : Prop}
theorem ev {t : Tmp} {v : Value} (h : a.tmps[t]? = some v) : a.eval (.tmp t) = v := by
 simp only [Act.eval, Array.getD_eq_getD_getElem?, h, Option.getD_some]
theorem wanted_none (hg : o.guard = none) : Region.wanted o (yielded ops a.tmps) = true := by
 unfold Region.wanted; rw [hg]
theorem wanted_at {g : Nat} {b : Bool} {t : Tmp} (hg : o.guard = some (g, b)) (ht : dstOf ops g = some t) (hv : a.tmps[t]? = some (.bool b)) : Region.wanted o (yielded ops a.tmps) = true := by
 have hy : yielded ops a.tmps g = some b := by
  unfold yielded
  have ht' : (ops[g]?).bind (·.dst) = some t := ht
  rw [ht', Option.bind_some, hv]
 unfold Region.wanted
 rw [hg]
 simp only [hy, beq_self_eq_true]
theorem st_if (hw : Region.wanted o (yielded ops a.tmps) = true) (h : o.wp P a w K Q) : if Region.wanted o (yielded ops a.tmps) then o.wp P a w K Q else E := by
 rw [if_pos hw]; exact h
theorem st_run {v : Value} (h : (execOp a.eval o).run P w = .ok (.value v) w) (hK : K (a.put o.dst v) w) : o.wp P a w K Q := by
 unfold Oper.wp; rw [h]; exact hK
theorem st_run' {v : Value} (h : (execOp a.eval o).run P w = .ok (.value v) w') (hK : K (a.put o.dst v) w') : o.wp P a w K Q := by
 unfold Oper.wp; rw [h]; exact hK
theorem st_mk {t : TypeId} {ps : Array (Nat × Operand)} {qs : Array (Nat × Value)} {v : Value} (ho : o.op = .build t ps) (hq : ps.map (fun p => (p.1, a.eval p.2)) = qs) (hv : (Instr.build t qs).run P w = .ok v w) (hK : K (a.put o.dst v) w) : o.wp P a w K Q := by
 refine st_run ?_ hK
 simp only [execOp, ho, hq]
 rw [Sem.run_bind, hv]
 rfl
theorem st_build {t : TypeId} {n : Nat} {ps : Array (Nat × Operand)} {qs : Array (Nat × Value)} {v : Value} (ho : o.op = .buildSlice t n ps) (hq : ps.map (fun p => (p.1, a.eval p.2)) = qs) (hv : (Instr.buildSlice t n qs).run P w = .ok v w') (hK : K (a.put o.dst v) w') : o.wp P a w K Q := by
 refine st_run' ?_ hK
 simp only [execOp, ho, hq]
 rw [Sem.run_bind, hv]
 rfl
theorem st_move {s : Operand} {v : Value} (ho : o.op = .move s ∨ o.op = .assign s) (hs : a.eval s = v) (hK : K (a.put o.dst v) w) : o.wp P a w K Q := by
 refine st_run ?_ hK
 rcases ho with ho | ho <;> simp only [execOp, ho, hs] <;> rfl
theorem st_pick {c x y : Operand} {b : Bool} (ho : o.op = .pick c x y) (hc : a.eval c = .bool b) {v : Value} (hv : (if b then a.eval x else a.eval y) = v) (hK : K (a.put o.dst v) w) : o.wp P a w K Q := by
 refine st_run ?_ hK
 simp only [execOp, ho, hc]
 subst hv
 cases b <;> rfl
theorem st_nil {s : Operand} {p : Addr} (ho : o.op = .nilCheck s) (hs : a.eval s = .pointer (some p)) (hK : K (a.put o.dst (.pointer (some p))) w) : o.wp P a w K Q := by
 refine st_run ?_ hK
 simp only [execOp, ho, hs]
 rfl
theorem st_op {op : BinOp} {xt yt : TypeId} {x y : Operand} {vx vy v : Value} (ho : o.op = .binOp op xt x y yt) (hx : a.eval x = vx) (hy : a.eval y = vy) (hv : ((do eqGuard op xt x y vx vy; binOp op xt vx vy : Sem Value)).run P w = .ok v w) (hK : K (a.put o.dst v) w) : o.wp P a w K Q := by
 refine st_run ?_ hK
 simp only [execOp, ho, hx, hy]
 rw [Sem.run_bind, hv]
 rfl
theorem st_field {t : TypeId} {s : Operand} {f : Nat} {x v : Value} (ho : o.op = .fieldAddr t s f) (hs : a.eval s = x) (hv : (Instr.fieldAt t x f).run P w = .ok v w) (hK : K (a.put o.dst v) w) : o.wp P a w K Q := by
 refine st_run ?_ hK
 simp only [execOp, ho, hs]
 rw [Sem.run_bind, hv]
 rfl
theorem st_conv {t1 t2 : TypeId} {s : Operand} {x v : Value} (ho : o.op = .convert t1 t2 s) (hs : a.eval s = x) (hv : (convert t1 t2 x).run P w = .ok v w) (hK : K (a.put o.dst v) w) : o.wp P a w K Q := by
 refine st_run ?_ hK
 simp only [execOp, ho, hs]
 rw [Sem.run_bind, hv]
 rfl
theorem st_index {t : TypeId} {s i : Operand} {x y v : Value} (ho : o.op = .indexAddr t s i) (hs : a.eval s = x) (hi : a.eval i = y) (hv : (Instr.indexAt t x y).run P w = .ok v w) (hK : K (a.put o.dst v) w) : o.wp P a w K Q := by
 refine st_run ?_ hK
 simp only [execOp, ho, hs, hi]
 rw [Sem.run_bind, hv]
 rfl
theorem st_load {t : TypeId} {s : Operand} {x v : Value} (ho : o.op = .load t s) (hs : a.eval s = x) (hv : (Instr.loadAt t x).run P w = .ok v w) (hK : K (a.put o.dst v) w) : o.wp P a w K Q := by
 refine st_run ?_ hK
 simp only [execOp, ho, hs]
 rw [Sem.run_bind, hv]
 rfl
theorem st_call {f : FuncId} {fn : Func} {xs : Array Operand} {ts : Array TypeId} {vs : Array Value} (hf : P.funcs[f]? = some fn) (hn : (fn.name == "runtime.NumGoroutine") = false) (hbd : fn.body.isNone = false) (ho : o.op = .call { callee := .value (.func f), args := xs, argTypes := ts }) (ha : xs.map a.eval = vs) {R : Value -> World -> Prop} (hc : Calls P f vs w (fun e w' => ∃ v, e = .returned v ∧ R v w')) (hK : ∀ v w', R v w' -> K (a.put o.dst v) w') : o.wp P a w K Q := by
 have h : (execOp a.eval o).run P w = .ok (.enter f vs) w := by
  simp only [execOp, ho, resolve, ha]
  simp only [Deferred.ofValue, Act.eval, invoke, callFunc, Sem.run_bind, Sem.run_pure, Result.andThen_ok, Array.append_empty]
  simp only [run_program, Result.andThen_ok, hf, hn, hbd, Bool.false_eq_true, if_false, Sem.run_pure, Array.empty_append]
 unfold Oper.wp
 rw [h, Oper.upon_enter]
 refine hc.mono fun e w' he => ?_
 obtain ⟨v, rfl, hv⟩ := he
 exact hK v w' hv
end
end Go.Proofs.YtfabgbmbnmbjkaaGreatDoor

/- Pruned. -/
namespace Go.Proofs.YtfabgbmbnmbjkaaGreatDoor
open Go.RowKit
set_option maxRecDepth 20000
def sinkB (n : Nat) (ops : Array Oper) : Bool :=
 (List.range n).all (fun i => (List.range ops.size).any (fun j => decide (i < j) && decide (j <= n) && ((ops[j]?).map (fun o => dep o i)).getD false)) &&
 (List.range ops.size).all (fun j => decide (j <= n) || ((ops[j]?).map (fun o => dep o (j - 1))).getD false)
theorem wp_region_relE {P : Program} {id n : Nat} {l : List Oper} {Q : Exit -> Act -> World -> Prop} {a0 : Act} {W : World} (R : Nat -> Value -> World -> Prop) (hm : P.follows .mixedOrders = true) (hB : relB a0.tmps.size l.toArray = true) (hn : n < l.length) (hS : sinkB n l.toArray = true)
    (hst : ∀ i v w w', R i v w -> Below w.heap.size w w' -> R i v w')
    (hop : relSteps (RelStep (fun a b => Below a.heap.size a b) P l.toArray (l.take n).toArray a0 W R) 0 (l.take n))
    (hfin : ∀ (vs : Nat -> Value) (a : Act) (w : World), a = partA l.toArray a0 (fun j => decide (j < n)) vs l.toArray.size -> Below W.heap.size W w -> (∀ j, j < n -> R j (vs j) w) -> wpList P l.toArray Q (l.drop n) a w) :
    (Code.region id l.toArray true).wp P Q a0 W := by
 obtain ⟨ops, hops⟩ : ∃ ops, l.toArray = ops := ⟨_, rfl⟩
 have hls : l.length = ops.size := by rw [<- hops]; simp
 have hlg : ∀ i : Nat, l[i]? = ops[i]? := fun i => by rw [<- hops]; simp
 have hop' : ∀ i o, i < n -> ops[i]? = some o -> RelStep (fun a b => Below a.heap.size a b) P ops (l.take n).toArray a0 W R i o := fun i o hi ho => by
  have := relSteps_get 0 hop i o (by rw [List.getElem?_take, if_pos hi, hlg]; exact ho)
  rw [hops] at this
  simpa using this
 rw [hops] at hB hfin hS ⊢
 rw [hls] at hn
 clear hop
 have hB' : ∀ i o, ops[i]? = some o -> (∀ e ∈ o.after, Region.binds .any e = true ∧ e.on < i) ∧ (∀ t, o.dst = some t -> t < a0.tmps.size) ∧ ∀ j t, o.dst = some t -> j ≠ i -> dstOf ops j ≠ some t := by
  intro i o ho
  have hi : i < ops.size := (Array.getElem?_eq_some_iff.1 ho).1
  have h1 := List.all_eq_true.1 hB i (List.mem_range.2 hi)
  simp only [ho] at h1
  rw [Bool.and_eq_true, Bool.and_eq_true] at h1
  refine ⟨fun e he => by simpa using Array.all_eq_true_iff_forall_mem.1 h1.1.1 e he, fun t ht => by have := h1.1.2; rw [ht] at this; simpa using this, fun j t ht hne hj => ?_⟩
  have hjs : j < ops.size := by
   unfold dstOf at hj
   cases hh : ops[j]? with
   | none => rw [hh] at hj; cases hj
   | some x => exact (Array.getElem?_eq_some_iff.1 hh).1
  have h2 := List.all_eq_true.1 h1.2 j (List.mem_range.2 hjs)
  rw [ht] at h2
  simp only [Bool.or_eq_true] at h2
  rcases h2 with h | h
  · exact hne (by simpa using h)
  · rw [hj] at h; simp at h
 have hdst : ∀ j t, dstOf ops j = some t -> ∃ o, ops[j]? = some o ∧ o.dst = some t ∧ j < ops.size := fun j t hj => by
  unfold dstOf at hj
  cases hh : ops[j]? with
  | none => rw [hh] at hj; cases hj
  | some x => rw [hh] at hj; exact ⟨x, rfl, hj, (Array.getElem?_eq_some_iff.1 hh).1⟩
 have hnew : ∀ (d : Nat -> Bool) (vs : Nat -> Value) j t, d j = true -> dstOf ops j = some t -> (partA ops a0 d vs ops.size).tmps[t]? = some (vs j) := fun d vs j t hd hj => by
  obtain ⟨o, ho, ht, hjs⟩ := hdst j t hj
  obtain ⟨_, b2, b3⟩ := hB' j o ho
  exact partA_new t j _ hjs hd hj (b2 t ht) (fun k hk => b3 k t ht hk)
 have hold : ∀ (d : Nat -> Bool) (vs : Nat -> Value), (∀ i, n <= i -> d i = false) -> ∀ t, noDst (l.take n).toArray t = true -> (partA ops a0 d vs ops.size).tmps[t]? = a0.tmps[t]? := fun d vs hd t hnd => partA_old t _ (fun j hj hdj => by
  have hjn : j < n := by
   rcases Nat.lt_or_ge j n with h | h
   · exact h
   · rw [hd j h] at hdj; cases hdj
  have h1 : (l.take n).toArray.size = n := by simp; omega
  have h2 := List.all_eq_true.1 hnd j (List.mem_range.2 (by rw [h1]; exact hjn))
  have h3 : dstOf (l.take n).toArray j = dstOf ops j := by
   unfold dstOf
   have : (l.take n).toArray[j]? = ops[j]? := by
    rw [<- hlg j]
    simp [hjn]
   rw [this]
  rw [h3] at h2
  simpa using h2)
 rw [sinkB, Bool.and_eq_true] at hS
 have hS1 : ∀ i, i < n -> ∃ j o, i < j ∧ j <= n ∧ ops[j]? = some o ∧ dep o i = true := fun i hi => by
  have h1 := List.all_eq_true.1 hS.1 i (List.mem_range.2 hi)
  obtain ⟨j, hj, h2⟩ := List.any_eq_true.1 h1
  rw [Bool.and_eq_true, Bool.and_eq_true] at h2
  obtain ⟨⟨a1, a2⟩, a3⟩ := h2
  cases ho : ops[j]? with
  | none => rw [ho] at a3; simp at a3
  | some o => rw [ho] at a3; exact ⟨j, o, by simpa using a1, by simpa using a2, ho, by simpa using a3⟩
 have hS2 : ∀ j o, n < j -> ops[j]? = some o -> dep o (j - 1) = true := fun j o hj ho => by
  have h1 := List.all_eq_true.1 hS.2 j (List.mem_range.2 (Array.getElem?_eq_some_iff.1 ho).1)
  rw [ho, Bool.or_eq_true] at h1
  rcases h1 with h | h
  · have : j <= n := by simpa using h
    omega
  · simpa using h
 have hdep : ∀ (d : Nat -> Bool) (o : Oper), (∀ e ∈ o.after, d e.on = true) -> ∀ j, dep o j = true -> d j = true := fun d o hd j hj => by
  obtain ⟨k, hk, he⟩ := Array.any_eq_true.1 hj
  have he' : o.after[k].on = j := by simpa using he
  rw [<- he']
  exact hd _ (Array.getElem_mem hk)
 refine wp_region_any hm (wpAny_inv (fun d a w => (∀ i o, d i = true -> ops[i]? = some o -> ∀ j, dep o j = true -> d j = true) ∧
     (((∀ i, n <= i -> d i = false) ∧ Below W.heap.size W w ∧ ∃ vs, a = partA ops a0 d vs ops.size ∧ ∀ i, d i = true -> R i (vs i) w) ∨
      (∃ m, 0 < m ∧ n + m <= ops.size ∧ (∀ i, i < ops.size -> (d i = true ↔ i < n + m)) ∧ wpList P ops Q (l.drop (n + m)) a w))) (fun i o ho => (hB' i o ho).1) (fun d a w i o ho hd hdp hI => ?_) (fun d a w hd hI => ?_) ops.size _ _ _ (by simp) (by simp) ?_)
 · obtain ⟨hcl, hI⟩ := hI
   have hi : i < ops.size := (Array.getElem?_eq_some_iff.1 ho).1
   have hdi : dstOf ops i = o.dst := by unfold dstOf; rw [ho]; rfl
   have hcl' : ∀ x p, (if x = i then true else d x) = true -> ops[x]? = some p -> ∀ j, dep p j = true -> (if j = i then true else d j) = true := fun x p hx hp j hj => by
    by_cases hji : j = i
    · rw [if_pos hji]
    · rw [if_neg hji]
      by_cases hxi : x = i
      · subst hxi
        obtain rfl : o = p := Option.some.inj (ho.symm.trans hp)
        exact hdep d o hdp j hj
      · rw [if_neg hxi] at hx
        exact hcl x p hx hp j hj
   -- all that stands ahead of the end
   have hend : i = n -> ∀ k, k < n -> d k = true := fun hin => by
    subst hin
    have key : ∀ t k, k < i -> i - k <= t -> d k = true := fun t => by
     induction t with
     | zero => intro k hk ht; omega
     | succ t ih =>
       intro k hk ht
       obtain ⟨j, p, h1, h2, h3, h4⟩ := hS1 k hk
       by_cases hj : j = i
       · subst hj
         obtain rfl : o = p := Option.some.inj (ho.symm.trans h3)
         exact hdep d o hdp k h4
       · exact hcl j p (ih j (by omega) (by omega)) h3 k h4
    exact fun k hk => key (i - k) k hk (Nat.le_refl _)
   have hdrop : l.drop i = o :: l.drop (i + 1) := by
    have h1 : i < l.length := by omega
    rw [List.drop_eq_getElem_cons h1]
    congr 1
    have := hlg i
    rw [ho, List.getElem?_eq_getElem h1] at this
    exact Option.some.inj this
   rcases hI with ⟨h0, hb, vs, rfl, hR⟩ | ⟨m, hm0, hms, hmd, hl⟩
   · rcases Nat.lt_trichotomy i n with hin | hin | hin
     · have h := hop' i o hin ho (partA ops a0 d vs ops.size) w hb (fun j t hj ht => ⟨vs j, hnew d vs j t (hdep d o hdp j hj) ht, hR j (hdep d o hdp j hj)⟩) (hold d vs h0)
         (fun a' w' => (∀ x p, (if x = i then true else d x) = true -> ops[x]? = some p -> ∀ j, dep p j = true -> (if j = i then true else d j) = true) ∧
           (((∀ j, n <= j -> (if j = i then true else d j) = false) ∧ Below W.heap.size W w' ∧ ∃ vs', a' = partA ops a0 (fun j => if j = i then true else d j) vs' ops.size ∧ ∀ j, (if j = i then true else d j) = true -> R j (vs' j) w') ∨
            (∃ m, 0 < m ∧ n + m <= ops.size ∧ (∀ j, j < ops.size -> ((if j = i then true else d j) = true ↔ j < n + m)) ∧ wpList P ops Q (l.drop (n + m)) a' w'))) (fun v w' hv hw => by
           refine ⟨hcl', .inl ⟨fun j hj => by rw [if_neg (by omega)]; exact h0 j hj, hb.trans (hw.mono hb.size), fun j => if j = i then v else vs j, ?_, fun j hj => ?_⟩⟩
           · rw [partA_set v hd (fun j t hne ht => (hB' i o ho).2.2 j t (by rw [<- hdi]; exact ht) hne) ops.size, if_pos hi, hdi]
           · dsimp only
             split
             · rename_i e; rw [e]; exact hv
             · rename_i e
               rw [if_neg e] at hj
               exact hst _ _ _ _ (hR j hj) hw)
       unfold wpOp
       rw [ho]
       simp only
       split
       · rename_i hw
         rw [if_pos hw] at h
         refine .inl ?_
         unfold Oper.wp at h ⊢
         generalize (execOp (partA ops a0 d vs ops.size).eval o).run P w = r at h ⊢
         cases r with
         | halt x w' => cases x <;> exact (show False from h).elim
         | ok nx w' =>
           cases nx
           case enter f args =>
            rw [Oper.upon_enter] at h ⊢
            refine h.mono ?_
            intro e w'' he
            cases e with
            | returned u => exact he
            | panicked c => exact he.elim
            | outgrown => obtain ⟨_, _, hf⟩ := he; exact hf.elim
           all_goals exact h
       · rename_i hw
         rw [if_neg hw] at h
         exact h
     · have hall := hend hin
       subst hin
       have hda : partA ops a0 d vs ops.size = partA ops a0 (fun j => decide (j < i)) vs ops.size := by
        have : d = fun j => decide (j < i) := by
         funext j
         rcases Nat.lt_or_ge j i with h | h
         · rw [hall j h, decide_eq_true h]
         · rw [h0 j h, decide_eq_false (by omega)]
        rw [<- this]
       have h := hfin vs _ w hda hb (fun j hj => hR j (hall j hj))
       rw [hdrop] at h
       have hmn : ∀ a' w', wpList P ops Q (l.drop (i + 1)) a' w' -> (∀ x p, (if x = i then true else d x) = true -> ops[x]? = some p -> ∀ j, dep p j = true -> (if j = i then true else d j) = true) ∧
           (((∀ j, i <= j -> (if j = i then true else d j) = false) ∧ Below W.heap.size W w' ∧ ∃ vs', a' = partA ops a0 (fun j => if j = i then true else d j) vs' ops.size ∧ ∀ j, (if j = i then true else d j) = true -> R j (vs' j) w') ∨
            (∃ m, 0 < m ∧ i + m <= ops.size ∧ (∀ j, j < ops.size -> ((if j = i then true else d j) = true ↔ j < i + m)) ∧ wpList P ops Q (l.drop (i + m)) a' w')) := fun a' w' h' =>
        ⟨hcl', .inr ⟨1, by omega, by omega, fun j hj => by
         by_cases hji : j = i
         · rw [if_pos hji]; exact ⟨fun _ => by omega, fun _ => rfl⟩
         · rw [if_neg hji]
           constructor
           · intro hx
             rcases Nat.lt_or_ge j i with h | h
             · omega
             · rw [h0 j h] at hx; cases hx
           · intro hx; exact hall j (by omega), h'⟩⟩
       have hx : wpOp P ops Q i (wpList P ops Q (l.drop (i + 1))) (partA ops a0 d vs ops.size) w := by
        unfold wpOp
        rw [ho]
        exact h
       exact wpOp_mono hmn hx
     · exfalso
       have h1 := hdep d o hdp (i - 1) (hS2 i o hin ho)
       rw [h0 (i - 1) (by omega)] at h1
       cases h1
   · have hin : i = n + m := by
      rcases Nat.lt_trichotomy i (n + m) with h | h | h
      · rw [(hmd i hi).2 h] at hd; cases hd
      · exact h
      · exfalso
        have h1 := hdep d o hdp (i - 1) (hS2 i o (by omega) ho)
        have := (hmd (i - 1) (by omega)).1 h1
        omega
     rw [<- hin, hdrop] at hl
     have hx : wpOp P ops Q i (wpList P ops Q (l.drop (i + 1))) a w := by
      unfold wpOp
      rw [ho]
      exact hl
     refine wpOp_mono (fun a' w' h' => ⟨hcl', .inr ⟨m + 1, by omega, by omega, fun j hj => ?_, by rw [show n + (m + 1) = i + 1 by omega]; exact h'⟩⟩) hx
     dsimp only
     by_cases hji : j = i
     · rw [if_pos hji]; exact ⟨fun _ => by omega, fun _ => rfl⟩
     · rw [if_neg hji, hmd j hj]; omega
 · obtain ⟨_, hI⟩ := hI
   rcases hI with ⟨h0, _⟩ | ⟨m, hm0, hms, hmd, hl⟩
   · have h1 := hd n hn
     rw [h0 n (Nat.le_refl _)] at h1
     cases h1
   · have : ops.size <= n + m := by
      rcases Nat.lt_or_ge (n + m) ops.size with h | h
      · have := (hmd (n + m) h).1 (hd _ h)
        omega
      · exact h
     rw [List.drop_eq_nil_of_le (by omega)] at hl
     exact hl
 · have hz : ∀ i, (Array.replicate ops.size false).getD i false = false := fun i => by
    rw [Array.getD_eq_getD_getElem?, Array.getElem?_replicate]
    split <;> rfl
   refine ⟨fun i o hi => ?_, .inl ⟨fun i _ => hz i, (Below.refl _ W).drew, fun _ => undef, (partA_none ops.size hz).symm, fun i hi => ?_⟩⟩
   · dsimp only at hi
     rw [hz i] at hi
     cases hi
   · dsimp only at hi
     rw [hz i] at hi
     cases hi
end Go.Proofs.YtfabgbmbnmbjkaaGreatDoor

