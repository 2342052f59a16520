/- Joined texts: So Cm In In2 Rf Ri. -/
import Derived.Test.YtfabgbmbnmbjkaaGreatDoorRah
import Derived.Test.YtfabgbmbnmbjkaaGreatDoorShp
import Derived.Maps.RangeWalk
import Derived.Test.YtfabgbmbnmbjkaaGreatDoorRac
/- Pruned. -/
namespace Go.Proofs.YtfabgbmbnmbjkaaGreatDoor
open Go.RowKit Go.Sort Go.Shelf
set_option maxRecDepth 20000
section
variable {α : Type} [Inhabited α]
theorem flat_get (enc : α -> List Value) (k : Nat) (hk : ∀ x, (enc x).length = k) : ∀ (l : List α) (t : Nat), t < l.length * k -> (l.flatMap enc)[t]? = some ((enc l.toArray[t / k]!)[t % k]!)
  | [], t, h => by simp at h
  | x :: r, t, h => by
    have k0 : 0 < k := by rcases Nat.eq_zero_or_pos k with h' | h'; · subst h'; simp at h
                          · exact h'
    rw [List.flatMap_cons]
    by_cases h1 : t < k
    · rw [List.getElem?_append_left (by rw [hk]; exact h1), Nat.div_eq_of_lt h1, Nat.mod_eq_of_lt h1]
      have : t < (enc x).length := by rw [hk]; exact h1
      simp [this]
    · rw [List.getElem?_append_right (by rw [hk]; omega), hk]
      have hlen : (x :: r).length * k = r.length * k + k := by simp [Nat.add_mul]
      have := flat_get enc k hk r (t - k) (by rw [hlen] at h; omega)
      rw [this]
      have e1 : t / k = (t - k) / k + 1 := Nat.div_eq_sub_div k0 (by omega)
      have e2 : t % k = (t - k) % k := Nat.mod_eq_sub_mod (by omega)
      rw [e1, e2]
      simp
theorem flat_toList (enc : α -> List Value) (k : Nat) (hk : ∀ x, (enc x).length = k) (l : List α) : (flatK enc k l.toArray).toList = l.flatMap enc := by
 have hl : (l.flatMap enc).length = l.length * k := by
  induction l with
  | nil => simp
  | cons x r ih => simp [ih, hk, Nat.add_mul]; omega
 apply List.ext_getElem?
 intro t
 by_cases h : t < l.length * k
 · rw [flat_get enc k hk l t h, Array.getElem?_toList, Array.getElem?_eq_getElem (by simpa using h)]
   have := get_flatK enc k l.toArray t (by simpa using h)
   rw [getElem!_pos _ t (by simpa using h)] at this
   rw [this]
 · rw [List.getElem?_eq_none (l := (flatK enc k l.toArray).toList) (by simp; omega), List.getElem?_eq_none (l := l.flatMap enc) (by rw [hl]; omega)]
theorem holds_flat {w : World} {g : Nat} {cur : Array Value} {e : TypeId} {F : Array Value} (hb : w.heap[g]? = some (.cells cur e (0, 0))) (ht : cur.toList.take F.size = F.toList) : Holds id w g 0 F := by
 intro j hj
 refine ⟨?_, by simp [World.frozen?, hb]⟩
 have h1 : (cur.toList.take F.size)[j]? = F.toList[j]? := by rw [ht]
 rw [List.getElem?_take_of_lt hj] at h1
 simp only [World.cell?, hb, Nat.zero_add]
 simp only [Option.isSome_none, Bool.false_eq_true, if_false]
 rw [<- Array.getElem?_toList, h1, Array.getElem?_toList, Array.getElem?_eq_getElem hj]
 simp [hj]
theorem after_flat {w : World} {g n : Nat} {os : Array Obj} {cur : Array Value} {e : TypeId} (F : Array Value) (hF : F.size <= cur.size) (hb : w.heap[g]? = some (.cells cur e (0, 0))) :
    ∃ cur' : Array Value, (grow (putRow id (Sort.ahead w n) g 0 F) os).heap[g]? = some (.cells cur' e (0, 0)) ∧ cur'.size = cur.size ∧ cur'.toList.take F.size = F.toList ∧ Kp (fun i => i = g) w (grow (putRow id (Sort.ahead w n) g 0 F) os) := by
 have hg : g < w.heap.size := (Array.getElem?_eq_some_iff.1 hb).1
 refine ⟨putCells id 0 F cur, ?_, by simp [putCells], ?_, ⟨rfl, rfl, rfl, by simp [grow, putRow, mapBlock, Sort.ahead], fun k hk hne => ?_⟩⟩
 · rw [heap_grow_old _ _ (by simpa [putRow, mapBlock, Sort.ahead] using hg)]
   simp [putRow, mapBlock, Sort.ahead, Array.getElem?_modify, hb, onCells]
 · apply List.ext_getElem?
   intro j
   by_cases hj : j < F.size
   · rw [List.getElem?_take_of_lt hj, Array.getElem?_toList, Array.getElem?_toList]
     simp [putCells, hj, show j < cur.size by omega]
   · rw [List.getElem?_take_eq_none (by omega), List.getElem?_eq_none (by simp; omega)]
 · rw [heap_grow_old _ _ (by simpa [putRow, mapBlock, Sort.ahead] using hk)]
   have : g ≠ k := fun e => hne e.symm
   simp [putRow, mapBlock, Sort.ahead, Array.getElem?_modify, this]
end
instance : Inhabited Pl := ⟨p0⟩
def byBlock (x y : Pl) : Int := Lib.compareInt x.k y.k
theorem byBlock_lt (x y : Pl) : ltOf byBlock x y = decide (x.k < y.k) := by
 unfold ltOf byBlock Lib.compareInt
 by_cases h1 : x.k < y.k
 · simp [h1]
 · by_cases h2 : y.k < x.k <;> simp [h1, h2]
theorem byBlock_swo : SWO (ltOf byBlock) where
  irrefl x := by rw [byBlock_lt]; simp
  trans x y z h1 h2 := by rw [byBlock_lt] at *; simp at *; omega
  ntrans x y z h1 h2 := by rw [byBlock_lt] at *; simp at *; omega
set_option maxHeartbeats 1000000 in
theorem inCmp_any (x y : Pl) (W : World) : Calls Tryz.prog 64 #[.agg #[.int .u32 x.t, .int .u64 x.b, .int .i64 x.z, .int .i64 x.k], .agg #[.int .u32 y.t, .int .u64 y.b, .int .i64 y.z, .int .i64 y.k]] W
    fun e w' => e = .returned (.int .i64 (byBlock x y)) ∧ ∃ q os', w' = grow (W.drewN q) os' := by
 have hcon := fun W' => AnyG.cmp_Compare_int cmpInt x.k y.k W'
 change ∀ W', Calls Tryz.prog 65 _ _ _ at hcon
 unfold byBlock
 generalize Lib.compareInt x.k y.k = r at hcon ⊢
 go_enter Tryz.func64, Tryz.ntmps64
 go_wp2_with (go_at_call 65; refine (hcon _).mono ?_; rintro e w' ⟨rfl, rfl⟩)
 go_ret
 exact ⟨rfl, 0, _, by rw [alloc_eq_grow, alloc_eq_grow, grow_grow]; rfl⟩
theorem sort_pl (w : World) (base g cap : Nat) (L : List Pl) (hL : L.length <= 1000000) (h0 : 0 < L.length) (h : OwnPl w base (some ⟨g, 0, none⟩) cap L) :
    Calls Tryz.prog 63 #[.slice (some ⟨g, 0, none⟩) L.length cap, .func (.func 64) #[] #[]] w
      (fun e w' => e = .returned (.tuple #[]) ∧ ∃ S : List Pl, S.Perm L ∧ S.Pairwise (fun a b => a.k <= b.k) ∧ S.length = L.length ∧ OwnPl w' base (some ⟨g, 0, none⟩) cap S ∧ Kp (fun i => i = g) w w') := by
 have eg : ∀ args w, (callFunc 64 args).run Tryz.prog w = .ok (.enter 64 args) w := enters_of Tryz.func64 (by kernel_rfl) rfl
 obtain ⟨hlen, hx⟩ := h
 rcases hx with ⟨_, hz⟩ | ⟨g', cap', cur, hv, hbase, hb, hn, hcap, hcs, ht⟩
 · omega
 · injection hv with hA _ hC
   have hgg : g = g' := by injection hA with hA; injection hA
   subst hgg hC
   have hk : ∀ x : Pl, (plC x).length = 4 := fun _ => rfl
   have hfl : (flatK plC 4 L.toArray).toList = plCs L := flat_toList plC 4 hk L
   have hsz : (flatK plC 4 L.toArray).size = L.length * 4 := by simp
   have hH : HoldsK plC 4 w g 0 L.toArray := holds_flat hb (by rw [hfl, hsz]; exact ht)
   have hlt : g < w.heap.size := (Array.getElem?_eq_some_iff.1 hb).1
   have hcon := AnyQ.slices_SortFunc sortPl 4 Tryz.isAgg55 Tryz.sizeOf55 plC hk (fun x v hv => plCs_one [x] v (by simpa [plCs] using hv)) byBlock byBlock_swo 64 #[] g 0 cap L.toArray w eg (fun _ _ _ _ x y => inCmp_any x y _) hH hlt (by simp; omega)
   have e1 : L.toArray.size = L.length := by simp
   rw [e1] at hcon
   refine hcon.mono ?_
   rintro e w' ⟨rfl, d', n, os, hp, hs, rfl⟩
   obtain ⟨p1, _, p3⟩ := hp
   have hd : d'.size = L.length := by rw [p1, e1]
   have hS : d'.toList.length = L.length := by simpa using hd
   have hfl' : (flatK plC 4 d').toList = plCs d'.toList := by
    have := flat_toList plC 4 hk d'.toList
    simpa [plCs] using this
   have hsz' : (flatK plC 4 d').size = L.length * 4 := by simp [hd]
   obtain ⟨cur', c1, c2, c3, c4⟩ := after_flat (n := n) (os := os) (flatK plC 4 d') (by rw [hsz', hcs]; exact Nat.mul_le_mul_right 4 hn) hb
   refine ⟨rfl, d'.toList, ?_, ?_, hS, ⟨plCs_length _, .inr ⟨g, cap, cur', by rw [hS], hbase, c1, by rw [hS]; exact hn, hcap, by rw [c2, hcs], ?_⟩⟩, c4⟩
   · have h3 : (d'.extract 0 L.length).toList.Perm (L.toArray.extract 0 L.length).toList := p3
     simp [<- hd] at h3
     rwa [hd, List.take_length] at h3
   · rw [List.pairwise_iff_getElem]
     intro i j hi hj hij
     have h1 := hs i j (Nat.zero_le _) hij (by rw [<- hd]; simpa using hj)
     rw [byBlock_lt] at h1
     have hi' : i < d'.size := by simpa using hi
     have hj' : j < d'.size := by simpa using hj
     simp [hi', hj'] at h1
     simpa using h1
   · rw [hfl', hsz'] at c3
     rw [hS]
     exact c3
end Go.Proofs.YtfabgbmbnmbjkaaGreatDoor

/- Pruned. -/
namespace Go.Proofs.YtfabgbmbnmbjkaaGreatDoor
open Go.RowKit Go.Sort Go.Shelf
theorem cmp32_any (x y : Int) (w : World) : Calls Tryz.prog 114 #[.int .u32 x, .int .u32 y] w fun e w' => e = .returned (.int .i64 (Lib.compareInt x y)) ∧ w' = w := by
 obtain ⟨v, hv⟩ : ∃ v, v = Lib.compareInt x y := ⟨_, rfl⟩
 rw [<- hv]
 have HV := Lib.hid hv
 clear hv
 go_enter Tryz.func114, Tryz.ntmps114
 go_wp2
 all_goals
  go_ret
  refine ⟨ret_int ?_, rfl⟩
  rw [HV.out]
  unfold Lib.compareInt
  first
    | rw [if_pos (by omega)]
    | rw [if_neg (by omega), if_pos (by omega)]
    | rw [if_neg (by omega), if_neg (by omega)]
theorem cmp64_any (x y : Int) (w : World) : Calls Tryz.prog 115 #[.int .u64 x, .int .u64 y] w fun e w' => e = .returned (.int .i64 (Lib.compareInt x y)) ∧ w' = w := by
 obtain ⟨v, hv⟩ : ∃ v, v = Lib.compareInt x y := ⟨_, rfl⟩
 rw [<- hv]
 have HV := Lib.hid hv
 clear hv
 go_enter Tryz.func115, Tryz.ntmps115
 go_wp2
 all_goals
  go_ret
  refine ⟨ret_int ?_, rfl⟩
  rw [HV.out]
  unfold Lib.compareInt
  first
    | rw [if_pos (by omega)]
    | rw [if_neg (by omega), if_pos (by omega)]
    | rw [if_neg (by omega), if_neg (by omega)]
def orI (a b : Int) : Int := if a = 0 then b else a
theorem or_any (a b : Int) (g : Nat) (w : World) (h0 : w.cell? ⟨g, 0, none⟩ = some (.int .i64 a)) (h1 : w.cell? ⟨g, 1, none⟩ = some (.int .i64 b)) :
    Calls Tryz.prog 113 #[.slice (some ⟨g, 0, none⟩) 2 2] w fun e w' => e = .returned (.int .i64 (orI a b)) ∧ w' = w := by
 go_enter Tryz.func113, Tryz.ntmps113
 go_wp2
 refine wp_loop_rounds 3 ?_
 by_cases ha : a = 0
 · subst ha
   by_cases hb : b = 0
   · subst hb
     repeat any_goals (rw [rounds_succ]; go_wp2)
     go_ret
     exact ⟨rfl, rfl⟩
   · have hb' : (b == 0) = false := by simpa using hb
     repeat any_goals (rw [rounds_succ]; go_wp2)
     go_ret
     exact ⟨rfl, rfl⟩
 · have ha' : (a == 0) = false := by simpa using ha
   have e : orI a b = a := if_neg ha
   repeat any_goals (rw [rounds_succ]; go_wp2)
   go_ret
   exact ⟨ret_int e.symm, rfl⟩
def byName (x y : Int × Int) : Int := orI (Lib.compareInt x.1 y.1) (Lib.compareInt x.2 y.2)
theorem byName_lt (x y : Int × Int) : ltOf byName x y = decide (x.1 < y.1 ∨ (x.1 = y.1 ∧ x.2 < y.2)) := by
 unfold ltOf byName orI Lib.compareInt
 by_cases h1 : x.1 < y.1
 · simp [h1]
 · by_cases h2 : y.1 < x.1
   · have : ¬ x.1 = y.1 := by omega
     simp [h1, h2, this]
   · have : x.1 = y.1 := by omega
     by_cases h3 : x.2 < y.2
     · simp [this, h3]
     · by_cases h4 : y.2 < x.2 <;> simp [this, h3, h4]
theorem byName_swo : SWO (ltOf byName) where
  irrefl x := by rw [byName_lt]; simp
  trans x y z h1 h2 := by rw [byName_lt] at *; simp at *; omega
  ntrans x y z h1 h2 := by rw [byName_lt] at *; simp at *; omega
set_option maxRecDepth 4000 in
set_option maxHeartbeats 1000000 in
theorem nameCmp_any (x y : Int × Int) (W : World) : Calls Tryz.prog 54 #[.agg #[.int .u32 x.1, .int .u64 x.2], .agg #[.int .u32 y.1, .int .u64 y.2]] W
    fun e w' => e = .returned (.int .i64 (byName x y)) ∧ ∃ q os', w' = grow (W.drewN q) os' := by
 obtain ⟨x1, x2⟩ := x
 obtain ⟨y1, y2⟩ := y
 have H1 := Lib.hid (fun w => cmp32_any x1 y1 w)
 have H2 := Lib.hid (fun w => cmp64_any x2 y2 w)
 have H3 := Lib.hid (fun g w => or_any (Lib.compareInt x1 y1) (Lib.compareInt x2 y2) g w)
 unfold byName
 simp only
 generalize Lib.compareInt x1 y1 = c1 at *
 generalize Lib.compareInt x2 y2 = c2 at *
 have b1 := (Blk.new W 105 #[.int .u32 x1, .int .u64 x2]).alloc (.cells #[.int .u32 y1, .int .u64 y2] 105)
 have b2 := Blk.new (W.alloc (.cells #[.int .u32 x1, .int .u64 x2] 105)) 105 #[.int .u32 y1, .int .u64 y2]
 rw [World.size_alloc] at b2
 have hgr : (W.alloc (.cells #[.int .u32 x1, .int .u64 x2] 105)).alloc (.cells #[.int .u32 y1, .int .u64 y2] 105) = grow W (#[.cells #[.int .u32 x1, .int .u64 x2] 105] ++ #[.cells #[.int .u32 y1, .int .u64 y2] 105]) := by
  rw [alloc_eq_grow, alloc_eq_grow, grow_grow]
 go_enter Tryz.func54, Tryz.ntmps54
 go_upto_region 1 with (fail)
 obtain ⟨os, hos⟩ : ∃ os, (W.alloc (.cells #[.int .u32 x1, .int .u64 x2] 105)).alloc (.cells #[.int .u32 y1, .int .u64 y2] 105) = grow W os := ⟨_, hgr⟩
 have HOS := Lib.hid hos
 clear hgr hos
 change Code.wp _ _ _ _ ((W.alloc (.cells #[.int .u32 x1, .int .u64 x2] 105)).alloc (.cells #[.int .u32 y1, .int .u64 y2] 105))
 generalize (W.alloc (.cells #[.int .u32 x1, .int .u64 x2] 105)).alloc (.cells #[.int .u32 y1, .int .u64 y2] 105) = w1 at *
 have ks : w1.cell? ⟨W.heap.size, 0, none⟩ = some (.int .u32 x1) ∧ w1.cell? ⟨W.heap.size, 1, none⟩ = some (.int .u64 x2) ∧ w1.cell? ⟨W.heap.size + 1, 0, none⟩ = some (.int .u32 y1) ∧ w1.cell? ⟨W.heap.size + 1, 1, none⟩ = some (.int .u64 y2) :=
  ⟨b1.cell 0, b1.cell 1, b2.cell 0, b2.cell 1⟩
 have HB1 := Lib.hid b1
 have HB2 := Lib.hid b2
 have ks2 : (w1.drew.alloc (.cells #[.int .i64 c1, .int .i64 c2] 3)).cell? ⟨W.heap.size, 0, none⟩ = some (.int .u32 x1) ∧ (w1.drew.alloc (.cells #[.int .i64 c1, .int .i64 c2] 3)).cell? ⟨W.heap.size, 1, none⟩ = some (.int .u64 x2) ∧ (w1.drew.alloc (.cells #[.int .i64 c1, .int .i64 c2] 3)).cell? ⟨W.heap.size + 1, 0, none⟩ = some (.int .u32 y1) ∧ (w1.drew.alloc (.cells #[.int .i64 c1, .int .i64 c2] 3)).cell? ⟨W.heap.size + 1, 1, none⟩ = some (.int .u64 y2) :=
  ⟨(b1.drew.alloc _).cell 0, (b1.drew.alloc _).cell 1, (b2.drew.alloc _).cell 0, (b2.drew.alloc _).cell 1⟩
 have b3 := Blk.new w1.drew 3 #[.int .i64 c1, .int .i64 c2]
 have HQ := Lib.hid (H3.out _ _ (b3.cell 0) (b3.cell 1))
 clear b1 b2 b3
 go_region_held3 (fun u => u.cell? ⟨W.heap.size, 0, none⟩ = some (.int .u32 x1) ∧ u.cell? ⟨W.heap.size, 1, none⟩ = some (.int .u64 x2) ∧ u.cell? ⟨W.heap.size + 1, 0, none⟩ = some (.int .u32 y1) ∧ u.cell? ⟨W.heap.size + 1, 1, none⟩ = some (.int .u64 y2))
   (first | exact ks | exact ks2)
   (first
     | (go_at_call 114
        refine (H1.out _).mono ?_
        rintro e w2 ⟨rfl, rfl⟩)
     | (go_at_call 115
        refine (H2.out _).mono ?_
        rintro e w2 ⟨rfl, rfl⟩)
     | (go_at_call 113
        refine HQ.out.mono ?_
        rintro e w2 ⟨rfl, rfl⟩))
 all_goals
  clear ks ks2
  generalize hcc : orI c1 c2 = cc at *
  have HCC := Lib.hid hcc
  clear hcc
  go_wp2
  go_ret
  exact ⟨ret_int HCC.out.symm, 1, os ++ #[.cells #[.int .i64 c1, .int .i64 c2] 3], by rw [HOS.out, alloc_eq_grow, grow_grow]; rfl⟩
def nameC2 (x : Int × Int) : List Value := [.int .u32 x.1, .int .u64 x.2]
def nameCs (L : List (Int × Int)) : List Value := L.flatMap nameC2
theorem nameCs_length (L : List (Int × Int)) : (nameCs L).length = L.length * 2 := by
 induction L with
 | nil => rfl
 | cons p r ih => simp [nameCs, nameC2] at ih ⊢; omega
theorem nameCs_snoc (L : List (Int × Int)) (p : Int × Int) : nameCs (L ++ [p]) = nameCs L ++ nameC2 p := by simp [nameCs]
theorem nameCs_one (L : List (Int × Int)) : ∀ u ∈ nameCs L, u.oneCell' = true := by
 intro u hu
 obtain ⟨p, _, hp⟩ := List.mem_flatMap.1 hu
 simp only [nameC2, List.mem_cons, List.not_mem_nil, or_false] at hp
 rcases hp with rfl | rfl <;> rfl
def OwnNm (w : World) (base : Nat) (A : Option Addr) (c : Nat) (L : List (Int × Int)) : Prop := w.ownsRow base 105 2 (.slice A L.length c) L.length (nameCs L)
theorem insNoneN (p : Option Addr) (cap : Nat) (fv : Value) (w : World) : Calls Tryz.prog 195 #[.slice p 0 cap, .int .i64 0, .int .i64 0, fv] w fun e w' => e = .returned (.tuple #[]) ∧ w' = w := by
 go_enter Tryz.func195, Tryz.ntmps195
 go_wp2
 refine wp_loop_rounds 1 ?_
 rw [rounds_succ]
 go_wp2
 go_end0
 exact ⟨rfl, rfl⟩
set_option maxHeartbeats 2000000 in
theorem pdqNoneN (p : Option Addr) (cap : Nat) (lim : Int) (fv : Value) (w : World) : Calls Tryz.prog 160 #[.slice p 0 cap, .int .i64 0, .int .i64 0, .int .i64 lim, fv] w fun e w' => e = .returned (.tuple #[]) ∧ w' = w := by
 have hi := fun W => insNoneN p cap fv W
 go_enter Tryz.func160, Tryz.ntmps160
 go_wp2
 refine wp_loop_rounds 1 ?_
 rw [rounds_succ]
 go_wp2_with (go_at_call 195; refine (hi _).mono ?_; rintro e w' ⟨rfl, rfl⟩)
 (try simp only [Exit.inBlock, Exit.then]); refine bodyPost_ret (results_none rfl _ _ _) rfl ?_
 exact ⟨rfl, rfl⟩
set_option maxHeartbeats 2000000 in
theorem sortNoneN (p : Option Addr) (cap : Nat) (fv : Value) (w : World) : Calls Tryz.prog 111 #[.slice p 0 cap, fv] w fun e w' => e = .returned (.tuple #[]) ∧ w' = w := by
 have hi := fun W lim => pdqNoneN p cap lim fv W
 go_enter Tryz.func111, Tryz.ntmps111
 go_wp2_with (first | (go_at_call 160; refine (hi _ _).mono ?_; rintro e w' ⟨rfl, rfl⟩) | go_in)
 go_end0
 exact ⟨rfl, rfl⟩
theorem sort_nm (w : World) (base : Nat) (A : Option Addr) (cap : Nat) (L : List (Int × Int)) (hL : L.length <= 1000000) (h : OwnNm w base A cap L) :
    Calls Tryz.prog 111 #[.slice A L.length cap, .func (.func 54) #[] #[]] w
      (fun e w' => e = .returned (.tuple #[]) ∧ ∃ S : List (Int × Int), S.Perm L ∧ S.Pairwise (fun a b => ¬ (b.1 < a.1 ∨ (b.1 = a.1 ∧ b.2 < a.2))) ∧ S.length = L.length ∧ OwnNm w' base A cap S ∧ Kp (fun i => base <= i) w w') := by
 by_cases hz : L = []
 · subst hz
   refine (sortNoneN A cap _ w).mono ?_
   rintro e w' ⟨rfl, rfl⟩
   exact ⟨rfl, [], List.Perm.refl _, List.Pairwise.nil, rfl, h, Kp.refl _ _⟩
 have h0 : 0 < L.length := List.length_pos_iff.2 hz
 have eg : ∀ args w, (callFunc 54 args).run Tryz.prog w = .ok (.enter 54 args) w := enters_of Tryz.func54 (by kernel_rfl) rfl
 obtain ⟨hlen, hx⟩ := h
 rcases hx with ⟨_, hz⟩ | ⟨g, cap', cur, hv, hbase, hb, hn, hcap, hcs, ht⟩
 · omega
 · injection hv with hA _ hC
   subst hA hC
   have hk : ∀ x : Int × Int, (nameC2 x).length = 2 := fun _ => rfl
   have hfl : (flatK nameC2 2 L.toArray).toList = nameCs L := flat_toList nameC2 2 hk L
   have hsz : (flatK nameC2 2 L.toArray).size = L.length * 2 := by simp
   have hH : HoldsK nameC2 2 w g 0 L.toArray := holds_flat hb (by rw [hfl, hsz]; exact ht)
   have hlt : g < w.heap.size := (Array.getElem?_eq_some_iff.1 hb).1
   have hcon := AnyQ.slices_SortFunc sortNm 2 Tryz.isAgg105 Tryz.sizeOf105 nameC2 hk (fun x v hv => nameCs_one [x] v (by simpa [nameCs] using hv)) byName byName_swo 54 #[] g 0 cap L.toArray w eg (fun _ _ _ _ x y => nameCmp_any x y _) hH hlt (by simp; omega)
   have e1 : L.toArray.size = L.length := by simp
   rw [e1] at hcon
   refine hcon.mono ?_
   rintro e w' ⟨rfl, d', n, os, hp, hs, rfl⟩
   obtain ⟨p1, _, p3⟩ := hp
   have hd : d'.size = L.length := by rw [p1, e1]
   have hS : d'.toList.length = L.length := by simpa using hd
   have hfl' : (flatK nameC2 2 d').toList = nameCs d'.toList := by
    have := flat_toList nameC2 2 hk d'.toList
    simpa [nameCs] using this
   have hsz' : (flatK nameC2 2 d').size = L.length * 2 := by simp [hd]
   obtain ⟨cur', c1, c2, c3, c4⟩ := after_flat (n := n) (os := os) (flatK nameC2 2 d') (by rw [hsz', hcs]; exact Nat.mul_le_mul_right 2 hn) hb
   refine ⟨rfl, d'.toList, ?_, ?_, hS, ⟨nameCs_length _, .inr ⟨g, cap, cur', by rw [hS], hbase, c1, by rw [hS]; exact hn, hcap, by rw [c2, hcs], ?_⟩⟩, c4.mono (fun i _ e => by rw [e]; exact hbase)⟩
   · have h3 : (d'.extract 0 L.length).toList.Perm (L.toArray.extract 0 L.length).toList := p3
     simp [<- hd] at h3
     rwa [hd, List.take_length] at h3
   · rw [List.pairwise_iff_getElem]
     intro i j hi hj hij
     have h1 := hs i j (Nat.zero_le _) hij (by rw [<- hd]; simpa using hj)
     rw [byName_lt] at h1
     have hi' : i < d'.size := by simpa using hi
     have hj' : j < d'.size := by simpa using hj
     have h2 := of_decide_eq_false h1
     rw [getElem!_pos d' i hi', getElem!_pos d' j hj'] at h2
     simpa using h2
   · rw [hfl', hsz'] at c3
     rw [hS]
     exact c3
end Go.Proofs.YtfabgbmbnmbjkaaGreatDoor

/- Pruned. -/
namespace Go.Proofs.YtfabgbmbnmbjkaaGreatDoor
open Go.RowKit Go.Sort Go.Shelf
theorem insNone (p : Option Addr) (cap : Nat) (fv : Value) (w : World) : Calls Tryz.prog 164 #[.slice p 0 cap, .int .i64 0, .int .i64 0, fv] w fun e w' => e = .returned (.tuple #[]) ∧ w' = w := by
 go_enter Tryz.func164, Tryz.ntmps164
 go_wp2
 refine wp_loop_rounds 1 ?_
 rw [rounds_succ]
 go_wp2
 go_end0
 exact ⟨rfl, rfl⟩
set_option maxHeartbeats 2000000 in
theorem pdqNone (p : Option Addr) (cap : Nat) (lim : Int) (fv : Value) (w : World) : Calls Tryz.prog 122 #[.slice p 0 cap, .int .i64 0, .int .i64 0, .int .i64 lim, fv] w fun e w' => e = .returned (.tuple #[]) ∧ w' = w := by
 have hi := fun W => insNone p cap fv W
 go_enter Tryz.func122, Tryz.ntmps122
 go_wp2
 refine wp_loop_rounds 1 ?_
 rw [rounds_succ]
 go_wp2_with (go_at_call 164; refine (hi _).mono ?_; rintro e w' ⟨rfl, rfl⟩)
 (try simp only [Exit.inBlock, Exit.then]); refine bodyPost_ret (results_none rfl _ _ _) rfl ?_
 exact ⟨rfl, rfl⟩
set_option maxHeartbeats 2000000 in
theorem sortNone (p : Option Addr) (cap : Nat) (fv : Value) (w : World) : Calls Tryz.prog 63 #[.slice p 0 cap, fv] w fun e w' => e = .returned (.tuple #[]) ∧ w' = w := by
 have hi := fun W lim => pdqNone p cap lim fv W
 go_enter Tryz.func63, Tryz.ntmps63
 go_wp2_with (first | (go_at_call 122; refine (hi _ _).mono ?_; rintro e w' ⟨rfl, rfl⟩) | go_in)
 go_end0
 exact ⟨rfl, rfl⟩
end Go.Proofs.YtfabgbmbnmbjkaaGreatDoor

/- Pruned. -/
namespace Go.Proofs.YtfabgbmbnmbjkaaGreatDoor
open Go.RowKit
set_option maxRecDepth 20000
set_option maxRecDepth 20000 in
theorem addr_inv (v : Value) (kl : Lit) (h : keyOf Tryz.prog 53 v = some kl) : ∃ c, addrC.ok c ∧ v = addrC.kv c := by
 obtain ⟨m, hm⟩ : ∃ m, Tryz.prog.types.size + 1 = m + 1 + 1 := ⟨_, keys_size⟩
 obtain ⟨c1, c2, c3, c4, c5⟩ := keys_cells
 unfold keyOf at h
 rw [hm] at h
 clear hm
 rw [Tryz.underlying53] at h
 simp only [keys_own.2, Bool.true_and] at h
 split at h
 · rename_i hf
   cases v with
   | agg cs =>
     have hsz : cs.size = 2 := by simpa [Value.formed, Tryz.underlying53, c2] using hf
     obtain ⟨l⟩ := cs
     match l, hsz with
     | [x, y], _ =>
       simp [Value.cells, Program.keyLits, Tryz.underlying53, Tryz.underlying3, c2, c5] at h
       cases x with
       | int q1 n1 =>
         by_cases e1 : q1 = .i64 ∧ (Lit.int .i64 n1).wf = true
         · cases y with
           | int q2 n2 =>
             by_cases e2 : q2 = .i64 ∧ (Lit.int .i64 n2).wf = true
             · obtain ⟨rfl, w1⟩ := e1
               obtain ⟨rfl, w2⟩ := e2
               exact ⟨(n1, n2), ⟨wf_i64' w1, wf_i64' w2⟩, rfl⟩
             · simp [e1, e2] at h
           | _ => simp [e1] at h
         · simp [e1] at h
       | _ => simp at h
   | _ => simp [Value.formed, Tryz.underlying53] at hf
 · cases h
def ofZ (z : Int) (L : List Pl) : List Pl := L.filter (fun p => decide (p.z = z))
def Came (L pre : List Pl) (left : Int × Int -> Bool) : Prop := pre.Nodup ∧ ∀ p, p ∈ pre ↔ p ∈ L ∧ left p.a = false
theorem Came.start (L : List Pl) : Came L [] (fun c => (inAt L c).isSome) := by
 refine ⟨List.Pairwise.nil, fun p => ⟨fun h => absurd h (by simp), fun hh => ?_⟩⟩
 have : inAt L p.a = none := by simpa using hh.2
 exact absurd rfl (inAt_none.1 this p hh.1)
theorem Came.step {L pre : List Pl} {left : Int × Int -> Bool} (h : Came L pre left) (hu : Uniq L) {c m : Int × Int} (hl : left c = true) (hF : inAt L c = some m) :
    Came L (pre ++ [⟨m.1, m.2, c.1, c.2⟩]) (fun d => left d && !decide (d = c)) := by
 obtain ⟨q, hq, h1, h2⟩ := (inAt_some hu).1 hF
 have e : q = ⟨m.1, m.2, c.1, c.2⟩ := Pl.ext_ h1 h2
 subst e
 refine ⟨List.nodup_append.2 ⟨h.1, by simp, fun a ha b hb => ?_⟩, fun p => ?_⟩
 · simp only [List.mem_singleton] at hb
   subst hb
   rintro rfl
   have := ((h.2 _).1 ha).2
   rw [h2] at this
   rw [this] at hl
   cases hl
 · rw [List.mem_append, h.2 p, List.mem_singleton]
   constructor
   · rintro (⟨h3, h4⟩ | rfl)
     · exact ⟨h3, by show (left p.a && _) = false; rw [h4]; rfl⟩
     · exact ⟨hq, by show (left _ && !decide (_ = c)) = false; rw [h2]; simp⟩
   · rintro ⟨h3, h4⟩
     simp only [Bool.and_eq_false_iff, Bool.not_eq_false', decide_eq_true_eq] at h4
     rcases h4 with h4 | h4
     · exact .inl ⟨h3, h4⟩
     · exact .inr (hu.eqa h3 hq (h4.trans h2.symm))
theorem nodup_of_uniq {L : List Pl} (hu : Uniq L) : L.Nodup := hu.imp (fun h e => h.1 (by rw [e]))
theorem Came.done {L pre : List Pl} {left : Int × Int -> Bool} (h : Came L pre left) (hu : Uniq L) (hl : ∀ p ∈ L, left p.a = false) : pre.Perm L := by
 refine (List.perm_ext_iff_of_nodup h.1 (nodup_of_uniq hu)).2 fun p => ?_
 rw [h.2]
 exact ⟨fun h => h.1, fun hp => ⟨hp, hl p hp⟩⟩
theorem ofZ_snoc (z : Int) (pre : List Pl) (p : Pl) : ofZ z (pre ++ [p]) = if p.z = z then ofZ z pre ++ [p] else ofZ z pre := by
 unfold ofZ
 rw [List.filter_append]
 by_cases h : p.z = z <;> simp [h]
theorem sorted_strict {S L : List Pl} {z : Int} (hu : Uniq L) (hp : S.Perm (ofZ z L)) (hs : S.Pairwise (fun a b => a.k <= b.k)) : S.Pairwise (fun a b => a.k < b.k) := by
 have h1 : Uniq S := (hu.filter _).perm hp.symm
 have h2 : ∀ p ∈ S, p.z = z := fun p hp' => by have := List.mem_filter.1 (hp.mem_iff.1 hp'); simpa using this.2
 refine (List.pairwise_iff_forall_sublist.2 fun {a b} hab => ?_)
 have e1 := List.pairwise_iff_forall_sublist.1 hs hab
 have e2 := List.pairwise_iff_forall_sublist.1 h1 hab
 have ha := h2 a (hab.subset (by simp))
 have hb := h2 b (hab.subset (by simp))
 have : a.k ≠ b.k := fun e => e2.2 (by unfold Pl.a; rw [ha, hb, e])
 omega
theorem sort_any (w : World) (base : Nat) (A : Option Addr) (c : Nat) (L : List Pl) (hL : L.length <= 1000000) (h : OwnPl w base A c L) :
    Calls Tryz.prog 63 #[.slice A L.length c, .func (.func 64) #[] #[]] w
      (fun e w' => e = .returned (.tuple #[]) ∧ ∃ S : List Pl, S.Perm L ∧ S.Pairwise (fun a b => a.k <= b.k) ∧ S.length = L.length ∧ OwnPl w' base A c S ∧ Kp (fun i => base <= i) w w') := by
 cases L with
 | nil =>
   refine (sortNone A c _ w).mono ?_
   rintro e w' ⟨rfl, rfl⟩
   exact ⟨rfl, [], List.Perm.refl _, List.Pairwise.nil, rfl, h, Kp.refl _ _⟩
 | cons p r =>
   obtain ⟨g, cap, hv, hb, _⟩ := World.ownsRow.form h (by simp)
   injection hv with hA _ hC
   subst hA hC
   refine (sort_pl w base g c (p :: r) hL (by simp) h).mono ?_
   rintro e w' ⟨rfl, S, h1, h2, h3, h4, h5⟩
   exact ⟨rfl, S, h1, h2, h3, h4, h5.mono (fun i _ e => by rw [e]; exact hb)⟩
theorem in_end {w wr w' : World} {f : LFp} {n cnt cnt2 len c0 : Nat} {z : Int} {L pre : List Pl} {left left2 : Int × Int -> Bool} {A2 : Option Addr}
    (hrg : RangeF addrC nameV wr f.b2 w.heap.size n (inAt L) left cnt) (h1 : RangeF addrC nameV w' f.b2 w.heap.size n (inAt L) left2 cnt2) (h2 : cnt2 < cnt) (h3 : pre.length + cnt2 <= n) (hlen : len = (ofZ z pre).length)
    (h4 : OwnPl w' w.heap.size A2 c0 (ofZ z pre)) (h5 : Below w.heap.size w w') (h6 : Came L pre left2) :
    (∃ (A3 : Option Addr) (c3 : Nat) (pre1 : List Pl) (left1 : Int × Int -> Bool) (cnt1 : Nat), Value.slice A2 len c0 = .slice A3 (ofZ z pre1).length c3 ∧ Hid (RangeF addrC nameV w' f.b2 w.heap.size n (inAt L) left1 cnt1) ∧ Hid (pre1.length + cnt1 <= n) ∧
      Hid (OwnPl w' w.heap.size A3 c3 (ofZ z pre1)) ∧ Hid (Below w.heap.size w w') ∧ Hid (Came L pre1 left1)) ∧ w'.rangeLeft f.b2 w.heap.size < wr.rangeLeft f.b2 w.heap.size :=
 ⟨⟨A2, c0, pre, left2, cnt2, by rw [hlen], h1, h3, h4, h5, h6⟩, by rw [h1.left_eq, hrg.left_eq]; exact h2⟩
set_option maxRecDepth 20000 in
set_option maxHeartbeats 4000000 in
theorem lin_any (w : World) (f : LFp) (n : Nat) (L : List Pl) (z : Int) (hn : n <= 1000000) (h : LM w f n L) :
    Calls Tryz.prog 29 #[.pointer (some ⟨f.g, 0, none⟩), .int .i64 z] w
      (fun e w' => ∃ A c S, e = .returned (.slice A (List.length S) c) ∧ OwnPl w' w.heap.size A c S ∧ S.Perm (ofZ z L) ∧ S.Pairwise (fun a b => a.k < b.k) ∧ Below w.heap.size w w') := by
 have h1 : w.cell? ⟨f.g, 1, none⟩ = some (.map (some f.b2)) := h.blk.cell 1
 have HL := Lib.hid h
 have HN := Lib.hid hn
 clear h hn
 go_enter Tryz.func29, Tryz.ntmps29
 go_wp2_with (first
   | (at_range
      refine wpList_range_mapF _ rfl _ _ rfl _ Tryz.underlying110 rfl HL.out.what ?_
      intro w0 cnt0 hrg0 hc0 hb0 hs0
      have HRG := Lib.hid hrg0
      have HC0 := Lib.hid hc0
      have HB0 := Lib.hid hb0
      clear hrg0 hc0 hb0 hs0))
 go_frame
 go_loopw [5] (fun o wr => ∃ (A2 : Option Addr) (c2 : Nat) (pre : List Pl) (left : Int × Int -> Bool) (cnt : Nat), o = .slice A2 (ofZ z pre).length c2 ∧ Hid (RangeF addrC nameV wr f.b2 w.heap.size n (inAt L) left cnt) ∧ Hid (pre.length + cnt <= n) ∧
     Hid (OwnPl wr w.heap.size A2 c2 (ofZ z pre)) ∧ Hid (Below w.heap.size w wr) ∧ Hid (Came L pre left)) (fun _ wr => wr.rangeLeft f.b2 w.heap.size)
 case atStart => exact ⟨none, 0, [], _, _, rfl, HRG, (by have := HC0.out; unfold Hid; simpa using this), (show Hid _ from ⟨rfl, .inl ⟨rfl, rfl⟩⟩), HB0, Came.start L⟩
 case round =>
  obtain ⟨A2, c2, pre, left, cnt, rfl, hrg, hcn, hown, hbl, hcm⟩ := hrel
  clear HRG HC0 HB0
  go_wp2_with (first
    | (at_next
       refine wpList_next_mapF _ addr_inv rfl _ rfl rfl hrg.out ?_ ?_))
  · intro hdone
    have HD := Lib.hid hdone
    clear hdone
    have HLZ : Hid ((ofZ z pre).length <= 1000000) := by
     have h1 := hcn.out
     have h2 := HN.out
     have h3 : (ofZ z pre).length <= pre.length := List.length_filter_le _ _
     unfold Hid
     omega
    go_wp2_with (fail)
    refine (sort_any wr w.heap.size A2 c2 (ofZ z pre) HLZ.out hown.out).mono ?_
    rintro e w3 ⟨rfl, S, hp, hs, hlen, ho, hk⟩
    rw [<- hlen]
    have hpm := hcm.out.done HL.out.uniq (fun p hp => HD.out p.z p.k (HL.out.names p hp).2)
    have hpz : S.Perm (ofZ z L) := hp.trans (hpm.filter _)
    have HP := Lib.hid hpz
    have HS := Lib.hid (sorted_strict HL.out.uniq hpz hs)
    have HO := Lib.hid ho
    have HB := Lib.hid (Kp.below hbl.out hk hbl.out.size (fun b hb e => by omega))
    clear hp hs hlen ho hk hpm hpz
    go_wp2
    go_ret
    exact ⟨A2, c2, S, rfl, HO.out, HP.out, HS.out, HB.out⟩
  · intro a1 a2 m1 m2 w2 cnt2 hok hleft hF hrg2 hlt2 hk2 hs2 hen
    change (Instr.entry (.pointer (some ⟨w.heap.size, 0, none⟩))).run Tryz.prog w2 = .ok (.tuple #[.agg #[.int .i64 a1, .int .i64 a2], .agg #[.int .u32 m1, .int .u64 m2]]) w2 at hen
    simp only [show addrC.kv (a1, a2) = .agg #[.int .i64 a1, .int .i64 a2] from rfl, show nameV (m1, m2) = .agg #[.int .u32 m1, .int .u64 m2] from rfl]
    have HRG2 := Lib.hid hrg2
    have HCM := Lib.hid (hcm.out.step HL.out.uniq hleft hF)
    have HCN : Hid ((pre ++ [(⟨m1, m2, a1, a2⟩ : Pl)]).length + cnt2 <= n) := by have := hcn.out; unfold Hid; simp; omega
    have hlr := hrg.out.lt
    have hit := hrg.out.iter
    have hnr : (Value.slice A2 (ofZ z pre).length c2).ownBlock ≠ some w.heap.size := fun e => by
     obtain ⟨i0, i1, i2, i3, hi⟩ := hit
     rcases hown.out.2 with ⟨e1, _⟩ | ⟨g', cap, cur, e1, _, hh, _⟩
     · rw [e1] at e; simp [Value.ownBlock] at e
     · rw [e1] at e
       have : g' = w.heap.size := by simpa [Value.ownBlock] using e
       subst this
       rw [hh] at hi
       cases hi
    have HOWN2 : Hid (OwnPl w2 w.heap.size A2 c2 (ofZ z pre)) := World.ownsRow.kept (row := some w.heap.size) hown.out ⟨hk2.os, hk2.tape, hk2.output, hk2.size, fun i hi hne => hk2.block i hi (fun e => hne (by rw [e]))⟩ (.inr hnr)
    have HBL2 : Hid (Below w.heap.size w w2) := Kp.below hbl.out hk2 hbl.out.size (fun b hb e => by omega)
    have HLT : Hid (cnt2 < cnt) := hlt2
    clear hrg2 hok hleft hF hk2 hs2 hlr hit hnr hlt2 hown hbl hcm hcn
    have HS2 : Hid (w.heap.size <= w2.heap.size) := HBL2.out.size
    rcases Classical.em (z = a1) with hz | hz
    · subst hz
      go_wp2_with (fail)
      have HRG3 := Lib.hid ((HRG2.out.alloc (.cells #[.int .i64 z, .int .i64 a2] 53)).alloc (.cells #[.int .u32 m1, .int .u64 m2] 105))
      have HOWN3 : Hid (OwnPl ((w2.alloc (.cells #[.int .i64 z, .int .i64 a2] 53)).alloc (.cells #[.int .u32 m1, .int .u64 m2] 105)) w.heap.size A2 c2 (ofZ z pre)) := World.ownsRow.alloc (World.ownsRow.alloc HOWN2.out _) _
      have HBL3 := Lib.hid ((HBL2.out.alloc HS2.out (.cells #[.int .i64 z, .int .i64 a2] 53)).alloc (by have := HS2.out; simp; omega) (.cells #[.int .u32 m1, .int .u64 m2] 105))
      have HS3 : Hid (w.heap.size <= ((w2.alloc (.cells #[.int .i64 z, .int .i64 a2] 53)).alloc (.cells #[.int .u32 m1, .int .u64 m2] 105)).heap.size) := HBL3.out.size
      generalize (w2.alloc (.cells #[.int .i64 z, .int .i64 a2] 53)).alloc (.cells #[.int .u32 m1, .int .u64 m2] 105) = w3 at *
      refine (place_any w3 (m1, m2) (z, a2)).mono ?_
      rintro e w4 ⟨rfl, hb⟩
      have HRG4 := Lib.hid (HRG3.out.below hb)
      have HOWN4 := Lib.hid (HOWN3.out.below hb)
      have HBL4 := Lib.hid (HBL3.out.trans (hb.mono HS3.out))
      have HS4 : Hid (w.heap.size <= w4.heap.size) := HBL4.out.size
      have HLZ : Hid ((ofZ z pre).length <= 2000000) := by
       have h1 := HCN.out
       have h2 := HN.out
       have h3 : (ofZ z pre).length <= pre.length := List.length_filter_le _ _
       unfold Hid
       simp at h1
       omega
      clear hb
      go_wp2_with (first
        | (at_builtin
           refine wpList_append_pl _ rfl (.tmp 22) (.tmp 26) rfl (ofZ z pre) ⟨m1, m2, z, a2⟩ HOWN4.out rfl rfl rfl HLZ.out HS4.out ?_
           intro A5 c5 w5 ho5 hk5 ha5
           have HO5 : Hid (OwnPl w5 w.heap.size A5 c5 (ofZ z (pre ++ [⟨m1, m2, z, a2⟩]))) := by rw [ofZ_snoc, if_pos rfl]; exact ho5
           have HB5 := Lib.hid (Kp.below HBL4.out hk5 HS4.out (fun b hb e => by have := (World.ownsRow.lt HOWN4.out b e).1; omega))
           have hmap : ∀ b, (∃ o, w4.heap[b]? = some o ∧ ∀ cs t fr, o ≠ .cells cs t fr) -> ¬ (Value.slice A2 (ofZ z pre).length c2).ownBlock = some b := by
            rintro b ⟨o, ho, hno⟩ e
            rcases HOWN4.out.2 with ⟨e1, _⟩ | ⟨g', cap, cur, e1, _, hh, _⟩
            · rw [e1] at e; simp [Value.ownBlock] at e
            · rw [e1] at e
              have : g' = b := by simpa [Value.ownBlock] using e
              subst this
              rw [hh] at ho
              injection ho with ho
              exact hno _ _ _ ho.symm
           have HR5 : Hid (RangeF addrC nameV w5 f.b2 w.heap.size n (inAt L) (fun d => left d && !decide (d = (z, a2))) cnt2) := by
            refine HRG4.out.kp hk5 (hmap _ ?_) (hmap _ ?_)
            · obtain ⟨D, lf, ⟨es, clock, since, seen, c0, h1, _⟩, _⟩ := HRG4.out.is
              exact ⟨_, h1, fun _ _ _ h => by cases h⟩
            · obtain ⟨i0, i1, i2, i3, hi⟩ := HRG4.out.iter
              exact ⟨_, hi, fun _ _ _ h => by cases h⟩
           clear ho5 hk5 ha5 hmap))
      exact in_end hrg.out HR5.out HLT.out HCN.out (by rw [ofZ_snoc, if_pos rfl]; simp) HO5.out HB5.out HCM.out
    · have HZ : Hid (¬ a1 = z) := fun e => hz e.symm
      have hz' : (a1 == z) = false := by simpa using HZ.out
      clear hz
      go_wp2_with (fail)
      have e0 : ofZ z (pre ++ [⟨m1, m2, a1, a2⟩]) = ofZ z pre := by rw [ofZ_snoc, if_neg HZ.out]
      exact in_end hrg.out ((HRG2.out.alloc _).alloc _) HLT.out HCN.out (by rw [e0]) (by rw [e0]; exact World.ownsRow.alloc (World.ownsRow.alloc HOWN2.out _) _) ((HBL2.out.alloc HS2.out _).alloc (by have := HS2.out; simp; omega) _) HCM.out
end Go.Proofs.YtfabgbmbnmbjkaaGreatDoor

/- Pruned. -/
namespace Go.Proofs.YtfabgbmbnmbjkaaGreatDoor
open Go.RowKit
set_option maxRecDepth 20000
theorem mem_getD {L : List Pl} {k : Nat} (h : k < L.length) : L.getD k p0 ∈ L := by
 rw [List.getD_eq_getElem?_getD, List.getElem?_eq_getElem h]
 exact List.getElem_mem h
theorem mem_take_succ {L : List Pl} {k : Nat} {q : Pl} (h : k < L.length) (hq : q ∈ L.take (k + 1)) : q ∈ L.take k ∨ q = L.getD k p0 := by
 rw [List.take_succ_eq_append_getElem h, List.mem_append, List.mem_singleton] at hq
 rw [List.getD_eq_getElem?_getD, List.getElem?_eq_getElem h]
 exact hq
set_option maxRecDepth 20000 in
set_option maxHeartbeats 4000000 in
theorem rget_any (w : World) (g : Nat) (M : List Pl) (t b : Int) (hu : Uniq M) (hl : M.length <= 1000000) (h : RM w g M) :
    Calls Tryz.prog 50 #[.pointer (some ⟨g, 0, none⟩), .int .u32 t, .int .u64 b] w (Makes (.tuple #[addrV ((atOf M (t, b)).getD (0, 0)), .bool (atOf M (t, b)).isSome]) w) := by
 obtain ⟨A, c, hb, ho⟩ := h
 have hk1 := (Kp.refl (fun _ => False) w).alloc (.cells #[.int .i64 0, .int .i64 0] 53)
 have hb1 := Blk.new w 53 #[.int .i64 0, .int .i64 0]
 have hg1 := hb.alloc (.cells #[.int .i64 0, .int .i64 0] 53)
 have ho1 : OwnPl (w.alloc (.cells #[.int .i64 0, .int .i64 0] 53)) 0 A c M := World.ownsRow.alloc ho _
 have HUU := Lib.hid hu
 clear hb ho hu
 go_enter Tryz.func50, Tryz.ntmps50
 go_wp2_with (fail)
 generalize w.alloc (.cells #[.int .i64 0, .int .i64 0] 53) = w1 at *
 have hc : w1.cell? ⟨g, 0, none⟩ = some (.slice A M.length c) := hg1.cell 0
 have d0 : w1.cell? ⟨w.heap.size, 0, none⟩ = some (.int .i64 0) := hb1.cell 0
 have d1 : w1.cell? ⟨w.heap.size, 1, none⟩ = some (.int .i64 0) := hb1.cell 1
 have hf : ∀ i, w1.frozen? ⟨w.heap.size, i, none⟩ = false := fun i => hb1.frozen i
 have HR := Lib.hid ho1.row
 have HB := Lib.hid hb1
 have HK := Lib.hid hk1
 clear hk1 hb1 hg1 ho1
 go_loopw [8] (fun i wr => ∃ k : Nat, k <= M.length ∧ i = .int .i64 k ∧ wr = w1 ∧ Hid (∀ q ∈ M.take k, ¬ (q.t = t ∧ q.b = b))) (fun i _ => M.length - (intOf i).toNat)
 case atStart => exact ⟨0, Nat.zero_le _, rfl, rfl, (fun q hq => by simp at hq)⟩
 case round =>
  obtain ⟨k, hk, rfl, rfl, hno⟩ := hrel
  by_cases hlt : k < M.length
  · obtain ⟨r, rfl, p⟩ := HR.out (by omega)
    have a0 := p.c0 k hlt
    have a1 := p.c1 k hlt
    have a2 := p.c2 k hlt
    have a3 := p.c3 k hlt
    have HMEM := Lib.hid (mem_getD hlt)
    have HSUC := Lib.hid (fun q hq => mem_take_succ (q := q) hlt hq)
    clear p
    generalize hx : M.getD k p0 = x at *
    obtain ⟨xt, xb, xz, xk⟩ := x
    simp only at a0 a1 a2 a3
    clear hx
    have hcase : (xt = t ∧ xb = b) ∨ (xt = t ∧ ¬ xb = b) ∨ ¬ xt = t := by
     by_cases h1 : xt = t <;> by_cases h2 : xb = b <;> simp [h1, h2]
    rcases hcase with ⟨rfl, rfl⟩ | ⟨rfl, hxb⟩ | hxt
    · have e : atOf M (xt, xb) = some (xz, xk) := (atOf_some HUU.out).2 ⟨_, HMEM.out, rfl, rfl⟩
      rw [e]
      go_wp2
      have b2 := blk_set2 HB.out (.int .i64 xz) (.int .i64 xk)
      have k2 := kp_set2 HK.out (.inr (Nat.le_refl _)) (.int .i64 xz) (.int .i64 xk)
      generalize World.setCell _ ⟨w.heap.size, 1, none⟩ _ = w2 at *
      have c0 : w2.cell? ⟨w.heap.size, 0, none⟩ = some (.int .i64 xz) := b2.cell 0
      have c1 : w2.cell? ⟨w.heap.size, 1, none⟩ = some (.int .i64 xk) := b2.cell 1
      refine bodyPost_ret (v := .tuple #[.agg #[.int .i64 xz, .int .i64 xk], .bool true]) (by simp [results, Tryz.results50, go_sem, c0, c1]) rfl ?_
      exact ⟨rfl, kp_none k2⟩
    · have HN : Hid (¬ xb = b) := hxb
      go_wp2
      refine ⟨⟨k + 1, hlt, by go_num, by trivial, fun q hq e => ?_⟩, by simp [intOf]; omega⟩
      rcases HSUC.out q hq with h | rfl
      · exact hno.out q h e
      · exact HN.out e.2
    · have HN : Hid (¬ xt = t) := hxt
      go_wp2
      refine ⟨⟨k + 1, hlt, by go_num, by trivial, fun q hq e => ?_⟩, by simp [intOf]; omega⟩
      rcases HSUC.out q hq with h | rfl
      · exact hno.out q h e
      · exact HN.out e.1
  · have e : atOf M (t, b) = none := atOf_none.2 fun q hq e => hno.out q (by rwa [List.take_of_length_le (by omega)]) (by simpa [Pl.n] using e)
    rw [e]
    have hkm : (k : Int) = M.length := by omega
    go_wp2
    have b2 := blk_set2 HB.out (.int .i64 0) (.int .i64 0)
    have k2 := kp_set2 HK.out (.inr (Nat.le_refl _)) (.int .i64 0) (.int .i64 0)
    generalize World.setCell _ ⟨w.heap.size, 1, none⟩ _ = w2 at *
    have c0 : w2.cell? ⟨w.heap.size, 0, none⟩ = some (.int .i64 0) := b2.cell 0
    have c1 : w2.cell? ⟨w.heap.size, 1, none⟩ = some (.int .i64 0) := b2.cell 1
    refine bodyPost_ret (v := .tuple #[.agg #[.int .i64 0, .int .i64 0], .bool false]) (by simp [results, Tryz.results50, go_sem, c0, c1]) rfl ?_
    exact ⟨by simp [addrV, e], kp_none k2⟩
end Go.Proofs.YtfabgbmbnmbjkaaGreatDoor

/- Pruned. -/
namespace Go.Proofs.YtfabgbmbnmbjkaaGreatDoor
open Go.RowKit
set_option maxRecDepth 20000
theorem ofZ_take_succ (L : List Pl) (z : Int) (k : Nat) (h : k < L.length) : ofZ z (L.take (k + 1)) = if (L.getD k p0).z = z then ofZ z (L.take k) ++ [L.getD k p0] else ofZ z (L.take k) := by
 rw [List.take_succ_eq_append_getElem h, ofZ_snoc]
 have : L.getD k p0 = L[k] := by simp [List.getD_eq_getElem?_getD, h]
 rw [this]
theorem ins_perm (O : List Pl) (x : Pl) (q : Nat) : (O.take q ++ [x] ++ O.drop q).Perm (O ++ [x]) := by
 have h1 : (O.take q ++ [x] ++ O.drop q).Perm (O.take q ++ (O.drop q ++ [x])) := by
  rw [List.append_assoc]
  exact List.Perm.append_left _ List.perm_append_comm
 rwa [<- List.append_assoc, List.take_append_drop] at h1
theorem ins_sorted {O : List Pl} {x : Pl} {q : Nat} (hs : O.Pairwise (fun a b => a.k <= b.k)) (hq : q <= O.length) (hhi : ∀ j, q <= j -> j < O.length -> x.k < (O.getD j p0).k) (hlo : 0 < q -> (O.getD (q - 1) p0).k <= x.k) :
    (O.take q ++ [x] ++ O.drop q).Pairwise (fun a b => a.k <= b.k) := by
 have hg : ∀ j (h : j < O.length), O.getD j p0 = O[j] := fun j h => by simp [List.getD_eq_getElem?_getD, h]
 have hle : ∀ a ∈ O.take q, a.k <= x.k := by
  intro a ha
  obtain ⟨i, hi, rfl⟩ := List.mem_iff_getElem.1 ha
  have hi' : i < q := by simp at hi; omega
  have h1 := hlo (by omega)
  rw [hg (q - 1) (by omega)] at h1
  rw [List.getElem_take]
  by_cases hiq : i = q - 1
  · subst hiq; exact h1
  · exact Int.le_trans (List.pairwise_iff_getElem.1 hs i (q - 1) (by omega) (by omega) (by omega)) h1
 have hge : ∀ b ∈ O.drop q, x.k <= b.k := by
  intro b hb
  obtain ⟨i, hi, rfl⟩ := List.mem_iff_getElem.1 hb
  have hi' : q + i < O.length := by simp at hi; omega
  have h1 := hhi (q + i) (by omega) hi'
  rw [hg _ hi'] at h1
  rw [List.getElem_drop]
  exact Int.le_of_lt h1
 rw [List.append_assoc]
 refine List.pairwise_append.2 ⟨List.Pairwise.sublist (List.take_sublist _ _) hs, ?_, ?_⟩
 · refine List.pairwise_append.2 ⟨by simp, List.Pairwise.sublist (List.drop_sublist _ _) hs, ?_⟩
   intro a ha b hb
   rw [List.mem_singleton] at ha
   subst ha
   exact hge b hb
 · intro a ha b hb
   rcases List.mem_append.1 hb with hb | hb
   · rw [List.mem_singleton] at hb
     subst hb
     exact hle a ha
   · exact Int.le_trans (hle a ha) (hge b hb)
theorem plCs_take (O : List Pl) (q : Nat) : (plCs O).take (q * 4) = plCs (O.take q) := by
 induction O generalizing q with
 | nil => simp [plCs]
 | cons x r ih =>
   cases q with
   | zero => simp [plCs]
   | succ q =>
     have e1 : plCs (x :: r) = plC x ++ plCs r := by simp [plCs]
     have e2 : plCs (x :: r.take q) = plC x ++ plCs (r.take q) := by simp [plCs]
     rw [List.take_succ_cons, e1, e2, <- ih, show (q + 1) * 4 = q * 4 + 4 by omega]
     simp [plC]
theorem plCs_drop (O : List Pl) (q : Nat) : (plCs O).drop (q * 4) = plCs (O.drop q) := by
 induction O generalizing q with
 | nil => simp [plCs]
 | cons x r ih =>
   cases q with
   | zero => simp
   | succ q =>
     have e1 : plCs (x :: r) = plC x ++ plCs r := by simp [plCs]
     rw [List.drop_succ_cons, e1, <- ih, show (q + 1) * 4 = q * 4 + 4 by omega]
     simp [plC]
theorem reads_hi {v : World} {base r2 c2 q : Nat} {O : List Pl} (h : OwnPl v base (some ⟨r2, 0, none⟩) c2 O) (hq : q <= O.length) : Reads v v.heap.size 4 (some ⟨r2, 0, none⟩) q (plCs (O.take q)) := by
 have h1 := Reads.of_own h
 refine ⟨by rw [plCs_length]; simp; omega, fun hn => ?_⟩
 obtain ⟨ad, e, hb, hc⟩ := h1.2 (by omega)
 refine ⟨ad, e, hb, fun j u hu => hc j u ?_⟩
 rw [<- plCs_take, List.getElem?_take] at hu
 split at hu
 · exact hu
 · cases hu
theorem reads_lo {v : World} {base r2 c2 q : Nat} {O : List Pl} (h : OwnPl v base (some ⟨r2, 0, none⟩) c2 O) (hq : q <= O.length) (hc : O.length <= c2) :
    Reads v v.heap.size 4 (if c2 = q then some ⟨r2, 0, none⟩ else some ⟨r2, q * 4, none⟩) (O.length - q) (plCs (O.drop q)) := by
 have h1 := (Reads.of_own h).cut hq hc
 rw [plCs_drop] at h1
 have e : (some (⟨r2, 0, none⟩ : Addr)).map (·.add (q * 4)) = some ⟨r2, q * 4, none⟩ := by
  show some ((⟨r2, 0, none⟩ : Addr).add (q * 4)) = _
  rw [show ((⟨r2, 0, none⟩ : Addr).add (q * 4)) = ⟨r2, q * 4, none⟩ by unfold Addr.add; split <;> simp_all]
 rw [e] at h1
 exact h1
theorem OwnPl.base {w : World} {b b' c : Nat} {A : Option Addr} {L : List Pl} (h : OwnPl w b A c L) (hb : b' <= b) : OwnPl w b' A c L := by
 refine ⟨h.1, ?_⟩
 rcases h.2 with hn | ⟨g, cap, cur, hv, hbg, rest⟩
 · exact .inl hn
 · exact .inr ⟨g, cap, cur, hv, Nat.le_trans hb hbg, rest⟩
theorem OwnPl.cap {w : World} {b c : Nat} {A : Option Addr} {L : List Pl} (h : OwnPl w b A c L) : (A = none ∧ L = [] ∧ c = 0) ∨ ∃ r, A = some ⟨r, 0, none⟩ ∧ L.length <= c ∧ c <= maxLen := by
 rcases h.2 with ⟨e, h0⟩ | ⟨g, cap, cur, hv, hbg, hb, hn, hm, _⟩
 · injection e with e1 e2 e3
   exact .inl ⟨e1, List.eq_nil_of_length_eq_zero h0, e3⟩
 · injection hv with e1 e2 e3
   subst e3
   exact .inr ⟨g, e1, hn, hm⟩
theorem wpList_append_pl2 (w : World) {ops : Array Oper} {rest : List Oper} {o : Oper} {a : Act} {Q : Exit -> Act -> World -> Prop} (hgd : o.guard = none) (s x : Operand)
    (ho : o.op = .call { callee := .builtin .append, args := #[s, x], argTypes := #[47, 47] }) {base c : Nat} {A : Option Addr} (O : List Pl) (p : Pl)
    (hown : OwnPl w base A c O) {n : Nat} (hn : n = O.length) (hs : a.eval s = .slice A n c) (hx : a.eval x = .slice (some ⟨w.heap.size, 0, none⟩) 1 1) (hlen : O.length <= 2000000) (hbase : base <= w.heap.size) {t : Nat} (ht : t = n + 1)
    (h : ∀ A' c' w', OwnPl w' base A' c' (O ++ [p]) -> Kp (fun i => (Value.slice A n c).ownBlock = some i) w w' -> wpList Tryz.prog ops Q rest (a.put o.dst (.slice A' t c')) w') :
    wpList Tryz.prog ops Q (o :: rest) a (w.alloc (.cells #[.int .u32 p.t, .int .u64 p.b, .int .i64 p.z, .int .i64 p.k] 55)) := by
 subst hn
 refine wpList_append_pl w hgd s x ho O p hown rfl hs hx hlen hbase ?_
 intro A' c' w' h1 h2 _
 have := h A' c' w' h1 h2
 rw [ht] at this
 rw [show (O ++ [p]).length = O.length + 1 by simp]
 exact this
theorem wpList_append_pls (w : World) {ops : Array Oper} {rest : List Oper} {o : Oper} {a : Act} {Q : Exit -> Act -> World -> Prop} (hgd : o.guard = none) (s x : Operand)
    (ho : o.op = .call { callee := .builtin .append, args := #[s, x], argTypes := #[47, 47] }) {base c : Nat} {A : Option Addr} (L N : List Pl)
    (hown : OwnPl w base A c L) {n : Nat} (hn : n = L.length) (hs : a.eval s = .slice A n c) {B m c' : Nat} {A' : Option Addr} (hm : m = N.length) (hx : a.eval x = .slice A' m c') (hr : Reads w B 4 A' m (plCs N))
    (hlen : L.length + N.length <= 2000000) (hbase : base <= w.heap.size) {t : Nat} (ht : t = n + m)
    (h : ∀ A1 c1 w', OwnPl w' base A1 c1 (L ++ N) -> Kp (fun i => (Value.slice A n c).ownBlock = some i) w w' -> wpList Tryz.prog ops Q rest (a.put o.dst (.slice A1 t c1)) w') :
    wpList Tryz.prog ops Q (o :: rest) a w := by
 subst hn
 obtain ⟨i0, hi0, hz0, hz1, hz2⟩ := info_parts pl_info
 refine wpList_append_any _ hgd s x _ ho base 55 i0 _ 4 32 Tryz.underlying47 hi0 hz0 hz1 hz2 rfl (by omega) (.slice A L.length c) L.length (plCs L) hs hown B A' m c' (plCs N) hx hr (plCs_one N) (by simp only [maxLen]; omega) (by omega) hbase ?_
 intro v' w' hown' hg _
 obtain ⟨A1, c1, rfl⟩ := own_form hown'
 rw [<- ht]
 refine h A1 c1 w' ?_ ⟨hg.os, hg.tape, hg.output, hg.size, fun i hi hn => hg.block i hi (fun e => hn e.symm)⟩
 unfold OwnPl
 have e : plCs (L ++ N) = plCs L ++ plCs N := by simp [plCs]
 rw [e, List.length_append, <- hm]
 exact hown'
set_option maxRecDepth 20000 in
set_option maxHeartbeats 4000000 in
theorem rin_any (w : World) (g : Nat) (M : List Pl) (z : Int) (hu : Uniq M) (hl : M.length <= 1000000) (h : RM w g M) :
    Calls Tryz.prog 67 #[.pointer (some ⟨g, 0, none⟩), .int .i64 z] w
      (fun e w' => ∃ A c S, e = .returned (.slice A (List.length S) c) ∧ OwnPl w' w.heap.size A c S ∧ S.Perm (ofZ z M) ∧ S.Pairwise (fun a b => a.k < b.k) ∧ Below w.heap.size w w') := by
 have HUQ := Lib.hid hu
 obtain ⟨A, c, hb, ho⟩ := h
 have HB1 := Lib.hid hb
 have HO1 : Hid (OwnPl w 0 A c M) := ho
 have HLT := Lib.hid hb.lt
 clear hb ho hu
 go_enter Tryz.func67, Tryz.ntmps67
 go_wp2_with (fail)
 go_loopw [5, 6] (fun o i wr => ∃ (k : Nat) (A2 : Option Addr) (c2 : Nat) (O : List Pl), k <= M.length ∧ o = .slice A2 O.length c2 ∧ i = .int .i64 k ∧
   Hid (OwnPl wr w.heap.size A2 c2 O) ∧ Hid (O.Perm (ofZ z (M.take k))) ∧ Hid (O.Pairwise (fun a b => a.k <= b.k)) ∧ Hid (Below w.heap.size w wr)) (fun _ i _ => M.length - (intOf i).toNat)
 case atStart => exact ⟨0, none, 0, [], Nat.zero_le _, rfl, rfl, (show Hid _ from ⟨rfl, .inl ⟨rfl, rfl⟩⟩), (show Hid _ from List.Perm.refl _), (show Hid _ from List.Pairwise.nil), (show Hid _ from Below.refl _ _)⟩
 case round =>
  obtain ⟨k, A2, c2, O, hk, rfl, rfl, hown, hperm, hsort, hbl⟩ := hrel
  have hc : wr.cell? ⟨g, 0, none⟩ = some (.slice A M.length c) := (HB1.out.below hbl.out HLT.out).cell 0
  by_cases hlt : k < M.length
  · have HK := Lib.hid hlt
    have HT := Lib.hid (ofZ_take_succ M z k hlt)
    have HOL : Hid (O.length <= k) := by
     have h1 := hperm.out.length_eq
     have h2 : (ofZ z (M.take k)).length <= (M.take k).length := List.length_filter_le _ _
     have h3 : (M.take k).length <= k := by simp; omega
     unfold Hid
     omega
    obtain ⟨r, rfl, hrow⟩ := ((HO1.out.below hbl.out).row) (by omega)
    have hx0 := hrow.c0 k hlt
    have hx1 := hrow.c1 k hlt
    have hx2 := hrow.c2 k hlt
    have hx3 := hrow.c3 k hlt
    clear hrow
    generalize hx : M.getD k p0 = x at *
    clear hx
    obtain ⟨xt, xb, xz, xk⟩ := x
    simp only at hx0 hx1 hx2 hx3 HT
    rcases Classical.em (xz = z) with hxz | hxz
    · subst hxz
      have HT2 : Hid (ofZ xz (M.take (k + 1)) = ofZ xz (M.take k) ++ [⟨xt, xb, xz, xk⟩]) := HT.out.trans (if_pos rfl)
      clear HT
      go_wp2_with (fail)
      go_loopw [7] (fun u w2 => ∃ q n : Nat, q <= O.length ∧ u = .int .i64 q ∧ w2 = wr.drewN n ∧ Hid (∀ j, q <= j -> j < O.length -> xk < (O.getD j p0).k)) (fun u _ => (intOf u).toNat)
      case atStart => exact ⟨O.length, 0, Nat.le_refl _, rfl, rfl, (fun j h1 h2 => by omega)⟩
      case round =>
       obtain ⟨q, n, hq, rfl, rfl, hhi⟩ := hrel
       have hOl : O.length <= 1000000 := by have := HOL.out; omega
       have hql : (q : Int) <= O.length := by omega
       have hc' : (wr.drewN n).cell? ⟨g, 0, none⟩ = some (.slice (some ⟨r, 0, none⟩) M.length c) := hc
       have hx3' : (wr.drewN n).cell? ⟨r, k * 4 + 2 + 1, none⟩ = some (.int .i64 xk) := hx3
       have HCC := Lib.hid hc
       have HXX := Lib.hid (And.intro hx0 (And.intro hx1 (And.intro hx2 hx3)))
       have hx3'' : (wr.drewN n).cell? ⟨r, k * 4 + 3, none⟩ = some (.int .i64 xk) := hx3
       clear hc hx0 hx1 hx2 hx3
       have hrow : ∀ r2 p, A2 = some ⟨r2, 0, none⟩ -> p < O.length -> (wr.drewN n).cell? ⟨r2, p * 4 + 3, none⟩ = some (.int .i64 (O.getD p p0).k) := fun r2 p e hp => by
        obtain ⟨r3, e3, hr3⟩ := (OwnPl.row hown.out) (by omega)
        rw [e3] at e
        cases e
        exact hr3.c3 p hp
       have HROW := Lib.hid hrow
       clear hrow
       generalize hU : wr.drewN n = u at *
       have HU := Lib.hid hU
       clear hU
       by_cases hcont : ∃ p, q = p + 1 ∧ xk < (O.getD p p0).k
       · obtain ⟨p, rfl, hlt3⟩ := hcont
         have hd : decide ((0 : Int) < ((p + 1 : Nat) : Int)) = true := by simp
         have hw : IntKind.i64.wrap (p : Int) = p := IntWalk.i64_in _ (by omega)
         obtain ⟨r2, rfl, _⟩ := (OwnPl.row hown.out) (by omega)
         have hy3 : u.cell? ⟨r2, p * 4 + 2 + 1, none⟩ = some (.int .i64 (O.getD p p0).k) := HROW.out r2 p rfl (by omega)
         have hy3' : u.cell? ⟨r2, p * 4 + 3, none⟩ = some (.int .i64 (O.getD p p0).k) := hy3
         have HLT3 := Lib.hid hlt3
         have HLT3' := Lib.hid hlt3
         have hp2 : p < O.length := by omega
         generalize (O.getD p p0).k = yk at hy3 hy3' hlt3 HLT3
         go_wp2_with (fail)
         go_quiet (fail)
         clear hy3 hy3' hlt3 hd
         go_wp2
         refine ⟨⟨p, n + nq, by omega, rfl, by rw [<- HU.out]; simp, fun j h1 h2 => ?_⟩, by simp [intOf]⟩
         rcases Nat.eq_or_lt_of_le h1 with e | e
         · rw [<- e]; exact HLT3'.out
         · exact hhi.out j e h2
       · have HLO : Hid (0 < q -> (O.getD (q - 1) p0).k <= xk) := fun h0 => by
          rcases Int.lt_or_le xk (O.getD (q - 1) p0).k with h | h
          · exact absurd ⟨q - 1, by omega, h⟩ hcont
          · exact h
         clear hcont
         have HLT1 : Hid (q = (O.take q).length) := by unfold Hid; simp; omega
         have HLT2 : Hid (O.length - q = (O.drop q).length) := by unfold Hid; simp
         have HLT3 : Hid (([] : List Pl).length + (O.take q).length <= 2000000) := by unfold Hid; simp; omega
         have HLT4 : Hid ((O.take q).length <= 2000000) := by unfold Hid; simp; omega
         have HLT5 : Hid (q + 1 = (O.take q ++ [(⟨xt, xb, xz, xk⟩ : Pl)]).length) := by unfold Hid; simp; omega
         have HLT6 : Hid ((O.take q ++ [(⟨xt, xb, xz, xk⟩ : Pl)]).length + (O.drop q).length <= 2000000) := by unfold Hid; simp; omega
         have HLT7 : Hid (O.length + 1 = q + 1 + (O.length - q)) := by unfold Hid; omega
         have HQ := Lib.hid hq
         have HQT : Hid (q = 0 + q) := by unfold Hid; omega
         have HDH : Hid (0 < q ∨ q = 0) := by unfold Hid; omega
         have HOV0 : Hid (OwnPl wr w.heap.size A2 c2 O) := hown
         rcases hown.out.cap with ⟨rfl, rfl, rfl⟩ | ⟨r2, rfl, hOc, hcm⟩
         · obtain rfl : q = 0 := by simpa using hq
           clear HLT1 HLT2 HLT3 HLT4 HLT5 HLT6 HLT7 HQT HDH HLO
           go_wp2_with (fail)
           go_quiet (fail)
           have HBV : Hid (Below w.heap.size w (u.drewN nq)) := by rw [<- HU.out]; exact below_drewN (below_drewN hbl.out n) nq
           have hcx : (u.drewN nq).cell? ⟨g, 0, none⟩ = some (.slice (some ⟨r, 0, none⟩) M.length c) ∧ (u.drewN nq).cell? ⟨r, k * 4, none⟩ = some (.int .u32 xt) ∧ (u.drewN nq).cell? ⟨r, k * 4 + 1, none⟩ = some (.int .u64 xb) ∧ (u.drewN nq).cell? ⟨r, k * 4 + 2, none⟩ = some (.int .i64 xz) ∧ (u.drewN nq).cell? ⟨r, k * 4 + 3, none⟩ = some (.int .i64 xk) := by rw [<- HU.out]; exact ⟨HCC.out, HXX.out⟩
           clear hc' hx3' hx3'' HCC HXX HROW hown hbl
           generalize u.drewN nq = v at *
           obtain ⟨d0, d1, d2, d3, d4⟩ := hcx
           have HSV : Hid (w.heap.size <= v.heap.size) := HBV.out.size
           go_wp2_with (first
             | (at_builtin
                refine wpList_append_pl2 v rfl (.tmp 59) (.tmp 67) rfl [] ⟨xt, xb, xz, xk⟩ (base := v.heap.size) (show OwnPl v v.heap.size none 0 [] from ⟨rfl, .inl ⟨rfl, rfl⟩⟩) rfl rfl rfl (Nat.zero_le _) (Nat.le_refl _) rfl ?_
                intro A6 c6 w6 ho6 hk6
                have HO6 := Lib.hid ho6
                have HB6 : Hid (Below v.heap.size v w6) := Kp.below (Below.refl _ _) hk6 (Nat.le_refl _) (fun b _ e => by simp [Value.ownBlock] at e)
                have HS6 : Hid (v.heap.size <= w6.heap.size) := HB6.out.size
                clear ho6 hk6 d0 d1 d2 d3 d4)
             | (at_builtin
                refine wpList_append_pls w6 rfl (.tmp 69) (.tmp 72) rfl [⟨xt, xb, xz, xk⟩] [] (n := 1) (m := 0) (B := 0) HO6.out rfl rfl rfl rfl ⟨rfl, fun h => absurd h (by omega)⟩ (by simp) HS6.out (t := 1) rfl ?_
                intro A7 c7 w7 ho7 hk7
                have HO7 := Lib.hid ho7
                have HB7 : Hid (Below v.heap.size v w7) := Kp.below HB6.out hk7 HS6.out (fun b hb e => by have := (World.ownsRow.lt HO6.out b e).1; omega)
                clear ho7 hk7))
           refine ⟨⟨k + 1, A7, c7, [(⟨xt, xb, xz, xk⟩ : Pl)], HK.out, rfl, by go_num, (OwnPl.base HO7.out HSV.out), ?_, (show Hid _ by unfold Hid; simp), HBV.out.trans (HB7.out.mono HSV.out)⟩, by simp [intOf]; have := HK.out; omega⟩
           rw [HT2.out]
           exact hperm.out.append_right _
         rcases Nat.eq_zero_or_pos q with hq0 | hq0
         · have hd : decide ((0 : Int) < q) = false := by simp; omega
           have hqc : (q : Int) <= c2 := by omega
           have HCONT := Lib.hid hq0
           have hq1 : ¬ 0 < q := by omega
           clear hq0
           go_wp2_with (fail)
           go_quiet (fail)
           clear hd HCONT
           have HOV : Hid (OwnPl (u.drewN nq) w.heap.size (some ⟨r2, 0, none⟩) c2 O) := by rw [<- HU.out]; exact hown.out
           have HBV : Hid (Below w.heap.size w (u.drewN nq)) := by rw [<- HU.out]; exact below_drewN (below_drewN hbl.out n) nq
           have HCX : Hid ((u.drewN nq).cell? ⟨g, 0, none⟩ = some (.slice (some ⟨r, 0, none⟩) M.length c) ∧ (u.drewN nq).cell? ⟨r, k * 4, none⟩ = some (.int .u32 xt) ∧ (u.drewN nq).cell? ⟨r, k * 4 + 1, none⟩ = some (.int .u64 xb) ∧ (u.drewN nq).cell? ⟨r, k * 4 + 2, none⟩ = some (.int .i64 xz) ∧ (u.drewN nq).cell? ⟨r, k * 4 + 3, none⟩ = some (.int .i64 xk)) := by rw [<- HU.out]; exact ⟨HCC.out, HXX.out⟩
           clear hc' hx3' hx3'' HCC HXX HROW hown hbl
           generalize u.drewN nq = v at *
           have HSV : Hid (w.heap.size <= v.heap.size) := HBV.out.size
           have HRH := Lib.hid (reads_hi HOV.out hq)
           have HRL := Lib.hid (reads_lo HOV.out hq hOc)
           go_wp2_with (first
             | (at_builtin
                refine wpList_append_pls v rfl (.tmp 54) (.tmp 57) rfl [] (O.take q) (base := v.heap.size) (show OwnPl v v.heap.size none 0 [] from ⟨rfl, .inl ⟨rfl, rfl⟩⟩) rfl rfl HLT1.out rfl HRH.out HLT3.out (Nat.le_refl _) HQT.out ?_
                intro A5 c5 w5 ho5 hk5
                have HO5 : Hid (OwnPl w5 v.heap.size A5 c5 (O.take q)) := ho5
                have hb5 : Below v.heap.size v w5 := Kp.below (Below.refl _ _) hk5 (Nat.le_refl _) (fun b _ e => by simp [Value.ownBlock] at e)
                have HB5 := Lib.hid hb5
                have HS5 : Hid (v.heap.size <= w5.heap.size) := hb5.size
                have d0 : w5.cell? ⟨g, 0, none⟩ = some (.slice (some ⟨r, 0, none⟩) M.length c) := below_keep hb5 HCX.out.1
                have d1 : w5.cell? ⟨r, k * 4, none⟩ = some (.int .u32 xt) := below_keep hb5 HCX.out.2.1
                have d2 : w5.cell? ⟨r, k * 4 + 1, none⟩ = some (.int .u64 xb) := below_keep hb5 HCX.out.2.2.1
                have d3 : w5.cell? ⟨r, k * 4 + 2, none⟩ = some (.int .i64 xz) := below_keep hb5 HCX.out.2.2.2.1
                have d4 : w5.cell? ⟨r, k * 4 + 3, none⟩ = some (.int .i64 xk) := below_keep hb5 HCX.out.2.2.2.2
                clear ho5 hk5 hb5)
             | (at_builtin
                refine wpList_append_pl2 w5 rfl (.tmp 59) (.tmp 67) rfl (O.take q) ⟨xt, xb, xz, xk⟩ HO5.out HLT1.out rfl rfl HLT4.out HS5.out rfl ?_
                intro A6 c6 w6 ho6 hk6
                have HO6 := Lib.hid ho6
                have hb6 : Below v.heap.size v w6 := Kp.below HB5.out hk6 HS5.out (fun b hb e => by have := (World.ownsRow.lt HO5.out b (by rw [<- HLT1.out]; exact e)).1; omega)
                have HB6 := Lib.hid hb6
                have HS6 : Hid (v.heap.size <= w6.heap.size) := hb6.size
                have HRL6 := Lib.hid (HRL.out.below hb6)
                clear ho6 hk6 hb6 d0 d1 d2 d3 d4)
             | (at_builtin
                refine wpList_append_pls w6 rfl (.tmp 69) (.tmp 72) rfl (O.take q ++ [⟨xt, xb, xz, xk⟩]) (O.drop q) HO6.out HLT5.out rfl HLT2.out rfl HRL6.out HLT6.out HS6.out HLT7.out ?_
                intro A7 c7 w7 ho7 hk7
                have HO7 := Lib.hid ho7
                have HB7 : Hid (Below v.heap.size v w7) := Kp.below HB6.out hk7 HS6.out (fun b hb e => by have := (World.ownsRow.lt HO6.out b (by rw [<- HLT5.out]; exact e)).1; omega)
                clear ho7 hk7))
           refine ⟨⟨k + 1, A7, c7, O.take q ++ [(⟨xt, xb, xz, xk⟩ : Pl)] ++ O.drop q, HK.out, ?_, by go_num, HO7.out.base HSV.out, ?_, ?_, HBV.out.trans (HB7.out.mono HSV.out)⟩, by simp [intOf]; have := HK.out; omega⟩
           · rw [List.length_append, <- HLT5.out, <- HLT2.out, <- HLT7.out]
           · rw [HT2.out]; exact (ins_perm O _ q).trans (hperm.out.append_right _)
           · exact ins_sorted hsort.out HQ.out hhi.out HLO.out
         · have hd : decide ((0 : Int) < q) = true := by simp; omega
           obtain ⟨p, hqp⟩ : ∃ p : Nat, (q : Int) - 1 = p := ⟨q - 1, by omega⟩
           have hqc : (q : Int) <= c2 := by omega
           have hpq : p = q - 1 := by omega
           have hp1 : (p : Int) + 1 <= O.length := by omega
           have hp2 : p < O.length := by omega
           have hy3 : u.cell? ⟨r2, p * 4 + 2 + 1, none⟩ = some (.int .i64 (O.getD (q - 1) p0).k) := by rw [<- hpq]; exact HROW.out r2 p rfl (by omega)
           have hy3' : u.cell? ⟨r2, p * 4 + 3, none⟩ = some (.int .i64 (O.getD (q - 1) p0).k) := hy3
           have hle3 : (O.getD (q - 1) p0).k <= xk := HLO.out hq0
           have hw : IntKind.i64.wrap (p : Int) = p := IntWalk.i64_in _ (by omega)
           clear hpq
           generalize hyk : (O.getD (q - 1) p0).k = yk at hy3 hy3' hle3
           have HCONT := Lib.hid (And.intro hy3 (And.intro hle3 hyk))
           clear hyk
           go_wp2_with (fail)
           go_quiet (fail)
           clear hy3 hy3' hqp hp1 hp2 hw
           clear hd HCONT
           have HOV : Hid (OwnPl (u.drewN nq) w.heap.size (some ⟨r2, 0, none⟩) c2 O) := by rw [<- HU.out]; exact hown.out
           have HBV : Hid (Below w.heap.size w (u.drewN nq)) := by rw [<- HU.out]; exact below_drewN (below_drewN hbl.out n) nq
           have HCX : Hid ((u.drewN nq).cell? ⟨g, 0, none⟩ = some (.slice (some ⟨r, 0, none⟩) M.length c) ∧ (u.drewN nq).cell? ⟨r, k * 4, none⟩ = some (.int .u32 xt) ∧ (u.drewN nq).cell? ⟨r, k * 4 + 1, none⟩ = some (.int .u64 xb) ∧ (u.drewN nq).cell? ⟨r, k * 4 + 2, none⟩ = some (.int .i64 xz) ∧ (u.drewN nq).cell? ⟨r, k * 4 + 3, none⟩ = some (.int .i64 xk)) := by rw [<- HU.out]; exact ⟨HCC.out, HXX.out⟩
           clear hc' hx3' hx3'' HCC HXX HROW hown hbl
           generalize u.drewN nq = v at *
           have HSV : Hid (w.heap.size <= v.heap.size) := HBV.out.size
           have HRH := Lib.hid (reads_hi HOV.out hq)
           have HRL := Lib.hid (reads_lo HOV.out hq hOc)
           go_wp2_with (first
             | (at_builtin
                refine wpList_append_pls v rfl (.tmp 54) (.tmp 57) rfl [] (O.take q) (base := v.heap.size) (show OwnPl v v.heap.size none 0 [] from ⟨rfl, .inl ⟨rfl, rfl⟩⟩) rfl rfl HLT1.out rfl HRH.out HLT3.out (Nat.le_refl _) HQT.out ?_
                intro A5 c5 w5 ho5 hk5
                have HO5 : Hid (OwnPl w5 v.heap.size A5 c5 (O.take q)) := ho5
                have hb5 : Below v.heap.size v w5 := Kp.below (Below.refl _ _) hk5 (Nat.le_refl _) (fun b _ e => by simp [Value.ownBlock] at e)
                have HB5 := Lib.hid hb5
                have HS5 : Hid (v.heap.size <= w5.heap.size) := hb5.size
                have d0 : w5.cell? ⟨g, 0, none⟩ = some (.slice (some ⟨r, 0, none⟩) M.length c) := below_keep hb5 HCX.out.1
                have d1 : w5.cell? ⟨r, k * 4, none⟩ = some (.int .u32 xt) := below_keep hb5 HCX.out.2.1
                have d2 : w5.cell? ⟨r, k * 4 + 1, none⟩ = some (.int .u64 xb) := below_keep hb5 HCX.out.2.2.1
                have d3 : w5.cell? ⟨r, k * 4 + 2, none⟩ = some (.int .i64 xz) := below_keep hb5 HCX.out.2.2.2.1
                have d4 : w5.cell? ⟨r, k * 4 + 3, none⟩ = some (.int .i64 xk) := below_keep hb5 HCX.out.2.2.2.2
                clear ho5 hk5 hb5)
             | (at_builtin
                refine wpList_append_pl2 w5 rfl (.tmp 59) (.tmp 67) rfl (O.take q) ⟨xt, xb, xz, xk⟩ HO5.out HLT1.out rfl rfl HLT4.out HS5.out rfl ?_
                intro A6 c6 w6 ho6 hk6
                have HO6 := Lib.hid ho6
                have hb6 : Below v.heap.size v w6 := Kp.below HB5.out hk6 HS5.out (fun b hb e => by have := (World.ownsRow.lt HO5.out b (by rw [<- HLT1.out]; exact e)).1; omega)
                have HB6 := Lib.hid hb6
                have HS6 : Hid (v.heap.size <= w6.heap.size) := hb6.size
                have HRL6 := Lib.hid (HRL.out.below hb6)
                clear ho6 hk6 hb6 d0 d1 d2 d3 d4)
             | (at_builtin
                refine wpList_append_pls w6 rfl (.tmp 69) (.tmp 72) rfl (O.take q ++ [⟨xt, xb, xz, xk⟩]) (O.drop q) HO6.out HLT5.out rfl HLT2.out rfl HRL6.out HLT6.out HS6.out HLT7.out ?_
                intro A7 c7 w7 ho7 hk7
                have HO7 := Lib.hid ho7
                have HB7 : Hid (Below v.heap.size v w7) := Kp.below HB6.out hk7 HS6.out (fun b hb e => by have := (World.ownsRow.lt HO6.out b (by rw [<- HLT5.out]; exact e)).1; omega)
                clear ho7 hk7))
           refine ⟨⟨k + 1, A7, c7, O.take q ++ [(⟨xt, xb, xz, xk⟩ : Pl)] ++ O.drop q, HK.out, ?_, by go_num, HO7.out.base HSV.out, ?_, ?_, HBV.out.trans (HB7.out.mono HSV.out)⟩, by simp [intOf]; have := HK.out; omega⟩
           · rw [List.length_append, <- HLT5.out, <- HLT2.out, <- HLT7.out]
           · rw [HT2.out]; exact (ins_perm O _ q).trans (hperm.out.append_right _)
           · exact ins_sorted hsort.out HQ.out hhi.out HLO.out
    · have HT2 : Hid (ofZ z (M.take (k + 1)) = ofZ z (M.take k)) := HT.out.trans (if_neg hxz)
      have hxz' : (xz == z) = false := by simpa using hxz
      clear HT
      go_wp2_with (fail)
      exact ⟨⟨k + 1, A2, c2, O, HK.out, rfl, by go_num, hown, (by rw [HT2.out]; exact hperm), hsort, hbl⟩, by simp [intOf]; have := HK.out; omega⟩
  · have hkm : k = M.length := by omega
    subst hkm
    have hp : O.Perm (ofZ z M) := by have := hperm.out; rwa [List.take_length] at this
    have HP := Lib.hid hp
    have HS := Lib.hid (sorted_strict HUQ.out hp hsort.out)
    clear hp
    go_wp2
    go_ret
    exact ⟨A2, c2, O, rfl, hown.out, HP.out, HS.out, hbl.out⟩
end Go.Proofs.YtfabgbmbnmbjkaaGreatDoor

