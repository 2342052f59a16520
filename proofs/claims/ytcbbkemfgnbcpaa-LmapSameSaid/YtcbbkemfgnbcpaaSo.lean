/- The library's sort at rows of structs: places by their block, names by themselves. -/
import Derived.Test.YtcbbkemfgnbcpaaSp
import Derived.Test.YtcbbkemfgnbcpaaShp
namespace Go.Proofs.Ytcbbkemfgnbcpaa
open Go.RowKit Go.Sort Go.Shelf

section
variable {α : Type} [Inhabited α]
theorem flat_get (enc : α → List Value) (k : Nat) (hk : ∀ x, (enc x).length = k) : ∀ (l : List α) (t : Nat), t < l.length * k → (l.flatMap enc)[t]? = some ((enc l.toArray[t / k]!)[t % k]!)
  | [], t, h => by simp at h
  | x :: r, t, h => by
    have k0 : 0 < k := by rcases Nat.eq_zero_or_pos k with h' | h'; · subst h'; simp at h
                          · exact h'
    rw [List.flatMap_cons]
    by_cases h1 : t < k
    · rw [List.getElem?_append_left (by rw [hk]; exact h1), Nat.div_eq_of_lt h1, Nat.mod_eq_of_lt h1]
      have : t < (enc x).length := by rw [hk]; exact h1
      simp [this]
    · rw [List.getElem?_append_right (by rw [hk]; omega), hk]
      have hlen : (x :: r).length * k = r.length * k + k := by simp [Nat.add_mul]
      have := flat_get enc k hk r (t - k) (by rw [hlen] at h; omega)
      rw [this]
      have e1 : t / k = (t - k) / k + 1 := Nat.div_eq_sub_div k0 (by omega)
      have e2 : t % k = (t - k) % k := Nat.mod_eq_sub_mod (by omega)
      rw [e1, e2]
      simp
theorem flat_toList (enc : α → List Value) (k : Nat) (hk : ∀ x, (enc x).length = k) (l : List α) : (flatK enc k l.toArray).toList = l.flatMap enc := by
  have hl : (l.flatMap enc).length = l.length * k := by
    induction l with
    | nil => simp
    | cons x r ih => simp [ih, hk, Nat.add_mul]; omega
  apply List.ext_getElem?
  intro t
  by_cases h : t < l.length * k
  · rw [flat_get enc k hk l t h, Array.getElem?_toList, Array.getElem?_eq_getElem (by simpa using h)]
    have := get_flatK enc k l.toArray t (by simpa using h)
    rw [getElem!_pos _ t (by simpa using h)] at this
    rw [this]
  · rw [List.getElem?_eq_none (l := (flatK enc k l.toArray).toList) (by simp; omega), List.getElem?_eq_none (l := l.flatMap enc) (by rw [hl]; omega)]

theorem holds_flat {w : World} {g : Nat} {cur : Array Value} {e : TypeId} {F : Array Value} (hb : w.heap[g]? = some (.cells cur e (0, 0))) (ht : cur.toList.take F.size = F.toList) : Holds id w g 0 F := by
  intro j hj
  refine ⟨?_, by simp [World.frozen?, hb]⟩
  have h1 : (cur.toList.take F.size)[j]? = F.toList[j]? := by rw [ht]
  rw [List.getElem?_take_of_lt hj] at h1
  simp only [World.cell?, hb, Nat.zero_add]
  simp only [Option.isSome_none, Bool.false_eq_true, if_false]
  rw [← Array.getElem?_toList, h1, Array.getElem?_toList, Array.getElem?_eq_getElem hj]
  simp [hj]

theorem after_flat {w : World} {g n : Nat} {os : Array Obj} {cur : Array Value} {e : TypeId} (F : Array Value) (hF : F.size ≤ cur.size) (hb : w.heap[g]? = some (.cells cur e (0, 0))) :
    ∃ cur' : Array Value, (grow (putRow id (Sort.ahead w n) g 0 F) os).heap[g]? = some (.cells cur' e (0, 0)) ∧ cur'.size = cur.size ∧ cur'.toList.take F.size = F.toList ∧ Kp (fun i => i = g) w (grow (putRow id (Sort.ahead w n) g 0 F) os) := by
  have hg : g < w.heap.size := (Array.getElem?_eq_some_iff.1 hb).1
  refine ⟨putCells id 0 F cur, ?_, by simp [putCells], ?_, ⟨rfl, rfl, rfl, by simp [grow, putRow, mapBlock, Sort.ahead], fun k hk hne => ?_⟩⟩
  · rw [heap_grow_old _ _ (by simpa [putRow, mapBlock, Sort.ahead] using hg)]
    simp [putRow, mapBlock, Sort.ahead, Array.getElem?_modify, hb, onCells]
  · apply List.ext_getElem?
    intro j
    by_cases hj : j < F.size
    · rw [List.getElem?_take_of_lt hj, Array.getElem?_toList, Array.getElem?_toList]
      simp [putCells, hj, show j < cur.size by omega]
    · rw [List.getElem?_take_eq_none (by omega), List.getElem?_eq_none (by simp; omega)]
  · rw [heap_grow_old _ _ (by simpa [putRow, mapBlock, Sort.ahead] using hk)]
    have : g ≠ k := fun e => hne e.symm
    simp [putRow, mapBlock, Sort.ahead, Array.getElem?_modify, this]
end

instance : Inhabited Pl := ⟨p0⟩

/-- How the one in a zone is told from the other: by its block. -/
def byBlock (x y : Pl) : Int := Lib.compareInt x.k y.k
theorem byBlock_lt (x y : Pl) : ltOf byBlock x y = decide (x.k < y.k) := by
  unfold ltOf byBlock Lib.compareInt
  by_cases h1 : x.k < y.k
  · simp [h1]
  · by_cases h2 : y.k < x.k <;> simp [h1, h2]
theorem byBlock_swo : SWO (ltOf byBlock) where
  irrefl x := by rw [byBlock_lt]; simp
  trans x y z h1 h2 := by rw [byBlock_lt] at *; simp at *; omega
  ntrans x y z h1 h2 := by rw [byBlock_lt] at *; simp at *; omega

set_option maxHeartbeats 1000000 in
theorem inCmp_any (x y : Pl) (W : World) : Calls Try.prog 33 #[.agg #[.int .u32 x.t, .int .u64 x.b, .int .i64 x.z, .int .i64 x.k], .agg #[.int .u32 y.t, .int .u64 y.b, .int .i64 y.z, .int .i64 y.k]] W
    fun e w' => e = .returned (.int .i64 (byBlock x y)) ∧ ∃ q os', w' = grow (W.drewN q) os' := by
  have hcon := fun W' => AnyG.cmp_Compare_int cmpInt x.k y.k W'
  change ∀ W', Calls Try.prog 34 _ _ _ at hcon
  unfold byBlock
  generalize Lib.compareInt x.k y.k = r at hcon ⊢
  go_enter Try.func33, Try.ntmps33
  go_wp2_with (go_at_call 34; refine (hcon _).mono ?_; rintro e w' ⟨rfl, rfl⟩)
  go_ret
  exact ⟨rfl, 0, _, by rw [alloc_eq_grow, alloc_eq_grow, grow_grow]; rfl⟩

/-- A row of places, sorted by their blocks. -/
theorem sort_pl (w : World) (base g cap : Nat) (L : List Pl) (hL : L.length ≤ 1000000) (h0 : 0 < L.length) (h : OwnPl w base (some ⟨g, 0, none⟩) cap L) :
    Calls Try.prog 32 #[.slice (some ⟨g, 0, none⟩) L.length cap, .func (.func 33) #[] #[]] w
      (fun e w' => e = .returned (.tuple #[]) ∧ ∃ S : List Pl, S.Perm L ∧ S.Pairwise (fun a b => a.k ≤ b.k) ∧ S.length = L.length ∧ OwnPl w' base (some ⟨g, 0, none⟩) cap S ∧ Kp (fun i => i = g) w w') := by
  have eg : ∀ args w, (callFunc 33 args).run Try.prog w = .ok (.enter 33 args) w := enters_of Try.func33 (by kernel_rfl) rfl
  obtain ⟨hlen, hx⟩ := h
  rcases hx with ⟨_, hz⟩ | ⟨g', cap', cur, hv, hbase, hb, hn, hcap, hcs, ht⟩
  · omega
  · injection hv with hA _ hC
    have hgg : g = g' := by injection hA with hA; injection hA
    subst hgg hC
    have hk : ∀ x : Pl, (plC x).length = 4 := fun _ => rfl
    have hfl : (flatK plC 4 L.toArray).toList = plCs L := flat_toList plC 4 hk L
    have hsz : (flatK plC 4 L.toArray).size = L.length * 4 := by simp
    have hH : HoldsK plC 4 w g 0 L.toArray := holds_flat hb (by rw [hfl, hsz]; exact ht)
    have hlt : g < w.heap.size := (Array.getElem?_eq_some_iff.1 hb).1
    have hcon := AnyQ.slices_SortFunc sortPl 4 Try.isAgg33 Try.sizeOf33 plC hk (fun x v hv => plCs_one [x] v (by simpa [plCs] using hv)) byBlock byBlock_swo 33 #[] g 0 cap L.toArray w eg (fun _ _ _ _ x y => inCmp_any x y _) hH hlt (by simp; omega)
    have e1 : L.toArray.size = L.length := by simp
    rw [e1] at hcon
    refine hcon.mono ?_
    rintro e w' ⟨rfl, d', n, os, hp, hs, rfl⟩
    obtain ⟨p1, _, p3⟩ := hp
    have hd : d'.size = L.length := by rw [p1, e1]
    have hS : d'.toList.length = L.length := by simpa using hd
    have hfl' : (flatK plC 4 d').toList = plCs d'.toList := by
      have := flat_toList plC 4 hk d'.toList
      simpa [plCs] using this
    have hsz' : (flatK plC 4 d').size = L.length * 4 := by simp [hd]
    obtain ⟨cur', c1, c2, c3, c4⟩ := after_flat (n := n) (os := os) (flatK plC 4 d') (by rw [hsz', hcs]; exact Nat.mul_le_mul_right 4 hn) hb
    refine ⟨rfl, d'.toList, ?_, ?_, hS, ⟨plCs_length _, .inr ⟨g, cap, cur', by rw [hS], hbase, c1, by rw [hS]; exact hn, hcap, by rw [c2, hcs], ?_⟩⟩, c4⟩
    · have h3 : (d'.extract 0 L.length).toList.Perm (L.toArray.extract 0 L.length).toList := p3
      simp [← hd] at h3
      rwa [hd, List.take_length] at h3
    · rw [List.pairwise_iff_getElem]
      intro i j hi hj hij
      have h1 := hs i j (Nat.zero_le _) hij (by rw [← hd]; simpa using hj)
      rw [byBlock_lt] at h1
      have hi' : i < d'.size := by simpa using hi
      have hj' : j < d'.size := by simpa using hj
      simp [hi', hj'] at h1
      simpa using h1
    · rw [hfl', hsz'] at c3
      rw [hS]
      exact c3
end Go.Proofs.Ytcbbkemfgnbcpaa
