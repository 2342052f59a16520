/- How names are told, the one from the other: by their tenant, then by their block. -/
import Derived.Test.YtcbbkemfgnbcpaaSo
namespace Go.Proofs.Ytcbbkemfgnbcpaa
open Go.RowKit Go.Sort Go.Shelf

theorem cmp32_any (x y : Int) (w : World) : Calls Try.prog 40 #[.int .u32 x, .int .u32 y] w fun e w' => e = .returned (.int .i64 (Lib.compareInt x y)) ∧ w' = w := by
  obtain ⟨v, hv⟩ : ∃ v, v = Lib.compareInt x y := ⟨_, rfl⟩
  rw [← hv]
  have HV := Lib.hid hv
  clear hv
  go_enter Try.func40, Try.ntmps40
  go_wp2
  all_goals
    go_ret
    refine ⟨ret_int ?_, rfl⟩
    rw [HV.out]
    unfold Lib.compareInt
    first
      | rw [if_pos (by omega)]
      | rw [if_neg (by omega), if_pos (by omega)]
      | rw [if_neg (by omega), if_neg (by omega)]
theorem cmp64_any (x y : Int) (w : World) : Calls Try.prog 41 #[.int .u64 x, .int .u64 y] w fun e w' => e = .returned (.int .i64 (Lib.compareInt x y)) ∧ w' = w := by
  obtain ⟨v, hv⟩ : ∃ v, v = Lib.compareInt x y := ⟨_, rfl⟩
  rw [← hv]
  have HV := Lib.hid hv
  clear hv
  go_enter Try.func41, Try.ntmps41
  go_wp2
  all_goals
    go_ret
    refine ⟨ret_int ?_, rfl⟩
    rw [HV.out]
    unfold Lib.compareInt
    first
      | rw [if_pos (by omega)]
      | rw [if_neg (by omega), if_pos (by omega)]
      | rw [if_neg (by omega), if_neg (by omega)]

def orI (a b : Int) : Int := if a = 0 then b else a
theorem or_any (a b : Int) (g : Nat) (w : World) (h0 : w.cell? ⟨g, 0, none⟩ = some (.int .i64 a)) (h1 : w.cell? ⟨g, 1, none⟩ = some (.int .i64 b)) :
    Calls Try.prog 39 #[.slice (some ⟨g, 0, none⟩) 2 2] w fun e w' => e = .returned (.int .i64 (orI a b)) ∧ w' = w := by
  go_enter Try.func39, Try.ntmps39
  go_wp2
  refine wp_loop_rounds 3 ?_
  by_cases ha : a = 0
  · subst ha
    by_cases hb : b = 0
    · subst hb
      repeat any_goals (rw [rounds_succ]; go_wp2)
      go_ret
      exact ⟨rfl, rfl⟩
    · have hb' : (b == 0) = false := by simpa using hb
      repeat any_goals (rw [rounds_succ]; go_wp2)
      go_ret
      exact ⟨rfl, rfl⟩
  · have ha' : (a == 0) = false := by simpa using ha
    have e : orI a b = a := if_neg ha
    repeat any_goals (rw [rounds_succ]; go_wp2)
    go_ret
    exact ⟨ret_int e.symm, rfl⟩

/-- By the tenant, then by the block. -/
def byName (x y : Int × Int) : Int := orI (Lib.compareInt x.1 y.1) (Lib.compareInt x.2 y.2)
theorem byName_lt (x y : Int × Int) : ltOf byName x y = decide (x.1 < y.1 ∨ (x.1 = y.1 ∧ x.2 < y.2)) := by
  unfold ltOf byName orI Lib.compareInt
  by_cases h1 : x.1 < y.1
  · simp [h1]
  · by_cases h2 : y.1 < x.1
    · have : ¬ x.1 = y.1 := by omega
      simp [h1, h2, this]
    · have : x.1 = y.1 := by omega
      by_cases h3 : x.2 < y.2
      · simp [this, h3]
      · by_cases h4 : y.2 < x.2 <;> simp [this, h3, h4]
theorem byName_swo : SWO (ltOf byName) where
  irrefl x := by rw [byName_lt]; simp
  trans x y z h1 h2 := by rw [byName_lt] at *; simp at *; omega
  ntrans x y z h1 h2 := by rw [byName_lt] at *; simp at *; omega

set_option maxRecDepth 4000 in
set_option maxHeartbeats 1000000 in
theorem nameCmp_any (x y : Int × Int) (W : World) : Calls Try.prog 31 #[.agg #[.int .u32 x.1, .int .u64 x.2], .agg #[.int .u32 y.1, .int .u64 y.2]] W
    fun e w' => e = .returned (.int .i64 (byName x y)) ∧ ∃ q os', w' = grow (W.drewN q) os' := by
  obtain ⟨x1, x2⟩ := x
  obtain ⟨y1, y2⟩ := y
  have H1 := Lib.hid (fun w => cmp32_any x1 y1 w)
  have H2 := Lib.hid (fun w => cmp64_any x2 y2 w)
  have H3 := Lib.hid (fun g w => or_any (Lib.compareInt x1 y1) (Lib.compareInt x2 y2) g w)
  unfold byName
  simp only
  generalize Lib.compareInt x1 y1 = c1 at *
  generalize Lib.compareInt x2 y2 = c2 at *
  have b1 := (Blk.new W 62 #[.int .u32 x1, .int .u64 x2]).alloc (.cells #[.int .u32 y1, .int .u64 y2] 62)
  have b2 := Blk.new (W.alloc (.cells #[.int .u32 x1, .int .u64 x2] 62)) 62 #[.int .u32 y1, .int .u64 y2]
  rw [World.size_alloc] at b2
  have hgr : (W.alloc (.cells #[.int .u32 x1, .int .u64 x2] 62)).alloc (.cells #[.int .u32 y1, .int .u64 y2] 62) = grow W (#[.cells #[.int .u32 x1, .int .u64 x2] 62] ++ #[.cells #[.int .u32 y1, .int .u64 y2] 62]) := by
    rw [alloc_eq_grow, alloc_eq_grow, grow_grow]
  go_enter Try.func31, Try.ntmps31
  go_upto_region 1 with (fail)
  obtain ⟨os, hos⟩ : ∃ os, (W.alloc (.cells #[.int .u32 x1, .int .u64 x2] 62)).alloc (.cells #[.int .u32 y1, .int .u64 y2] 62) = grow W os := ⟨_, hgr⟩
  have HOS := Lib.hid hos
  clear hgr hos
  change Code.wp _ _ _ _ ((W.alloc (.cells #[.int .u32 x1, .int .u64 x2] 62)).alloc (.cells #[.int .u32 y1, .int .u64 y2] 62))
  generalize (W.alloc (.cells #[.int .u32 x1, .int .u64 x2] 62)).alloc (.cells #[.int .u32 y1, .int .u64 y2] 62) = w1 at *
  have ks : w1.cell? ⟨W.heap.size, 0, none⟩ = some (.int .u32 x1) ∧ w1.cell? ⟨W.heap.size, 1, none⟩ = some (.int .u64 x2) ∧ w1.cell? ⟨W.heap.size + 1, 0, none⟩ = some (.int .u32 y1) ∧ w1.cell? ⟨W.heap.size + 1, 1, none⟩ = some (.int .u64 y2) :=
    ⟨b1.cell 0, b1.cell 1, b2.cell 0, b2.cell 1⟩
  have HB1 := Lib.hid b1
  have HB2 := Lib.hid b2
  have ks2 : (w1.drew.alloc (.cells #[.int .i64 c1, .int .i64 c2] 3)).cell? ⟨W.heap.size, 0, none⟩ = some (.int .u32 x1) ∧ (w1.drew.alloc (.cells #[.int .i64 c1, .int .i64 c2] 3)).cell? ⟨W.heap.size, 1, none⟩ = some (.int .u64 x2) ∧ (w1.drew.alloc (.cells #[.int .i64 c1, .int .i64 c2] 3)).cell? ⟨W.heap.size + 1, 0, none⟩ = some (.int .u32 y1) ∧ (w1.drew.alloc (.cells #[.int .i64 c1, .int .i64 c2] 3)).cell? ⟨W.heap.size + 1, 1, none⟩ = some (.int .u64 y2) :=
    ⟨(b1.drew.alloc _).cell 0, (b1.drew.alloc _).cell 1, (b2.drew.alloc _).cell 0, (b2.drew.alloc _).cell 1⟩
  have b3 := Blk.new w1.drew 3 #[.int .i64 c1, .int .i64 c2]
  have HQ := Lib.hid (H3.out _ _ (b3.cell 0) (b3.cell 1))
  clear b1 b2 b3
  go_region_held3 (fun u => u.cell? ⟨W.heap.size, 0, none⟩ = some (.int .u32 x1) ∧ u.cell? ⟨W.heap.size, 1, none⟩ = some (.int .u64 x2) ∧ u.cell? ⟨W.heap.size + 1, 0, none⟩ = some (.int .u32 y1) ∧ u.cell? ⟨W.heap.size + 1, 1, none⟩ = some (.int .u64 y2))
    (first | exact ks | exact ks2)
    (first
      | (go_at_call 40
         refine (H1.out _).mono ?_
         rintro e w2 ⟨rfl, rfl⟩)
      | (go_at_call 41
         refine (H2.out _).mono ?_
         rintro e w2 ⟨rfl, rfl⟩)
      | (go_at_call 39
         refine HQ.out.mono ?_
         rintro e w2 ⟨rfl, rfl⟩))
  all_goals
    clear ks ks2
    generalize hcc : orI c1 c2 = cc at *
    have HCC := Lib.hid hcc
    clear hcc
    go_wp2
    go_ret
    exact ⟨ret_int HCC.out.symm, 1, os ++ #[.cells #[.int .i64 c1, .int .i64 c2] 3], by rw [HOS.out, alloc_eq_grow, grow_grow]; rfl⟩

def nameC2 (x : Int × Int) : List Value := [.int .u32 x.1, .int .u64 x.2]
def nameCs (L : List (Int × Int)) : List Value := L.flatMap nameC2
theorem nameCs_length (L : List (Int × Int)) : (nameCs L).length = L.length * 2 := by
  induction L with
  | nil => rfl
  | cons p r ih => simp [nameCs, nameC2] at ih ⊢; omega
theorem nameCs_snoc (L : List (Int × Int)) (p : Int × Int) : nameCs (L ++ [p]) = nameCs L ++ nameC2 p := by simp [nameCs]
theorem nameCs_one (L : List (Int × Int)) : ∀ u ∈ nameCs L, u.oneCell' = true := by
  intro u hu
  obtain ⟨p, _, hp⟩ := List.mem_flatMap.1 hu
  simp only [nameC2, List.mem_cons, List.not_mem_nil, or_false] at hp
  rcases hp with rfl | rfl <;> rfl
/-- A slice that owns its names. -/
def OwnNm (w : World) (base : Nat) (A : Option Addr) (c : Nat) (L : List (Int × Int)) : Prop := w.ownsRow base 62 2 (.slice A L.length c) L.length (nameCs L)

theorem insNoneN (p : Option Addr) (cap : Nat) (fv : Value) (w : World) : Calls Try.prog 59 #[.slice p 0 cap, .int .i64 0, .int .i64 0, fv] w fun e w' => e = .returned (.tuple #[]) ∧ w' = w := by
  go_enter Try.func59, Try.ntmps59
  go_wp2
  refine wp_loop_rounds 1 ?_
  rw [rounds_succ]
  go_wp2
  go_end0
  exact ⟨rfl, rfl⟩
set_option maxHeartbeats 2000000 in
theorem pdqNoneN (p : Option Addr) (cap : Nat) (lim : Int) (fv : Value) (w : World) : Calls Try.prog 46 #[.slice p 0 cap, .int .i64 0, .int .i64 0, .int .i64 lim, fv] w fun e w' => e = .returned (.tuple #[]) ∧ w' = w := by
  have hi := fun W => insNoneN p cap fv W
  go_enter Try.func46, Try.ntmps46
  go_wp2
  refine wp_loop_rounds 1 ?_
  rw [rounds_succ]
  go_wp2_with (go_at_call 59; refine (hi _).mono ?_; rintro e w' ⟨rfl, rfl⟩)
  (try simp only [Exit.inBlock, Exit.then]); refine bodyPost_ret (results_none rfl _ _ _) rfl ?_
  exact ⟨rfl, rfl⟩
set_option maxHeartbeats 2000000 in
theorem sortNoneN (p : Option Addr) (cap : Nat) (fv : Value) (w : World) : Calls Try.prog 37 #[.slice p 0 cap, fv] w fun e w' => e = .returned (.tuple #[]) ∧ w' = w := by
  have hi := fun W lim => pdqNoneN p cap lim fv W
  go_enter Try.func37, Try.ntmps37
  go_wp2_with (first | (go_at_call 46; refine (hi _ _).mono ?_; rintro e w' ⟨rfl, rfl⟩) | go_in)
  go_end0
  exact ⟨rfl, rfl⟩

/-- A list of names, sorted. -/
theorem sort_nm (w : World) (base : Nat) (A : Option Addr) (cap : Nat) (L : List (Int × Int)) (hL : L.length ≤ 1000000) (h : OwnNm w base A cap L) :
    Calls Try.prog 37 #[.slice A L.length cap, .func (.func 31) #[] #[]] w
      (fun e w' => e = .returned (.tuple #[]) ∧ ∃ S : List (Int × Int), S.Perm L ∧ S.Pairwise (fun a b => ¬ (b.1 < a.1 ∨ (b.1 = a.1 ∧ b.2 < a.2))) ∧ S.length = L.length ∧ OwnNm w' base A cap S ∧ Kp (fun i => base ≤ i) w w') := by
  by_cases hz : L = []
  · subst hz
    refine (sortNoneN A cap _ w).mono ?_
    rintro e w' ⟨rfl, rfl⟩
    exact ⟨rfl, [], List.Perm.refl _, List.Pairwise.nil, rfl, h, Kp.refl _ _⟩
  have h0 : 0 < L.length := List.length_pos_iff.2 hz
  have eg : ∀ args w, (callFunc 31 args).run Try.prog w = .ok (.enter 31 args) w := enters_of Try.func31 (by kernel_rfl) rfl
  obtain ⟨hlen, hx⟩ := h
  rcases hx with ⟨_, hz⟩ | ⟨g, cap', cur, hv, hbase, hb, hn, hcap, hcs, ht⟩
  · omega
  · injection hv with hA _ hC
    subst hA hC
    have hk : ∀ x : Int × Int, (nameC2 x).length = 2 := fun _ => rfl
    have hfl : (flatK nameC2 2 L.toArray).toList = nameCs L := flat_toList nameC2 2 hk L
    have hsz : (flatK nameC2 2 L.toArray).size = L.length * 2 := by simp
    have hH : HoldsK nameC2 2 w g 0 L.toArray := holds_flat hb (by rw [hfl, hsz]; exact ht)
    have hlt : g < w.heap.size := (Array.getElem?_eq_some_iff.1 hb).1
    have hcon := AnyQ.slices_SortFunc sortNm 2 Try.isAgg62 Try.sizeOf62 nameC2 hk (fun x v hv => nameCs_one [x] v (by simpa [nameCs] using hv)) byName byName_swo 31 #[] g 0 cap L.toArray w eg (fun _ _ _ _ x y => nameCmp_any x y _) hH hlt (by simp; omega)
    have e1 : L.toArray.size = L.length := by simp
    rw [e1] at hcon
    refine hcon.mono ?_
    rintro e w' ⟨rfl, d', n, os, hp, hs, rfl⟩
    obtain ⟨p1, _, p3⟩ := hp
    have hd : d'.size = L.length := by rw [p1, e1]
    have hS : d'.toList.length = L.length := by simpa using hd
    have hfl' : (flatK nameC2 2 d').toList = nameCs d'.toList := by
      have := flat_toList nameC2 2 hk d'.toList
      simpa [nameCs] using this
    have hsz' : (flatK nameC2 2 d').size = L.length * 2 := by simp [hd]
    obtain ⟨cur', c1, c2, c3, c4⟩ := after_flat (n := n) (os := os) (flatK nameC2 2 d') (by rw [hsz', hcs]; exact Nat.mul_le_mul_right 2 hn) hb
    refine ⟨rfl, d'.toList, ?_, ?_, hS, ⟨nameCs_length _, .inr ⟨g, cap, cur', by rw [hS], hbase, c1, by rw [hS]; exact hn, hcap, by rw [c2, hcs], ?_⟩⟩, c4.mono (fun i _ e => by rw [e]; exact hbase)⟩
    · have h3 : (d'.extract 0 L.length).toList.Perm (L.toArray.extract 0 L.length).toList := p3
      simp [← hd] at h3
      rwa [hd, List.take_length] at h3
    · rw [List.pairwise_iff_getElem]
      intro i j hi hj hij
      have h1 := hs i j (Nat.zero_le _) hij (by rw [← hd]; simpa using hj)
      rw [byName_lt] at h1
      have hi' : i < d'.size := by simpa using hi
      have hj' : j < d'.size := by simpa using hj
      have h2 := of_decide_eq_false h1
      rw [getElem!_pos d' i hi', getElem!_pos d' j hj'] at h2
      simpa using h2
    · rw [hfl', hsz'] at c3
      rw [hS]
      exact c3
end Go.Proofs.Ytcbbkemfgnbcpaa
