/- Contracts of the reference's map: Get, At, Count. -/
import Derived.Test.YtcbbkemfgnbcpaaIn2
namespace Go.Proofs.Ytcbbkemfgnbcpaa
open Go.RowKit

theorem mem_getD {L : List Pl} {k : Nat} (h : k < L.length) : L.getD k p0 ∈ L := by
  rw [List.getD_eq_getElem?_getD, List.getElem?_eq_getElem h]
  exact List.getElem_mem h
theorem mem_take_succ {L : List Pl} {k : Nat} {q : Pl} (h : k < L.length) (hq : q ∈ L.take (k + 1)) : q ∈ L.take k ∨ q = L.getD k p0 := by
  rw [List.take_succ_eq_append_getElem h, List.mem_append, List.mem_singleton] at hq
  rw [List.getD_eq_getElem?_getD, List.getElem?_eq_getElem h]
  exact hq
theorem cnt_take_succ (L : List Pl) (t : Int) (k : Nat) (h : k < L.length) : cnt (L.take (k + 1)) t = if (L.getD k p0).t = t then cnt (L.take k) t + 1 else cnt (L.take k) t := by
  unfold cnt
  rw [List.take_succ_eq_append_getElem h, List.countP_append]
  have : L.getD k p0 = L[k] := by simp [List.getD_eq_getElem?_getD, h]
  rw [this]
  by_cases e : L[k].t = t <;> simp [e]
theorem blk_set2 {w : World} {g : Nat} {t : TypeId} {a0 a1 : Value} (h : Blk w g t #[a0, a1]) (c0 c1 : Value) : Blk ((w.setCell ⟨g, 0, none⟩ c0).setCell ⟨g, 1, none⟩ c1) g t #[c0, c1] := by
  have := (h.set_ 0 c0).set_ 1 c1
  simpa using this
theorem kp_set2 {S : Nat → Prop} {w0 w : World} {g : Nat} (h : Kp S w0 w) (hg : S g ∨ w0.heap.size ≤ g) (c0 c1 : Value) : Kp S w0 ((w.setCell ⟨g, 0, none⟩ c0).setCell ⟨g, 1, none⟩ c1) :=
  (h.setCell (p := ⟨g, 0, none⟩) hg _).setCell (p := ⟨g, 1, none⟩) hg _

set_option maxRecDepth 20000 in
set_option maxHeartbeats 4000000 in
theorem rget_any (w : World) (g : Nat) (M : List Pl) (t b : Int) (hu : Uniq M) (hl : M.length ≤ 1000000) (h : RM w g M) :
    Calls Try.prog 21 #[.pointer (some ⟨g, 0, none⟩), .int .u32 t, .int .u64 b] w (Makes (.tuple #[addrV ((atOf M (t, b)).getD (0, 0)), .bool (atOf M (t, b)).isSome]) w) := by
  obtain ⟨A, c, hb, ho⟩ := h
  have hk1 := (Kp.refl (fun _ => False) w).alloc (.cells #[.int .i64 0, .int .i64 0] 31)
  have hb1 := Blk.new w 31 #[.int .i64 0, .int .i64 0]
  have hg1 := hb.alloc (.cells #[.int .i64 0, .int .i64 0] 31)
  have ho1 : OwnPl (w.alloc (.cells #[.int .i64 0, .int .i64 0] 31)) 0 A c M := World.ownsRow.alloc ho _
  have HUU := Lib.hid hu
  clear hb ho hu
  go_enter Try.func21, Try.ntmps21
  go_wp2_with (fail)
  generalize w.alloc (.cells #[.int .i64 0, .int .i64 0] 31) = w1 at *
  have hc : w1.cell? ⟨g, 0, none⟩ = some (.slice A M.length c) := hg1.cell 0
  have d0 : w1.cell? ⟨w.heap.size, 0, none⟩ = some (.int .i64 0) := hb1.cell 0
  have d1 : w1.cell? ⟨w.heap.size, 1, none⟩ = some (.int .i64 0) := hb1.cell 1
  have hf : ∀ i, w1.frozen? ⟨w.heap.size, i, none⟩ = false := fun i => hb1.frozen i
  have HR := Lib.hid ho1.row
  have HB := Lib.hid hb1
  have HK := Lib.hid hk1
  clear hk1 hb1 hg1 ho1
  go_loopw [8] (fun i wr => ∃ k : Nat, k ≤ M.length ∧ i = .int .i64 k ∧ wr = w1 ∧ Hid (∀ q ∈ M.take k, ¬ (q.t = t ∧ q.b = b))) (fun i _ => M.length - (intOf i).toNat)
  case atStart => exact ⟨0, Nat.zero_le _, rfl, rfl, (fun q hq => by simp at hq)⟩
  case round =>
    obtain ⟨k, hk, rfl, rfl, hno⟩ := hrel
    by_cases hlt : k < M.length
    · obtain ⟨r, rfl, p⟩ := HR.out (by omega)
      have a0 := p.c0 k hlt
      have a1 := p.c1 k hlt
      have a2 := p.c2 k hlt
      have a3 := p.c3 k hlt
      have HMEM := Lib.hid (mem_getD hlt)
      have HSUC := Lib.hid (fun q hq => mem_take_succ (q := q) hlt hq)
      clear p
      generalize hx : M.getD k p0 = x at *
      obtain ⟨xt, xb, xz, xk⟩ := x
      simp only at a0 a1 a2 a3
      clear hx
      have hcase : (xt = t ∧ xb = b) ∨ (xt = t ∧ ¬ xb = b) ∨ ¬ xt = t := by
        by_cases h1 : xt = t <;> by_cases h2 : xb = b <;> simp [h1, h2]
      rcases hcase with ⟨rfl, rfl⟩ | ⟨rfl, hxb⟩ | hxt
      · have e : atOf M (xt, xb) = some (xz, xk) := (atOf_some HUU.out).2 ⟨_, HMEM.out, rfl, rfl⟩
        rw [e]
        go_wp2
        have b2 := blk_set2 HB.out (.int .i64 xz) (.int .i64 xk)
        have k2 := kp_set2 HK.out (.inr (Nat.le_refl _)) (.int .i64 xz) (.int .i64 xk)
        generalize World.setCell _ ⟨w.heap.size, 1, none⟩ _ = w2 at *
        have c0 : w2.cell? ⟨w.heap.size, 0, none⟩ = some (.int .i64 xz) := b2.cell 0
        have c1 : w2.cell? ⟨w.heap.size, 1, none⟩ = some (.int .i64 xk) := b2.cell 1
        refine bodyPost_ret (v := .tuple #[.agg #[.int .i64 xz, .int .i64 xk], .bool true]) (by simp [results, Try.results21, go_sem, c0, c1]) rfl ?_
        exact ⟨rfl, kp_none k2⟩
      · have HN : Hid (¬ xb = b) := hxb
        go_wp2
        refine ⟨⟨k + 1, hlt, by go_num, by trivial, fun q hq e => ?_⟩, by simp [intOf]; omega⟩
        rcases HSUC.out q hq with h | rfl
        · exact hno.out q h e
        · exact HN.out e.2
      · have HN : Hid (¬ xt = t) := hxt
        go_wp2
        refine ⟨⟨k + 1, hlt, by go_num, by trivial, fun q hq e => ?_⟩, by simp [intOf]; omega⟩
        rcases HSUC.out q hq with h | rfl
        · exact hno.out q h e
        · exact HN.out e.1
    · have e : atOf M (t, b) = none := atOf_none.2 fun q hq e => hno.out q (by rwa [List.take_of_length_le (by omega)]) (by simpa [Pl.n] using e)
      rw [e]
      have hkm : (k : Int) = M.length := by omega
      go_wp2
      have b2 := blk_set2 HB.out (.int .i64 0) (.int .i64 0)
      have k2 := kp_set2 HK.out (.inr (Nat.le_refl _)) (.int .i64 0) (.int .i64 0)
      generalize World.setCell _ ⟨w.heap.size, 1, none⟩ _ = w2 at *
      have c0 : w2.cell? ⟨w.heap.size, 0, none⟩ = some (.int .i64 0) := b2.cell 0
      have c1 : w2.cell? ⟨w.heap.size, 1, none⟩ = some (.int .i64 0) := b2.cell 1
      refine bodyPost_ret (v := .tuple #[.agg #[.int .i64 0, .int .i64 0], .bool false]) (by simp [results, Try.results21, go_sem, c0, c1]) rfl ?_
      exact ⟨by simp [addrV, e], kp_none k2⟩

set_option maxRecDepth 20000 in
set_option maxHeartbeats 4000000 in
theorem rat_any (w : World) (g : Nat) (M : List Pl) (z k : Int) (hu : Uniq M) (hl : M.length ≤ 1000000) (h : RM w g M) :
    Calls Try.prog 22 #[.pointer (some ⟨g, 0, none⟩), .agg #[.int .i64 z, .int .i64 k]] w (Makes (.tuple #[plV (inPl M (z, k)), .bool (inAt M (z, k)).isSome]) w) := by
  obtain ⟨A, c, hb, ho⟩ := h
  have hk1 := ((Kp.refl (fun _ => False) w).alloc (.cells #[.int .i64 z, .int .i64 k] 31)).alloc (.cells #[.int .u32 0, .int .u64 0, .int .i64 0, .int .i64 0] 33)
  have hb0 := (Blk.new w 31 #[.int .i64 z, .int .i64 k]).alloc (.cells #[.int .u32 0, .int .u64 0, .int .i64 0, .int .i64 0] 33)
  have hb1 := Blk.new (w.alloc (.cells #[.int .i64 z, .int .i64 k] 31)) 33 #[.int .u32 0, .int .u64 0, .int .i64 0, .int .i64 0]
  have hg1 := (hb.alloc (.cells #[.int .i64 z, .int .i64 k] 31)).alloc (.cells #[.int .u32 0, .int .u64 0, .int .i64 0, .int .i64 0] 33)
  have ho1 : OwnPl ((w.alloc (.cells #[.int .i64 z, .int .i64 k] 31)).alloc (.cells #[.int .u32 0, .int .u64 0, .int .i64 0, .int .i64 0] 33)) 0 A c M := World.ownsRow.alloc (World.ownsRow.alloc ho _) _
  rw [World.size_alloc] at hb1
  have HUQ := Lib.hid hu
  clear hb ho hu
  go_enter Try.func22, Try.ntmps22
  go_wp2_with (fail)
  generalize (w.alloc (.cells #[.int .i64 z, .int .i64 k] 31)).alloc (.cells #[.int .u32 0, .int .u64 0, .int .i64 0, .int .i64 0] 33) = w1 at *
  have HR := Lib.hid ho1.row
  have HB0 := Lib.hid hb0
  have HB := Lib.hid hb1
  have HK := Lib.hid hk1
  have HG := Lib.hid hg1
  clear hk1 hb1 hg1 ho1 hb0
  go_loopw [6] (fun i wr => ∃ j n : Nat, j ≤ M.length ∧ i = .int .i64 j ∧ wr = w1.drewN n ∧ Hid (∀ q ∈ M.take j, ¬ (q.z = z ∧ q.k = k))) (fun i _ => M.length - (intOf i).toNat)
  case atStart => exact ⟨0, 0, Nat.zero_le _, rfl, rfl, (fun q hq => by simp at hq)⟩
  case round =>
    obtain ⟨j, n, hj, rfl, rfl, hno⟩ := hrel
    have hc : (w1.drewN n).cell? ⟨g, 0, none⟩ = some (.slice A M.length c) := HG.out.cell 0
    have e0 : (w1.drewN n).cell? ⟨w.heap.size, 0, none⟩ = some (.int .i64 z) := HB0.out.cell 0
    have e1 : (w1.drewN n).cell? ⟨w.heap.size, 1, none⟩ = some (.int .i64 k) := HB0.out.cell 1
    by_cases hlt : j < M.length
    · obtain ⟨r, rfl, p⟩ := HR.out (by omega)
      have a0 : (w1.drewN n).cell? ⟨r, j * 4, none⟩ = some (.int .u32 (M.getD j p0).t) := p.c0 j hlt
      have a1 : (w1.drewN n).cell? ⟨r, j * 4 + 1, none⟩ = some (.int .u64 (M.getD j p0).b) := p.c1 j hlt
      have a2 : (w1.drewN n).cell? ⟨r, j * 4 + 2, none⟩ = some (.int .i64 (M.getD j p0).z) := p.c2 j hlt
      have a3 : (w1.drewN n).cell? ⟨r, j * 4 + 3, none⟩ = some (.int .i64 (M.getD j p0).k) := p.c3 j hlt
      have HMEM := Lib.hid (mem_getD hlt)
      have HSUC := Lib.hid (fun q hq => mem_take_succ (q := q) hlt hq)
      clear p
      generalize hx : M.getD j p0 = x at *
      obtain ⟨xt, xb, xz, xk⟩ := x
      simp only at a0 a1 a2 a3
      clear hx
      generalize hu : w1.drewN n = u at *
      have hB : Blk u (w.heap.size + 1) 33 #[.int .u32 0, .int .u64 0, .int .i64 0, .int .i64 0] := by rw [← hu]; exact HB.out
      have hK : Kp (fun _ => False) w u := by rw [← hu]; exact HK.out.drewN n
      have HUU := Lib.hid hu
      have HB1 := Lib.hid hB
      have HK1 := Lib.hid hK
      clear hu hB hK
      have hcase : (xz = z ∧ xk = k) ∨ (xz = z ∧ ¬ xk = k) ∨ ¬ xz = z := by
        by_cases h1 : xz = z <;> by_cases h2 : xk = k <;> simp [h1, h2]
      rcases hcase with ⟨rfl, rfl⟩ | ⟨rfl, hxk⟩ | hxz
      · have e : inAt M (xz, xk) = some (xt, xb) := (inAt_some HUQ.out).2 ⟨_, HMEM.out, rfl, rfl⟩
        have HE := Lib.hid e
        clear e
        go_wp2_with (fail)
        go_quiet (fail)
        have b2 := HB1.out.drewN nq
        have k2 := HK1.out.drewN nq
        have c0 : (u.drewN nq).cell? ⟨r, j * 4, none⟩ = some (.int .u32 xt) := a0
        have c1 : (u.drewN nq).cell? ⟨r, j * 4 + 1, none⟩ = some (.int .u64 xb) := a1
        have c2 : (u.drewN nq).cell? ⟨r, j * 4 + 2, none⟩ = some (.int .i64 xz) := a2
        have c3 : (u.drewN nq).cell? ⟨r, j * 4 + 3, none⟩ = some (.int .i64 xk) := a3
        have c4 : (u.drewN nq).cell? ⟨g, 0, none⟩ = some (.slice (some ⟨r, 0, none⟩) M.length c) := hc
        clear a0 a1 a2 a3 hc e0 e1
        generalize u.drewN nq = v at *
        have hd0 : v.cell? ⟨w.heap.size + 1, 0, none⟩ = some (.int .u32 0) := b2.cell 0
        have hd1 : v.cell? ⟨w.heap.size + 1, 1, none⟩ = some (.int .u64 0) := b2.cell 1
        have hd2 : v.cell? ⟨w.heap.size + 1, 2, none⟩ = some (.int .i64 0) := b2.cell 2
        have hd3 : v.cell? ⟨w.heap.size + 1, 3, none⟩ = some (.int .i64 0) := b2.cell 3
        have hf : ∀ i, v.frozen? ⟨w.heap.size + 1, i, none⟩ = false := fun i => b2.frozen i
        have B2 := Lib.hid b2
        have K2 := Lib.hid k2
        clear b2 k2
        go_wp2
        have b4 := blk_set4 B2.out (.int .u32 xt) (.int .u64 xb) (.int .i64 xz) (.int .i64 xk)
        have k4 := kp_set4 K2.out (.inr (Nat.le_succ w.heap.size)) (.int .u32 xt) (.int .u64 xb) (.int .i64 xz) (.int .i64 xk)
        clear hf hd0 hd1 hd2 hd3 B2 K2 c0 c1 c2 c3 c4
        generalize World.setCell _ ⟨w.heap.size + 1, 3, none⟩ _ = w4 at *
        have c0 : w4.cell? ⟨w.heap.size + 1, 0, none⟩ = some (.int .u32 xt) := b4.cell 0
        have c1 : w4.cell? ⟨w.heap.size + 1, 1, none⟩ = some (.int .u64 xb) := b4.cell 1
        have c2 : w4.cell? ⟨w.heap.size + 1, 2, none⟩ = some (.int .i64 xz) := b4.cell 2
        have c3 : w4.cell? ⟨w.heap.size + 1, 3, none⟩ = some (.int .i64 xk) := b4.cell 3
        refine bodyPost_ret (v := .tuple #[.agg #[.int .u32 xt, .int .u64 xb, .int .i64 xz, .int .i64 xk], .bool true]) (by simp [results, Try.results22, go_sem, c0, c1, c2, c3]) rfl ?_
        exact ⟨by unfold inPl; rw [HE.out]; rfl, kp_none k4⟩
      · have HN : Hid (¬ xk = k) := hxk
        go_wp2_with (fail)
        go_quiet (fail)
        go_wp2
        refine ⟨⟨j + 1, n + nq, hlt, by go_num, by rw [← HUU.out]; simp, fun q hq e => ?_⟩, by simp [intOf]; omega⟩
        rcases HSUC.out q hq with h | rfl
        · exact hno.out q h e
        · exact HN.out e.2
      · have HN : Hid (¬ xz = z) := hxz
        go_wp2_with (fail)
        go_quiet (fail)
        go_wp2
        refine ⟨⟨j + 1, n + nq, hlt, by go_num, by rw [← HUU.out]; simp, fun q hq e => ?_⟩, by simp [intOf]; omega⟩
        rcases HSUC.out q hq with h | rfl
        · exact hno.out q h e
        · exact HN.out e.1
    · have HE : Hid (inAt M (z, k) = none) := inAt_none.2 fun q hq e => hno.out q (by rwa [List.take_of_length_le (by omega)]) (by simpa [Pl.a] using e)
      have hjm : (j : Int) = M.length := by omega
      have b2 : Blk (w1.drewN n) (w.heap.size + 1) 33 #[.int .u32 0, .int .u64 0, .int .i64 0, .int .i64 0] := HB.out.drewN n
      have k2 := HK.out.drewN n
      generalize w1.drewN n = v at *
      have hd0 : v.cell? ⟨w.heap.size + 1, 0, none⟩ = some (.int .u32 0) := b2.cell 0
      have hd1 : v.cell? ⟨w.heap.size + 1, 1, none⟩ = some (.int .u64 0) := b2.cell 1
      have hd2 : v.cell? ⟨w.heap.size + 1, 2, none⟩ = some (.int .i64 0) := b2.cell 2
      have hd3 : v.cell? ⟨w.heap.size + 1, 3, none⟩ = some (.int .i64 0) := b2.cell 3
      have hf : ∀ i, v.frozen? ⟨w.heap.size + 1, i, none⟩ = false := fun i => b2.frozen i
      have B2 := Lib.hid b2
      have K2 := Lib.hid k2
      clear b2 k2
      go_wp2
      have b4 := blk_set4 B2.out (.int .u32 0) (.int .u64 0) (.int .i64 0) (.int .i64 0)
      have k4 := kp_set4 K2.out (.inr (Nat.le_succ w.heap.size)) (.int .u32 0) (.int .u64 0) (.int .i64 0) (.int .i64 0)
      clear hf hd0 hd1 hd2 hd3 B2 K2 hc e0 e1
      generalize World.setCell _ ⟨w.heap.size + 1, 3, none⟩ _ = w4 at *
      have c0 : w4.cell? ⟨w.heap.size + 1, 0, none⟩ = some (.int .u32 0) := b4.cell 0
      have c1 : w4.cell? ⟨w.heap.size + 1, 1, none⟩ = some (.int .u64 0) := b4.cell 1
      have c2 : w4.cell? ⟨w.heap.size + 1, 2, none⟩ = some (.int .i64 0) := b4.cell 2
      have c3 : w4.cell? ⟨w.heap.size + 1, 3, none⟩ = some (.int .i64 0) := b4.cell 3
      refine bodyPost_ret (v := .tuple #[.agg #[.int .u32 0, .int .u64 0, .int .i64 0, .int .i64 0], .bool false]) (by simp [results, Try.results22, go_sem, c0, c1, c2, c3]) rfl ?_
      exact ⟨by unfold inPl; rw [HE.out]; rfl, kp_none k4⟩

set_option maxRecDepth 20000 in
theorem rcount_any (w : World) (g : Nat) (M : List Pl) (t : Int) (hl : M.length ≤ 1000000) (h : RM w g M) :
    Calls Try.prog 23 #[.pointer (some ⟨g, 0, none⟩), .int .u32 t] w (fun e w' => e = .returned (.int .u64 (cnt M t)) ∧ w' = w) := by
  obtain ⟨A, c, hb, ho⟩ := h
  have ho1 : OwnPl w 0 A c M := ho
  have hc : w.cell? ⟨g, 0, none⟩ = some (.slice A M.length c) := hb.cell 0
  have HR := Lib.hid ho1.row
  clear hb ho ho1
  go_enter Try.func23, Try.ntmps23
  go_wp2_with (fail)
  go_loopw [5, 6] (fun u i wr => ∃ j : Nat, j ≤ M.length ∧ u = .int .u64 (cnt (M.take j) t) ∧ i = .int .i64 j ∧ wr = w) (fun _ i _ => M.length - (intOf i).toNat)
  case atStart => exact ⟨0, Nat.zero_le _, rfl, rfl, rfl⟩
  case round =>
    obtain ⟨j, hj, rfl, rfl, rfl⟩ := hrel
    by_cases hlt : j < M.length
    · obtain ⟨r, rfl, p⟩ := HR.out (by omega)
      have a0 := p.c0 j hlt
      have HS := Lib.hid (cnt_take_succ M t j hlt)
      have hle : ((cnt (M.take j) t : Nat) : Int) + 1 ≤ 2000000 := by
        have h1 := cnt_le (M.take j) t
        have h2 : (M.take j).length ≤ j := by simp; omega
        omega
      clear p
      generalize cnt (M.take j) t = m at *
      generalize M.getD j p0 = x at *
      obtain ⟨xt, xb, xz, xk⟩ := x
      simp only at a0 HS
      by_cases hx : xt = t
      · subst hx
        have HS2 : Hid (cnt (M.take (j + 1)) xt = m + 1) := HS.out.trans (if_pos rfl)
        clear HS
        go_wp2
        refine ⟨⟨j + 1, hlt, by rw [HS2.out]; simp, by go_num, by trivial⟩, by simp [intOf]; omega⟩
      · have HS2 : Hid (cnt (M.take (j + 1)) t = m) := HS.out.trans (if_neg hx)
        clear HS hle
        have hx' : (xt == t) = false := by simpa using hx
        clear hx
        go_wp2
        refine ⟨⟨j + 1, hlt, ?_, by go_num, by trivial⟩, by simp [intOf]; omega⟩
        rw [HS2.out]
    · have hjm : j = M.length := by omega
      subst hjm
      go_wp2
      go_ret
      exact ⟨by rw [List.take_length]; rfl, rfl⟩
end Go.Proofs.Ytcbbkemfgnbcpaa
