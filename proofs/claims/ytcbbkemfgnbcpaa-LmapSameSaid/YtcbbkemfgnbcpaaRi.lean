/- Contracts of the reference's map: In. -/
import Derived.Test.YtcbbkemfgnbcpaaRf
namespace Go.Proofs.Ytcbbkemfgnbcpaa
open Go.RowKit

theorem ofZ_take_succ (L : List Pl) (z : Int) (k : Nat) (h : k < L.length) : ofZ z (L.take (k + 1)) = if (L.getD k p0).z = z then ofZ z (L.take k) ++ [L.getD k p0] else ofZ z (L.take k) := by
  rw [List.take_succ_eq_append_getElem h, ofZ_snoc]
  have : L.getD k p0 = L[k] := by simp [List.getD_eq_getElem?_getD, h]
  rw [this]
theorem ins_perm (O : List Pl) (x : Pl) (q : Nat) : (O.take q ++ [x] ++ O.drop q).Perm (O ++ [x]) := by
  have h1 : (O.take q ++ [x] ++ O.drop q).Perm (O.take q ++ (O.drop q ++ [x])) := by
    rw [List.append_assoc]
    exact List.Perm.append_left _ List.perm_append_comm
  rwa [← List.append_assoc, List.take_append_drop] at h1
theorem ins_sorted {O : List Pl} {x : Pl} {q : Nat} (hs : O.Pairwise (fun a b => a.k ≤ b.k)) (hq : q ≤ O.length) (hhi : ∀ j, q ≤ j → j < O.length → x.k < (O.getD j p0).k) (hlo : 0 < q → (O.getD (q - 1) p0).k ≤ x.k) :
    (O.take q ++ [x] ++ O.drop q).Pairwise (fun a b => a.k ≤ b.k) := by
  have hg : ∀ j (h : j < O.length), O.getD j p0 = O[j] := fun j h => by simp [List.getD_eq_getElem?_getD, h]
  have hle : ∀ a ∈ O.take q, a.k ≤ x.k := by
    intro a ha
    obtain ⟨i, hi, rfl⟩ := List.mem_iff_getElem.1 ha
    have hi' : i < q := by simp at hi; omega
    have h1 := hlo (by omega)
    rw [hg (q - 1) (by omega)] at h1
    rw [List.getElem_take]
    by_cases hiq : i = q - 1
    · subst hiq; exact h1
    · exact Int.le_trans (List.pairwise_iff_getElem.1 hs i (q - 1) (by omega) (by omega) (by omega)) h1
  have hge : ∀ b ∈ O.drop q, x.k ≤ b.k := by
    intro b hb
    obtain ⟨i, hi, rfl⟩ := List.mem_iff_getElem.1 hb
    have hi' : q + i < O.length := by simp at hi; omega
    have h1 := hhi (q + i) (by omega) hi'
    rw [hg _ hi'] at h1
    rw [List.getElem_drop]
    exact Int.le_of_lt h1
  rw [List.append_assoc]
  refine List.pairwise_append.2 ⟨List.Pairwise.sublist (List.take_sublist _ _) hs, ?_, ?_⟩
  · refine List.pairwise_append.2 ⟨by simp, List.Pairwise.sublist (List.drop_sublist _ _) hs, ?_⟩
    intro a ha b hb
    rw [List.mem_singleton] at ha
    subst ha
    exact hge b hb
  · intro a ha b hb
    rcases List.mem_append.1 hb with hb | hb
    · rw [List.mem_singleton] at hb
      subst hb
      exact hle a ha
    · exact Int.le_trans (hle a ha) (hge b hb)

theorem plCs_take (O : List Pl) (q : Nat) : (plCs O).take (q * 4) = plCs (O.take q) := by
  induction O generalizing q with
  | nil => simp [plCs]
  | cons x r ih =>
    cases q with
    | zero => simp [plCs]
    | succ q =>
      have e1 : plCs (x :: r) = plC x ++ plCs r := by simp [plCs]
      have e2 : plCs (x :: r.take q) = plC x ++ plCs (r.take q) := by simp [plCs]
      rw [List.take_succ_cons, e1, e2, ← ih, show (q + 1) * 4 = q * 4 + 4 by omega]
      simp [plC]
theorem plCs_drop (O : List Pl) (q : Nat) : (plCs O).drop (q * 4) = plCs (O.drop q) := by
  induction O generalizing q with
  | nil => simp [plCs]
  | cons x r ih =>
    cases q with
    | zero => simp
    | succ q =>
      have e1 : plCs (x :: r) = plC x ++ plCs r := by simp [plCs]
      rw [List.drop_succ_cons, e1, ← ih, show (q + 1) * 4 = q * 4 + 4 by omega]
      simp [plC]
theorem reads_hi {v : World} {base r2 c2 q : Nat} {O : List Pl} (h : OwnPl v base (some ⟨r2, 0, none⟩) c2 O) (hq : q ≤ O.length) : Reads v v.heap.size 4 (some ⟨r2, 0, none⟩) q (plCs (O.take q)) := by
  have h1 := Reads.of_own h
  refine ⟨by rw [plCs_length]; simp; omega, fun hn => ?_⟩
  obtain ⟨ad, e, hb, hc⟩ := h1.2 (by omega)
  refine ⟨ad, e, hb, fun j u hu => hc j u ?_⟩
  rw [← plCs_take, List.getElem?_take] at hu
  split at hu
  · exact hu
  · cases hu
theorem reads_lo {v : World} {base r2 c2 q : Nat} {O : List Pl} (h : OwnPl v base (some ⟨r2, 0, none⟩) c2 O) (hq : q ≤ O.length) (hc : O.length ≤ c2) :
    Reads v v.heap.size 4 (if c2 = q then some ⟨r2, 0, none⟩ else some ⟨r2, q * 4, none⟩) (O.length - q) (plCs (O.drop q)) := by
  have h1 := (Reads.of_own h).cut hq hc
  rw [plCs_drop] at h1
  have e : (some (⟨r2, 0, none⟩ : Addr)).map (·.add (q * 4)) = some ⟨r2, q * 4, none⟩ := by
    show some ((⟨r2, 0, none⟩ : Addr).add (q * 4)) = _
    rw [show ((⟨r2, 0, none⟩ : Addr).add (q * 4)) = ⟨r2, q * 4, none⟩ by unfold Addr.add; split <;> simp_all]
  rw [e] at h1
  exact h1
theorem OwnPl.base {w : World} {b b' c : Nat} {A : Option Addr} {L : List Pl} (h : OwnPl w b A c L) (hb : b' ≤ b) : OwnPl w b' A c L := by
  refine ⟨h.1, ?_⟩
  rcases h.2 with hn | ⟨g, cap, cur, hv, hbg, rest⟩
  · exact .inl hn
  · exact .inr ⟨g, cap, cur, hv, Nat.le_trans hb hbg, rest⟩
theorem OwnPl.cap {w : World} {b c : Nat} {A : Option Addr} {L : List Pl} (h : OwnPl w b A c L) : (A = none ∧ L = [] ∧ c = 0) ∨ ∃ r, A = some ⟨r, 0, none⟩ ∧ L.length ≤ c ∧ c ≤ maxLen := by
  rcases h.2 with ⟨e, h0⟩ | ⟨g, cap, cur, hv, hbg, hb, hn, hm, _⟩
  · injection e with e1 e2 e3
    exact .inl ⟨e1, List.eq_nil_of_length_eq_zero h0, e3⟩
  · injection hv with e1 e2 e3
    subst e3
    exact .inr ⟨g, e1, hn, hm⟩

theorem below_keep {w w' : World} (h : Below w.heap.size w w') {p : Addr} {x : Value} (hc : w.cell? p = some x) : w'.cell? p = some x := (h.cell (World.block_lt_of_cell? _ _ hc)).trans hc

/-- 'next = append(next, p)'. -/
theorem wpList_append_pl2 (w : World) {ops : Array Oper} {rest : List Oper} {o : Oper} {a : Act} {Q : Exit → Act → World → Prop} (hgd : o.guard = none) (s x : Operand)
    (ho : o.op = .call { callee := .builtin .append, args := #[s, x], argTypes := #[46, 46] }) {base c : Nat} {A : Option Addr} (O : List Pl) (p : Pl)
    (hown : OwnPl w base A c O) {n : Nat} (hn : n = O.length) (hs : a.eval s = .slice A n c) (hx : a.eval x = .slice (some ⟨w.heap.size, 0, none⟩) 1 1) (hlen : O.length ≤ 2000000) (hbase : base ≤ w.heap.size) {t : Nat} (ht : t = n + 1)
    (h : ∀ A' c' w', OwnPl w' base A' c' (O ++ [p]) → Kp (fun i => (Value.slice A n c).ownBlock = some i) w w' → wpList Try.prog ops Q rest (a.put o.dst (.slice A' t c')) w') :
    wpList Try.prog ops Q (o :: rest) a (w.alloc (.cells #[.int .u32 p.t, .int .u64 p.b, .int .i64 p.z, .int .i64 p.k] 33)) := by
  subst hn
  refine wpList_append_pl w hgd s x ho O p hown rfl hs hx hlen hbase ?_
  intro A' c' w' h1 h2 _
  have := h A' c' w' h1 h2
  rw [ht] at this
  rw [show (O ++ [p]).length = O.length + 1 by simp]
  exact this

/-- 'next = append(next, some of out ...)'. -/
theorem wpList_append_pls (w : World) {ops : Array Oper} {rest : List Oper} {o : Oper} {a : Act} {Q : Exit → Act → World → Prop} (hgd : o.guard = none) (s x : Operand)
    (ho : o.op = .call { callee := .builtin .append, args := #[s, x], argTypes := #[46, 46] }) {base c : Nat} {A : Option Addr} (L N : List Pl)
    (hown : OwnPl w base A c L) {n : Nat} (hn : n = L.length) (hs : a.eval s = .slice A n c) {B m c' : Nat} {A' : Option Addr} (hm : m = N.length) (hx : a.eval x = .slice A' m c') (hr : Reads w B 4 A' m (plCs N))
    (hlen : L.length + N.length ≤ 2000000) (hbase : base ≤ w.heap.size) {t : Nat} (ht : t = n + m)
    (h : ∀ A1 c1 w', OwnPl w' base A1 c1 (L ++ N) → Kp (fun i => (Value.slice A n c).ownBlock = some i) w w' → wpList Try.prog ops Q rest (a.put o.dst (.slice A1 t c1)) w') :
    wpList Try.prog ops Q (o :: rest) a w := by
  subst hn
  obtain ⟨i0, hi0, hz0, hz1, hz2⟩ := info_parts pl_info
  refine wpList_append_any _ hgd s x _ ho base 33 i0 _ 4 32 Try.underlying46 hi0 hz0 hz1 hz2 rfl (by omega) (.slice A L.length c) L.length (plCs L) hs hown B A' m c' (plCs N) hx hr (plCs_one N) (by simp only [maxLen]; omega) (by omega) hbase ?_
  intro v' w' hown' hg _
  obtain ⟨A1, c1, rfl⟩ := own_form hown'
  rw [← ht]
  refine h A1 c1 w' ?_ ⟨hg.os, hg.tape, hg.output, hg.size, fun i hi hn => hg.block i hi (fun e => hn e.symm)⟩
  unfold OwnPl
  have e : plCs (L ++ N) = plCs L ++ plCs N := by simp [plCs]
  rw [e, List.length_append, ← hm]
  exact hown'

set_option maxRecDepth 20000 in
set_option maxHeartbeats 4000000 in
theorem rin_any (w : World) (g : Nat) (M : List Pl) (z : Int) (hu : Uniq M) (hl : M.length ≤ 1000000) (h : RM w g M) :
    Calls Try.prog 24 #[.pointer (some ⟨g, 0, none⟩), .int .i64 z] w
      (fun e w' => ∃ A c S, e = .returned (.slice A (List.length S) c) ∧ OwnPl w' w.heap.size A c S ∧ S.Perm (ofZ z M) ∧ S.Pairwise (fun a b => a.k < b.k) ∧ Below w.heap.size w w') := by
  have HUQ := Lib.hid hu
  obtain ⟨A, c, hb, ho⟩ := h
  have HB1 := Lib.hid hb
  have HO1 : Hid (OwnPl w 0 A c M) := ho
  have HLT := Lib.hid hb.lt
  clear hb ho hu
  go_enter Try.func24, Try.ntmps24
  go_wp2_with (fail)
  go_loopw [5, 6] (fun o i wr => ∃ (k : Nat) (A2 : Option Addr) (c2 : Nat) (O : List Pl), k ≤ M.length ∧ o = .slice A2 O.length c2 ∧ i = .int .i64 k ∧
    Hid (OwnPl wr w.heap.size A2 c2 O) ∧ Hid (O.Perm (ofZ z (M.take k))) ∧ Hid (O.Pairwise (fun a b => a.k ≤ b.k)) ∧ Hid (Below w.heap.size w wr)) (fun _ i _ => M.length - (intOf i).toNat)
  case atStart => exact ⟨0, none, 0, [], Nat.zero_le _, rfl, rfl, (show Hid _ from ⟨rfl, .inl ⟨rfl, rfl⟩⟩), (show Hid _ from List.Perm.refl _), (show Hid _ from List.Pairwise.nil), (show Hid _ from Below.refl _ _)⟩
  case round =>
    obtain ⟨k, A2, c2, O, hk, rfl, rfl, hown, hperm, hsort, hbl⟩ := hrel
    have hc : wr.cell? ⟨g, 0, none⟩ = some (.slice A M.length c) := (HB1.out.below hbl.out HLT.out).cell 0
    by_cases hlt : k < M.length
    · have HK := Lib.hid hlt
      have HT := Lib.hid (ofZ_take_succ M z k hlt)
      have HOL : Hid (O.length ≤ k) := by
        have h1 := hperm.out.length_eq
        have h2 : (ofZ z (M.take k)).length ≤ (M.take k).length := List.length_filter_le _ _
        have h3 : (M.take k).length ≤ k := by simp; omega
        unfold Hid
        omega
      obtain ⟨r, rfl, hrow⟩ := ((HO1.out.below hbl.out).row) (by omega)
      have hx0 := hrow.c0 k hlt
      have hx1 := hrow.c1 k hlt
      have hx2 := hrow.c2 k hlt
      have hx3 := hrow.c3 k hlt
      clear hrow
      generalize hx : M.getD k p0 = x at *
      clear hx
      obtain ⟨xt, xb, xz, xk⟩ := x
      simp only at hx0 hx1 hx2 hx3 HT
      rcases Classical.em (xz = z) with hxz | hxz
      · subst hxz
        have HT2 : Hid (ofZ xz (M.take (k + 1)) = ofZ xz (M.take k) ++ [⟨xt, xb, xz, xk⟩]) := HT.out.trans (if_pos rfl)
        clear HT
        go_wp2_with (fail)
        go_loopw [7] (fun u w2 => ∃ q n : Nat, q ≤ O.length ∧ u = .int .i64 q ∧ w2 = wr.drewN n ∧ Hid (∀ j, q ≤ j → j < O.length → xk < (O.getD j p0).k)) (fun u _ => (intOf u).toNat)
        case atStart => exact ⟨O.length, 0, Nat.le_refl _, rfl, rfl, (fun j h1 h2 => by omega)⟩
        case round =>
          obtain ⟨q, n, hq, rfl, rfl, hhi⟩ := hrel
          have hOl : O.length ≤ 1000000 := by have := HOL.out; omega
          have hql : (q : Int) ≤ O.length := by omega
          have hc' : (wr.drewN n).cell? ⟨g, 0, none⟩ = some (.slice (some ⟨r, 0, none⟩) M.length c) := hc
          have hx3' : (wr.drewN n).cell? ⟨r, k * 4 + 2 + 1, none⟩ = some (.int .i64 xk) := hx3
          have HCC := Lib.hid hc
          have HXX := Lib.hid (And.intro hx0 (And.intro hx1 (And.intro hx2 hx3)))
          have hx3'' : (wr.drewN n).cell? ⟨r, k * 4 + 3, none⟩ = some (.int .i64 xk) := hx3
          clear hc hx0 hx1 hx2 hx3
          have hrow : ∀ r2 p, A2 = some ⟨r2, 0, none⟩ → p < O.length → (wr.drewN n).cell? ⟨r2, p * 4 + 3, none⟩ = some (.int .i64 (O.getD p p0).k) := fun r2 p e hp => by
            obtain ⟨r3, e3, hr3⟩ := (OwnPl.row hown.out) (by omega)
            rw [e3] at e
            cases e
            exact hr3.c3 p hp
          have HROW := Lib.hid hrow
          clear hrow
          generalize hU : wr.drewN n = u at *
          have HU := Lib.hid hU
          clear hU
          by_cases hcont : ∃ p, q = p + 1 ∧ xk < (O.getD p p0).k
          · obtain ⟨p, rfl, hlt3⟩ := hcont
            have hd : decide ((0 : Int) < ((p + 1 : Nat) : Int)) = true := by simp
            have hw : IntKind.i64.wrap (p : Int) = p := IntWalk.i64_in _ (by omega)
            obtain ⟨r2, rfl, _⟩ := (OwnPl.row hown.out) (by omega)
            have hy3 : u.cell? ⟨r2, p * 4 + 2 + 1, none⟩ = some (.int .i64 (O.getD p p0).k) := HROW.out r2 p rfl (by omega)
            have hy3' : u.cell? ⟨r2, p * 4 + 3, none⟩ = some (.int .i64 (O.getD p p0).k) := hy3
            have HLT3 := Lib.hid hlt3
            have HLT3' := Lib.hid hlt3
            have hp2 : p < O.length := by omega
            generalize (O.getD p p0).k = yk at hy3 hy3' hlt3 HLT3
            go_wp2_with (fail)
            go_quiet (fail)
            clear hy3 hy3' hlt3 hd
            go_wp2
            refine ⟨⟨p, n + nq, by omega, rfl, by rw [← HU.out]; simp, fun j h1 h2 => ?_⟩, by simp [intOf]⟩
            rcases Nat.eq_or_lt_of_le h1 with e | e
            · rw [← e]; exact HLT3'.out
            · exact hhi.out j e h2
          · have HLO : Hid (0 < q → (O.getD (q - 1) p0).k ≤ xk) := fun h0 => by
              rcases Int.lt_or_le xk (O.getD (q - 1) p0).k with h | h
              · exact absurd ⟨q - 1, by omega, h⟩ hcont
              · exact h
            clear hcont
            have HLT1 : Hid (q = (O.take q).length) := by unfold Hid; simp; omega
            have HLT2 : Hid (O.length - q = (O.drop q).length) := by unfold Hid; simp
            have HLT3 : Hid (([] : List Pl).length + (O.take q).length ≤ 2000000) := by unfold Hid; simp; omega
            have HLT4 : Hid ((O.take q).length ≤ 2000000) := by unfold Hid; simp; omega
            have HLT5 : Hid (q + 1 = (O.take q ++ [(⟨xt, xb, xz, xk⟩ : Pl)]).length) := by unfold Hid; simp; omega
            have HLT6 : Hid ((O.take q ++ [(⟨xt, xb, xz, xk⟩ : Pl)]).length + (O.drop q).length ≤ 2000000) := by unfold Hid; simp; omega
            have HLT7 : Hid (O.length + 1 = q + 1 + (O.length - q)) := by unfold Hid; omega
            have HQ := Lib.hid hq
            have HQT : Hid (q = 0 + q) := by unfold Hid; omega
            have HDH : Hid (0 < q ∨ q = 0) := by unfold Hid; omega
            have HOV0 : Hid (OwnPl wr w.heap.size A2 c2 O) := hown
            rcases hown.out.cap with ⟨rfl, rfl, rfl⟩ | ⟨r2, rfl, hOc, hcm⟩
            · obtain rfl : q = 0 := by simpa using hq
              clear HLT1 HLT2 HLT3 HLT4 HLT5 HLT6 HLT7 HQT HDH HLO
              go_wp2_with (fail)
              go_quiet (fail)
              have HBV : Hid (Below w.heap.size w (u.drewN nq)) := by rw [← HU.out]; exact below_drewN (below_drewN hbl.out n) nq
              have hcx : (u.drewN nq).cell? ⟨g, 0, none⟩ = some (.slice (some ⟨r, 0, none⟩) M.length c) ∧ (u.drewN nq).cell? ⟨r, k * 4, none⟩ = some (.int .u32 xt) ∧ (u.drewN nq).cell? ⟨r, k * 4 + 1, none⟩ = some (.int .u64 xb) ∧ (u.drewN nq).cell? ⟨r, k * 4 + 2, none⟩ = some (.int .i64 xz) ∧ (u.drewN nq).cell? ⟨r, k * 4 + 3, none⟩ = some (.int .i64 xk) := by rw [← HU.out]; exact ⟨HCC.out, HXX.out⟩
              clear hc' hx3' hx3'' HCC HXX HROW hown hbl
              generalize u.drewN nq = v at *
              obtain ⟨d0, d1, d2, d3, d4⟩ := hcx
              have HSV : Hid (w.heap.size ≤ v.heap.size) := HBV.out.size
              go_wp2_with (first
                | (at_builtin
                   refine wpList_append_pl2 v rfl (.tmp 59) (.tmp 67) rfl [] ⟨xt, xb, xz, xk⟩ (base := v.heap.size) (show OwnPl v v.heap.size none 0 [] from ⟨rfl, .inl ⟨rfl, rfl⟩⟩) rfl rfl rfl (Nat.zero_le _) (Nat.le_refl _) rfl ?_
                   intro A6 c6 w6 ho6 hk6
                   have HO6 := Lib.hid ho6
                   have HB6 : Hid (Below v.heap.size v w6) := Kp.below (Below.refl _ _) hk6 (Nat.le_refl _) (fun b _ e => by simp [Value.ownBlock] at e)
                   have HS6 : Hid (v.heap.size ≤ w6.heap.size) := HB6.out.size
                   clear ho6 hk6 d0 d1 d2 d3 d4)
                | (at_builtin
                   refine wpList_append_pls w6 rfl (.tmp 69) (.tmp 72) rfl [⟨xt, xb, xz, xk⟩] [] (n := 1) (m := 0) (B := 0) HO6.out rfl rfl rfl rfl ⟨rfl, fun h => absurd h (by omega)⟩ (by simp) HS6.out (t := 1) rfl ?_
                   intro A7 c7 w7 ho7 hk7
                   have HO7 := Lib.hid ho7
                   have HB7 : Hid (Below v.heap.size v w7) := Kp.below HB6.out hk7 HS6.out (fun b hb e => by have := (World.ownsRow.lt HO6.out b e).1; omega)
                   clear ho7 hk7))
              refine ⟨⟨k + 1, A7, c7, [(⟨xt, xb, xz, xk⟩ : Pl)], HK.out, rfl, by go_num, (OwnPl.base HO7.out HSV.out), ?_, (show Hid _ by unfold Hid; simp), HBV.out.trans (HB7.out.mono HSV.out)⟩, by simp [intOf]; have := HK.out; omega⟩
              rw [HT2.out]
              exact hperm.out.append_right _
            rcases Nat.eq_zero_or_pos q with hq0 | hq0
            · have hd : decide ((0 : Int) < q) = false := by simp; omega
              have hqc : (q : Int) ≤ c2 := by omega
              have HCONT := Lib.hid hq0
              have hq1 : ¬ 0 < q := by omega
              clear hq0
              go_wp2_with (fail)
              go_quiet (fail)
              clear hd HCONT
              have HOV : Hid (OwnPl (u.drewN nq) w.heap.size (some ⟨r2, 0, none⟩) c2 O) := by rw [← HU.out]; exact hown.out
              have HBV : Hid (Below w.heap.size w (u.drewN nq)) := by rw [← HU.out]; exact below_drewN (below_drewN hbl.out n) nq
              have HCX : Hid ((u.drewN nq).cell? ⟨g, 0, none⟩ = some (.slice (some ⟨r, 0, none⟩) M.length c) ∧ (u.drewN nq).cell? ⟨r, k * 4, none⟩ = some (.int .u32 xt) ∧ (u.drewN nq).cell? ⟨r, k * 4 + 1, none⟩ = some (.int .u64 xb) ∧ (u.drewN nq).cell? ⟨r, k * 4 + 2, none⟩ = some (.int .i64 xz) ∧ (u.drewN nq).cell? ⟨r, k * 4 + 3, none⟩ = some (.int .i64 xk)) := by rw [← HU.out]; exact ⟨HCC.out, HXX.out⟩
              clear hc' hx3' hx3'' HCC HXX HROW hown hbl
              generalize u.drewN nq = v at *
              have HSV : Hid (w.heap.size ≤ v.heap.size) := HBV.out.size
              have HRH := Lib.hid (reads_hi HOV.out hq)
              have HRL := Lib.hid (reads_lo HOV.out hq hOc)
              go_wp2_with (first
                | (at_builtin
                   refine wpList_append_pls v rfl (.tmp 54) (.tmp 57) rfl [] (O.take q) (base := v.heap.size) (show OwnPl v v.heap.size none 0 [] from ⟨rfl, .inl ⟨rfl, rfl⟩⟩) rfl rfl HLT1.out rfl HRH.out HLT3.out (Nat.le_refl _) HQT.out ?_
                   intro A5 c5 w5 ho5 hk5
                   have HO5 : Hid (OwnPl w5 v.heap.size A5 c5 (O.take q)) := ho5
                   have hb5 : Below v.heap.size v w5 := Kp.below (Below.refl _ _) hk5 (Nat.le_refl _) (fun b _ e => by simp [Value.ownBlock] at e)
                   have HB5 := Lib.hid hb5
                   have HS5 : Hid (v.heap.size ≤ w5.heap.size) := hb5.size
                   have d0 : w5.cell? ⟨g, 0, none⟩ = some (.slice (some ⟨r, 0, none⟩) M.length c) := below_keep hb5 HCX.out.1
                   have d1 : w5.cell? ⟨r, k * 4, none⟩ = some (.int .u32 xt) := below_keep hb5 HCX.out.2.1
                   have d2 : w5.cell? ⟨r, k * 4 + 1, none⟩ = some (.int .u64 xb) := below_keep hb5 HCX.out.2.2.1
                   have d3 : w5.cell? ⟨r, k * 4 + 2, none⟩ = some (.int .i64 xz) := below_keep hb5 HCX.out.2.2.2.1
                   have d4 : w5.cell? ⟨r, k * 4 + 3, none⟩ = some (.int .i64 xk) := below_keep hb5 HCX.out.2.2.2.2
                   clear ho5 hk5 hb5)
                | (at_builtin
                   refine wpList_append_pl2 w5 rfl (.tmp 59) (.tmp 67) rfl (O.take q) ⟨xt, xb, xz, xk⟩ HO5.out HLT1.out rfl rfl HLT4.out HS5.out rfl ?_
                   intro A6 c6 w6 ho6 hk6
                   have HO6 := Lib.hid ho6
                   have hb6 : Below v.heap.size v w6 := Kp.below HB5.out hk6 HS5.out (fun b hb e => by have := (World.ownsRow.lt HO5.out b (by rw [← HLT1.out]; exact e)).1; omega)
                   have HB6 := Lib.hid hb6
                   have HS6 : Hid (v.heap.size ≤ w6.heap.size) := hb6.size
                   have HRL6 := Lib.hid (HRL.out.below hb6)
                   clear ho6 hk6 hb6 d0 d1 d2 d3 d4)
                | (at_builtin
                   refine wpList_append_pls w6 rfl (.tmp 69) (.tmp 72) rfl (O.take q ++ [⟨xt, xb, xz, xk⟩]) (O.drop q) HO6.out HLT5.out rfl HLT2.out rfl HRL6.out HLT6.out HS6.out HLT7.out ?_
                   intro A7 c7 w7 ho7 hk7
                   have HO7 := Lib.hid ho7
                   have HB7 : Hid (Below v.heap.size v w7) := Kp.below HB6.out hk7 HS6.out (fun b hb e => by have := (World.ownsRow.lt HO6.out b (by rw [← HLT5.out]; exact e)).1; omega)
                   clear ho7 hk7))
              refine ⟨⟨k + 1, A7, c7, O.take q ++ [(⟨xt, xb, xz, xk⟩ : Pl)] ++ O.drop q, HK.out, ?_, by go_num, HO7.out.base HSV.out, ?_, ?_, HBV.out.trans (HB7.out.mono HSV.out)⟩, by simp [intOf]; have := HK.out; omega⟩
              · rw [List.length_append, ← HLT5.out, ← HLT2.out, ← HLT7.out]
              · rw [HT2.out]; exact (ins_perm O _ q).trans (hperm.out.append_right _)
              · exact ins_sorted hsort.out HQ.out hhi.out HLO.out
            · have hd : decide ((0 : Int) < q) = true := by simp; omega
              obtain ⟨p, hqp⟩ : ∃ p : Nat, (q : Int) - 1 = p := ⟨q - 1, by omega⟩
              have hqc : (q : Int) ≤ c2 := by omega
              have hpq : p = q - 1 := by omega
              have hp1 : (p : Int) + 1 ≤ O.length := by omega
              have hp2 : p < O.length := by omega
              have hy3 : u.cell? ⟨r2, p * 4 + 2 + 1, none⟩ = some (.int .i64 (O.getD (q - 1) p0).k) := by rw [← hpq]; exact HROW.out r2 p rfl (by omega)
              have hy3' : u.cell? ⟨r2, p * 4 + 3, none⟩ = some (.int .i64 (O.getD (q - 1) p0).k) := hy3
              have hle3 : (O.getD (q - 1) p0).k ≤ xk := HLO.out hq0
              have hw : IntKind.i64.wrap (p : Int) = p := IntWalk.i64_in _ (by omega)
              clear hpq
              generalize hyk : (O.getD (q - 1) p0).k = yk at hy3 hy3' hle3
              have HCONT := Lib.hid (And.intro hy3 (And.intro hle3 hyk))
              clear hyk
              go_wp2_with (fail)
              go_quiet (fail)
              clear hy3 hy3' hqp hp1 hp2 hw
              clear hd HCONT
              have HOV : Hid (OwnPl (u.drewN nq) w.heap.size (some ⟨r2, 0, none⟩) c2 O) := by rw [← HU.out]; exact hown.out
              have HBV : Hid (Below w.heap.size w (u.drewN nq)) := by rw [← HU.out]; exact below_drewN (below_drewN hbl.out n) nq
              have HCX : Hid ((u.drewN nq).cell? ⟨g, 0, none⟩ = some (.slice (some ⟨r, 0, none⟩) M.length c) ∧ (u.drewN nq).cell? ⟨r, k * 4, none⟩ = some (.int .u32 xt) ∧ (u.drewN nq).cell? ⟨r, k * 4 + 1, none⟩ = some (.int .u64 xb) ∧ (u.drewN nq).cell? ⟨r, k * 4 + 2, none⟩ = some (.int .i64 xz) ∧ (u.drewN nq).cell? ⟨r, k * 4 + 3, none⟩ = some (.int .i64 xk)) := by rw [← HU.out]; exact ⟨HCC.out, HXX.out⟩
              clear hc' hx3' hx3'' HCC HXX HROW hown hbl
              generalize u.drewN nq = v at *
              have HSV : Hid (w.heap.size ≤ v.heap.size) := HBV.out.size
              have HRH := Lib.hid (reads_hi HOV.out hq)
              have HRL := Lib.hid (reads_lo HOV.out hq hOc)
              go_wp2_with (first
                | (at_builtin
                   refine wpList_append_pls v rfl (.tmp 54) (.tmp 57) rfl [] (O.take q) (base := v.heap.size) (show OwnPl v v.heap.size none 0 [] from ⟨rfl, .inl ⟨rfl, rfl⟩⟩) rfl rfl HLT1.out rfl HRH.out HLT3.out (Nat.le_refl _) HQT.out ?_
                   intro A5 c5 w5 ho5 hk5
                   have HO5 : Hid (OwnPl w5 v.heap.size A5 c5 (O.take q)) := ho5
                   have hb5 : Below v.heap.size v w5 := Kp.below (Below.refl _ _) hk5 (Nat.le_refl _) (fun b _ e => by simp [Value.ownBlock] at e)
                   have HB5 := Lib.hid hb5
                   have HS5 : Hid (v.heap.size ≤ w5.heap.size) := hb5.size
                   have d0 : w5.cell? ⟨g, 0, none⟩ = some (.slice (some ⟨r, 0, none⟩) M.length c) := below_keep hb5 HCX.out.1
                   have d1 : w5.cell? ⟨r, k * 4, none⟩ = some (.int .u32 xt) := below_keep hb5 HCX.out.2.1
                   have d2 : w5.cell? ⟨r, k * 4 + 1, none⟩ = some (.int .u64 xb) := below_keep hb5 HCX.out.2.2.1
                   have d3 : w5.cell? ⟨r, k * 4 + 2, none⟩ = some (.int .i64 xz) := below_keep hb5 HCX.out.2.2.2.1
                   have d4 : w5.cell? ⟨r, k * 4 + 3, none⟩ = some (.int .i64 xk) := below_keep hb5 HCX.out.2.2.2.2
                   clear ho5 hk5 hb5)
                | (at_builtin
                   refine wpList_append_pl2 w5 rfl (.tmp 59) (.tmp 67) rfl (O.take q) ⟨xt, xb, xz, xk⟩ HO5.out HLT1.out rfl rfl HLT4.out HS5.out rfl ?_
                   intro A6 c6 w6 ho6 hk6
                   have HO6 := Lib.hid ho6
                   have hb6 : Below v.heap.size v w6 := Kp.below HB5.out hk6 HS5.out (fun b hb e => by have := (World.ownsRow.lt HO5.out b (by rw [← HLT1.out]; exact e)).1; omega)
                   have HB6 := Lib.hid hb6
                   have HS6 : Hid (v.heap.size ≤ w6.heap.size) := hb6.size
                   have HRL6 := Lib.hid (HRL.out.below hb6)
                   clear ho6 hk6 hb6 d0 d1 d2 d3 d4)
                | (at_builtin
                   refine wpList_append_pls w6 rfl (.tmp 69) (.tmp 72) rfl (O.take q ++ [⟨xt, xb, xz, xk⟩]) (O.drop q) HO6.out HLT5.out rfl HLT2.out rfl HRL6.out HLT6.out HS6.out HLT7.out ?_
                   intro A7 c7 w7 ho7 hk7
                   have HO7 := Lib.hid ho7
                   have HB7 : Hid (Below v.heap.size v w7) := Kp.below HB6.out hk7 HS6.out (fun b hb e => by have := (World.ownsRow.lt HO6.out b (by rw [← HLT5.out]; exact e)).1; omega)
                   clear ho7 hk7))
              refine ⟨⟨k + 1, A7, c7, O.take q ++ [(⟨xt, xb, xz, xk⟩ : Pl)] ++ O.drop q, HK.out, ?_, by go_num, HO7.out.base HSV.out, ?_, ?_, HBV.out.trans (HB7.out.mono HSV.out)⟩, by simp [intOf]; have := HK.out; omega⟩
              · rw [List.length_append, ← HLT5.out, ← HLT2.out, ← HLT7.out]
              · rw [HT2.out]; exact (ins_perm O _ q).trans (hperm.out.append_right _)
              · exact ins_sorted hsort.out HQ.out hhi.out HLO.out
      · have HT2 : Hid (ofZ z (M.take (k + 1)) = ofZ z (M.take k)) := HT.out.trans (if_neg hxz)
        have hxz' : (xz == z) = false := by simpa using hxz
        clear HT
        go_wp2_with (fail)
        exact ⟨⟨k + 1, A2, c2, O, HK.out, rfl, by go_num, hown, (by rw [HT2.out]; exact hperm), hsort, hbl⟩, by simp [intOf]; have := HK.out; omega⟩
    · have hkm : k = M.length := by omega
      subst hkm
      have hp : O.Perm (ofZ z M) := by have := hperm.out; rwa [List.take_length] at this
      have HP := Lib.hid hp
      have HS := Lib.hid (sorted_strict HUQ.out hp hsort.out)
      clear hp
      go_wp2
      go_ret
      exact ⟨A2, c2, O, rfl, hown.out, HP.out, HS.out, hbl.out⟩
end Go.Proofs.Ytcbbkemfgnbcpaa
