/- Joined texts: Mr Pr Sp. -/
import Derived.Test.YtfabgbmbnmbjkaaGreatDoorRaf
import Derived.Test.YtfabgbmbnmbjkaaGreatDoorRag
/- Pruned. -/
namespace Go.Proofs.YtfabgbmbnmbjkaaGreatDoor
open Go.RowKit
theorem RM.lt {w : World} {g : Nat} {M : List Pl} (h : RM w g M) : g < w.heap.size := by
 obtain ⟨A, c, hb, _⟩ := h
 exact hb.lt
theorem RM.below {w w' : World} {g : Nat} {M : List Pl} (h : RM w g M) (hb : Below w.heap.size w w') : RM w' g M := by
 obtain ⟨A, c, hg, ho⟩ := h
 refine ⟨A, c, hg.below hb hg.lt, ho.1, ho.2.imp id ?_⟩
 rintro ⟨r, cap, cur, hv, h0, hr, rest⟩
 exact ⟨r, cap, cur, hv, h0, Blk.below (t := 55) hr hb (Blk.lt (t := 55) hr), rest⟩
section
variable {W w w' : World} {f : LFp} {g n : Nat} {L M L' M' : List Pl}
end
def stepL (o : Ox) (L : List Pl) : List Pl := if o.d then cut L o.p.n else o.p :: free (cut L o.p.n) o.p.a
def stepR (o : Ox) (M : List Pl) : List Pl := if o.d then cut M o.p.n else putRef o.p M
end Go.Proofs.YtfabgbmbnmbjkaaGreatDoor

/- Pruned. -/
namespace Go.Proofs.YtfabgbmbnmbjkaaGreatDoor
open Go.RowKit
theorem lessB_iff {a b : Pl} : lessB a b = true ↔ a.t < b.t ∨ (a.t = b.t ∧ a.b < b.b) := by
 unfold lessB
 split <;> simp_all <;> omega
theorem lessB_trans {a b c : Pl} (h1 : lessB a b = true) (h2 : lessB b c = true) : lessB a c = true := by
 rw [lessB_iff] at *
 omega
theorem lessB_irrefl {a : Pl} : lessB a a = false := by
 cases h : lessB a a
 · rfl
 · rw [lessB_iff] at h; omega
theorem lessB_total {a b : Pl} (h : a.n ≠ b.n) : lessB a b = true ∨ lessB b a = true := by
 have : ¬ (a.t = b.t ∧ a.b = b.b) := fun e => h (by unfold Pl.n; rw [e.1, e.2])
 rw [lessB_iff, lessB_iff]
 omega
theorem lessB_congr {a b c : Pl} (h : a.n = b.n) : lessB a c = lessB b c := by
 simp only [Pl.n, Prod.mk.injEq] at h
 unfold lessB
 rw [h.1, h.2]
def Rising (L : List Pl) : Prop := L.Pairwise (fun a b => lessB a b = true)
def early (p x : Pl) : Bool := !(lessB p x || decide (x.n = p.n))
theorem put_done (p : Pl) : ∀ (M O : List Pl), M.foldl (putStep p) (O, true) = (O ++ free (cut M p.n) p.a, true)
  | [], O => by simp [free, cut]
  | x :: r, O => by
    rw [List.foldl_cons]
    have e : putStep p (O, true) x = (O ++ free (cut [x] p.n) p.a, true) := by
     unfold putStep free cut
     by_cases h1 : x.n = p.n <;> by_cases h2 : x.a = p.a <;> simp [h1, h2]
    rw [e, put_done p r]
    unfold free cut
    rw [List.append_assoc, <- List.filter_append, <- List.filter_append]
    rfl
theorem put_wait (p : Pl) : ∀ (M O : List Pl), M.foldl (putStep p) (O, false) = if (M.dropWhile (early p)).isEmpty then (O ++ free (cut (M.takeWhile (early p)) p.n) p.a, false) else (O ++ free (cut (M.takeWhile (early p)) p.n) p.a ++ p :: free (cut (M.dropWhile (early p)) p.n) p.a, true)
  | [], O => by simp [free, cut]
  | x :: r, O => by
    rw [List.foldl_cons]
    cases he : early p x with
    | true =>
      have h0 : (lessB p x || decide (x.n = p.n)) = false := by simpa [early] using he
      have h1 : decide (x.n = p.n) = false := (Bool.or_eq_false_iff.1 h0).2
      have e : putStep p (O, false) x = (O ++ free (cut [x] p.n) p.a, false) := by
       unfold putStep free cut
       rw [h0]
       have h1' : ¬ x.n = p.n := by simpa using h1
       by_cases h2 : x.a = p.a <;> simp [h1', h2]
      rw [e, put_wait p r, List.takeWhile_cons_of_pos he, List.dropWhile_cons_of_pos he]
      have e2 : free (cut [x] p.n) p.a ++ free (cut (r.takeWhile (early p)) p.n) p.a = free (cut (x :: r.takeWhile (early p)) p.n) p.a := by
       unfold free cut
       rw [<- List.filter_append, <- List.filter_append]
       rfl
      simp only [List.append_assoc, <- e2]
    | false =>
      have h0 : (lessB p x || decide (x.n = p.n)) = true := by rw [early, Bool.not_eq_false'] at he; exact he
      have hne : ¬ early p x = true := by rw [he]; decide
      rw [List.takeWhile_cons_of_neg hne, List.dropWhile_cons_of_neg hne]
      have e : putStep p (O, false) x = (O ++ [p] ++ free (cut [x] p.n) p.a, true) := by
       unfold putStep free cut
       rw [h0]
       by_cases h1 : x.n = p.n <;> by_cases h2 : x.a = p.a <;> simp [h1, h2]
      rw [e, put_done p r]
      have e2 : free (cut [x] p.n) p.a ++ free (cut r p.n) p.a = free (cut (x :: r) p.n) p.a := by
       unfold free cut
       rw [<- List.filter_append, <- List.filter_append]
       rfl
      simp only [List.isEmpty_cons, Bool.false_eq_true, if_false, List.append_assoc, e2]
      simp [free, cut]
theorem putRef_eq (p : Pl) (M : List Pl) : putRef p M = free (cut (M.takeWhile (early p)) p.n) p.a ++ p :: free (cut (M.dropWhile (early p)) p.n) p.a := by
 unfold putRef putTo
 rw [List.take_length, put_wait p M []]
 cases hd : M.dropWhile (early p) with
 | nil => simp [free, cut]
 | cons y r => simp
theorem putRef_perm (p : Pl) (M : List Pl) : (putRef p M).Perm (p :: free (cut M p.n) p.a) := by
 rw [putRef_eq]
 refine List.perm_middle.trans (List.Perm.cons p ?_)
 have : free (cut M p.n) p.a = free (cut (M.takeWhile (early p)) p.n) p.a ++ free (cut (M.dropWhile (early p)) p.n) p.a := by
  unfold free cut
  rw [<- List.filter_append, <- List.filter_append, List.takeWhile_append_dropWhile]
 rw [this]
theorem Rising.filter {L : List Pl} (h : Rising L) (f : Pl -> Bool) : Rising (L.filter f) := List.Pairwise.filter _ h
theorem dropWhile_late (p : Pl) : ∀ (M : List Pl), Rising M -> ∀ x ∈ M.dropWhile (early p), lessB p x = true ∨ x.n = p.n
  | [], _, x, hx => by cases hx
  | y :: r, h, x, hx => by
    obtain ⟨h1, h2⟩ := List.pairwise_cons.1 h
    cases he : early p y with
    | true =>
      rw [List.dropWhile_cons_of_pos he] at hx
      exact dropWhile_late p r h2 x hx
    | false =>
      rw [List.dropWhile_cons_of_neg (by rw [he]; decide)] at hx
      have h0 : (lessB p y || decide (y.n = p.n)) = true := by rw [early, Bool.not_eq_false'] at he; exact he
      rw [Bool.or_eq_true, decide_eq_true_eq] at h0
      rcases List.mem_cons.1 hx with rfl | hx
      · exact h0
      · rcases h0 with h0 | h0
        · exact .inl (lessB_trans h0 (h1 x hx))
        · exact .inl (by rw [<- lessB_congr h0]; exact h1 x hx)
theorem putRef_rising (p : Pl) (M : List Pl) (h : Rising M) : Rising (putRef p M) := by
 rw [putRef_eq]
 have ht : Rising (M.takeWhile (early p)) := List.Pairwise.sublist (List.takeWhile_sublist _) h
 have hd : Rising (M.dropWhile (early p)) := List.Pairwise.sublist (List.dropWhile_sublist _) h
 have hlow : ∀ x ∈ free (cut (M.takeWhile (early p)) p.n) p.a, lessB x p = true := by
  intro x hx
  have hx1 := mem_cut.1 (mem_free.1 hx).1
  have he : early p x = true := List.all_eq_true.1 List.all_takeWhile x hx1.1
  have h0 : (lessB p x || decide (x.n = p.n)) = false := by simpa [early] using he
  have h3 := (Bool.or_eq_false_iff.1 h0).1
  rcases lessB_total hx1.2 with h4 | h4
  · exact h4
  · rw [h4] at h3; cases h3
 have hhigh : ∀ x ∈ free (cut (M.dropWhile (early p)) p.n) p.a, lessB p x = true := by
  intro x hx
  have hx1 := mem_cut.1 (mem_free.1 hx).1
  rcases dropWhile_late p M h x hx1.1 with h4 | h4
  · exact h4
  · exact absurd h4 hx1.2
 refine List.pairwise_append.2 ⟨(ht.filter _).filter _, List.pairwise_cons.2 ⟨hhigh, (hd.filter _).filter _⟩, fun a ha b hb => ?_⟩
 rcases List.mem_cons.1 hb with rfl | hb
 · exact hlow a ha
 · exact lessB_trans (hlow a ha) (hhigh b hb)
theorem rising_ext {A B : List Pl} (ha : Rising A) (hb : Rising B) (hp : A.Perm B) : A = B := by
 refine List.Perm.eq_of_pairwise (le := fun a b => lessB a b = true) ?_ ha hb hp
 intro a b _ _ h1 h2
 have := lessB_trans h1 h2
 rw [lessB_irrefl] at this
 cases this
structure Twin (L M : List Pl) : Prop where
  perm : M.Perm L
  rise : Rising M
theorem Twin.nil : Twin [] [] := ⟨List.Perm.refl _, List.Pairwise.nil⟩
theorem Twin.step {L M : List Pl} (h : Twin L M) (o : Ox) : Twin (stepL o L) (stepR o M) := by
 unfold stepL stepR
 split
 · exact ⟨h.perm.filter _, h.rise.filter _⟩
 · exact ⟨(putRef_perm o.p M).trans ((List.Perm.filter _ (h.perm.filter _)).cons _), putRef_rising o.p M h.rise⟩
end Go.Proofs.YtfabgbmbnmbjkaaGreatDoor

/- Pruned. -/
namespace Go.Proofs.YtfabgbmbnmbjkaaGreatDoor
open Go.RowKit
set_option maxRecDepth 20000
def RowAt (w : World) (A : Option Addr) (L : List Pl) : Prop := 0 < L.length -> ∃ r, A = some ⟨r, 0, none⟩ ∧ PlRow w r L
def OwnPl (w : World) (base : Nat) (A : Option Addr) (c : Nat) (L : List Pl) : Prop := w.ownsRow base 55 4 (.slice A L.length c) L.length (plCs L)
theorem OwnPl.row {w : World} {base c : Nat} {A : Option Addr} {L : List Pl} (h : OwnPl w base A c L) : RowAt w A L := fun hn => by
 obtain ⟨b, ex, rfl, _, hr⟩ := own_blk h hn
 exact ⟨b, rfl, plrow_of hr⟩
theorem OwnPl.below {w w' : World} {base c : Nat} {A : Option Addr} {L : List Pl} (h : OwnPl w base A c L) (hb : Below w.heap.size w w') : OwnPl w' base A c L :=
 World.ownsRow.kept (row := none) h ⟨hb.os, hb.tape, hb.output, hb.size, fun i hi _ => hb.block i hi⟩ (by cases (Value.slice A L.length c).ownBlock <;> simp)
set_option maxRecDepth 20000 in
theorem samepl_any (w : World) (A1 A2 : Option Addr) (c1 c2 : Nat) (L : List Pl) (hl : L.length <= 1000000) (h1 : RowAt w A1 L) (h2 : RowAt w A2 L) :
    Calls Tryz.prog 103 #[.slice A1 L.length c1, .slice A2 L.length c2] w (fun e w' => e = .returned (.bool true) ∧ ∃ n, w' = w.drewN n) := by
 have H1 := Lib.hid h1
 have H2 := Lib.hid h2
 clear h1 h2
 go_enter Tryz.func103, Tryz.ntmps103
 go_wp2_with (fail)
 go_loopw [5] (fun i wr => ∃ k n : Nat, k <= L.length ∧ i = .int .i64 k ∧ wr = w.drewN n) (fun i _ => L.length - (intOf i).toNat)
 case atStart => exact ⟨0, 0, Nat.zero_le _, rfl, rfl⟩
 case round =>
  obtain ⟨k, n, hk, rfl, rfl⟩ := hrel
  by_cases hlt : k < L.length
  · obtain ⟨r1, rfl, p1⟩ := H1.out (by omega)
    obtain ⟨r2, rfl, p2⟩ := H2.out (by omega)
    have a0 : (w.drewN n).cell? ⟨r1, k * 4, none⟩ = some (.int .u32 (L.getD k p0).t) := p1.c0 k hlt
    have a1 : (w.drewN n).cell? ⟨r1, k * 4 + 1, none⟩ = some (.int .u64 (L.getD k p0).b) := p1.c1 k hlt
    have a2 : (w.drewN n).cell? ⟨r1, k * 4 + 2, none⟩ = some (.int .i64 (L.getD k p0).z) := p1.c2 k hlt
    have a3 : (w.drewN n).cell? ⟨r1, k * 4 + 3, none⟩ = some (.int .i64 (L.getD k p0).k) := p1.c3 k hlt
    have b0 : (w.drewN n).cell? ⟨r2, k * 4, none⟩ = some (.int .u32 (L.getD k p0).t) := p2.c0 k hlt
    have b1 : (w.drewN n).cell? ⟨r2, k * 4 + 1, none⟩ = some (.int .u64 (L.getD k p0).b) := p2.c1 k hlt
    have b2 : (w.drewN n).cell? ⟨r2, k * 4 + 2, none⟩ = some (.int .i64 (L.getD k p0).z) := p2.c2 k hlt
    have b3 : (w.drewN n).cell? ⟨r2, k * 4 + 3, none⟩ = some (.int .i64 (L.getD k p0).k) := p2.c3 k hlt
    clear p1 p2
    generalize L.getD k p0 = x at *
    generalize hu : w.drewN n = u at *
    go_wp2_with (fail)
    go_quiet (fail)
    have HU := Lib.hid hu
    clear hu a0 a1 a2 a3 b0 b1 b2 b3
    go_wp2
    go_round
    case rel => exact ⟨k + 1, n + nq, hlt, by go_num, by rw [<- HU.out]; simp⟩
    case measure => simp [intOf]; omega
  · go_wp2
    go_ret
    exact ⟨rfl, n, rfl⟩
theorem rall_any (w : World) (g : Nat) (M : List Pl) (hl : M.length <= 1000000) (h : RM w g M) :
    Calls Tryz.prog 104 #[.pointer (some ⟨g, 0, none⟩)] w (fun e w' => ∃ A c, e = .returned (.slice A M.length c) ∧ OwnPl w' w.heap.size A c M ∧ Below w.heap.size w w') := by
 obtain ⟨A, c, hb, ho⟩ := h
 have hc : w.cell? ⟨g, 0, none⟩ = some (.slice A M.length c) := hb.cell 0
 have HO := Lib.hid ho
 obtain ⟨i0, hi0, hz0, hz1, hz2⟩ := info_parts pl_info
 clear hb ho
 go_enter Tryz.func104, Tryz.ntmps104
 go_wp2_with (first
   | (at_builtin
      refine wpList_append_any w rfl (.tmp 4) (.tmp 8) _ rfl w.heap.size 55 i0 _ 4 32 Tryz.underlying47 hi0 hz0 hz1 hz2 rfl (by omega) (.slice none 0 0) 0 [] rfl ⟨rfl, .inl ⟨rfl, rfl⟩⟩ _ A M.length c (plCs M) rfl (Reads.of_own HO.out) (plCs_one M) (by simp only [maxLen]; omega) (by omega) (Nat.le_refl _) ?_
      intro v2 w2 hown2 hg2 _
      obtain ⟨A2, c2, rfl⟩ := own_form hown2
      have HO2 := Lib.hid hown2
      have HB2 := Lib.hid ((Below.refl w.heap.size w).grown hg2 (Nat.le_refl _) (fun g hg => by simp [Value.ownBlock] at hg))
      clear hown2 hg2))
 go_ret
 refine ⟨A2, c2, by simp, ?_, HB2.out⟩
 have := HO2.out
 simpa [OwnPl] using this
end Go.Proofs.YtfabgbmbnmbjkaaGreatDoor

