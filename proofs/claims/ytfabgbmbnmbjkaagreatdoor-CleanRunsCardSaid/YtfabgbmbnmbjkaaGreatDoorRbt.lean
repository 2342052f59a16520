/- Joined texts: Cd Ce Cf Cg Ch Ci Cn. -/
import Derived.Test.YtfabgbmbnmbjkaaGreatDoorRbs
import Derived.Test.YtfabgbmbnmbjkaaGreatDoorRbn
import Derived.Test.YtfabgbmbnmbjkaaGreatDoorRbh
import Derived.Test.YtfabgbmbnmbjkaaGreatDoorRax
/- Pruned. -/
namespace Go.Proofs.YtfabgbmbnmbjkaaGreatDoor
open Go.RowKit
set_option maxRecDepth 20000
def insK (p : Pl) : List Pl -> List Pl
  | [] => [p]
  | q :: r => if p.k < q.k then p :: q :: r else q :: insK p r
def inM (m : StM) (z : Int) : List Pl := (ofZ z m.L).foldr insK []
theorem insK_perm (p : Pl) (l : List Pl) : (insK p l).Perm (p :: l) := by
 induction l with
 | nil => exact List.Perm.refl _
 | cons q r ih =>
   unfold insK
   split
   · exact List.Perm.refl _
   · exact (List.Perm.cons q ih).trans (List.Perm.swap p q r)
theorem insK_up (p : Pl) (l : List Pl) (h : l.Pairwise (fun a b => a.k < b.k)) (hn : ∀ q ∈ l, q.k ≠ p.k) : (insK p l).Pairwise (fun a b => a.k < b.k) := by
 induction l with
 | nil => exact List.pairwise_singleton _ _
 | cons q r ih =>
   obtain ⟨h1, h2⟩ := List.pairwise_cons.1 h
   unfold insK
   split
   · rename_i hlt
     refine List.pairwise_cons.2 ⟨fun x hx => ?_, h⟩
     rcases List.mem_cons.1 hx with rfl | hx
     · exact hlt
     · have := h1 x hx; omega
   · rename_i hlt
     refine List.pairwise_cons.2 ⟨fun x hx => ?_, ih h2 (fun y hy => hn y (List.mem_cons_of_mem _ hy))⟩
     rcases List.mem_cons.1 ((insK_perm p r).mem_iff.1 hx) with rfl | hx
     · have := hn q List.mem_cons_self; omega
     · exact h1 x hx
theorem inM_perm (m : StM) (z : Int) : (inM m z).Perm (ofZ z m.L) := by
 unfold inM
 induction ofZ z m.L with
 | nil => exact List.Perm.refl _
 | cons p r ih => exact (insK_perm p _).trans (List.Perm.cons p ih)
theorem inM_up {m : StM} (hu : Uniq m.L) (z : Int) : (inM m z).Pairwise (fun a b => a.k < b.k) := by
 have hz : (ofZ z m.L).Pairwise (fun a b => a.k ≠ b.k) := by
  have h1 : (ofZ z m.L).Pairwise (fun p q => p.n ≠ q.n ∧ p.a ≠ q.a) := hu.filter _
  refine h1.imp_of_mem (fun {a b} ha hb h e => h.2 ?_)
  have ea : a.z = z := by simpa using (List.mem_filter.1 ha).2
  have eb : b.z = z := by simpa using (List.mem_filter.1 hb).2
  unfold Pl.a
  rw [ea, eb, e]
 unfold inM
 generalize ofZ z m.L = l at hz ⊢
 induction l with
 | nil => exact List.Pairwise.nil
 | cons p r ih =>
   obtain ⟨h1, h2⟩ := List.pairwise_cons.1 hz
   refine insK_up p _ (ih h2) (fun q hq => ?_)
   have hm : q ∈ r := by
    have hp : (r.foldr insK []).Perm r := by
     clear ih hz h1 h2 hq
     induction r with
     | nil => exact List.Perm.refl _
     | cons x r ih => exact (insK_perm x _).trans (List.Perm.cons x ih)
    exact hp.mem_iff.1 hq
   exact fun e => h1 q hm e.symm
theorem inM_eq {m : StM} (hu : Uniq m.L) {z : Int} {S L : List Pl} (hL : L.Perm m.L) (hp : S.Perm (ofZ z L)) (hs : S.Pairwise (fun a b => a.k < b.k)) : S = inM m z := by
 refine List.Perm.eq_of_pairwise (le := fun a b => a.k < b.k) ?_ hs (inM_up hu z) ((hp.trans (hL.filter _)).trans (inM_perm m z).symm)
 intro a b _ _ h3 h4
 omega
theorem inM_mem {m : StM} {z : Int} {p : Pl} (h : p ∈ inM m z) : p ∈ m.L ∧ p.z = z := by
 have := List.mem_filter.1 ((inM_perm m z).mem_iff.1 h)
 exact ⟨this.1, by simpa using this.2⟩
theorem up_last {l : List Pl} (h : l.Pairwise (fun a b => a.k < b.k)) (h0 : ∀ p ∈ l, 0 <= p.k) {n : Nat} (hn : ∀ p ∈ l, p.k < n) : l.length <= n := by
 have key : ∀ (l : List Pl) (lo : Nat), l.Pairwise (fun a b => a.k < b.k) -> (∀ p ∈ l, (lo : Int) <= p.k) -> (∀ p ∈ l, p.k < n) -> lo <= n -> l.length + lo <= n := by
  intro l
  induction l with
  | nil => intro lo _ _ _ h; simpa using h
  | cons p r ih =>
    intro lo hp hlo hhi _
    obtain ⟨h1, h2⟩ := List.pairwise_cons.1 hp
    have a1 := hlo p List.mem_cons_self
    have a2 := hhi p List.mem_cons_self
    have := ih (lo + 1) h2 (fun q hq => by have := h1 q hq; omega) (fun q hq => hhi q (List.mem_cons_of_mem _ hq)) (by omega)
    simp only [List.length_cons]
    omega
 have := key l 0 h (fun p hp => by simpa using h0 p hp) hn (Nat.zero_le _)
 omega
theorem stepW_names (m : StM) (p : Pv) : ∀ q ∈ (stepW m p).L, q.n = p.n ∨ q ∈ m.L := by
 unfold stepW
 split
 · exact fun q hq => .inr (List.mem_filter.1 hq).1
 · intro q hq
   rcases List.mem_cons.1 hq with rfl | hq
   · exact .inl rfl
   · exact .inr (List.mem_filter.1 (List.mem_filter.1 hq).1).1
theorem fold_names (l : List Pv) (m : StM) : ∀ q ∈ (l.foldl stepW m).L, (∃ p ∈ l, q.n = p.n) ∨ q ∈ m.L := by
 induction l generalizing m with
 | nil => exact fun q hq => .inr hq
 | cons p r ih =>
   intro q hq
   rcases ih (stepW m p) q hq with ⟨x, hx, e⟩ | h
   · exact .inl ⟨x, List.mem_cons_of_mem _ hx, e⟩
   · rcases stepW_names m p q h with e | h
     · exact .inl ⟨p, List.mem_cons_self, e⟩
     · exact .inr h
theorem readyM_L (sh : Sh) (m : StM) (need : Int) : (readyM sh m need).2.L = m.L := by
 have h1 : (ready1 sh m need).L = m.L := by unfold ready1; split <;> rfl
 unfold readyM
 dsimp only
 split
 · exact h1
 · split <;> exact h1
theorem writeM_names (sh : Sh) (m : StM) (l : List Pv) : ∀ q ∈ (writeM sh m l).L, (∃ p ∈ l, q.n = p.n) ∨ q ∈ m.L := by
 unfold writeM
 dsimp only
 have h1 : ∀ q ∈ (l.foldl stepW (headW sh m l)).L, (∃ p ∈ l, q.n = p.n) ∨ q ∈ m.L := fold_names l (headW sh m l)
 split
 · exact h1
 · exact h1
theorem putL_names (sh : Sh) (f : Nat) (m : StM) (l : List Pv) : ∀ q ∈ (putL sh f m l).2.L, (∃ p ∈ l, q.n = p.n) ∨ q ∈ m.L := by
 induction f generalizing m l with
 | zero => exact fun q hq => .inr hq
 | succ f ih =>
   unfold putL
   split
   · exact fun q hq => .inr hq
   · dsimp only
     split
     · intro q hq
       rcases ih _ _ q hq with ⟨x, hx, e⟩ | h
       · exact .inl ⟨x, List.mem_of_mem_drop hx, e⟩
       · rcases writeM_names sh _ _ q h with ⟨x, hx, e⟩ | h
         · exact .inl ⟨x, List.mem_of_mem_take hx, e⟩
         · rw [readyM_L] at h; exact .inr h
     · intro q hq
       rw [readyM_L] at hq
       exact .inr hq
theorem putM_names (sh : Sh) (m : StM) (l : List Pv) : ∀ q ∈ (putM sh m l).2.L, (∃ p ∈ l, q.n = p.n) ∨ q ∈ m.L := by
 unfold putM
 split
 · exact putL_names sh _ m l
 · exact fun q hq => .inr hq
def blkOf (m : StM) (p : Pl) : List Int := (dataM m p.n).getD []
def putsOf (m : StM) (S : List Pl) : List Pv := S.map (fun p => ⟨p.t, p.b, false, blkOf m p⟩)
theorem putsOf_length (m : StM) (S : List Pl) : (putsOf m S).length = S.length := List.length_map _
def stepM (sh : Sh) (m : StM) : Bool × StM :=
 if pickM sh m < 0 then (false, m) else
 if (putM sh m (putsOf m (inM m (pickM sh m)))).1 ≠ 0 then (false, (putM sh m (putsOf m (inM m (pickM sh m)))).2) else
 if (markM sh (flushM (putM sh m (putsOf m (inM m (pickM sh m)))).2)).1 ≠ 0 then (false, (markM sh (flushM (putM sh m (putsOf m (inM m (pickM sh m)))).2)).2) else
 clearM (markM sh (flushM (putM sh m (putsOf m (inM m (pickM sh m)))).2)).2 (pickM sh m)
theorem Inv.step {sh : Sh} {m : StM} (hok : sh.ok) (h : Inv sh m) : Inv sh (stepM sh m).2 := by
 unfold stepM
 have h1 := h.put hok (putsOf m (inM m (pickM sh m)))
 have h2 := h1.flush.1.mark.1
 split
 · exact h
 · split
   · exact h1
   · split
     · exact h2
     · exact (h2.clear _).1
theorem data_of {sh : Sh} {m : StM} (hg : Good sh m) {p : Pl} (hp : p ∈ m.L) : dataM m p.n = some (blkOf m p) ∧ blkOf m p ∈ (m.P.getD p.z.toNat pt0).bs := by
 obtain ⟨a1, a2, a3, a4⟩ := hg.at_ p hp
 have ha : atOf m.L p.n = some p.a := (atOf_some hg.uq).2 ⟨p, hp, rfl, rfl⟩
 have hd : dataM m p.n = some ((m.P.getD p.z.toNat pt0).bs.getD p.k.toNat []) := by unfold dataM; rw [ha]; rfl
 have hb : blkOf m p = (m.P.getD p.z.toNat pt0).bs.getD p.k.toNat [] := by unfold blkOf; rw [hd]; rfl
 exact ⟨by rw [hb]; exact hd, by rw [hb]; exact getD_mem a4⟩
structure GpInv (w wr : World) (T : List Pv) (k : Nat) (A : Option Addr) (c : Nat) (O : List Pc) : Prop where
  row : PRow wr w.heap.size A c O
  mp : O.map (·.p) = T.take k
  len : O.length = k
  ok : ∀ q ∈ O, PcOk (fun b => w.heap.size <= b) wr q
  low : Below w.heap.size w wr
  nd : ∀ q ∈ O, ∀ ad, q.a = some ad -> 0 < q.p.da.length -> (Value.slice A O.length c).ownBlock ≠ some ad.block
theorem GpInv.start (w : World) (T : List Pv) : GpInv w w T 0 none 0 [] := ⟨World.ownsRow_nil _ _ _ _, rfl, rfl, fun q hq => (by cases hq), Below.refl _ _, fun q hq => (by cases hq)⟩
theorem GpInv.addG {w wr w6 : World} {T : List Pv} {k c c5 g : Nat} {A A5 : Option Addr} {O : List Pc} (h : GpInv w wr T k A c O) (hr6 : Below wr.heap.size wr w6) {p : Pv} (hp : T.getD k pv0 = p) (hk : k < T.length) (hsrc : Blk w6 g 42 #[.int .u32 p.t, .int .u64 p.b, .bool p.d, .slice A5 p.da.length c5]) (hrd : Reads w6 w6.heap.size 1 A5 p.da.length (nums .u8 p.da)) (hcap : p.da.length <= c5) (had : ∀ ad, A5 = some ad -> 0 < p.da.length -> wr.heap.size <= ad.block) (hk6 : k <= 100000) :
    ∃ A7 c7 w7, (Builtin.append_ #[32, 32] 32 #[.slice A k c, .slice (some ⟨g, 0, none⟩) 1 1]).run Tryz.prog w6 = .ok (.slice A7 (k + 1) c7) w7 ∧ GpInv w w7 T (k + 1) A7 c7 (O ++ [⟨p, A5, c5⟩]) := by
 have hlen := h.len
 have hlow : w.heap.size <= wr.heap.size := h.low.size
 obtain ⟨A7, c7, w7, hap, hrow7, hk7, hor7⟩ := run_append_pc _ 32 O ⟨p, A5, c5⟩ (h.row.below hr6 (Nat.le_refl _)) hsrc (by omega) (Nat.le_trans hlow hr6.size)
 rw [hlen] at hap
 have hown : ∀ b, (Value.slice A O.length c).ownBlock = some b -> w.heap.size <= b ∧ b < wr.heap.size := fun b hb => h.row.lt hb
 have hlow6 := h.low.trans (hr6.mono hlow)
 have hs6 : wr.heap.size <= w6.heap.size := hr6.size
 have hndq : ∀ ad, A5 = some ad -> 0 < p.da.length -> (Value.slice A O.length c).ownBlock ≠ some ad.block := fun ad e h0 he => by
  have h1 := hown _ he
  have := had ad e h0
  omega
 have hkeep : ∀ q : Pc, PcOk (fun b => w.heap.size <= b) w6 q -> (∀ ad, q.a = some ad -> 0 < q.p.da.length -> (Value.slice A O.length c).ownBlock ≠ some ad.block) -> PcOk (fun b => w.heap.size <= b) w7 q := fun q hq hn => by
  refine ⟨⟨hq.rd.1, fun h0 => ?_⟩, hq.xd, hq.cap⟩
  obtain ⟨ad, e, hb, hc⟩ := hq.rd.2 h0
  exact ⟨ad, e, Nat.lt_of_lt_of_le hb hk7.size, fun j u hu => hk7.cell (hc j u hu) (by rw [block_of_add]; exact hn ad e h0)⟩
 refine ⟨A7, c7, w7, hap, hrow7, ?_, by simp [hlen], fun q hq => ?_, Kp.below hlow6 hk7 (Nat.le_trans hlow hr6.size) (fun b hb he => by have := hown b he; omega), fun q hq ad e h0 he => ?_⟩
 · rw [List.take_succ_eq_append_getElem hk, List.map_append, h.mp]
   have e : T[k] = p := by
    rw [List.getD_eq_getElem?_getD, List.getElem?_eq_getElem hk] at hp
    exact hp
   rw [e]
   rfl
 · rcases List.mem_append.1 hq with hq | hq
   · exact hkeep q ((h.ok q hq).below (hr6)) (h.nd q hq)
   · obtain rfl := List.mem_singleton.1 hq
     exact hkeep _ ⟨hrd, fun ad e h0 => Nat.le_trans hlow (had ad e h0), hcap⟩ hndq
 · rw [show (O ++ [(⟨p, A5, c5⟩ : Pc)]).length = O.length + 1 by simp] at he
   have hblk : (Value.slice A O.length c).ownBlock ≠ some ad.block ∧ ad.block < w6.heap.size := by
    rcases List.mem_append.1 hq with hq | hq
    · obtain ⟨ad2, e2, hb, _⟩ := (h.ok q hq).rd.2 h0
      obtain rfl := Option.some.inj (e.symm.trans e2)
      exact ⟨h.nd q hq ad e h0, Nat.lt_of_lt_of_le hb hr6.size⟩
    · obtain rfl := List.mem_singleton.1 hq
      obtain ⟨ad2, e2, hb, _⟩ := hrd.2 h0
      obtain rfl := Option.some.inj (e.symm.trans e2)
      exact ⟨hndq ad e h0, hb⟩
   rcases hor7 with h' | h'
   · exact hblk.1 (h'.symm.trans he)
   · have := Option.some.inj (h'.symm.trans he)
     omega
theorem GpInv.add {w wr w5 : World} {T : List Pv} {k c c5 : Nat} {A A5 : Option Addr} {O : List Pc} (h : GpInv w wr T k A c O) (hb5 : Below wr.heap.size wr w5) {p : Pv} (hp : T.getD k pv0 = p) (hk : k < T.length) (hrd : Reads w5 w5.heap.size 1 A5 p.da.length (nums .u8 p.da)) (hcap : p.da.length <= c5) (had : ∀ ad, A5 = some ad -> 0 < p.da.length -> wr.heap.size <= ad.block) (hk6 : k <= 100000) :
    ∃ A7 c7 w7, (Builtin.append_ #[32, 32] 32 #[.slice A k c, .slice (some ⟨w5.heap.size, 0, none⟩) 1 1]).run Tryz.prog (w5.alloc (.cells #[.int .u32 p.t, .int .u64 p.b, .bool p.d, .slice A5 p.da.length c5] 42)) = .ok (.slice A7 (k + 1) c7) w7 ∧ GpInv w w7 T (k + 1) A7 c7 (O ++ [⟨p, A5, c5⟩]) := by
 have h56 : Below w5.heap.size w5 (w5.alloc (.cells #[.int .u32 p.t, .int .u64 p.b, .bool p.d, .slice A5 p.da.length c5] 42)) := (Below.refl _ _).alloc (Nat.le_refl _) _
 exact h.addG (hb5.trans (h56.mono hb5.size)) hp hk (Blk.new w5 _ _) ((hrd.below h56).more h56.size) hcap had hk6
theorem GpInv.puts {w wr : World} {T : List Pv} {A : Option Addr} {c : Nat} {O : List Pc} (h : GpInv w wr T T.length A c O) : PutsAt (fun b => w.heap.size <= b ∧ b < wr.heap.size) wr A T ∧ T.length <= c := by
 have hmp := h.mp
 rw [List.take_length] at hmp
 have hlen := h.len
 refine ⟨?_, ?_⟩
 · have := h.row.puts (X := fun b => w.heap.size <= b ∧ b < wr.heap.size) (fun b h1 h2 => ⟨h1, h2⟩) (fun q hq => by
    have h2 := h.ok q hq
    exact ⟨h2.rd, fun ad e h0 => by
     obtain ⟨ad2, e2, hb, _⟩ := h2.rd.2 h0
     obtain rfl := Option.some.inj (e.symm.trans e2)
     exact ⟨h2.xd ad e h0, hb⟩, h2.cap⟩)
   rw [hmp] at this
   exact this
 · have := h.row.cap
   omega
end Go.Proofs.YtfabgbmbnmbjkaaGreatDoor

/- Pruned. -/
namespace Go.Proofs.YtfabgbmbnmbjkaaGreatDoor
open Go.RowKit
set_option maxRecDepth 20000
def Stepped (X : Nat -> Prop) (F : StF) (sh : Sh) (n : Nat) (r : Bool × StM) (w : World) (e : Ending) (w' : World) : Prop :=
 e = .returned (.bool r.1) ∧ StoreIs X w' F sh n r.2 ∧ Kp (fun b => ¬ X b) w w'
theorem brow_cap {w : World} {B c : Nat} {A : Option Addr} {xs : List Int} (h : BRow w B A c xs) : xs.length <= c := by
 rcases h.2 with ⟨_, h0⟩ | ⟨g, cap, cur, hv, hg, hh, hnc, hcm, hcs, ht⟩
 · omega
 · injection hv with e1 e2 e3
   omega
set_option maxHeartbeats 4000000 in
theorem cstep_any (X : Nat -> Prop) (w : World) (F : StF) (sh : Sh) (n : Nat) (m : StM) (hi : Inv sh m) (h : StoreIs X w F sh n m) (hn : n + 5 * sh.zb <= 100000) :
    Calls Tryz.prog 23 #[.pointer (some ⟨F.s, 0, none⟩)] w (Stepped X F sh (n + 5 * sh.zb) (stepM sh m) w) := by
 have HP := Lib.hid (cpick_any X w F sh n m hi.g h)
 have hok := h.dev.ok
 have HOK := Lib.hid (And.intro hok hok.facts)
 have H := Lib.hid h
 have HI := Lib.hid hi
 have HNM := Lib.hid (fun p (hp : p ∈ m.L) => (h.lm.names p hp).1)
 have HN := Lib.hid hn
 have HZB : Hid (∀ i, i < m.P.length -> PartOk sh (m.P.getD i pt0)) := fun i hi => h.dev.fit hi
 clear h hi hn hok
 obtain ⟨z, hz⟩ : ∃ z, pickM sh m = z := ⟨_, rfl⟩
 have HZ := Lib.hid hz
 rw [hz] at HP
 clear hz
 go_enter Tryz.func23, Tryz.ntmps23
 go_wp2_with (fail)
 refine HP.out.mono ?_
 rintro e w2 ⟨rfl, hb2⟩
 have HB2 := Lib.hid hb2
 clear hb2 HP
 by_cases hz0 : z < 0
 · have HE : Hid (stepM sh m = (false, m)) := by
    unfold Hid stepM
    rw [HZ.out, if_pos hz0]
   have HE2 : Hid (Stepped X F sh (n + 5 * sh.zb) (stepM sh m) w (.returned (.bool false)) w2) := by
    rw [HE.out]
    exact ⟨rfl, (H.out.below HB2.out).mono (by omega) (by have := HN.out; omega), Kp.of_below HB2.out⟩
   clear HE
   go_wp2
   go_ret
   exact HE2.out
 · have HS2 := Lib.hid (H.out.below HB2.out)
   have HMP := Lib.hid (map_any _ w2 F sh n m HS2.out)
   have HIN : Hid (Calls Tryz.prog 29 #[.pointer (some ⟨F.f.g, 0, none⟩), .int .i64 z] w2 (fun e w' => ∃ A c, e = .returned (.slice A (inM m z).length c) ∧ OwnPl w' w2.heap.size A c (inM m z) ∧ Below w2.heap.size w2 w')) := by
    refine (lin_any w2 F.f n m.L z HS2.out.nn HS2.out.lm).mono ?_
    rintro e w' ⟨A, c, S, rfl, ho, hp, hs, hb⟩
    obtain rfl := inM_eq HI.out.g.uq (List.Perm.refl _) hp hs
    exact ⟨A, c, rfl, ho, hb⟩
   have HSM : Hid (∀ p ∈ inM m z, NameOk p.n ∧ dataM m p.n = some (blkOf m p) ∧ (blkOf m p).length = sh.bl ∧ ∀ x ∈ blkOf m p, ByteOk x) := fun p hp => by
    have hm := (inM_mem hp).1
    have hd := data_of HI.out.g hm
    have ha := HI.out.g.at_ p hm
    have hpt := HZB.out p.z.toNat (by have := HI.out.g.pl; omega)
    exact ⟨HNM.out p hm, hd.1, hpt.len _ hd.2, hpt.byt _ hd.2⟩
   have HSL : Hid ((inM m z).length <= sh.zb) := up_last (inM_up HI.out.g.uq z) (fun p hp => (HI.out.g.at_ p (inM_mem hp).1).2.2.1) (fun p hp => by
    have ha := HI.out.g.at_ p (inM_mem hp).1
    have hpt := (HZB.out p.z.toNat (by have := HI.out.g.pl; omega)).fit
    omega)
   obtain ⟨T, hT⟩ : ∃ T, putsOf m (inM m z) = T := ⟨_, rfl⟩
   obtain ⟨S, hS⟩ : ∃ S, inM m z = S := ⟨_, rfl⟩
   have HTS := Lib.hid hT
   have HIS := Lib.hid hS
   rw [hS] at HIN HSM HSL HTS
   clear hT hS HZB HNM
   have hSz : S.length <= 100000 := by have h1 := HSL.out; have h2 := HOK.out.2; omega
   go_wp2_with (fail)
   refine HMP.out.mono ?_
   rintro e u ⟨rfl, rfl⟩
   go_wp2_with (fail)
   refine HIN.out.mono ?_
   rintro e w3 ⟨A3, c3, rfl, ho3, hb3⟩
   have HS3 := Lib.hid (HS2.out.below hb3)
   have HB3 : Hid (Below w.heap.size w w3) := HB2.out.trans (hb3.mono HB2.out.size)
   have HO3 := Lib.hid ho3
   have H0 := Lib.hid (GpInv.start w3 T)
   have HTL : Hid (T.length = S.length) := by unfold Hid; rw [<- HTS.out, putsOf_length]
   clear ho3 hb3 HMP HIN HS2
   go_wp2_with (fail)
   go_loopw [4, 18] (fun l i wr => ∃ (j : Nat) (A : Option Addr) (c : Nat) (O : List Pc), j <= S.length ∧ l = .slice A j c ∧ i = .int .i64 j ∧ Hid (GpInv w3 wr T j A c O)) (fun _ i _ => S.length - (intOf i).toNat)
   case atStart => exact ⟨0, none, 0, [], Nat.zero_le _, rfl, rfl, H0⟩
   case round =>
    clear H0
    obtain ⟨j, A, c, O, hj, rfl, rfl, hr⟩ := hrel
    by_cases hlt : j < S.length
    · have HLT := Lib.hid hlt
      obtain ⟨r, rfl, hpr⟩ := (HO3.out.below hr.out.low).row (by omega)
      have s0 := hpr.c0 j hlt
      have s1 := hpr.c1 j hlt
      have s2 := hpr.c2 j hlt
      have s3 := hpr.c3 j hlt
      obtain ⟨p, hp⟩ : ∃ p, S.getD j p0 = p := ⟨_, rfl⟩
      have hpm := HSM.out _ (getD_mem (d := p0) hlt)
      rw [hp] at s0 s1 s2 s3 hpm
      have HPM := Lib.hid hpm
      have HTP : Hid (T.getD j pv0 = ⟨p.t, p.b, false, blkOf m p⟩) := by
       unfold Hid
       rw [<- HTS.out, <- hp]
       unfold putsOf
       rw [List.getD_eq_getElem?_getD, List.getElem?_map, List.getD_eq_getElem?_getD, List.getElem?_eq_getElem hlt]
       rfl
      have hb4 : Below wr.heap.size wr (wr.alloc (.cells #[.int .u32 p.t, .int .u64 p.b, .int .i64 p.z, .int .i64 p.k] 55)) := (Below.refl _ _).alloc (Nat.le_refl _) _
      have k4 := Blk.new wr 55 #[.int .u32 p.t, .int .u64 p.b, .int .i64 p.z, .int .i64 p.k]
      have HB4 := Lib.hid (And.intro hb4 k4)
      have HR := Lib.hid hr.out
      have HG : Hid (Calls Tryz.prog 16 #[.pointer (some ⟨F.s, 0, none⟩), .int .u32 p.t, .int .u64 p.b] (wr.alloc (.cells #[.int .u32 p.t, .int .u64 p.b, .int .i64 p.z, .int .i64 p.k] 55)) (Got sh m (p.t, p.b) (wr.alloc (.cells #[.int .u32 p.t, .int .u64 p.b, .int .i64 p.z, .int .i64 p.k] 55)))) :=
       get_any X _ F sh n m (p.t, p.b) hpm.1 HI.out.g ((HS3.out.below hr.out.low).below hb4)
      clear hpr hp hpm hb4 k4 hr
      go_wp2_with (fail)
      generalize wr.alloc (.cells #[.int .u32 p.t, .int .u64 p.b, .int .i64 p.z, .int .i64 p.k] 55) = w4 at *
      refine HG.out.mono ?_
      rintro e w5 hgot
      obtain ⟨A5, c5, rfl, hrow, hlen⟩ := hgot.2.1 _ HPM.out.2.1
      have hb45 := hgot.2.2
      have hb5 : Below wr.heap.size wr w5 := HB4.out.1.trans (hb45.mono HB4.out.1.size)
      have k5 := HB4.out.2.below hb45 HB4.out.2.lt
      have t0 : w5.cell? ⟨wr.heap.size, 0, none⟩ = some (.int .u32 p.t) := k5.cell 0
      have t1 : w5.cell? ⟨wr.heap.size, 1, none⟩ = some (.int .u64 p.b) := k5.cell 1
      obtain ⟨A7, c7, w7, hap, hinv⟩ := HR.out.add hb5 HTP.out (by rw [HTL.out]; exact HLT.out) (c5 := c5) (A5 := A5) hrow.reads (brow_cap hrow) (fun ad e h0 => by
       obtain ⟨g, e2, _⟩ := hrow.at_ (k := 0) h0
       obtain rfl := Option.some.inj (e.symm.trans e2)
       subst e2
       exact Nat.le_trans HB4.out.1.size (hrow.lt (b := g) rfl).1) (by omega)
      simp only [HPM.out.2.2.1] at hap
      have HNX := Lib.hid hinv
      clear hgot hrow hlen hb45 hb5 k5 hinv HG HB4 HR s0 s1 s2 s3
      go_wp2_with (at_builtin; refine wpList_append_run rfl (.tmp 31) (.tmp 38) _ rfl rfl rfl hap ?_)
      go_roundw
      case rel => exact ⟨j + 1, A7, c7, _, HLT.out, rfl, by go_num, HNX⟩
      case measure => have := HLT.out; simp [intOf]; omega
    · obtain rfl : j = S.length := by omega
      have hgi := hr.out
      rw [<- HTL.out] at hgi
      obtain ⟨hpu, hcp⟩ := hgi.puts
      have hbw : Below w.heap.size w wr := HB3.out.trans (hr.out.low.mono HB3.out.size)
      have hzb := HSL.out
      have htl := HTL.out
      have hnn := HN.out
      have hfc := HOK.out.2
      obtain ⟨X2, hX2⟩ : ∃ X2 : Nat -> Prop, ∀ b, X2 b ↔ (X b ∨ (w3.heap.size <= b ∧ b < wr.heap.size)) := ⟨_, fun _ => Iff.rfl⟩
      have hst : StoreIs X2 wr F sh n m := HS3.out.step hr.out.low (fun b hx => by
       rcases (hX2 b).1 hx with hx | hx
       · exact ⟨Nat.lt_of_lt_of_le (HS3.out.xlt hx) hr.out.low.size, .inl hx⟩
       · exact ⟨hx.2, .inr hx.1⟩)
      have HPU := Lib.hid (put_any X2 wr F sh n m A c T (by omega) hcp (hpu.more (fun b hb => (hX2 b).2 (.inr hb))) (fun q hq => by
       rw [<- HTS.out] at hq
       obtain ⟨p, hp, rfl⟩ := List.mem_map.1 hq
       have h1 := HSM.out p hp
       exact ⟨h1.1, h1.2.2.2, by rw [h1.2.2.1]; omega⟩) HI.out.g (by omega) hst)
      rw [htl] at HPU
      obtain ⟨m1, hm1⟩ : ∃ m1, (putM sh m T).2 = m1 := ⟨_, rfl⟩
      obtain ⟨ee, hee⟩ : ∃ ee, (putM sh m T).1 = ee := ⟨_, rfl⟩
      have HI1 : Hid (Inv sh m1) := by unfold Hid; rw [<- hm1]; exact HI.out.put HOK.out.1 T
      have HM1 := Lib.hid (And.intro hm1 hee)
      rw [hm1, hee] at HPU
      have HXX : Hid (∀ u m' , StoreIs X2 u F sh (n + 5 * S.length) m' -> Kp (fun b => ¬ X2 b) wr u -> StoreIs X u F sh (n + 5 * sh.zb) m' ∧ Kp (fun b => ¬ X b) w u) := fun u m' h1 h2 =>
       ⟨(h1.less (fun b hb => (hX2 b).2 (.inl hb))).mono (by omega) (by omega), (Kp.of_below (S := fun b => ¬ X b) hbw).trans h2 (fun b hb hn' hx => hn' ((hX2 b).2 (.inl hx)))⟩
      have hee0 : 0 <= ee ∧ ee <= 160 := by rw [<- hee]; exact putM_code sh m T
      have HST : Hid (stepM sh m = if ee ≠ 0 then (false, m1) else if (markM sh (flushM m1)).1 ≠ 0 then (false, (markM sh (flushM m1)).2) else clearM (markM sh (flushM m1)).2 z) := by
       unfold Hid stepM
       rw [HZ.out, if_neg (by omega), HIS.out, HTS.out, hm1, hee]
      clear hgi hpu hcp hbw hst hm1 hee hr HS3 HO3 HSM HTS HIS H HI HZ hX2
      go_wp2_with (fail)
      refine HPU.out.mono ?_
      rintro e w6 ⟨rfl, hs6, hk6⟩
      have HS6 := Lib.hid (And.intro hs6 hk6)
      clear hs6 hk6 HPU
      by_cases he : ee = 0
      · subst he
        obtain ⟨m3, hm3⟩ : ∃ m3, (markM sh (flushM m1)).2 = m3 := ⟨_, rfl⟩
        obtain ⟨e3, he3⟩ : ∃ e3, (markM sh (flushM m1)).1 = e3 := ⟨_, rfl⟩
        have HST2 : Hid (stepM sh m = if e3 ≠ 0 then (false, m3) else clearM m3 z) := by
         have := HST.out
         rw [if_neg (by decide), hm3, he3] at this
         exact this
        have HI3 : Hid (Inv sh m3) := by unfold Hid; rw [<- hm3]; exact HI1.out.flush.1.mark.1
        have HMK := Lib.hid (fun u (hu : StoreIs X2 u F sh (n + 5 * S.length) (flushM m1)) => smark_any X2 u F sh _ (flushM m1) HI1.out.flush.1 (fun p hp => (hu.lm.names p hp).1) (by have := hu.lm.len; omega) hu)
        unfold Marked at HMK
        rw [hm3, he3] at HMK
        clear hm3 he3 HST
        go_wp2_with (fail)
        refine (sflush_any X2 w6 F sh _ m1 HS6.out.1).mono ?_
        rintro e w7 ⟨rfl, hs7, hk7⟩
        have HS7 := Lib.hid (And.intro hs7 (HS6.out.2.trans hk7 (fun _ _ h => h)))
        clear hs7 hk7 HS6
        go_wp2_with (fail)
        refine (HMK.out w7 HS7.out.1).mono ?_
        rintro e w8 ⟨rfl, hs8, hk8⟩
        have HS8 := Lib.hid (And.intro hs8 (HS7.out.2.trans hk8 (fun _ _ h => h)))
        clear hs8 hk8 HS7 HMK
        by_cases he3 : e3 = 0
        · subst he3
          have HST3 : Hid (stepM sh m = clearM m3 z) := HST2.out.trans (if_neg (by decide))
          have HCL := Lib.hid (sclear_any X2 w8 F sh _ m3 z HI3.out.g HS8.out.1)
          unfold Cleared at HCL
          clear HST2
          go_wp2_with (fail)
          refine HCL.out.mono ?_
          rintro e w9 ⟨rfl, hs9, hk9⟩
          have HE := Lib.hid (HXX.out w9 _ hs9 (HS8.out.2.trans hk9 (fun _ _ h => h)))
          clear hs9 hk9 HCL HS8
          go_wp2
          go_ret
          rw [HST3.out]
          exact ⟨rfl, HE.out.1, HE.out.2⟩
        · have HST3 : Hid (stepM sh m = (false, m3)) := HST2.out.trans (if_pos he3)
          have HE := Lib.hid (HXX.out w8 _ HS8.out.1 HS8.out.2)
          clear HST2 HS8
          go_wp2
          go_ret
          rw [HST3.out]
          exact ⟨rfl, HE.out.1, HE.out.2⟩
      · have HST2 : Hid (stepM sh m = (false, m1)) := HST.out.trans (if_pos he)
        have HE := Lib.hid (HXX.out w6 _ HS6.out.1 HS6.out.2)
        clear HST HS6
        go_wp2
        go_ret
        rw [HST2.out]
        exact ⟨rfl, HE.out.1, HE.out.2⟩
end Go.Proofs.YtfabgbmbnmbjkaaGreatDoor

/- Pruned. -/
namespace Go.Proofs.YtfabgbmbnmbjkaaGreatDoor
open Go.RowKit
set_option maxRecDepth 20000
def QStepped (Y : Nat -> Prop) (Q : QF) (sh : Sh) (n : Nat) (r : Bool × StM) (w : World) (e : Ending) (w' : World) : Prop :=
 e = .returned (.bool r.1) ∧ QSto Y w' Q sh n r.2 ∧ Kp Q.T w w'
set_option maxHeartbeats 4000000 in
theorem refstep_any (Y : Nat -> Prop) (w : World) (Q : QF) (sh : Sh) (n : Nat) (m : StM) (hi : Inv sh m) (hnm : ∀ p ∈ m.L, NameOk p.n) (h : QSto Y w Q sh n m) (hn : n + sh.zb <= 100000) :
    Calls Tryz.prog 34 #[.pointer (some ⟨Q.r, 0, none⟩)] w (QStepped Y Q sh (n + sh.zb) (stepM sh m) w) := by
 have HP := Lib.hid (refpick_any Y w Q sh n m hi.g h)
 have hok := h.dev.ok
 have HOK := Lib.hid (And.intro hok hok.facts)
 have H := Lib.hid h
 have HI := Lib.hid hi
 have HNM := Lib.hid hnm
 have HN := Lib.hid hn
 have HZB : Hid (∀ i, i < m.P.length -> PartOk sh (m.P.getD i pt0)) := fun i hi => h.dev.fit i hi
 have HT : Hid (∀ b, Q.T b -> b < w.heap.size) := fun b e => by
  obtain ⟨M, _, hm⟩ := h.mp
  obtain ⟨cs, hl, _⟩ := h.dev.is
  obtain ⟨A, c, hr, _⟩ := hm.rm
  rcases e with rfl | rfl | rfl | rfl | rfl
  · exact h.top.lt
  · exact hl.lt
  · exact h.seg.row.lt
  · exact hr.lt
  · exact h.ends.lt
 clear h hi hn hok hnm
 obtain ⟨z, hz⟩ : ∃ z, pickM sh m = z := ⟨_, rfl⟩
 have HZ := Lib.hid hz
 rw [hz] at HP
 clear hz
 go_enter Tryz.func34, Tryz.ntmps34
 go_wp2_with (fail)
 refine HP.out.mono ?_
 rintro e w2 ⟨rfl, hb2⟩
 have HB2 := Lib.hid hb2
 clear hb2 HP
 by_cases hz0 : z < 0
 · have HE : Hid (stepM sh m = (false, m)) := by
    unfold Hid stepM
    rw [HZ.out, if_pos hz0]
   have HE2 : Hid (QStepped Y Q sh (n + sh.zb) (stepM sh m) w (.returned (.bool false)) w2) := by
    rw [HE.out]
    exact ⟨rfl, (H.out.below HB2.out).mono (by omega) (by have := HN.out; omega), Kp.of_below HB2.out⟩
   clear HE
   go_wp2
   go_ret
   exact HE2.out
 · have HS2 := Lib.hid (H.out.below HB2.out)
   have q2 := HS2.out.top.cell 2
   have HIN : Hid (Calls Tryz.prog 67 #[.pointer (some ⟨Q.mm, 0, none⟩), .int .i64 z] w2 (fun e w' => ∃ A c, e = .returned (.slice A (inM m z).length c) ∧ OwnPl w' w2.heap.size A c (inM m z) ∧ Below w2.heap.size w2 w')) := by
    obtain ⟨M, hM, hmp⟩ := HS2.out.mp
    refine (rin_any w2 Q.mm M z (HI.out.g.uq.perm hM.perm.symm) (by have := hM.perm.length_eq; have := HS2.out.len; omega) hmp.rm).mono ?_
    rintro e w' ⟨A, c, S, rfl, ho, hp, hs, hb⟩
    obtain rfl := inM_eq HI.out.g.uq hM.perm hp hs
    exact ⟨A, c, rfl, ho, hb⟩
   have HSM : Hid (∀ p ∈ inM m z, NameOk p.n ∧ dataM m p.n = some (blkOf m p) ∧ (blkOf m p).length = sh.bl ∧ ∀ x ∈ blkOf m p, ByteOk x) := fun p hp => by
    have hm := (inM_mem hp).1
    have hd := data_of HI.out.g hm
    have ha := HI.out.g.at_ p hm
    have hpt := HZB.out p.z.toNat (by have := HI.out.g.pl; omega)
    exact ⟨HNM.out p hm, hd.1, hpt.len _ hd.2, hpt.byt _ hd.2⟩
   have HSL : Hid ((inM m z).length <= sh.zb) := up_last (inM_up HI.out.g.uq z) (fun p hp => (HI.out.g.at_ p (inM_mem hp).1).2.2.1) (fun p hp => by
    have ha := HI.out.g.at_ p (inM_mem hp).1
    have hpt := (HZB.out p.z.toNat (by have := HI.out.g.pl; omega)).fit
    omega)
   obtain ⟨T, hT⟩ : ∃ T, putsOf m (inM m z) = T := ⟨_, rfl⟩
   obtain ⟨S, hS⟩ : ∃ S, inM m z = S := ⟨_, rfl⟩
   have HTS := Lib.hid hT
   have HIS := Lib.hid hS
   rw [hS] at HIN HSM HSL HTS
   clear hT hS HZB
   have hSz : S.length <= 100000 := by have h1 := HSL.out; have h2 := HOK.out.2; omega
   go_wp2_with (fail)
   refine HIN.out.mono ?_
   rintro e w3 ⟨A3, c3, rfl, ho3, hb3⟩
   have HS3 := Lib.hid (HS2.out.below hb3)
   have HB3 : Hid (Below w.heap.size w w3) := HB2.out.trans (hb3.mono HB2.out.size)
   have HO3 := Lib.hid ho3
   have H0 := Lib.hid (GpInv.start w3 T)
   have HTL : Hid (T.length = S.length) := by unfold Hid; rw [<- HTS.out, putsOf_length]
   clear ho3 hb3 HIN HS2 q2
   go_wp2_with (fail)
   go_loopw [5, 6] (fun l i wr => ∃ (j : Nat) (A : Option Addr) (c : Nat) (O : List Pc), j <= S.length ∧ l = .slice A j c ∧ i = .int .i64 j ∧ Hid (GpInv w3 wr T j A c O)) (fun _ i _ => S.length - (intOf i).toNat)
   case atStart => exact ⟨0, none, 0, [], Nat.zero_le _, rfl, rfl, H0⟩
   case round =>
    clear H0
    obtain ⟨j, A, c, O, hj, rfl, rfl, hr⟩ := hrel
    by_cases hlt : j < S.length
    · have HLT := Lib.hid hlt
      obtain ⟨r, rfl, hpr⟩ := (HO3.out.below hr.out.low).row (by omega)
      have s0 := hpr.c0 j hlt
      have s1 := hpr.c1 j hlt
      obtain ⟨p, hp⟩ : ∃ p, S.getD j p0 = p := ⟨_, rfl⟩
      have hpm := HSM.out _ (getD_mem (d := p0) hlt)
      rw [hp] at s0 s1 hpm
      have HPM := Lib.hid hpm
      have HTP : Hid (T.getD j pv0 = ⟨p.t, p.b, false, blkOf m p⟩) := by
       unfold Hid
       rw [<- HTS.out, <- hp]
       unfold putsOf
       rw [List.getD_eq_getElem?_getD, List.getElem?_map, List.getD_eq_getElem?_getD, List.getElem?_eq_getElem hlt]
       rfl
      have HR := Lib.hid hr.out
      have HG : Hid (Calls Tryz.prog 17 #[.pointer (some ⟨Q.r, 0, none⟩), .int .u32 p.t, .int .u64 p.b] wr.drew (Got sh m (p.t, p.b) wr.drew)) :=
       qsget_any Y _ Q sh n m (p.t, p.b) HI.out.g (HS3.out.below hr.out.low).drew
      have ks : wr.cell? ⟨r, j * 4, none⟩ = some (.int .u32 p.t) ∧ wr.cell? ⟨r, j * 4 + 1, none⟩ = some (.int .u64 p.b) := ⟨s0, s1⟩
      have hji : (j : Int) < S.length := by omega
      clear hpr hp hpm hr s0 s1
      go_wp2_with (fail)
      go_region_held3 (fun u => u.cell? ⟨r, j * 4, none⟩ = some (.int .u32 p.t) ∧ u.cell? ⟨r, j * 4 + 1, none⟩ = some (.int .u64 p.b))
        (first | exact ks | exact ks2)
        (first
          | (go_at_call 17
             with_reducible refine HG.out.mono ?_
             rintro e w5 hgot
             obtain ⟨A5, c5, rfl, hrow, hlen⟩ := hgot.2.1 _ HPM.out.2.1
             have hb5 : Below wr.heap.size wr w5 := (Below.refl _ wr).drew.trans hgot.2.2
             have ks2 : w5.cell? ⟨r, j * 4, none⟩ = some (.int .u32 p.t) ∧ w5.cell? ⟨r, j * 4 + 1, none⟩ = some (.int .u64 p.b) := ⟨below_keep hb5 ks.1, below_keep hb5 ks.2⟩
             have H5 := Lib.hid (And.intro hb5 hrow)
             clear hgot hb5 hrow hlen))
      all_goals
       obtain ⟨z0, z1⟩ := ks2
       clear ks HG
       go_wp2_with (fail)
       refine wp_region_relE (n := 14) (fun i v w => match i with | 0 => (v = .slice A j c) | 1 => (v = .slice (some ⟨r, 0, none⟩) S.length c3) | 2 => (v = .int .i64 (j : Int)) | 3 => (v = .pointer (some ⟨r, j * 4, none⟩)) | 4 => (v = .pointer (some ⟨r, j * 4, none⟩)) | 5 => (v = .int .u32 p.t) | 6 => (v = .slice (some ⟨r, 0, none⟩) S.length c3) | 7 => (v = .int .i64 (j : Int)) | 8 => (v = .pointer (some ⟨r, j * 4, none⟩)) | 9 => (v = .pointer (some ⟨r, j * 4 + 1, none⟩)) | 10 => (v = .int .u64 p.b) | 11 => (v = .slice A5 sh.bl c5) | 12 => (v = .agg #[.int .u32 p.t, .int .u64 p.b, .bool false, .slice A5 sh.bl c5]) | 13 => (∃ g, v = .slice (some ⟨g, 0, none⟩) 1 1 ∧ Blk w g 42 #[.int .u32 p.t, .int .u64 p.b, .bool false, .slice A5 sh.bl c5]) | _ => False) (by kernel_rfl) (by kernel_rfl) (by decide) (by kernel_rfl) ?st ?op ?fin
       case st =>
        intro i v w w' h hb
        match i, h with
        | 0, h => exact h
        | 1, h => exact h
        | 2, h => exact h
        | 3, h => exact h
        | 4, h => exact h
        | 5, h => exact h
        | 6, h => exact h
        | 7, h => exact h
        | 8, h => exact h
        | 9, h => exact h
        | 10, h => exact h
        | 11, h => exact h
        | 12, h => exact h
        | 13, h => obtain ⟨g, e, h2⟩ := h; exact ⟨g, e, h2.below hb h2.lt⟩
        | _ + 14, h => exact h.elim
       case op =>
        refine ⟨?_, ?_, ?_, ?_, ?_, ?_, ?_, ?_, ?_, ?_, ?_, ?_, ?_, ?_, trivial⟩
        · intro a w hb hd hn K hK
          exact st_if (wanted_none rfl) (st_move (.inl rfl) (ev ((hn 5 (by kernel_rfl)).trans rfl)) (hK _ _ rfl (Below.refl _ _)))
        · intro a w hb hd hn K hK
          exact st_if (wanted_none rfl) (st_move (.inl rfl) (ev ((hn 4 (by kernel_rfl)).trans rfl)) (hK _ _ rfl (Below.refl _ _)))
        · intro a w hb hd hn K hK
          exact st_if (wanted_none rfl) (st_move (.inl rfl) (ev ((hn 6 (by kernel_rfl)).trans rfl)) (hK _ _ rfl (Below.refl _ _)))
        · intro a w hb hd hn K hK
          obtain ⟨_, e43, rfl⟩ := hd 1 43 (by kernel_rfl) (by kernel_rfl)
          obtain ⟨_, e44, rfl⟩ := hd 2 44 (by kernel_rfl) (by kernel_rfl)
          exact st_if (wanted_none rfl) (st_index rfl (ev e43) (ev e44) (by go_simp; try rfl) (hK _ _ rfl (Below.refl _ _)))
        · intro a w hb hd hn K hK
          obtain ⟨_, e45, rfl⟩ := hd 3 45 (by kernel_rfl) (by kernel_rfl)
          exact st_if (wanted_none rfl) (st_field rfl (ev e45) (by go_simp; try rfl) (hK _ _ rfl (Below.refl _ _)))
        · intro a w hb hd hn K hK
          obtain ⟨_, e46, rfl⟩ := hd 4 46 (by kernel_rfl) (by kernel_rfl)
          have hc := below_keep hb z0
          exact st_if (wanted_none rfl) (st_load rfl (ev e46) (by go_simp) (hK _ _ rfl (Below.refl _ _)))
        · intro a w hb hd hn K hK
          exact st_if (wanted_none rfl) (st_move (.inl rfl) (ev ((hn 4 (by kernel_rfl)).trans rfl)) (hK _ _ rfl (Below.refl _ _)))
        · intro a w hb hd hn K hK
          exact st_if (wanted_none rfl) (st_move (.inl rfl) (ev ((hn 6 (by kernel_rfl)).trans rfl)) (hK _ _ rfl (Below.refl _ _)))
        · intro a w hb hd hn K hK
          obtain ⟨_, e48, rfl⟩ := hd 6 48 (by kernel_rfl) (by kernel_rfl)
          obtain ⟨_, e49, rfl⟩ := hd 7 49 (by kernel_rfl) (by kernel_rfl)
          exact st_if (wanted_none rfl) (st_index rfl (ev e48) (ev e49) (by go_simp; try rfl) (hK _ _ rfl (Below.refl _ _)))
        · intro a w hb hd hn K hK
          obtain ⟨_, e50, rfl⟩ := hd 8 50 (by kernel_rfl) (by kernel_rfl)
          exact st_if (wanted_none rfl) (st_field rfl (ev e50) (by go_simp; try rfl) (hK _ _ rfl (Below.refl _ _)))
        · intro a w hb hd hn K hK
          obtain ⟨_, e51, rfl⟩ := hd 9 51 (by kernel_rfl) (by kernel_rfl)
          have hc := below_keep hb z1
          exact st_if (wanted_none rfl) (st_load rfl (ev e51) (by go_simp) (hK _ _ rfl (Below.refl _ _)))
        · intro a w hb hd hn K hK
          exact st_if (wanted_none rfl) (st_move (.inl rfl) (ev ((hn 7 (by kernel_rfl)).trans rfl)) (hK _ _ rfl (Below.refl _ _)))
        · intro a w hb hd hn K hK
          obtain ⟨_, e47, rfl⟩ := hd 5 47 (by kernel_rfl) (by kernel_rfl)
          obtain ⟨_, e52, rfl⟩ := hd 10 52 (by kernel_rfl) (by kernel_rfl)
          obtain ⟨_, e53, rfl⟩ := hd 11 53 (by kernel_rfl) (by kernel_rfl)
          refine st_if (wanted_none rfl) (st_mk rfl (show _ = #[(0, Value.int .u32 p.t), (1, Value.int .u64 p.b), (3, Value.slice A5 sh.bl c5)] by simp only [List.map_toArray, List.map_cons, List.map_nil, ev e47, ev e52, ev e53]) (v := .agg #[.int .u32 p.t, .int .u64 p.b, .bool false, .slice A5 sh.bl c5]) (by go_simp; try rfl) (hK _ _ rfl (Below.refl _ _)))
        · intro a w hb hd hn K hK
          obtain ⟨_, e54, rfl⟩ := hd 12 54 (by kernel_rfl) (by kernel_rfl)
          refine st_if (wanted_none rfl) (st_build rfl (show _ = #[(0, (.agg #[.int .u32 p.t, .int .u64 p.b, .bool false, .slice A5 sh.bl c5] : Value))] by simp only [List.map_toArray, List.map_cons, List.map_nil, ev e54]) (w' := w.alloc (.cells #[.int .u32 p.t, .int .u64 p.b, .bool false, .slice A5 sh.bl c5] 42)) (v := .slice (some ⟨w.heap.size, 0, none⟩) 1 1) (by go_simp; try rfl) (hK _ _ ⟨_, rfl, Blk.new w 42 #[.int .u32 p.t, .int .u64 p.b, .bool false, .slice A5 sh.bl c5]⟩ ((Below.refl _ w).alloc (Nat.le_refl _) _)))
       case fin =>
        intro vs a w' ha hb hR
        rw [partA_fold, show pairsOf _ _ _ = [(42, 0), (43, 1), (44, 2), (45, 3), (46, 4), (47, 5), (48, 6), (49, 7), (50, 8), (51, 9), (52, 10), (53, 11), (54, 12), (55, 13)] from by kernel_rfl] at ha
        have q0 : vs 0 = .slice A j c := hR 0 (by decide)
        have q1 : vs 1 = .slice (some ⟨r, 0, none⟩) S.length c3 := hR 1 (by decide)
        have q2 : vs 2 = .int .i64 (j : Int) := hR 2 (by decide)
        have q3 : vs 3 = .pointer (some ⟨r, j * 4, none⟩) := hR 3 (by decide)
        have q4 : vs 4 = .pointer (some ⟨r, j * 4, none⟩) := hR 4 (by decide)
        have q5 : vs 5 = .int .u32 p.t := hR 5 (by decide)
        have q6 : vs 6 = .slice (some ⟨r, 0, none⟩) S.length c3 := hR 6 (by decide)
        have q7 : vs 7 = .int .i64 (j : Int) := hR 7 (by decide)
        have q8 : vs 8 = .pointer (some ⟨r, j * 4, none⟩) := hR 8 (by decide)
        have q9 : vs 9 = .pointer (some ⟨r, j * 4 + 1, none⟩) := hR 9 (by decide)
        have q10 : vs 10 = .int .u64 p.b := hR 10 (by decide)
        have q11 : vs 11 = .slice A5 sh.bl c5 := hR 11 (by decide)
        have q12 : vs 12 = .agg #[.int .u32 p.t, .int .u64 p.b, .bool false, .slice A5 sh.bl c5] := hR 12 (by decide)
        obtain ⟨g13, q13, k13⟩ := hR 13 (by decide)
        simp only [List.foldl_cons, List.foldl_nil, q0, q1, q2, q3, q4, q5, q6, q7, q8, q9, q10, q11, q12, q13] at ha
        subst ha
        clear hR q0 q1 q2 q3 q4 q5 q6 q7 q8 q9 q10 q11 q12 q13
        have h5 := H5.out.2.below hb (Nat.le_refl _)
        have hb5 : Below wr.heap.size wr w' := H5.out.1.trans (hb.mono H5.out.1.size)
        obtain ⟨A7, c7, w7, hap, hinv⟩ := HR.out.addG hb5 HTP.out (by rw [HTL.out]; exact HLT.out) (c5 := c5) (A5 := A5) (g := g13) (by simp only [HPM.out.2.2.1]; exact k13) h5.reads (brow_cap h5) (fun ad e h0 => by
         obtain ⟨g, e2, _⟩ := h5.at_ (k := 0) h0
         obtain rfl := Option.some.inj (e.symm.trans e2)
         subst e2
         exact (h5.lt (b := g) rfl).1) (by omega)
        have HNX := Lib.hid hinv
        clear h5 hb5 hinv hb k13 H5 HR z0 z1
        simp only [Act.put, List.setIfInBounds_toArray, List.set_cons_succ, List.set_cons_zero]
        refine wpList_append_run rfl (.tmp 42) (.tmp 55) _ rfl rfl rfl hap ?_
        clear hap
        go_wp2_with (fail)
        go_roundw
        case rel => exact ⟨j + 1, A7, c7, _, HLT.out, rfl, by go_num, HNX⟩
        case measure => have := HLT.out; simp [intOf]; omega
    · obtain rfl : j = S.length := by omega
      have hgi := hr.out
      rw [<- HTL.out] at hgi
      obtain ⟨hpu, hcp⟩ := hgi.puts
      have hbw : Below w.heap.size w wr := HB3.out.trans (hr.out.low.mono HB3.out.size)
      have hzb := HSL.out
      have htl := HTL.out
      have hnn := HN.out
      have hfc := HOK.out.2
      have HPU := Lib.hid (qsput_any Y (fun b => w3.heap.size <= b ∧ b < wr.heap.size) wr Q sh n m A c T (by omega) hcp hpu (fun b ht hx => by have h1 := HT.out b ht; have h2 := HB3.out.size; have h3 := hx.1; omega) (fun q hq => by
       rw [<- HTS.out] at hq
       obtain ⟨p, hp, rfl⟩ := List.mem_map.1 hq
       have h1 := HSM.out p hp
       exact ⟨h1.1, h1.2.2.2, by rw [h1.2.2.1]; omega⟩) HI.out (by omega) (HS3.out.below hr.out.low))
      rw [htl] at HPU
      obtain ⟨m1, hm1⟩ : ∃ m1, (putM sh m T).2 = m1 := ⟨_, rfl⟩
      obtain ⟨ee, hee⟩ : ∃ ee, (putM sh m T).1 = ee := ⟨_, rfl⟩
      have HI1 : Hid (Inv sh m1) := by unfold Hid; rw [<- hm1]; exact HI.out.put HOK.out.1 T
      rw [hm1, hee] at HPU
      have HNA : Hid (∀ p ∈ m1.L, NameOk p.n) := fun p hp => by
       rw [<- hm1] at hp
       rcases putM_names sh m T p hp with ⟨x, hx, e⟩ | h
       · rw [<- HTS.out] at hx
         obtain ⟨y, hy, rfl⟩ := List.mem_map.1 hx
         rw [e]
         exact (HSM.out y hy).1
       · exact HNM.out p h
      have HXX : Hid (∀ u m', QSto Y u Q sh (n + S.length) m' -> Kp Q.T wr u -> QSto Y u Q sh (n + sh.zb) m' ∧ Kp Q.T w u) := fun u m' h1 h2 =>
       ⟨h1.mono (by omega) (by omega), (Kp.of_below (S := Q.T) hbw).trans h2 (fun b _ h => h)⟩
      have hee0 : 0 <= ee ∧ ee <= 160 := by rw [<- hee]; exact putM_code sh m T
      have HST : Hid (stepM sh m = if ee ≠ 0 then (false, m1) else if (markM sh (flushM m1)).1 ≠ 0 then (false, (markM sh (flushM m1)).2) else clearM (markM sh (flushM m1)).2 z) := by
       unfold Hid stepM
       rw [HZ.out, if_neg (by omega), HIS.out, HTS.out, hm1, hee]
      clear hgi hpu hcp hbw hm1 hee hr HS3 HO3 HSM HTS HIS H HI HZ HT
      go_wp2_with (fail)
      refine HPU.out.mono ?_
      rintro e w6 ⟨rfl, hs6, hk6⟩
      have HS6 := Lib.hid (And.intro hs6 hk6)
      clear hs6 hk6 HPU
      by_cases he : ee = 0
      · subst he
        obtain ⟨m3, hm3⟩ : ∃ m3, (markM sh (flushM m1)).2 = m3 := ⟨_, rfl⟩
        obtain ⟨e3, he3⟩ : ∃ e3, (markM sh (flushM m1)).1 = e3 := ⟨_, rfl⟩
        have HST2 : Hid (stepM sh m = if e3 ≠ 0 then (false, m3) else clearM m3 z) := by
         have := HST.out
         rw [if_neg (by decide), hm3, he3] at this
         exact this
        have HI3 : Hid (Inv sh m3) := by unfold Hid; rw [<- hm3]; exact HI1.out.flush.1.mark.1
        have HMK := Lib.hid (fun u (hu : QSto Y u Q sh (n + S.length) (flushM m1)) => qsmark_any Y u Q sh _ (flushM m1) HI1.out.flush.1 HNA.out (by have := hu.len; omega) hu)
        unfold QMarked at HMK
        rw [hm3, he3] at HMK
        clear hm3 he3 HST
        go_wp2_with (fail)
        refine (qsflush_any Y w6 Q sh _ m1 HS6.out.1).mono ?_
        rintro e w7 ⟨rfl, hs7, hk7⟩
        have HS7 := Lib.hid (And.intro hs7 (HS6.out.2.trans hk7 (fun _ _ h => h)))
        clear hs7 hk7 HS6
        go_wp2_with (fail)
        refine (HMK.out w7 HS7.out.1).mono ?_
        rintro e w8 ⟨rfl, hs8, hk8⟩
        have HS8 := Lib.hid (And.intro hs8 (HS7.out.2.trans hk8 (fun _ _ h => h)))
        clear hs8 hk8 HS7 HMK
        by_cases he3 : e3 = 0
        · subst he3
          have HST3 : Hid (stepM sh m = clearM m3 z) := HST2.out.trans (if_neg (by decide))
          have HCL := Lib.hid (qsclear_any Y w8 Q sh _ m3 z HI3.out.g HS8.out.1)
          unfold QCleared at HCL
          clear HST2
          go_wp2_with (fail)
          refine HCL.out.mono ?_
          rintro e w9 ⟨rfl, hs9, hk9⟩
          have HE := Lib.hid (HXX.out w9 _ hs9 (HS8.out.2.trans hk9 (fun _ _ h => h)))
          clear hs9 hk9 HCL HS8
          go_wp2
          go_ret
          rw [HST3.out]
          exact ⟨rfl, HE.out.1, HE.out.2⟩
        · have HST3 : Hid (stepM sh m = (false, m3)) := HST2.out.trans (if_pos he3)
          have HE := Lib.hid (HXX.out w8 _ HS8.out.1 HS8.out.2)
          clear HST2 HS8
          go_wp2
          go_ret
          rw [HST3.out]
          exact ⟨rfl, HE.out.1, HE.out.2⟩
      · have HST2 : Hid (stepM sh m = (false, m1)) := HST.out.trans (if_pos he)
        have HE := Lib.hid (HXX.out w6 _ HS6.out.1 HS6.out.2)
        clear HST HS6
        go_wp2
        go_ret
        rw [HST2.out]
        exact ⟨rfl, HE.out.1, HE.out.2⟩
end Go.Proofs.YtfabgbmbnmbjkaaGreatDoor

/- Pruned. -/
namespace Go.Proofs.YtfabgbmbnmbjkaaGreatDoor
open Go.RowKit
set_option maxRecDepth 20000
def ksM : Nat -> StM
  | 0 => newM sh0 (P0 sh0)
  | i + 1 => (putM sh0 (ksM i) [kn2]).2
theorem ks_put : ((List.range 8).all fun i => decide ((putM sh0 (ksM i) [kn2]).1 = 0)) = true := by decide +kernel
theorem ks_pick : pickM sh0 (ksM 8) = 2 := by decide +kernel
def ksE : StM := (stepM sh0 (ksM 8)).2
theorem ks_step : (stepM sh0 (ksM 8)).1 = true := by decide +kernel
theorem ks_state : stateAt ksE.G 2 = 1 := by decide +kernel
theorem ks_len : (ksE.P.getD 1 pt0).bs.length = 1 := by decide +kernel
theorem ks_pick2 : pickM sh0 ksE = -1 := by decide +kernel
theorem ks_inv (hok : sh0.ok) (h : Good sh0 (newM sh0 (P0 sh0))) (i : Nat) : Inv sh0 (ksM i) := by
 induction i with
 | zero =>
   have hwk := Wk.new sh0 hok
   exact ⟨h, hwk.1, hwk.2, .inl rfl⟩
 | succ i ih => exact ih.put hok [kn2]
structure KsI (w wr : World) (F : StF) (n : Nat) (m : StM) : Prop where
  st : ∃ X : Nat -> Prop, (∀ b, b < w.heap.size -> X b) ∧ StoreIs X wr F sh0 n m
  low : Below w.heap.size w wr
set_option maxHeartbeats 4000000 in
theorem cknown_any (w : World) : Calls Tryz.prog 19 #[] w (Makes (.bool true) w) := by
 have HN := Lib.hid (snew_any 6 8 64 2 w (by omega) (by omega))
 go_enter Tryz.func19, Tryz.ntmps19
 go_wp2_with (fail)
 refine HN.out.mono ?_
 rintro e w1 ⟨hy, _, hb1⟩
 obtain ⟨F, sh, e1, e2, e3, e4, rfl, hst, hown, hgood⟩ := hy (by decide)
 have hsh : sh = sh0 := by
  obtain ⟨a, b, c, d⟩ := sh
  simp only at e1 e2 e3 e4
  unfold sh0
  congr 1 <;> omega
 subst hsh
 have HIV := Lib.hid (fun i => ks_inv hst.dev.ok hgood i)
 have H0 : Hid (KsI w w1 F 0 (ksM 0)) := ⟨⟨_, fun b hb => hb, hst⟩, hb1⟩
 clear hy e1 e2 e3 e4 hst hown hgood hb1 HN
 go_wp2_with (fail)
 go_loopw [2] (fun i wr => ∃ k : Nat, k <= 8 ∧ i = .int .i64 k ∧ Hid (KsI w wr F (5 * k) (ksM k))) (fun i _ => 8 - (intOf i).toNat)
 case atStart => exact ⟨0, Nat.zero_le _, rfl, H0⟩
 case round =>
  clear H0
  obtain ⟨k, hk, rfl, hr⟩ := hrel
  by_cases hlt : k < 8
  · have HLT := Lib.hid hlt
    have hki : (k : Int) < 8 := by omega
    have HPUT : Hid (Calls Tryz.prog 39 #[.pointer (some ⟨F.s, 0, none⟩), .slice (some ⟨wr.heap.size, 0, none⟩) 1 1] (wr.alloc (.cells #[.int .u32 1, .int .u64 5, .bool true, .slice none 0 0] 42)) (fun e w' => e = .returned (.int .u16 0) ∧ KsI w w' F (5 * (k + 1)) (ksM (k + 1)))) := by
     obtain ⟨X, hX, hst⟩ := hr.out.st
     have hb2 : Below wr.heap.size wr (wr.alloc (.cells #[.int .u32 1, .int .u64 5, .bool true, .slice none 0 0] 42)) := (Below.refl _ _).alloc (Nat.le_refl _) _
     have hp := Blk.new wr 42 #[.int .u32 1, .int .u64 5, .bool true, .slice none 0 0]
     have hls := hr.out.low.size
     have hst6 := hst.step (X' := fun b => b < w.heap.size ∨ b = wr.heap.size) hb2 (fun b hx => by
      have hz : (wr.alloc (.cells #[.int .u32 1, .int .u64 5, .bool true, .slice none 0 0] 42)).heap.size = wr.heap.size + 1 := by simp
      rw [hz]
      rcases hx with h | h
      · exact ⟨by omega, .inl (hX b h)⟩
      · exact ⟨by omega, .inr (by omega)⟩)
     have hpa6 : PutsAt (fun b => b < w.heap.size ∨ b = wr.heap.size) (wr.alloc (.cells #[.int .u32 1, .int .u64 5, .bool true, .slice none 0 0] 42)) (some ⟨wr.heap.size, 0, none⟩) [kn2] := fun i hi => by
      obtain rfl : i = 0 := by simp at hi; omega
      refine ⟨_, none, 0, rfl, ?_⟩
      rw [add0, Nat.zero_mul]
      exact ⟨.inr rfl, hp.cell 0, hp.cell 1, hp.cell 2, hp.cell 3, Reads.none_, (fun ad e _ => by cases e), Nat.le_refl _⟩
     have hv : ∀ p ∈ [kn2], PvOk p := fun p hp => by
      obtain rfl := List.mem_singleton.1 hp
      exact ⟨by unfold NameOk kn2 Pv.n; decide, (fun x hx => by cases hx), by simp [kn2]⟩
     have h0 : (putM sh0 (ksM k) [kn2]).1 = 0 := by simpa using List.all_eq_true.1 ks_put k (List.mem_range.2 hlt)
     refine (put_any _ _ F sh0 (5 * k) (ksM k) _ 1 [kn2] (by simp) (by simp) hpa6 hv (HIV.out k).g (by simp; omega) hst6).mono ?_
     rintro e w' ⟨rfl, hs, hk'⟩
     refine ⟨by rw [h0], ⟨⟨fun b => b < w.heap.size ∨ b = wr.heap.size, fun b hb => Or.inl hb, ?_⟩, ?_⟩⟩
     · rw [show 5 * (k + 1) = 5 * k + 5 * [kn2].length by simp; omega]
       exact hs
     · exact Kp.below (hr.out.low.trans (hb2.mono hls)) hk' (Nat.le_trans hls hb2.size) (fun b hb h => h (.inl hb))
    clear hr
    go_wp2_with (fail)
    refine HPUT.out.mono ?_
    rintro e w5 ⟨rfl, h5⟩
    have H5 := Lib.hid h5
    clear h5 HPUT
    go_wp2_with (fail)
    go_roundw
    case rel => exact ⟨k + 1, by omega, by go_num, H5⟩
    case measure => simp [intOf]; omega
  · obtain rfl : k = 8 := by omega
    obtain ⟨X, hX, hst⟩ := hr.out.st
    have hlow := hr.out.low
    have HP := cpick_any X wr F sh0 _ (ksM 8) (HIV.out 8).g hst
    rw [ks_pick] at HP
    have HST := Lib.hid (And.intro hX (And.intro hst hlow))
    have HP := Lib.hid HP
    clear hr hX hst hlow
    go_wp2_with (fail)
    refine HP.out.mono ?_
    rintro e w2 ⟨rfl, hb2⟩
    have hcs := cstep_any X w2 F sh0 _ (ksM 8) (HIV.out 8) (HST.out.2.1.below hb2) (by decide)
    unfold Stepped at hcs
    rw [ks_step, show (stepM sh0 (ksM 8)).2 = ksE from rfl] at hcs
    have HCS := Lib.hid hcs
    have HB2 : Hid (Below w.heap.size w w2) := HST.out.2.2.trans (hb2.mono HST.out.2.2.size)
    have HIE : Hid (Inv sh0 ksE) := (HIV.out 8).step HST.out.2.1.dev.ok
    clear hcs hb2 HP
    go_wp2_with (fail)
    refine HCS.out.mono ?_
    rintro e w3 ⟨rfl, hs3, hk3⟩
    have HS3 : Hid (StoreIs X w3 F sh0 (5 * 8 + 5 * sh0.zb) ksE ∧ Below w.heap.size w w3) := ⟨hs3, Kp.below HB2.out hk3 HB2.out.size (fun b hb h => h (HST.out.1 b hb))⟩
    clear hs3 hk3 HCS
    go_wp2_with (fail)
    refine (dev_any _ w3 F sh0 _ ksE HS3.out.1).mono ?_
    rintro e u ⟨rfl, rfl⟩
    have hat := zat_any _ w3 F.d sh0 ksE.P 1 (by rw [HS3.out.1.dev.sz]; decide) HS3.out.1.dev
    rw [ks_len] at hat
    have HAT := Lib.hid hat
    clear hat
    go_wp2_with (fail)
    refine HAT.out.mono ?_
    rintro e w4 ⟨rfl, hb4⟩
    have HS4 := Lib.hid (And.intro (HS3.out.1.below hb4) (HS3.out.2.trans (hb4.mono HS3.out.2.size)))
    clear hb4 HAT
    have HSE := Lib.hid (state_any F.g F.gb ksE.G sh0.rs _ 2 w4 HS4.out.1.seg.1)
    rw [ks_state] at HSE
    have HP2 := cpick_any X w4 F sh0 _ ksE HIE.out.g HS4.out.1
    rw [ks_pick2] at HP2
    have HP2 := Lib.hid HP2
    go_wp2_with (fail)
    refine (sseg_any _ w4 F sh0 _ ksE HS4.out.1).mono ?_
    rintro e u ⟨rfl, rfl⟩
    go_wp2_with (fail)
    refine HSE.out.mono ?_
    rintro e u ⟨rfl, rfl⟩
    go_wp2_with (fail)
    refine HP2.out.mono ?_
    rintro e w5 ⟨rfl, hb5⟩
    have HE : Hid (Below w.heap.size w w5) := HS4.out.2.trans (hb5.mono HS4.out.2.size)
    clear hb5
    go_wp2
    go_ret
    exact ⟨rfl, HE.out⟩
end Go.Proofs.YtfabgbmbnmbjkaaGreatDoor

/- Pruned. -/
namespace Go.Proofs.YtfabgbmbnmbjkaaGreatDoor
open Go.RowKit
set_option maxRecDepth 20000
theorem DoS.base {w w1 wr : World} {F : StF} {Q : QF} {sh : Sh} {k : Nat} {m : StM} (h : DoS w1 wr F Q sh k m) (hb : Below w.heap.size w w1) : DoS w wr F Q sh k m := by
 obtain ⟨Ya, h1, h2, h3⟩ := h.st
 exact ⟨⟨Ya, h1, fun b hy => Nat.le_trans hb.size (h2 b hy), fun b hq => Nat.le_trans hb.size (h3 b hq)⟩, h.inv, hb.trans (h.low.mono hb.size)⟩
def BothR (w : World) (z zb bl rs : Int) (k : Nat) (e : Ending) (w' : World) : Prop :=
 Below w.heap.size w w' ∧ ((rightB z zb bl rs = false ∧ e = .returned (.tuple #[.pointer none, .pointer none])) ∨ (rightB z zb bl rs = true ∧ ∃ (F : StF) (Q : QF) (sh : Sh) (m : StM), z = sh.z ∧ zb = sh.zb ∧ bl = sh.bl ∧ rs = sh.rs ∧ e = .returned (.tuple #[.pointer (some ⟨F.s, 0, none⟩), .pointer (some ⟨Q.r, 0, none⟩)]) ∧ DoS w w' F Q sh k m))
set_option maxHeartbeats 4000000 in
theorem both_any (w : World) (z zb bl rs : Int) (hz : -9223372036854775808 <= z ∧ z <= 9223372036854775807) (hb : -9223372036854775808 <= bl ∧ bl <= 9223372036854775807) (X : Nat -> Prop) (hX : ∀ b, X b -> b < w.heap.size) (A : Option Addr) (c : Nat) (l : List Opv) (hp : SOpsAt X w A l) (hv : ∀ o ∈ l, OpIn o) (hh : heavysM z zb bl l = false) :
    Calls Tryz.prog 20 #[.agg #[.int .i64 z, .int .i64 zb, .int .i64 bl, .int .i64 rs], .slice A l.length c] w (BothR w z zb bl rs l.length) := by
 have HNW := Lib.hid (fun u => snew_any z zb bl rs u hz hb)
 have HQW := Lib.hid (fun u => qsnew_any z zb bl rs u hz)
 have HV := Lib.hid hv
 have HXX := Lib.hid hX
 have HSB := Lib.hid (Blk.new w 23 #[.int .i64 z, .int .i64 zb, .int .i64 bl, .int .i64 rs])
 have HBW : Hid (Below w.heap.size w (w.alloc (.cells #[.int .i64 z, .int .i64 zb, .int .i64 bl, .int .i64 rs] 23))) := (Below.refl _ _).alloc (Nat.le_refl _) _
 have HP := Lib.hid (hp.below HBW.out)
 have HHV := Lib.hid hh
 clear hp hv hz hb hh hX
 have s0 : (w.alloc (.cells #[.int .i64 z, .int .i64 zb, .int .i64 bl, .int .i64 rs] 23)).cell? ⟨w.heap.size, 0, none⟩ = some (.int .i64 z) := HSB.out.cell 0
 have s1 : (w.alloc (.cells #[.int .i64 z, .int .i64 zb, .int .i64 bl, .int .i64 rs] 23)).cell? ⟨w.heap.size, 1, none⟩ = some (.int .i64 zb) := HSB.out.cell 1
 have s2 : (w.alloc (.cells #[.int .i64 z, .int .i64 zb, .int .i64 bl, .int .i64 rs] 23)).cell? ⟨w.heap.size, 2, none⟩ = some (.int .i64 bl) := HSB.out.cell 2
 have s3 : (w.alloc (.cells #[.int .i64 z, .int .i64 zb, .int .i64 bl, .int .i64 rs] 23)).cell? ⟨w.heap.size, 3, none⟩ = some (.int .i64 rs) := HSB.out.cell 3
 go_enter Tryz.func20, Tryz.ntmps20
 go_wp2_with (fail)
 generalize w.alloc (.cells #[.int .i64 z, .int .i64 zb, .int .i64 bl, .int .i64 rs] 23) = w1 at *
 refine (HNW.out w1).mono ?_
 rintro e w4 ⟨hy, hn, hb4⟩
 have HB4 : Hid (Below w1.heap.size w1 w4) := hb4
 have hsb := HSB.out.below HB4.out HSB.out.lt
 have s0 : w4.cell? ⟨w.heap.size, 0, none⟩ = some (.int .i64 z) := hsb.cell 0
 have s1 : w4.cell? ⟨w.heap.size, 1, none⟩ = some (.int .i64 zb) := hsb.cell 1
 have s2 : w4.cell? ⟨w.heap.size, 2, none⟩ = some (.int .i64 bl) := hsb.cell 2
 have s3 : w4.cell? ⟨w.heap.size, 3, none⟩ = some (.int .i64 rs) := hsb.cell 3
 have HY := Lib.hid hy
 have HN := Lib.hid hn
 clear hb4 hsb hy hn
 cases hr : rightB z zb bl rs with
 | false =>
   obtain rfl := HN.out hr
   go_wp2_with (fail)
   refine (HQW.out w4).mono ?_
   rintro e w5 ⟨_, hn5, hb5⟩
   obtain rfl := hn5 hr
   have HE : Hid (Below w.heap.size w w5) := HBW.out.trans ((HB4.out.trans (hb5.mono HB4.out.size)).mono HBW.out.size)
   have HR := Lib.hid hr
   clear hr hb5 hn5 s0 s1 s2 s3 HB4 HNW HQW HSB HP HY HN
   go_wp2_with (fail)
   go_loopw [8] (fun i wr => i = .int .i64 0 ∧ Hid (Below w.heap.size w wr)) (fun _ _ => 0)
   case atStart => exact ⟨rfl, HE⟩
   case round =>
    obtain ⟨rfl, hr⟩ := hrel
    clear HE
    by_cases hl0 : 0 < l.length
    · have hl1 : (0 : Int) < (l.length : Nat) := by omega
      go_wp2
      go_ret2
      exact ⟨hr.out, .inl ⟨HR.out, rfl⟩⟩
    · have hl1 : ¬ (0 : Int) < (l.length : Nat) := by omega
      go_wp2
      go_ret2
      exact ⟨hr.out, .inl ⟨HR.out, rfl⟩⟩
 | true =>
   obtain ⟨F, sh, rfl, rfl, rfl, rfl, rfl, hst, hown, hgood⟩ := HY.out hr
   have HST := Lib.hid (And.intro hst hown)
   have hok := hst.dev.ok
   have hfa := hok.facts
   have HOK := Lib.hid (And.intro hok hfa)
   have HR := Lib.hid hr
   clear hr hst hown hok
   go_wp2_with (fail)
   refine (HQW.out w4).mono ?_
   rintro e w5 ⟨hy5, _, hb5⟩
   obtain ⟨Q, sh', e1, e2, e3, e4, rfl, hT, hqs⟩ := hy5 HR.out
   obtain rfl : sh' = sh := by
    obtain ⟨a1, a2, a3, a4⟩ := sh
    obtain ⟨b1, b2, b3, b4⟩ := sh'
    simp only at e1 e2 e3 e4
    congr 1 <;> omega
   have HB5 : Hid (Below w1.heap.size w1 w5) := HB4.out.trans (hb5.mono HB4.out.size)
   have h4s : w1.heap.size <= w4.heap.size := HB4.out.size
   have h5s : w4.heap.size <= w5.heap.size := hb5.size
   have HS5 : Hid (DoS w1 w5 F Q sh' 0 (newM sh' (P0 sh'))) := by
    have hwk := Wk.new sh' HOK.out.1
    refine ⟨⟨fun b => w1.heap.size <= b ∧ b < w4.heap.size, ⟨HST.out.1.step hb5 (fun b hx => ⟨hx.1, ?_⟩), hqs.move (fun i hi hy => ⟨fun e => ?_, rfl⟩) (fun b hb e => ?_) (Nat.le_refl _), fun b hy => ?_⟩, fun b hy => ?_, fun b hT' => ?_⟩, ⟨hgood, hwk.1, hwk.2, .inl rfl⟩, HB5.out⟩
    · by_cases h : b < w4.heap.size
      · refine .inl ?_
        have h1 := hx.2
        show b < w1.heap.size
        omega
      · exact .inr (by omega)
    · have hy' : w4.heap.size <= i := hy
      omega
    · omega
    · omega
    · omega
    · have := hT b hT'
      omega
   have hll : l.length <= 40 := (heavys_false HHV.out).2.1
   clear hy5 hb5 hT hqs HST HNW HQW s0 s1 s2 s3 hgood HY HN e1 e2 e3 e4
   go_wp2_with (fail)
   go_loopw [8] (fun i wr => ∃ (k : Nat) (m : StM), k <= l.length ∧ i = .int .i64 k ∧ Hid (DoS w1 wr F Q sh' k m)) (fun i _ => l.length - (intOf i).toNat)
   case atStart => exact ⟨0, _, Nat.zero_le _, rfl, HS5⟩
   case round =>
    clear HS5
    obtain ⟨k, m, hk, rfl, hr⟩ := hrel
    by_cases hlt : k < l.length
    · have HLT := Lib.hid hlt
      have hlk : (k : Int) < (l.length : Nat) := by omega
      obtain ⟨ad, Ad, cd, rfl, hat⟩ := HP.out k hlt
      obtain ⟨o, ho⟩ : ∃ o, l.getD k op0 = o := ⟨_, rfl⟩
      have hol := (heavys_false HHV.out).2.2 _ (getD_mem (d := op0) hlt)
      have HOI := Lib.hid (HV.out _ (getD_mem (d := op0) hlt))
      rw [ho] at hat hol HOI
      have HOL := Lib.hid hol
      have hx1 : (ad.add (k * 3)).block < w1.heap.size := Nat.lt_of_lt_of_le (HXX.out _ hat.x) HBW.out.size
      have HCU : Hid (∀ u, Below w1.heap.size w1 u -> u.cell? (ad.add (k * 3)) = some (.int .u8 o.k) ∧ u.cell? ⟨(ad.add (k * 3)).block, (ad.add (k * 3)).off + 1, none⟩ = some (.slice Ad o.l.length cd) ∧ u.cell? ⟨(ad.add (k * 3)).block, (ad.add (k * 3)).off + 2, none⟩ = some (.int .i64 o.z)) := fun u hu =>
       ⟨(hu.cell (p := ad.add (k * 3)) hx1).trans hat.c0, (hu.cell (p := ⟨(ad.add (k * 3)).block, (ad.add (k * 3)).off + 1, none⟩) hx1).trans hat.c1, (hu.cell (p := ⟨(ad.add (k * 3)).block, (ad.add (k * 3)).off + 2, none⟩) hx1).trans hat.c2⟩
      have HPA : Hid (∀ u, Below w1.heap.size w1 u -> PutsAt (fun b => b < w1.heap.size) u Ad o.l) := fun u hu =>
       (hat.pa.more (fun b hb => Nat.lt_of_lt_of_le (HXX.out b hb) HBW.out.size)).kp (S := fun b => w1.heap.size <= b) ⟨hu.os, hu.tape, hu.output, hu.size, fun b hb hn => hu.block b (Nat.lt_of_not_le hn)⟩ (fun b h1 h2 => by omega)
      have HD : Hid (Calls Tryz.prog 14 #[.pointer (some ⟨F.s, 0, none⟩), .pointer (some ⟨Q.r, 0, none⟩), .agg #[.int .u8 o.k, .slice Ad o.l.length cd, .int .i64 o.z]] wr (fun e w' => e = .returned (.int .i64 1) ∧ DoS w1 w' F Q sh' (k + 1) (doM sh' m o))) := by
       obtain ⟨Ya, h1, h2, h3⟩ := hr.out.st
       have hsz := hr.out.low.size
       refine (Does_any Ya (fun b => b < w1.heap.size) wr F Q sh' (150 * k) (30 * k) m hr.out.inv h1 o HOI.out Ad cd (HPA.out wr hr.out.low) (fun b hb => ⟨by omega, fun e => by have := h2 b e; omega, fun e => by have := h3 b e; omega⟩) HOL.out.1 HOL.out.2 (by omega) (by omega)).mono ?_
       rintro e w' ⟨rfl, hw⟩
       exact ⟨rfl, DoS.went h2 h3 hr.out.low (hr.out.inv.call HOK.out.1 o) hw⟩
      obtain ⟨p0, p1, p2⟩ := HCU.out wr hr.out.low
      clear hat ho hol hx1 hr
      go_wp2_with (fail)
      refine HD.out.mono ?_
      rintro e w6 ⟨rfl, hd6⟩
      have HS6 := Lib.hid hd6
      clear hd6 HD p0 p1 p2
      go_wp2_with (fail)
      go_roundw
      case rel => exact ⟨k + 1, _, HLT.out, by go_num, HS6⟩
      case measure => have := HLT.out; simp [intOf]; omega
    · obtain rfl : k = l.length := by omega
      have HE := Lib.hid (hr.out.base HBW.out)
      have hlk : ¬ ((l.length : Nat) : Int) < (l.length : Nat) := by omega
      clear hr
      go_wp2
      go_ret2
      exact ⟨HE.out.low, .inr ⟨HR.out, F, Q, sh', m, rfl, rfl, rfl, rfl, rfl, HE.out⟩⟩
end Go.Proofs.YtfabgbmbnmbjkaaGreatDoor

/- Pruned. -/
namespace Go.Proofs.YtfabgbmbnmbjkaaGreatDoor
open Go.RowKit
set_option maxRecDepth 20000
structure ClS (w1 wr : World) (F : StF) (Q : QF) (sh : Sh) (n nq : Nat) (m : StM) : Prop where
  st : ∃ Ya : Nat -> Prop, BothS Ya wr F Q sh n nq m ∧ (∀ b, Ya b -> w1.heap.size <= b) ∧ ∀ b, Q.T b -> w1.heap.size <= b
  inv : Inv sh m
  low : Below w1.heap.size w1 wr
structure ClM (w1 wr : World) (F : StF) (Q : QF) (sh : Sh) (n nq : Nat) (m mq : StM) : Prop where
  st : ∃ Ya : Nat -> Prop, MidS Ya wr F Q sh n nq m mq ∧ (∀ b, Ya b -> w1.heap.size <= b) ∧ ∀ b, Q.T b -> w1.heap.size <= b
  inv : Inv sh m
  invq : Inv sh mq
  low : Below w1.heap.size w1 wr
structure ClP (w1 wr : World) (F : StF) (sh : Sh) (n : Nat) (m : StM) : Prop where
  st : ∃ X : Nat -> Prop, (∀ b, b < w1.heap.size -> X b) ∧ StoreIs X wr F sh n m
  inv : Inv sh m
  low : Below w1.heap.size w1 wr
section
variable {w1 wr wn : World} {F : StF} {Q : QF} {sh : Sh} {n nq k : Nat} {m mq : StM}
theorem DoS.cl (h : DoS w1 wr F Q sh k m) : ClS w1 wr F Q sh (150 * k) (30 * k) m := ⟨h.st, h.inv, h.low⟩
theorem ClS.below (h : ClS w1 wr F Q sh n nq m) (hb : Below wr.heap.size wr wn) : ClS w1 wn F Q sh n nq m := by
 obtain ⟨Ya, h1, h2⟩ := h.st
 exact ⟨⟨Ya, h1.below hb, h2⟩, h.inv, h.low.trans (hb.mono h.low.size)⟩
theorem ClS.p (h : ClS w1 wr F Q sh n nq m) : ClP w1 wr F sh n m := by
 obtain ⟨Ya, h1, h2, _⟩ := h.st
 refine ⟨⟨_, fun b hb => ⟨Nat.lt_of_lt_of_le hb h.low.size, fun hy => ?_⟩, h1.a⟩, h.inv, h.low⟩
 have := h2 b hy
 omega
theorem ClS.same (h : ClS w1 wr F Q sh n nq m) : Calls Tryz.prog 15 #[.pointer (some ⟨F.s, 0, none⟩), .pointer (some ⟨Q.r, 0, none⟩)] wr (fun e w' => e = .returned (.int .i64 1) ∧ ClS w1 w' F Q sh n nq m) := by
 obtain ⟨Ya, h1, h2⟩ := h.st
 refine (Same_any Ya wr F Q sh n nq m h.inv.g h1).mono ?_
 rintro e w' ⟨rfl, hb⟩
 exact ⟨rfl, h.below hb⟩
theorem ClS.names (h : ClS w1 wr F Q sh n nq m) : ∀ p ∈ m.L, NameOk p.n := fun p hp => by
 obtain ⟨Ya, h1, _⟩ := h.st
 exact (h1.a.lm.names p hp).1
end
theorem heavys_small {z zb bl : Int} {l : List Opv} (h : heavysM z zb bl l = false) : z <= 12 ∧ zb <= 16 ∧ bl <= 128 := by
 have h1 := (heavys_false h).1
 unfold smallB at h1
 simp only [Bool.and_eq_true, decide_eq_true_eq] at h1
 exact h1
end Go.Proofs.YtfabgbmbnmbjkaaGreatDoor

/- Pruned. -/
namespace Go.Proofs.YtfabgbmbnmbjkaaGreatDoor
open Go.RowKit
set_option maxRecDepth 20000
def runL (sh : Sh) : Nat -> StM -> Nat × StM
  | 0, m => (0, m)
  | f + 1, m => if frees m.G <= sh.rs then (if (stepM sh m).1 then ((runL sh f (stepM sh m).2).1 + 1, (runL sh f (stepM sh m).2).2) else (0, (stepM sh m).2)) else (0, m)
theorem stepM_names {sh : Sh} {m : StM} (h : ∀ p ∈ m.L, NameOk p.n) : ∀ p ∈ (stepM sh m).2.L, NameOk p.n := by
 have h1 : ∀ p ∈ (putM sh m (putsOf m (inM m (pickM sh m)))).2.L, NameOk p.n := fun p hp => by
  rcases putM_names sh m _ p hp with ⟨x, hx, e⟩ | hp
  · obtain ⟨y, hy, rfl⟩ := List.mem_map.1 hx
    rw [e]
    exact h y (inM_mem hy).1
  · exact h p hp
 have hmk : ∀ m' : StM, (markM sh m').2.L = m'.L := fun m' => by unfold markM; split <;> rfl
 have hcl : ∀ (m' : StM) (z : Int), (clearM m' z).2.L = m'.L := fun m' z => by unfold clearM; split <;> rfl
 unfold stepM
 split
 · exact h
 · split
   · exact h1
   · split
     · rw [hmk]; exact h1
     · rw [hcl, hmk]; exact h1
theorem Inv.run {sh : Sh} (hok : sh.ok) (f : Nat) {m : StM} (h : Inv sh m) : Inv sh (runL sh f m).2 := by
 induction f generalizing m with
 | zero => exact h
 | succ f ih =>
   unfold runL
   split
   · split
     · exact ih (h.step hok)
     · exact h.step hok
   · exact h
def RunAt (sh : Sh) (m0 : StM) (k f : Nat) (m : StM) : Prop := runL sh (k + f) m0 = (k + (runL sh f m).1, (runL sh f m).2)
theorem RunAt.next {sh : Sh} {m0 m : StM} {k f : Nat} (h : RunAt sh m0 k (f + 1) m) (hl : frees m.G <= sh.rs) (hs : (stepM sh m).1 = true) : RunAt sh m0 (k + 1) f (stepM sh m).2 := by
 unfold RunAt at *
 rw [show k + 1 + f = k + (f + 1) by omega, h]
 have e : runL sh (f + 1) m = ((runL sh f (stepM sh m).2).1 + 1, (runL sh f (stepM sh m).2).2) := by
  rw [show runL sh (f + 1) m = if frees m.G <= sh.rs then (if (stepM sh m).1 then ((runL sh f (stepM sh m).2).1 + 1, (runL sh f (stepM sh m).2).2) else (0, (stepM sh m).2)) else (0, m) from rfl, if_pos hl, if_pos hs]
 rw [e]
 simp only [Prod.mk.injEq, and_true]
 omega
theorem RunAt.stop {sh : Sh} {m0 m : StM} {k f : Nat} (h : RunAt sh m0 k (f + 1) m) (hl : frees m.G <= sh.rs) (hs : (stepM sh m).1 = false) : runL sh (k + (f + 1)) m0 = (k, (stepM sh m).2) := by
 unfold RunAt at h
 have e : runL sh (f + 1) m = (0, (stepM sh m).2) := by
  rw [show runL sh (f + 1) m = if frees m.G <= sh.rs then (if (stepM sh m).1 then ((runL sh f (stepM sh m).2).1 + 1, (runL sh f (stepM sh m).2).2) else (0, (stepM sh m).2)) else (0, m) from rfl, if_pos hl, if_neg (by rw [hs]; decide)]
 rw [h, e]
 rfl
theorem RunAt.high {sh : Sh} {m0 m : StM} {k f : Nat} (h : RunAt sh m0 k (f + 1) m) (hl : ¬ frees m.G <= sh.rs) : runL sh (k + (f + 1)) m0 = (k, m) := by
 unfold RunAt at h
 have e : runL sh (f + 1) m = (0, m) := by
  rw [show runL sh (f + 1) m = if frees m.G <= sh.rs then (if (stepM sh m).1 then ((runL sh f (stepM sh m).2).1 + 1, (runL sh f (stepM sh m).2).2) else (0, (stepM sh m).2)) else (0, m) from rfl, if_neg hl]
 rw [h, e]
 rfl
theorem RunAt.done {sh : Sh} {m0 m : StM} {k : Nat} (h : RunAt sh m0 k 0 m) : runL sh k m0 = (k, m) := h
theorem field_sh0 (a b c d : Int) (w : World) : (Instr.field 23 (.agg #[.int .i64 a, .int .i64 b, .int .i64 c, .int .i64 d]) 0).run Tryz.prog w = .ok (.int .i64 a) w := by kernel_rfl
def Ran (X : Nat -> Prop) (F : StF) (sh : Sh) (n : Nat) (r : Nat × StM) (w : World) (e : Ending) (w' : World) : Prop :=
 e = .returned (.int .i64 (r.1 : Int)) ∧ StoreIs X w' F sh n r.2 ∧ Kp (fun b => ¬ X b) w w'
set_option maxHeartbeats 4000000 in
theorem crun_any (X : Nat -> Prop) (w : World) (F : StF) (sh : Sh) (n : Nat) (m : StM) (hi : Inv sh m) (h : StoreIs X w F sh n m) (hz : sh.z <= 12) (hzb : sh.zb <= 16) (hn : n + 3840 <= 100000) :
    Calls Tryz.prog 35 #[.pointer (some ⟨F.s, 0, none⟩)] w (Ran X F sh (n + 3840) (runL sh (4 * sh.z) m) w) := by
 have hok := h.dev.ok
 have HN := Lib.hid (And.intro hz (And.intro hzb hn))
 have H0 : Hid (RunAt sh m 0 (4 * sh.z) m ∧ n <= n + 80 * 0 ∧ StoreIs X w F sh n m ∧ Kp (fun b => ¬ X b) w w ∧ Inv sh m) := ⟨by unfold RunAt; simp, by omega, h, Kp.refl _ _, hi⟩
 have HOK := Lib.hid hok
 clear h hi hok hn
 go_enter Tryz.func35, Tryz.ntmps35
 go_wp2_with (fail)
 go_loopw [3] (fun i wr => ∃ (k n1 f : Nat) (m1 : StM), k + f = 4 * sh.z ∧ i = .int .i64 k ∧ Hid (RunAt sh m k f m1 ∧ n1 <= n + 80 * k ∧ StoreIs X wr F sh n1 m1 ∧ Kp (fun b => ¬ X b) w wr ∧ Inv sh m1)) (fun i _ => 4 * sh.z - (intOf i).toNat)
 case atStart => exact ⟨0, n, 4 * sh.z, m, by omega, rfl, H0⟩
 case round =>
  clear H0
  obtain ⟨k, n1, f, m1, hk, rfl, hr⟩ := hrel
  have HSH := Lib.hid (shape_any _ wr F.d sh m1.P hr.out.2.2.1.dev)
  unfold shV at HSH
  have HDV := Lib.hid (dev_any X wr F sh n1 m1 hr.out.2.2.1)
  have hfl := field_sh0 sh.z sh.zb sh.bl sh.rs
  have hmw : IntKind.i64.wrap (4 * (sh.z : Int)) = 4 * (sh.z : Int) := by rw [IntKind.wrap_i64]; omega
  cases f with
  | zero =>
    have hkz : ¬ (k : Int) < 4 * (sh.z : Int) := by omega
    have hr2 := hr.out
    have HE : Hid (runL sh (4 * sh.z) m = (k, m1)) := by unfold Hid; rw [<- hk]; exact hr2.1.done
    have HE2 := Lib.hid (And.intro (hr2.2.2.1.mono (n' := n + 3840) (by have := hr2.2.1; have := HN.out; omega) (by have := HN.out; omega)) hr2.2.2.2.1)
    clear hr hr2
    go_wp2_with (fail)
    refine HDV.out.mono ?_
    rintro e u ⟨rfl, rfl⟩
    go_wp2_with (fail)
    refine HSH.out.mono ?_
    rintro e w2 ⟨rfl, hb2⟩
    have HE3 : Hid (StoreIs X w2 F sh (n + 3840) m1 ∧ Kp (fun b => ¬ X b) w w2) := ⟨HE2.out.1.below hb2, HE2.out.2.trans (Kp.of_below (S := fun b => ¬ X b) hb2) (fun _ _ h => h)⟩
    clear hb2 HE2 HDV HSH
    go_wp2
    go_ret
    rw [HE.out]
    exact ⟨rfl, HE3.out.1, HE3.out.2⟩
  | succ f =>
    have hkz : (k : Int) < 4 * (sh.z : Int) := by omega
    have HR := Lib.hid hr.out
    clear hr
    go_wp2_with (fail)
    refine HDV.out.mono ?_
    rintro e u ⟨rfl, rfl⟩
    go_wp2_with (fail)
    refine HSH.out.mono ?_
    rintro e w2 ⟨rfl, hb2⟩
    have HR2 : Hid (StoreIs X w2 F sh n1 m1 ∧ Kp (fun b => ¬ X b) w w2) := ⟨HR.out.2.2.1.below hb2, HR.out.2.2.2.1.trans (Kp.of_below (S := fun b => ¬ X b) hb2) (fun _ _ h => h)⟩
    clear hb2 HDV HSH
    go_wp2_with (fail)
    refine (slow_any X w2 F sh n1 m1 HR2.out.1).mono ?_
    rintro e w3 ⟨rfl, hb3⟩
    have HR3 : Hid (StoreIs X w3 F sh n1 m1 ∧ Kp (fun b => ¬ X b) w w3) := ⟨HR2.out.1.below hb3, HR2.out.2.trans (Kp.of_below (S := fun b => ¬ X b) hb3) (fun _ _ h => h)⟩
    clear hb3 HR2
    by_cases hlow : frees m1.G <= sh.rs
    · have HLO := Lib.hid hlow
      have hd : decide (frees m1.G <= (sh.rs : Int)) = true := decide_eq_true hlow
      have HST := Lib.hid (cstep_any X w3 F sh n1 m1 HR.out.2.2.2.2 HR3.out.1 (by have := HR.out.2.1; have := HN.out; omega))
      unfold Stepped at HST
      simp only [hd]
      clear hd hlow
      cases hs : (stepM sh m1).1 with
      | true =>
        rw [hs] at HST
        have HSS := Lib.hid hs
        clear hs
        go_wp2_with (fail)
        refine HST.out.mono ?_
        rintro e w4 ⟨rfl, hs4, hk4⟩
        have HNX : Hid (RunAt sh m (k + 1) f (stepM sh m1).2 ∧ n1 + 5 * sh.zb <= n + 80 * (k + 1) ∧ StoreIs X w4 F sh (n1 + 5 * sh.zb) (stepM sh m1).2 ∧ Kp (fun b => ¬ X b) w w4 ∧ Inv sh (stepM sh m1).2) :=
         ⟨HR.out.1.next HLO.out HSS.out, by have := HR.out.2.1; have := HN.out; omega, hs4, HR3.out.2.trans hk4 (fun _ _ h => h), HR.out.2.2.2.2.step HOK.out⟩
        clear hs4 hk4 HST HR HR3
        go_wp2_with (fail)
        go_roundw
        case rel => exact ⟨k + 1, _, f, _, by omega, by go_num, HNX⟩
        case measure => simp [intOf]; omega
      | false =>
        rw [hs] at HST
        have HE : Hid (runL sh (4 * sh.z) m = (k, (stepM sh m1).2)) := by unfold Hid; rw [<- hk]; exact HR.out.1.stop HLO.out hs
        clear hs
        go_wp2_with (fail)
        refine HST.out.mono ?_
        rintro e w4 ⟨rfl, hs4, hk4⟩
        have HE3 : Hid (StoreIs X w4 F sh (n + 3840) (stepM sh m1).2 ∧ Kp (fun b => ¬ X b) w w4) := ⟨hs4.mono (by have := HR.out.2.1; have := HN.out; omega) (by have := HN.out; omega), HR3.out.2.trans hk4 (fun _ _ h => h)⟩
        clear hs4 hk4 HST HR HR3
        go_wp2
        go_ret
        rw [HE.out]
        exact ⟨rfl, HE3.out.1, HE3.out.2⟩
    · have hd : decide (frees m1.G <= (sh.rs : Int)) = false := decide_eq_false hlow
      have HE : Hid (runL sh (4 * sh.z) m = (k, m1)) := by unfold Hid; rw [<- hk]; exact HR.out.1.high hlow
      have HE3 : Hid (StoreIs X w3 F sh (n + 3840) m1 ∧ Kp (fun b => ¬ X b) w w3) := ⟨HR3.out.1.mono (by have := HR.out.2.1; have := HN.out; omega) (by have := HN.out; omega), HR3.out.2⟩
      simp only [hd]
      clear hd hlow HR HR3
      go_wp2
      go_ret
      rw [HE.out]
      exact ⟨rfl, HE3.out.1, HE3.out.2⟩
def QRan (Y : Nat -> Prop) (Q : QF) (sh : Sh) (n : Nat) (r : Nat × StM) (w : World) (e : Ending) (w' : World) : Prop :=
 e = .returned (.int .i64 (r.1 : Int)) ∧ QSto Y w' Q sh n r.2 ∧ Kp Q.T w w'
set_option maxHeartbeats 4000000 in
theorem refrun_any (Y : Nat -> Prop) (w : World) (Q : QF) (sh : Sh) (n : Nat) (m : StM) (hi : Inv sh m) (hnm : ∀ p ∈ m.L, NameOk p.n) (h : QSto Y w Q sh n m) (hz : sh.z <= 12) (hzb : sh.zb <= 16) (hn : n + 768 <= 100000) :
    Calls Tryz.prog 36 #[.pointer (some ⟨Q.r, 0, none⟩)] w (QRan Y Q sh (n + 768) (runL sh (4 * sh.z) m) w) := by
 have hok := h.dev.ok
 have HN := Lib.hid (And.intro hz (And.intro hzb hn))
 have H0 : Hid (RunAt sh m 0 (4 * sh.z) m ∧ n <= n + 16 * 0 ∧ QSto Y w Q sh n m ∧ Kp Q.T w w ∧ Inv sh m ∧ ∀ p ∈ m.L, NameOk p.n) := ⟨by unfold RunAt; simp, by omega, h, Kp.refl _ _, hi, hnm⟩
 have HOK := Lib.hid hok
 clear h hi hok hn hnm
 go_enter Tryz.func36, Tryz.ntmps36
 go_wp2_with (fail)
 go_loopw [3] (fun i wr => ∃ (k n1 f : Nat) (m1 : StM), k + f = 4 * sh.z ∧ i = .int .i64 k ∧ Hid (RunAt sh m k f m1 ∧ n1 <= n + 16 * k ∧ QSto Y wr Q sh n1 m1 ∧ Kp Q.T w wr ∧ Inv sh m1 ∧ ∀ p ∈ m1.L, NameOk p.n)) (fun i _ => 4 * sh.z - (intOf i).toNat)
 case atStart => exact ⟨0, n, 4 * sh.z, m, by omega, rfl, H0⟩
 case round =>
  clear H0
  obtain ⟨k, n1, f, m1, hk, rfl, hr⟩ := hrel
  have q0 := hr.out.2.2.1.top.cell 0
  have d0 := hr.out.2.2.1.dev.top.cell 0
  have hmw : IntKind.i64.wrap (4 * (sh.z : Int)) = 4 * (sh.z : Int) := by rw [IntKind.wrap_i64]; omega
  cases f with
  | zero =>
    have hkz : ¬ (k : Int) < 4 * (sh.z : Int) := by omega
    have hr2 := hr.out
    have HE : Hid (runL sh (4 * sh.z) m = (k, m1)) := by unfold Hid; rw [<- hk]; exact hr2.1.done
    have HE2 := Lib.hid (And.intro (hr2.2.2.1.mono (n' := n + 768) (by have := hr2.2.1; have := HN.out; omega) (by have := HN.out; omega)) hr2.2.2.2.1)
    clear hr hr2
    go_wp2
    go_ret
    rw [HE.out]
    exact ⟨rfl, HE2.out.1, HE2.out.2⟩
  | succ f =>
    have hkz : (k : Int) < 4 * (sh.z : Int) := by omega
    have HR := Lib.hid hr.out
    clear hr
    go_wp2_with (fail)
    refine (qslow_any Y wr Q sh n1 m1 HR.out.2.2.1 HR.out.2.2.2.2.1.g.gl).mono ?_
    rintro e w3 ⟨rfl, hb3⟩
    have HR3 : Hid (QSto Y w3 Q sh n1 m1 ∧ Kp Q.T w w3) := ⟨HR.out.2.2.1.below hb3, HR.out.2.2.2.1.trans (Kp.of_below (S := Q.T) hb3) (fun _ _ h => h)⟩
    clear hb3 q0 d0
    by_cases hlow : frees m1.G <= sh.rs
    · have HLO := Lib.hid hlow
      have hd : decide (frees m1.G <= (sh.rs : Int)) = true := decide_eq_true hlow
      have HST := Lib.hid (refstep_any Y w3 Q sh n1 m1 HR.out.2.2.2.2.1 HR.out.2.2.2.2.2 HR3.out.1 (by have := HR.out.2.1; have := HN.out; omega))
      unfold QStepped at HST
      simp only [hd]
      clear hd hlow
      cases hs : (stepM sh m1).1 with
      | true =>
        rw [hs] at HST
        have HSS := Lib.hid hs
        clear hs
        go_wp2_with (fail)
        refine HST.out.mono ?_
        rintro e w4 ⟨rfl, hs4, hk4⟩
        have HNX : Hid (RunAt sh m (k + 1) f (stepM sh m1).2 ∧ n1 + sh.zb <= n + 16 * (k + 1) ∧ QSto Y w4 Q sh (n1 + sh.zb) (stepM sh m1).2 ∧ Kp Q.T w w4 ∧ Inv sh (stepM sh m1).2 ∧ ∀ p ∈ (stepM sh m1).2.L, NameOk p.n) :=
         ⟨HR.out.1.next HLO.out HSS.out, by have := HR.out.2.1; have := HN.out; omega, hs4, HR3.out.2.trans hk4 (fun _ _ h => h), HR.out.2.2.2.2.1.step HOK.out, stepM_names HR.out.2.2.2.2.2⟩
        clear hs4 hk4 HST HR HR3
        go_wp2_with (fail)
        go_roundw
        case rel => exact ⟨k + 1, _, f, _, by omega, by go_num, HNX⟩
        case measure => simp [intOf]; omega
      | false =>
        rw [hs] at HST
        have HE : Hid (runL sh (4 * sh.z) m = (k, (stepM sh m1).2)) := by unfold Hid; rw [<- hk]; exact HR.out.1.stop HLO.out hs
        clear hs
        go_wp2_with (fail)
        refine HST.out.mono ?_
        rintro e w4 ⟨rfl, hs4, hk4⟩
        have HE3 : Hid (QSto Y w4 Q sh (n + 768) (stepM sh m1).2 ∧ Kp Q.T w w4) := ⟨hs4.mono (by have := HR.out.2.1; have := HN.out; omega) (by have := HN.out; omega), HR3.out.2.trans hk4 (fun _ _ h => h)⟩
        clear hs4 hk4 HST HR HR3
        go_wp2
        go_ret
        rw [HE.out]
        exact ⟨rfl, HE3.out.1, HE3.out.2⟩
    · have hd : decide (frees m1.G <= (sh.rs : Int)) = false := decide_eq_false hlow
      have HE : Hid (runL sh (4 * sh.z) m = (k, m1)) := by unfold Hid; rw [<- hk]; exact HR.out.1.high hlow
      have HE3 : Hid (QSto Y w3 Q sh (n + 768) m1 ∧ Kp Q.T w w3) := ⟨HR3.out.1.mono (by have := HR.out.2.1; have := HN.out; omega) (by have := HN.out; omega), HR3.out.2⟩
      simp only [hd]
      clear hd hlow HR HR3
      go_wp2
      go_ret
      rw [HE.out]
      exact ⟨rfl, HE3.out.1, HE3.out.2⟩
end Go.Proofs.YtfabgbmbnmbjkaaGreatDoor

