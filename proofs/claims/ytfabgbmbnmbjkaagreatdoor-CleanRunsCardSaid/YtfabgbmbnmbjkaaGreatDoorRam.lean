/- Joined texts: Zn Re Zn2 Zn3 Zn4 Zn5. -/
import Derived.Test.YtfabgbmbnmbjkaaGreatDoorRal
import Derived.Deep.RegionLaw
import Derived.Deep.RegionHeld3
import Derived.StillTailTactics
import Derived.Handy
import Derived.Deep.CutRange
/- Pruned. -/
namespace Go.Proofs.YtfabgbmbnmbjkaaGreatDoor
open Go.RowKit
set_option maxRecDepth 20000
structure Sh where
  z : Nat
  zb : Nat
  bl : Nat
  rs : Nat
structure Sh.ok (s : Sh) : Prop where
  is : rightB s.z s.zb s.bl s.rs = true
def shV (s : Sh) : Value := .agg #[.int .i64 s.z, .int .i64 s.zb, .int .i64 s.bl, .int .i64 s.rs]
theorem Sh.ok.facts {s : Sh} (h : s.ok) : 6 <= s.z ∧ s.z <= 256 ∧ 8 <= s.zb ∧ s.zb <= 4096 ∧ (s.bl = 64 ∨ s.bl = 128 ∨ s.bl = 256 ∨ s.bl = 512 ∨ s.bl = 1024 ∨ s.bl = 2048 ∨ s.bl = 4096) ∧ 2 <= s.rs ∧ s.rs + 4 <= s.z := by
 have := of_decide_eq_true h.is
 omega
theorem Sh.ok.blk {s : Sh} (h : s.ok) : 64 <= s.bl ∧ s.bl <= 4096 := by have := h.facts; omega
theorem sh_of {z zb bl rs : Int} (h : rightB z zb bl rs = true) : ∃ s : Sh, z = s.z ∧ zb = s.zb ∧ bl = s.bl ∧ rs = s.rs ∧ s.ok := by
 have h1 := of_decide_eq_true h
 refine ⟨⟨z.toNat, zb.toNat, bl.toNat, rs.toNat⟩, ?_, ?_, ?_, ?_, ?_⟩
 · simp; omega
 · simp; omega
 · simp; omega
 · simp; omega
 · refine ⟨?_⟩
   rw [<- h]
   congr 1 <;> simp <;> omega
structure Part where
  bs : List (List Int)
  du : Nat
def pt0 : Part := ⟨[], 0⟩
def Part.by (p : Part) : List Int := p.bs.flatten
structure PartOk (s : Sh) (p : Part) : Prop where
  len : ∀ b ∈ p.bs, b.length = s.bl
  fit : p.bs.length <= s.zb
  du : p.du <= p.bs.length
  byt : ∀ b ∈ p.bs, ∀ x ∈ b, ByteOk x
theorem PartOk.zero (s : Sh) : PartOk s pt0 := ⟨(fun b hb => by cases hb), Nat.zero_le _, Nat.le_refl _, (fun b hb => by cases hb)⟩
theorem flatten_len {n : Nat} : ∀ {l : List (List Int)}, (∀ b ∈ l, b.length = n) -> l.flatten.length = l.length * n
  | [], _ => by simp
  | b :: r, h => by
    have := flatten_len (l := r) (fun x hx => h x (by simp [hx]))
    simp only [List.flatten_cons, List.length_append, List.length_cons]
    rw [this, h b (by simp), Nat.add_mul]
    omega
theorem PartOk.bylen {s : Sh} {p : Part} (h : PartOk s p) : p.by.length = p.bs.length * s.bl := flatten_len h.len
theorem PartOk.bymax {s : Sh} {p : Part} (h : PartOk s p) (hs : s.ok) : p.by.length <= 16777216 := by
 rw [h.bylen]
 have h1 := hs.facts
 have h2 := h.fit
 exact Nat.le_trans (Nat.mul_le_mul (show p.bs.length <= 4096 by omega) (show s.bl <= 4096 by omega)) (by omega)
theorem flatten_cut {n : Nat} : ∀ {l : List (List Int)} (k : Nat), (∀ b ∈ l, b.length = n) -> k < l.length -> (l.flatten.drop (k * n)).take n = l.getD k []
  | [], k, _, hk => by simp at hk
  | b :: r, 0, h, _ => by
    have := h b (by simp)
    simp [List.getD_eq_getElem?_getD, <- this]
  | b :: r, k + 1, h, hk => by
    have hb := h b (by simp)
    have ih := flatten_cut (l := r) k (fun x hx => h x (by simp [hx])) (by simpa using hk)
    rw [List.flatten_cons, Nat.add_mul, Nat.one_mul, Nat.add_comm, <- List.drop_drop, <- hb, List.drop_left, hb, ih]
    simp [List.getD_eq_getElem?_getD]
structure DevV (X : Nat -> Prop) (w : World) (d p : Nat) (V : Nat -> Value) (cs : Array Value) (s : Sh) (P : List Part) : Prop where
  top : Blk w d 130 #[.int .i64 s.z, .int .i64 s.zb, .int .i64 s.bl, .int .i64 s.rs, .slice (some ⟨p, 0, none⟩) P.length P.length]
  row : Blk w p 127 cs
  cz : cs.size = P.length * 2
  c0 : ∀ i, i < P.length -> cs[i * 2]? = some (V i)
  c1 : ∀ i, i < P.length -> cs[i * 2 + 1]? = some (.int .i64 (P.getD i pt0).du)
  own : ∀ i, i < P.length -> w.ownsRow 0 5 1 (V i) (P.getD i pt0).by.length (nums .u8 (P.getD i pt0).by)
  nx : ∀ i, i < P.length -> ∀ b, (V i).ownBlock = some b -> ¬ X b ∧ b ≠ d ∧ b ≠ p
  dj : ∀ i j, i < P.length -> j < P.length -> i ≠ j -> ∀ b, (V i).ownBlock = some b -> (V j).ownBlock ≠ some b
  xd : ¬ X d
  xp : ¬ X p
  cl : ∀ b, X b -> b < w.heap.size
  sz : P.length = s.z
  ok : s.ok
  fit : ∀ i, i < P.length -> PartOk s (P.getD i pt0)
def DevIs (X : Nat -> Prop) (w : World) (d : Nat) (s : Sh) (P : List Part) : Prop := ∃ p V cs, DevV X w d p V cs s P
theorem ownsRow_of_block {w w' : World} {base : Nat} {e : TypeId} {size : Nat} {v : Value} {n : Nat} {xs : List Value} (h : w.ownsRow base e size v n xs) (hb : ∀ b, v.ownBlock = some b -> w'.heap[b]? = w.heap[b]?) : w'.ownsRow base e size v n xs := by
 refine ⟨h.1, ?_⟩
 rcases h.2 with hn | ⟨g, cap, cur, rfl, hg, hh, rest⟩
 · exact .inl hn
 · exact .inr ⟨g, cap, cur, rfl, hg, (hb g rfl).trans hh, rest⟩
section
variable {X X' S : Nat -> Prop} {w w' : World} {d p : Nat} {V : Nat -> Value} {cs : Array Value} {s : Sh} {P : List Part}
theorem DevV.ne_ (h : DevV X w d p V cs s P) : d ≠ p := h.top.ne_ h.row (by decide)
theorem DevV.vlt (h : DevV X w d p V cs s P) {i : Nat} (hi : i < P.length) {b : Nat} (hb : (V i).ownBlock = some b) : b < w.heap.size := ((h.own i hi).lt b hb).2
theorem DevV.move (h : DevV X w d p V cs s P) (hb : ∀ b, b < w.heap.size -> ¬ X b -> w'.heap[b]? = w.heap[b]?) (hx : ∀ b, X' b -> b < w'.heap.size ∧ (X b ∨ w.heap.size <= b)) : DevV X' w' d p V cs s P := by
 have nn : ∀ b, b < w.heap.size -> ¬ X b -> ¬ X' b := fun b hb hn hx' => by
  rcases (hx b hx').2 with h1 | h1
  · exact hn h1
  · omega
 exact ⟨(hb d h.top.lt h.xd).trans h.top, (hb p h.row.lt h.xp).trans h.row, h.cz, h.c0, h.c1, fun i hi => ownsRow_of_block (h.own i hi) (fun b he => hb b (h.vlt hi he) (h.nx i hi b he).1),
   fun i hi b he => ⟨nn b (h.vlt hi he) (h.nx i hi b he).1, (h.nx i hi b he).2⟩, h.dj, nn d h.top.lt h.xd, nn p h.row.lt h.xp, fun b hx' => (hx b hx').1, h.sz, h.ok, h.fit⟩
theorem DevIs.move (h : DevIs X w d s P) (hb : ∀ b, b < w.heap.size -> ¬ X b -> w'.heap[b]? = w.heap[b]?) (hx : ∀ b, X' b -> b < w'.heap.size ∧ (X b ∨ w.heap.size <= b)) : DevIs X' w' d s P := by
 obtain ⟨p, V, cs, h⟩ := h
 exact ⟨p, V, cs, h.move hb hx⟩
theorem DevIs.cl (h : DevIs X w d s P) : ∀ b, X b -> b < w.heap.size := by
 obtain ⟨p, V, cs, h⟩ := h
 exact h.cl
theorem DevIs.below (h : DevIs X w d s P) (hb : Below w.heap.size w w') : DevIs X w' d s P :=
 h.move (fun b hlt _ => hb.block b hlt) (fun b hx => ⟨Nat.lt_of_lt_of_le (h.cl b hx) hb.size, .inl hx⟩)
theorem DevIs.kp (h : DevIs X w d s P) (hk : Kp S w w') (hs : ∀ b, S b -> X b) : DevIs X w' d s P :=
 h.move (fun b hlt hx => hk.block b hlt (fun hs' => hx (hs b hs'))) (fun b hx => ⟨Nat.lt_of_lt_of_le (h.cl b hx) hk.size, .inl hx⟩)
theorem DevIs.drew (h : DevIs X w d s P) : DevIs X w.drew d s P := h.below ⟨rfl, rfl, rfl, Nat.le_refl _, fun _ _ => rfl⟩
theorem DevIs.alloc (h : DevIs X w d s P) (o : Obj) : DevIs X (w.alloc o) d s P := h.below ((Below.refl _ _).alloc (Nat.le_refl _) o)
theorem DevIs.less (h : DevIs X w d s P) (hx : ∀ b, X' b -> X b) : DevIs X' w d s P := h.move (fun _ _ _ => rfl) (fun b hb => ⟨h.cl b (hx b hb), .inl (hx b hb)⟩)
theorem DevIs.ok (h : DevIs X w d s P) : s.ok := by
 obtain ⟨p, V, cs, h⟩ := h
 exact h.ok
theorem DevIs.sz (h : DevIs X w d s P) : P.length = s.z := by
 obtain ⟨p, V, cs, h⟩ := h
 exact h.sz
theorem DevIs.fit (h : DevIs X w d s P) {i : Nat} (hi : i < P.length) : PartOk s (P.getD i pt0) := by
 obtain ⟨p, V, cs, h⟩ := h
 exact h.fit i hi
theorem DevV.below (h : DevV X w d p V cs s P) (hb : Below w.heap.size w w') : DevV X w' d p V cs s P :=
 h.move (fun b hlt _ => hb.block b hlt) (fun b hx => ⟨Nat.lt_of_lt_of_le (h.cl b hx) hb.size, .inl hx⟩)
theorem DevV.alloc (h : DevV X w d p V cs s P) (o : Obj) : DevV X (w.alloc o) d p V cs s P := h.below ((Below.refl _ _).alloc (Nat.le_refl _) o)
theorem DevV.t0 (h : DevV X w d p V cs s P) : w.cell? ⟨d, 0, none⟩ = some (.int .i64 s.z) := h.top.cell 0
theorem DevV.t1 (h : DevV X w d p V cs s P) : w.cell? ⟨d, 1, none⟩ = some (.int .i64 s.zb) := h.top.cell 1
theorem DevV.t2 (h : DevV X w d p V cs s P) : w.cell? ⟨d, 2, none⟩ = some (.int .i64 s.bl) := h.top.cell 2
theorem DevV.t3 (h : DevV X w d p V cs s P) : w.cell? ⟨d, 3, none⟩ = some (.int .i64 s.rs) := h.top.cell 3
theorem DevV.t4 (h : DevV X w d p V cs s P) : w.cell? ⟨d, 4, none⟩ = some (.slice (some ⟨p, 0, none⟩) P.length P.length) := h.top.cell 4
theorem DevV.r0 (h : DevV X w d p V cs s P) {i : Nat} (hi : i < P.length) : w.cell? ⟨p, i * 2, none⟩ = some (V i) := (h.row.cell _).trans (h.c0 i hi)
theorem DevV.r1 (h : DevV X w d p V cs s P) {i : Nat} (hi : i < P.length) : w.cell? ⟨p, i * 2 + 1, none⟩ = some (.int .i64 (P.getD i pt0).du) := (h.row.cell _).trans (h.c1 i hi)
theorem DevV.vform (h : DevV X w d p V cs s P) {i : Nat} (hi : i < P.length) : ∃ A c, V i = .slice A (P.getD i pt0).by.length c := own_form (h.own i hi)
end
theorem shape_any (X : Nat -> Prop) (w : World) (d : Nat) (s : Sh) (P : List Part) (h : DevIs X w d s P) : Calls Tryz.prog 75 #[.pointer (some ⟨d, 0, none⟩)] w (Makes (shV s) w) := by
 obtain ⟨p, V, cs, h⟩ := h
 have h0 := h.t0
 have h1 := h.t1
 have h2 := h.t2
 have h3 := h.t3
 have hd := h.top.lt
 unfold shV
 clear h
 go_enter Tryz.func75, Tryz.ntmps75
 go_wp2
 go_returns
 exact ⟨rfl, (Below.refl _ _).alloc (Nat.le_refl _) _⟩
theorem has_any (X : Nat -> Prop) (w : World) (d : Nat) (s : Sh) (P : List Part) (z : Int) (h : DevIs X w d s P) : Calls Tryz.prog 61 #[.pointer (some ⟨d, 0, none⟩), .int .i64 z] w fun e w' => e = .returned (.bool (decide (0 <= z ∧ z < P.length))) ∧ w = w' := by
 obtain ⟨p, V, cs, h⟩ := h
 have h4 := h.t4
 clear h
 by_cases hz : 0 <= z
 · have hd : decide (0 <= z) = true := decide_eq_true hz
   go_enter Tryz.func61, Tryz.ntmps61
   go_wp2
   go_ret
   exact ⟨ret_bool (by simp [hz]), rfl⟩
 · have hd : decide (0 <= z) = false := decide_eq_false hz
   go_enter Tryz.func61, Tryz.ntmps61
   go_wp2
   go_ret
   exact ⟨ret_bool (by simp), rfl⟩
theorem pcount_any (X : Nat -> Prop) (w : World) (d : Nat) (s : Sh) (P : List Part) (A : Option Addr) (n c : Nat) (du : Int) (hn : n <= 16777216) (h : DevIs X w d s P) : Calls Tryz.prog 62 #[.pointer (some ⟨d, 0, none⟩), .agg #[.slice A n c, .int .i64 du]] w (Makes (.int .i64 ((n / s.bl : Nat) : Int)) w) := by
 obtain ⟨p, V, cs, h⟩ := h
 have h2 := (h.top.alloc (.cells #[.slice A n c, .int .i64 du] 127)).cell 2
 have hd := h.top.lt
 have hb := h.ok.blk
 have hq : n / s.bl <= n := Nat.div_le_self _ _
 have hb0 : (s.bl : Int) ≠ 0 := by omega
 clear h
 generalize s.bl = bl at *
 go_enter Tryz.func62, Tryz.ntmps62
 go_wp2
 go_quiet (fail)
 go_wp2
 go_ret
 refine ⟨ret_int ?_, below_drewN ((Below.refl _ _).alloc (Nat.le_refl _) _) _⟩
 rw [<- Int.natCast_ediv]
 generalize n / bl = q at *
 unfold wrap64
 omega
theorem pcount_at {X : Nat -> Prop} {w : World} {d p : Nat} {V : Nat -> Value} {cs : Array Value} {s : Sh} {P : List Part} (h : DevV X w d p V cs s P) {z : Nat} (hz : z < P.length) :
    ∃ A c, V z = .slice A (P.getD z pt0).by.length c ∧ ∀ u du, Below w.heap.size w u -> Calls Tryz.prog 62 #[.pointer (some ⟨d, 0, none⟩), .agg #[.slice A (P.getD z pt0).by.length c, .int .i64 du]] u (Makes (.int .i64 ((P.getD z pt0).bs.length : Nat)) u) := by
 obtain ⟨A, c, hA⟩ := h.vform hz
 refine ⟨A, c, hA, fun u du hb => ?_⟩
 have := pcount_any X u d s P A _ c du ((h.fit z hz).bymax h.ok) (DevIs.below ⟨p, V, cs, h⟩ hb)
 have e : (P.getD z pt0).by.length / s.bl = (P.getD z pt0).bs.length := by rw [(h.fit z hz).bylen, Nat.mul_div_cancel _ (by have := h.ok.blk; omega)]
 rw [e] at this
 exact this
end Go.Proofs.YtfabgbmbnmbjkaaGreatDoor

/- Pruned. -/
namespace Go.Proofs.YtfabgbmbnmbjkaaGreatDoor
open Go.RowKit
set_option maxRecDepth 20000
structure It where
  t : Int
  b : Int
  k : Int
  s : Int
  e : Int
def it0 : It := ⟨0, 0, 0, 0, 0⟩
def itV (i : It) : Value := .agg #[.int .u32 i.t, .int .u64 i.b, .int .u8 i.k, .int .u32 i.s, .int .u16 i.e]
structure ItOk (i : It) : Prop where
  t : 0 <= i.t ∧ i.t <= 4294967295
  b : 0 <= i.b ∧ i.b <= 18446744073709551615
  kk : i.k = 1 ∧ i.e <= 4096 ∨ i.k = 2 ∧ i.s = 0 ∧ i.e = 0
  s : 0 <= i.s ∧ i.s <= 4294967295
  e : 0 <= i.e ∧ i.e <= 65535
def roomN (bl : Nat) : Nat := (bl - 19) / 19
theorem pow_ok {s : Sh} (h : s.ok) : (bits .and .i64 (s.bl : Int) ((s.bl : Int) - 1) != 0) = false := by
 have h1 := h.blk
 have h2 := h.facts.2.2.2.2.1
 have := pow_at s.bl (by omega) (by omega)
 unfold powB at this
 rw [this]
 simp
 omega
theorem room_any (s : Sh) (h : s.ok) (w : World) : Calls Tryz.prog 138 #[.int .i64 s.bl] w fun e w' => e = .returned (.int .i64 (roomN s.bl : Nat)) ∧ w = w' := by
 have hp := pow_ok h
 have h1 := h.blk
 have hq : (roomN s.bl : Nat) = ((s.bl : Int) - 19) / 19 := by unfold roomN; omega
 rw [hq]
 generalize s.bl = bl at *
 clear hq
 go_enter Tryz.func138, Tryz.ntmps138
 go_wp2
 go_ret
 exact ⟨ret_int (by omega), rfl⟩
theorem may_any (i : It) (h : ItOk i) (w : World) : Calls Tryz.prog 185 #[itV i] w (Makes (.bool true) w) := by
 obtain ⟨t, b, k, s, e⟩ := i
 have hs := h.s
 have he := h.e
 have hk := h.kk
 simp only at hs he hk
 unfold itV
 clear h
 rcases hk with ⟨rfl, h2⟩ | ⟨rfl, rfl, rfl⟩
 · go_enter Tryz.func185, Tryz.ntmps185
   go_wp2
   go_ret
   exact ⟨rfl, (Below.refl _ _).alloc (Nat.le_refl _) _⟩
 · go_enter Tryz.func185, Tryz.ntmps185
   go_wp2
   go_ret
   exact ⟨rfl, (Below.refl _ _).alloc (Nat.le_refl _) _⟩
theorem encode1_any (i : It) (h : ItOk i) (w : World) : Calls Tryz.prog 184 #[itV i] w (Makes (.bool false) w) := by
 have HM := Lib.hid (may_any i h)
 clear h
 unfold itV at *
 go_enter Tryz.func184, Tryz.ntmps184
 go_wp2_with (fail)
 refine (HM.out _).mono ?_
 rintro e w1 ⟨rfl, hb⟩
 go_wp2
 go_ret
 exact ⟨rfl, ((Below.refl _ _).alloc (Nat.le_refl _) _).trans (hb.mono (by simp))⟩
structure ItAt (w : World) (a : Addr) (i : It) : Prop where
  c0 : w.cell? a = some (.int .u32 i.t)
  c1 : w.cell? ⟨a.block, a.off + 1, none⟩ = some (.int .u64 i.b)
  c2 : w.cell? ⟨a.block, a.off + 2, none⟩ = some (.int .u8 i.k)
  c3 : w.cell? ⟨a.block, a.off + 3, none⟩ = some (.int .u32 i.s)
  c4 : w.cell? ⟨a.block, a.off + 4, none⟩ = some (.int .u16 i.e)
def ItsAt (w : World) (A : Option Addr) (l : List It) : Prop := ∀ i, i < l.length -> ∃ g, A = some ⟨g, 0, none⟩ ∧ ItAt w ⟨g, i * 5, none⟩ (l.getD i it0)
theorem ItAt.below {w w' : World} {a : Addr} {i : It} (h : ItAt w a i) (hb : Below w.heap.size w w') : ItAt w' a i :=
 ⟨below_keep hb h.c0, below_keep hb h.c1, below_keep hb h.c2, below_keep hb h.c3, below_keep hb h.c4⟩
theorem ItsAt.below {w w' : World} {A : Option Addr} {l : List It} (h : ItsAt w A l) (hb : Below w.heap.size w w') : ItsAt w' A l := fun i hi => by
 obtain ⟨g, e, h1⟩ := h i hi
 exact ⟨g, e, h1.below hb⟩
theorem itsfind_any (l : List It) (A : Option Addr) (c : Nat) (w : World) (h : ItsAt w A l) (hok : ∀ i ∈ l, ItOk i) (hn : l.length <= 100000) :
    Calls Tryz.prog 211 #[.slice A l.length c, .func (.func 184) #[] #[]] w (Makes (.int .i64 (-1)) w) := by
 have HI := Lib.hid h
 have HO := Lib.hid hok
 clear h hok
 go_enter Tryz.func211, Tryz.ntmps211
 go_wp2_with (fail)
 go_loopw [8] (fun i wr => ∃ k : Nat, k <= l.length ∧ i = .int .i64 k ∧ Hid (Below w.heap.size w wr)) (fun i _ => l.length - (intOf i).toNat)
 case atStart => exact ⟨0, Nat.zero_le _, rfl, Below.refl _ _⟩
 case round =>
  obtain ⟨k, hk, rfl, hb⟩ := hrel
  by_cases hlt : k < l.length
  · obtain ⟨g, rfl, hat⟩ := (HI.out.below hb.out) k hlt
    obtain ⟨c0, c1, c2, c3, c4⟩ := hat
    have HE := Lib.hid (fun w => encode1_any (l.getD k it0) (HO.out _ (getD_mem hlt)) w)
    unfold itV at HE
    generalize l.getD k it0 = x at *
    go_wp2_with (fail)
    refine (HE.out _).mono ?_
    rintro e w1 ⟨rfl, hb1⟩
    have HB := Lib.hid (hb.out.trans (hb1.mono hb.out.size))
    clear hb1 c0 c1 c2 c3 c4 hb
    go_wp2
    go_roundw
    case rel => exact ⟨k + 1, by omega, by go_num, HB⟩
    case measure => simp [intOf]; omega
  · obtain rfl : k = l.length := by omega
    go_wp2
    go_ret
    exact ⟨rfl, hb.out⟩
theorem itsok_any (l : List It) (A : Option Addr) (c : Nat) (w : World) (h : ItsAt w A l) (hok : ∀ i ∈ l, ItOk i) (hn : l.length <= 100000) :
    Calls Tryz.prog 183 #[.slice A l.length c, .func (.func 184) #[] #[]] w (Makes (.bool false) w) := by
 have HF := Lib.hid (itsfind_any l A c w h hok hn)
 clear h hok
 go_enter Tryz.func183, Tryz.ntmps183
 go_wp2_with (fail)
 refine HF.out.mono ?_
 rintro e w1 ⟨rfl, hb⟩
 go_wp2
 go_ret
 exact ⟨rfl, hb⟩
end Go.Proofs.YtfabgbmbnmbjkaaGreatDoor

/- Pruned. -/
namespace Go.Proofs.YtfabgbmbnmbjkaaGreatDoor
open Go.RowKit
set_option maxRecDepth 20000
theorem zat_any (X : Nat -> Prop) (w : World) (d : Nat) (s : Sh) (P : List Part) (z : Nat) (hz : z < P.length) (h : DevIs X w d s P) :
    Calls Tryz.prog 28 #[.pointer (some ⟨d, 0, none⟩), .int .i64 z] w (Makes (.tuple #[.int .i64 ((P.getD z pt0).bs.length : Nat), .int .i64 ((P.getD z pt0).du : Nat)]) w) := by
 have HH := Lib.hid (has_any X w d s P z h)
 obtain ⟨p, V, cs, hv⟩ := h
 obtain ⟨A, c, hA, hC⟩ := pcount_at hv hz
 have h4 := hv.t4
 have r0 := hv.r0 hz
 have r1 := hv.r1 hz
 rw [hA] at r0
 have HC := Lib.hid hC
 have HD : Hid (decide ((0 : Int) <= z ∧ (z : Int) < P.length) = true) := decide_eq_true (by omega)
 have hlen : P.length <= 256 := by have := hv.sz; have := hv.ok.facts; omega
 clear hC hA hv
 generalize (P.getD z pt0).by.length = n at *
 generalize (P.getD z pt0).bs.length = m at *
 generalize (P.getD z pt0).du = du at *
 have ks : w.cell? ⟨d, 4, none⟩ = some (.slice (some ⟨p, 0, none⟩) P.length P.length) ∧ w.cell? ⟨p, z * 2, none⟩ = some (.slice A n c) ∧ w.cell? ⟨p, z * 2 + 1, none⟩ = some (.int .i64 du) := ⟨h4, r0, r1⟩
 clear h4 r0 r1
 go_enter Tryz.func28, Tryz.ntmps28
 go_wp2_with (fail)
 refine HH.out.mono ?_
 rintro e w' ⟨rfl, rfl⟩
 rw [HD.out]
 go_upto_region 3 with (fail)
 have HC2 := Lib.hid (HC.out w.drew du ((Below.refl _ w).drew))
 go_region_held3 (fun u => u.cell? ⟨d, 4, none⟩ = some (.slice (some ⟨p, 0, none⟩) P.length P.length) ∧ u.cell? ⟨p, z * 2, none⟩ = some (.slice A n c) ∧ u.cell? ⟨p, z * 2 + 1, none⟩ = some (.int .i64 du))
   (first | exact ks | exact ks2)
   (first
     | (go_at_call 62
        with_reducible refine HC2.out.mono ?_
        rintro e w9 ⟨rfl, hb⟩
        have ks2 : w9.cell? ⟨d, 4, none⟩ = some (.slice (some ⟨p, 0, none⟩) P.length P.length) ∧ w9.cell? ⟨p, z * 2, none⟩ = some (.slice A n c) ∧ w9.cell? ⟨p, z * 2 + 1, none⟩ = some (.int .i64 du) := ⟨below_keep hb ks.1, below_keep hb ks.2.1, below_keep hb ks.2.2⟩
        have HB := Lib.hid hb
        clear hb))
 all_goals
  go_wp2
  go_ret2
  exact ⟨rfl, (Below.refl _ w).drew.trans HB.out⟩
end Go.Proofs.YtfabgbmbnmbjkaaGreatDoor

/- Pruned. -/
namespace Go.Proofs.YtfabgbmbnmbjkaaGreatDoor
open Go.RowKit
set_option maxRecDepth 20000
def appP (P : List Part) (z : Nat) (data : List Int) : List Part := P.set z ⟨(P.getD z pt0).bs ++ [data], (P.getD z pt0).du⟩
theorem appP_length (P : List Part) (z : Nat) (data : List Int) : (appP P z data).length = P.length := by simp [appP]
theorem getD_set_same {α : Type} (l : List α) (z : Nat) (x d : α) (h : z < l.length) : (l.set z x).getD z d = x := by simp [List.getD_eq_getElem?_getD, h]
theorem getD_set_other {α : Type} (l : List α) (z i : Nat) (x d : α) (h : z ≠ i) : (l.set z x).getD i d = l.getD i d := by simp [List.getD_eq_getElem?_getD, List.getElem?_set_ne h]
theorem appP_same (P : List Part) (z : Nat) (data : List Int) (h : z < P.length) : (appP P z data).getD z pt0 = ⟨(P.getD z pt0).bs ++ [data], (P.getD z pt0).du⟩ := getD_set_same _ _ _ _ h
theorem appP_other (P : List Part) (z i : Nat) (data : List Int) (h : z ≠ i) : (appP P z data).getD i pt0 = P.getD i pt0 := getD_set_other _ _ _ _ _ h
theorem by_app (p : Part) (data : List Int) : (Part.mk (p.bs ++ [data]) p.du).by = p.by ++ data := by simp [Part.by]
theorem PartOk.app {s : Sh} {p : Part} (h : PartOk s p) {data : List Int} (hd : data.length = s.bl) (hb : ∀ x ∈ data, ByteOk x) (hr : p.bs.length < s.zb) : PartOk s ⟨p.bs ++ [data], p.du⟩ := by
 refine ⟨fun b hb' => ?_, by simp; omega, by have := h.du; simp; omega, fun b hb' => ?_⟩
 · rcases List.mem_append.1 hb' with h1 | h1
   · exact h.len b h1
   · rw [List.mem_singleton.1 h1]; exact hd
 · rcases List.mem_append.1 hb' with h1 | h1
   · exact h.byt b h1
   · rw [List.mem_singleton.1 h1]; exact hb
section
variable {X : Nat -> Prop} {w w1 : World} {d p : Nat} {V : Nat -> Value} {cs : Array Value} {s : Sh} {P : List Part}
theorem DevV.grow (h : DevV X w d p V cs s P) {z : Nat} (hz : z < P.length) {A1 : Option Addr} {c1 : Nat} {data : List Int} (hd : data.length = s.bl) (hb : ∀ x ∈ data, ByteOk x) (hr : (P.getD z pt0).bs.length < s.zb)
    (hown : BRow w1 0 A1 c1 ((P.getD z pt0).by ++ data)) (hk : Kp (fun i => (V z).ownBlock = some i) w w1)
    (hat : (Value.slice A1 ((P.getD z pt0).by ++ data).length c1).ownBlock = (V z).ownBlock ∨ (∃ g, (Value.slice A1 ((P.getD z pt0).by ++ data).length c1).ownBlock = some g ∧ w.heap.size <= g)) :
    DevIs X (w1.setCell ⟨p, z * 2, none⟩ (.slice A1 ((P.getD z pt0).by ++ data).length c1)) d s (appP P z data) := by
 have hp1 : Blk w1 p 127 cs := hk.blk h.row (fun e => (h.nx z hz p e).2.2 rfl)
 have hd1 := hk.blk h.top (fun e => (h.nx z hz d e).2.1 rfl)
 have hlen := appP_length P z data
 have hnb : ∀ b, (Value.slice A1 ((P.getD z pt0).by ++ data).length c1).ownBlock = some b -> ¬ X b ∧ b ≠ d ∧ b ≠ p ∧ ∀ j, j < P.length -> z ≠ j -> (V j).ownBlock ≠ some b := by
  intro b hb1
  rcases hat with e | ⟨g, e, hg⟩
  · rw [e] at hb1
    have := h.nx z hz b hb1
    exact ⟨this.1, this.2.1, this.2.2, fun j hj hne => h.dj z j hz hj hne b hb1⟩
  · rw [e] at hb1
    obtain rfl : g = b := by injection hb1
    refine ⟨fun hx => ?_, ?_, ?_, fun j hj hne e2 => ?_⟩
    · have := h.cl g hx; omega
    · have := h.top.lt; omega
    · have := h.row.lt; omega
    · have := h.vlt hj e2; omega
 refine ⟨p, fun i => if i = z then .slice A1 ((P.getD z pt0).by ++ data).length c1 else V i, cs.setIfInBounds (z * 2) (.slice A1 ((P.getD z pt0).by ++ data).length c1), ?_⟩
 refine ⟨?_, hp1.set_ _ _, by simp [h.cz, hlen], ?_, ?_, ?_, ?_, ?_, h.xd, h.xp, fun b hx => ?_, by rw [hlen]; exact h.sz, h.ok, ?_⟩
 · rw [hlen]; exact hd1.far (p := ⟨p, z * 2, none⟩) h.ne_ _
 · intro i hi
   rw [hlen] at hi
   have hcz := h.cz
   by_cases e : i = z
   · subst e; rw [if_pos rfl, Array.getElem?_setIfInBounds_self_of_lt (by rw [hcz]; omega)]
   · rw [if_neg e, Array.getElem?_setIfInBounds_ne (by omega)]; exact h.c0 i hi
 · intro i hi
   rw [hlen] at hi
   rw [Array.getElem?_setIfInBounds_ne (by omega), h.c1 i hi]
   by_cases e : i = z
   · subst e; rw [appP_same _ _ _ hz]
   · rw [appP_other _ _ _ _ (fun e' => e e'.symm)]
 · intro i hi
   rw [hlen] at hi
   by_cases e : i = z
   · subst e
     simp only [if_true]
     rw [appP_same _ _ _ hz, by_app]
     refine ownsRow_of_block hown (fun b hb1 => Below.heap_setCell w1 _ _ b ?_)
     exact (hnb b hb1).2.2.1
   · simp only [if_neg e]
     rw [appP_other _ _ _ _ (fun e' => e e'.symm)]
     refine ownsRow_of_block (h.own i hi) (fun b hb1 => ?_)
     rw [Below.heap_setCell w1 _ _ b (h.nx i hi b hb1).2.2]
     exact hk.block b (h.vlt hi hb1) (fun e2 => h.dj i z hi hz e b hb1 e2)
 · intro i hi b hb1
   rw [hlen] at hi
   by_cases e : i = z
   · subst e
     simp only [if_true] at hb1
     have := hnb b hb1
     exact ⟨this.1, this.2.1, this.2.2.1⟩
   · simp only [if_neg e] at hb1
     exact h.nx i hi b hb1
 · intro i j hi hj hij b hb1 hb2
   rw [hlen] at hi hj
   by_cases e : i = z
   · subst e
     simp only [if_true] at hb1
     rw [if_neg (fun e => hij e.symm)] at hb2
     exact (hnb b hb1).2.2.2 j hj hij hb2
   · simp only [if_neg e] at hb1
     by_cases e2 : j = z
     · subst e2
       simp only [if_true] at hb2
       exact (hnb b hb2).2.2.2 i hi (fun e => hij e.symm) hb1
     · simp only [if_neg e2] at hb2
       exact h.dj i j hi hj hij b hb1 hb2
 · have := h.cl b hx
   have := hk.size
   simp [World.setCell]
   omega
 · intro i hi
   rw [hlen] at hi
   by_cases e : i = z
   · subst e; rw [appP_same _ _ _ hz]; exact (h.fit i hi).app hd hb hr
   · rw [appP_other _ _ _ _ (fun e' => e e'.symm)]; exact h.fit i hi
end
theorem zappend_any (X : Nat -> Prop) (w : World) (d : Nat) (s : Sh) (P : List Part) (z : Nat) (hz : z < P.length) (h : DevIs X w d s P) (B : Nat) (A : Option Addr) (c : Nat) (data : List Int)
    (hd : data.length = s.bl) (hb : ∀ x ∈ data, ByteOk x) (hr : (P.getD z pt0).bs.length < s.zb) (hA : Reads w B 1 A data.length (nums .u8 data)) :
    Calls Tryz.prog 85 #[.pointer (some ⟨d, 0, none⟩), .int .i64 z, .slice A data.length c] w
      (fun e w' => e = .returned (.tuple #[.agg #[.int .i64 z, .int .i64 ((P.getD z pt0).bs.length : Nat)], .int .u16 0]) ∧ DevIs X w' d s (appP P z data) ∧ Kp (fun b => ¬ X b) w w') := by
 have HH := Lib.hid (fun u (hu : DevIs X u d s P) => has_any X u d s P z hu)
 obtain ⟨p, V, cs, hv⟩ := h
 obtain ⟨A0, c0, hA0, hC⟩ := pcount_at hv hz
 have HV := Lib.hid hv
 have HAD := Lib.hid (hA.more_ (by omega))
 have HC := Lib.hid hC
 have HA0 := Lib.hid hA0
 have HDT := Lib.hid (And.intro hd (And.intro hb hr))
 have HD : Hid (decide ((0 : Int) <= z ∧ (z : Int) < P.length) = true) := decide_eq_true (by omega)
 have hlen : P.length <= 256 := by have := hv.sz; have := hv.ok.facts; omega
 have HBYM := Lib.hid ((hv.fit z hz).bymax hv.ok)
 have hblm := hv.ok.blk
 have HBY : Hid ((P.getD z pt0).by.length = (P.getD z pt0).by.length) := rfl
 have hlt := hv.top.lt
 have hlp := hv.row.lt
 have hzb : (((P.getD z pt0).bs.length : Nat) : Int) < s.zb := by omega
 have hzm : s.zb <= 4096 := by have := hv.ok.facts; omega
 have htd : (data.length : Int) = s.bl := by omega
 rw [hd] at HAD ⊢
 clear hd hb hr hA hC hA0 hv htd
 generalize hn : (P.getD z pt0).by.length = n at *
 generalize hm : (P.getD z pt0).bs.length = m at *
 have HN := Lib.hid hn
 have HM := Lib.hid hm
 clear hn hm
 go_enter Tryz.func85, Tryz.ntmps85
 go_wp2_with (fail)
 refine (HH.out _ ?_).mono ?_
 · exact DevIs.alloc ⟨p, V, cs, HV.out⟩ _
 rintro e w' ⟨rfl, rfl⟩
 rw [HD.out]
 have hb6 := Blk.new w 53 #[.int .i64 0, .int .i64 0]
 have hv1 : DevV (fun b => X b ∨ b = w.heap.size) (w.alloc (.cells #[.int .i64 0, .int .i64 0] 53)) d p V cs s P := HV.out.move (fun b hlt _ => Below.heap_alloc w _ b hlt) (fun b hx => by
  rcases hx with hx | rfl
  · have := HV.out.cl b hx
    exact ⟨by simp; omega, .inl hx⟩
  · exact ⟨by simp, .inr (Nat.le_refl _)⟩)
 have hk1 := (Kp.refl (fun b => ¬ X b) w).alloc (.cells #[.int .i64 0, .int .i64 0] 53)
 have ha1 := HAD.out.alloc (Nat.le_refl _) (.cells #[.int .i64 0, .int .i64 0] 53)
 have hc1 := HC.out (w.alloc (.cells #[.int .i64 0, .int .i64 0] 53)) ((P.getD z pt0).du) ((Below.refl _ _).alloc (Nat.le_refl _) _)
 have hs1 : (w.alloc (.cells #[.int .i64 0, .int .i64 0] 53)).heap.size = w.heap.size + 1 := by simp
 generalize w.alloc (.cells #[.int .i64 0, .int .i64 0] 53) = w1 at *
 have t1 := hv1.t1
 have t2 := hv1.t2
 have t4 := hv1.t4
 have r0 := hv1.r0 hz
 have r1 := hv1.r1 hz
 rw [HA0.out] at r0
 have HV1 := Lib.hid hv1
 have HB6 := Lib.hid hb6
 have HK1 := Lib.hid hk1
 have HA1 := Lib.hid ha1
 have HC1 := Lib.hid hc1
 have HS1 := Lib.hid hs1
 clear hb6 hv1 hk1 ha1 hc1 HAD HC HH HD hs1
 generalize (P.getD z pt0).du = du at *
 go_wp2_with (fail)
 refine HC1.out.mono ?_
 rintro e w2 ⟨rfl, hb2⟩
 have hv2 := HV1.out.below hb2
 have hb6 := HB6.out.below hb2 HB6.out.lt
 have hk2 := HK1.out.trans (Kp.of_below (S := fun b => ¬ X b) hb2) (fun _ _ h => h)
 have ha2 := HA1.out.below (hb2.mono (by have := HS1.out; omega))
 have t1' := hv2.t1
 have t4' := hv2.t4
 have r0' := hv2.r0 hz
 have fr6 : ∀ i, w2.frozen? ⟨w.heap.size, i, none⟩ = false := fun i => hb6.frozen i
 have frp : ∀ i, w2.frozen? ⟨p, i, none⟩ = false := fun i => hv2.row.frozen i
 rw [HA0.out] at r0'
 have hown : BRow w2 0 A0 c0 (P.getD z pt0).by := by
  have := hv2.own z hz
  rw [HA0.out] at this
  unfold BRow
  rw [HN.out] at this ⊢
  exact this
 have HOWN := Lib.hid hown
 have HV2 := Lib.hid hv2
 have HB62 := Lib.hid hb6
 have HK2 := Lib.hid hk2
 have HA2 := Lib.hid ha2
 have HL2 : Hid ((P.getD z pt0).by.length + s.bl <= 100000000) := by have := HBYM.out; unfold Hid; rw [HN.out]; omega
 have HRS : Hid (Reads w2 w2.heap.size 1 A s.bl (nums .u8 data)) := HA2.out.more_ (by omega)
 have HLB : Hid (w.heap.size < w2.heap.size) := by have := HS1.out; have := hb2.size; unfold Hid; omega
 clear t1 t2 t4 r0 r1 hown hv2 hb6 hk2 ha2 hb2 HC1 HV1 HB6 HK1 HA1 HS1
 go_wp2_with (first
   | (at_builtin
      refine wpList_append_u8 w2 rfl (.tmp 48) (.tmp 49) rfl (P.getD z pt0).by HOWN.out HN.out.symm rfl data rfl HRS.out HL2.out (Nat.zero_le _) ?_
      intro A1 c1 w3 hb3 hk3 hat3
      have hvz : (Value.slice A0 (P.getD z pt0).by.length c0).ownBlock = (V z).ownBlock := by rw [HA0.out, HN.out]
      rw [hvz] at hk3 hat3
      have hp3 := hk3.blk HV2.out.row (fun e => (HV2.out.nx z hz p e).2.2 rfl)
      have hv0 : ∀ b, (V z).ownBlock = some b -> b ≠ w.heap.size := fun b e => by have := HV.out.vlt hz e; omega
      have hb63 := hk3.blk HB62.out (fun e => hv0 _ e rfl)
      have HB3 := Lib.hid hb3
      have HK3 := Lib.hid hk3
      have HAT3 := Lib.hid hat3
      have HB63 := Lib.hid hb63
      have HP3 := Lib.hid hp3
      have q0 : w3.cell? ⟨p, z * 2, none⟩ = some (V z) := (hp3.cell _).trans (HV2.out.c0 z hz)
      have fr63 : ∀ i, w3.frozen? ⟨w.heap.size, i, none⟩ = false := fun i => hb63.frozen i
      have frp3 : ∀ i, w3.frozen? ⟨p, i, none⟩ = false := fun i => hp3.frozen i
      have u0 : w3.cell? ⟨w.heap.size, 0, none⟩ = some (.int .i64 0) := hb63.cell 0
      have u1 : w3.cell? ⟨w.heap.size, 1, none⟩ = some (.int .i64 0) := hb63.cell 1
      generalize V z = vz at q0
      generalize hL3 : ((P.getD z pt0).by ++ data).length = L3 at *
      have HL3 := Lib.hid hL3
      clear hL3
      clear hb3 hk3 hat3 hb63 hp3 hvz hv0 t1' t4' r0' fr6 frp))
 have hG := HV2.out.grow hz HDT.out.1 HDT.out.2.1 (by rw [HM.out]; exact HDT.out.2.2) HB3.out HK3.out (by
  rw [HL3.out]
  rcases HAT3.out with e | e
  · exact .inl e
  · exact .inr ⟨_, e, Nat.le_refl _⟩)
 rw [HL3.out] at hG
 have hg6 : Blk (w3.setCell ⟨p, z * 2, none⟩ (.slice A1 L3 c1)) w.heap.size 53 #[.int .i64 0, .int .i64 0] := HB63.out.far (p := ⟨p, z * 2, none⟩) (by simp; omega) _
 have hkk : Kp (fun b => ¬ X b) w (w3.setCell ⟨p, z * 2, none⟩ (.slice A1 L3 c1)) := by
  refine (HK2.out.trans (HK3.out.mono (S' := fun b => ¬ X b) (fun b _ e => (HV.out.nx z hz b e).1)) (fun _ _ h => h)).setCell (p := ⟨p, z * 2, none⟩) (.inl HV.out.xp) _
 clear q0 fr63 frp3 u0 u1
 generalize w3.setCell ⟨p, z * 2, none⟩ (.slice A1 L3 c1) = w4 at *
 have b4 := blk_set2 hg6 (.int .i64 z) (.int .i64 m)
 have k4 := kp_set2 (Kp.refl (fun b => b = w.heap.size) w4) (.inl rfl) (.int .i64 z) (.int .i64 m)
 have k5 := kp_set2 hkk (.inr (Nat.le_refl _)) (.int .i64 z) (.int .i64 m)
 generalize World.setCell (World.setCell w4 _ _) _ _ = w5 at *
 have e0 : w5.cell? ⟨w.heap.size, 0, none⟩ = some (.int .i64 z) := b4.cell 0
 have e1 : w5.cell? ⟨w.heap.size, 1, none⟩ = some (.int .i64 m) := b4.cell 1
 refine bodyPost_ret (v := .tuple #[.agg #[.int .i64 z, .int .i64 m], .int .u16 0]) (by simp [results, Tryz.results85, go_sem, e0, e1]) rfl ?_
 exact ⟨rfl, (hG.kp k4 (fun b e => .inr e)).less (fun b hx => .inl hx), k5⟩
end Go.Proofs.YtfabgbmbnmbjkaaGreatDoor

/- Pruned. -/
namespace Go.Proofs.YtfabgbmbnmbjkaaGreatDoor
open Go.RowKit
set_option maxRecDepth 20000
theorem zread_any (X : Nat -> Prop) (w : World) (d : Nat) (s : Sh) (P : List Part) (z k : Nat) (hz : z < P.length) (hk : k < (P.getD z pt0).bs.length) (h : DevIs X w d s P) :
    Calls Tryz.prog 49 #[.pointer (some ⟨d, 0, none⟩), .agg #[.int .i64 z, .int .i64 k]] w
      (fun e w' => ∃ A c, e = .returned (.tuple #[.slice A s.bl c, .int .u16 0]) ∧ BRow w' w.heap.size A c ((P.getD z pt0).bs.getD k []) ∧ ((P.getD z pt0).bs.getD k []).length = s.bl ∧ Below w.heap.size w w') := by
 have HH := Lib.hid (fun u (hu : DevIs X u d s P) => has_any X u d s P z hu)
 obtain ⟨p, V, cs, hv⟩ := h
 obtain ⟨A0, c0, hA0, hC⟩ := pcount_at hv hz
 have hfit := hv.fit z hz
 have hbl : ((P.getD z pt0).bs.getD k []).length = s.bl := hfit.len _ (getD_mem hk)
 have hcut := flatten_cut k hfit.len hk
 have hby := hfit.bylen
 have HBYM := Lib.hid (hfit.bymax hv.ok)
 have hD : decide ((0 : Int) <= z ∧ (z : Int) < P.length) = true := decide_eq_true (by omega)
 have hlen : P.length <= 256 := by have := hv.sz; have := hv.ok.facts; omega
 have hblm := hv.ok.blk
 have hin : (k + 1) * s.bl <= (P.getD z pt0).by.length := by rw [hby]; exact Nat.mul_le_mul_right _ hk
 have hon := hv.own z hz
 rw [hA0] at hon
 have hnc : (P.getD z pt0).by.length <= c0 := by
  rcases hon.2 with ⟨_, h0⟩ | ⟨g, cap, cur, hv2, _, _, hnc, _⟩
  · rw [h0, Nat.add_mul] at hin; omega
  · injection hv2 with _ _ h3; omega
 have hrd : Reads w w.heap.size 1 A0 (P.getD z pt0).by.length (nums .u8 (P.getD z pt0).by) := Reads.of_own hon
 have hrc : Reads w w.heap.size 1 (if c0 = k * s.bl then A0 else A0.map (·.add (k * s.bl))) s.bl (nums .u8 ((P.getD z pt0).bs.getD k [])) := by
  have h1 := hrd.cut (k := k * s.bl) (cap := c0) (by rw [Nat.add_mul] at hin; omega) hnc
  simp only [Nat.mul_one] at h1
  have h2 := h1.take_ (m := s.bl) (by rw [Nat.add_mul] at hin; omega)
  rw [Nat.mul_one, nums_drop, nums_take] at h2
  rw [<- hcut]
  exact h2
 obtain ⟨at_, hat⟩ : ∃ a, k * s.bl = a := ⟨_, rfl⟩
 have hati : (k : Int) * s.bl = at_ := by rw [<- hat]; simp
 have hin2 : at_ + s.bl <= (P.getD z pt0).by.length := by rw [Nat.add_mul] at hin; omega
 rw [hat] at hrc
 have hsl := run_cut_u8 A0 (P.getD z pt0).by.length c0 at_ s.bl (by omega)
 have HV := Lib.hid hv
 have HC := Lib.hid hC
 have HA0 := Lib.hid hA0
 have HBL := Lib.hid hbl
 have HRC := Lib.hid hrc
 have hlt := hv.top.lt
 have hlp := hv.row.lt
 have hkm : k <= 4096 := by have := hfit.fit; have := hv.ok.facts; omega
 have HD := Lib.hid hD
 clear hbl hC hA0 hv hfit hcut hby hD hon hrd hrc hin hat
 generalize (P.getD z pt0).bs.getD k [] = bb at *
 generalize (P.getD z pt0).by.length = n at *
 generalize hm : (P.getD z pt0).bs.length = m at *
 clear hm
 go_enter Tryz.func49, Tryz.ntmps49
 go_wp2_with (fail)
 refine (HH.out _ ?_).mono ?_
 · exact DevIs.alloc ⟨p, V, cs, HV.out⟩ _
 rintro e w' ⟨rfl, rfl⟩
 rw [HD.out]
 have hb3 := Blk.new w 53 #[.int .i64 z, .int .i64 k]
 have hv1 := HV.out.alloc (.cells #[.int .i64 z, .int .i64 k] 53)
 have hbb := (Below.refl w.heap.size w).alloc (Nat.le_refl _) (.cells #[.int .i64 z, .int .i64 k] 53)
 have hs1 : (w.alloc (.cells #[.int .i64 z, .int .i64 k] 53)).heap.size = w.heap.size + 1 := by simp
 generalize w.alloc (.cells #[.int .i64 z, .int .i64 k] 53) = w1 at *
 have t4 := hv1.t4
 have r0 := hv1.r0 hz
 have r1 := hv1.r1 hz
 rw [HA0.out] at r0
 have a0 : w1.cell? ⟨w.heap.size, 0, none⟩ = some (.int .i64 z) := hb3.cell 0
 have a1 : w1.cell? ⟨w.heap.size, 1, none⟩ = some (.int .i64 k) := hb3.cell 1
 have HV1 := Lib.hid hv1
 have HB3 := Lib.hid hb3
 have HBB := Lib.hid hbb
 have HS1 := Lib.hid hs1
 have hg1 : d < w1.heap.size := by omega
 have hg2 : p < w1.heap.size := by omega
 have hg3 : w.heap.size < w1.heap.size := by omega
 clear hv1 hb3 hbb HH HD
 generalize (P.getD z pt0).du = du at *
 go_wp2_with (fail)
 go_region
 all_goals
  have hv2 := (HV1.out.alloc (.cells #[.slice A0 n c0, .int .i64 du] 127)).below (Below.refl _ _).drew
  have hb6 := (Blk.new w1 127 #[.slice A0 n c0, .int .i64 du]).drew
  have hb3 := (HB3.out.alloc (.cells #[.slice A0 n c0, .int .i64 du] 127)).drew
  have hbb := (HBB.out.alloc (by have := HS1.out; omega) (.cells #[.slice A0 n c0, .int .i64 du] 127)).drew
  have hsz : w.heap.size + 1 < (w1.alloc (.cells #[.slice A0 n c0, .int .i64 du] 127)).drew.heap.size := by have := HS1.out; simp [World.drew]; omega
  have hz1 := HS1.out
  rw [hz1] at hb6
  clear t4 r0 r1 a0 a1 HV1 HB3 HBB hz1 hg1 hg2 hg3
  generalize (w1.alloc (.cells #[.slice A0 n c0, .int .i64 du] 127)).drew = w2 at *
  have t2 := hv2.t2
  have a1 : w2.cell? ⟨w.heap.size, 1, none⟩ = some (.int .i64 k) := hb3.cell 1
  have b0 : w2.cell? ⟨w.heap.size + 1, 0, none⟩ = some (.slice A0 n c0) := hb6.cell 0
  have b1 : w2.cell? ⟨w.heap.size + 1, 1, none⟩ = some (.int .i64 du) := hb6.cell 1
  have ks : w2.cell? ⟨w.heap.size, 1, none⟩ = some (.int .i64 k) ∧ w2.cell? ⟨w.heap.size + 1, 0, none⟩ = some (.slice A0 n c0) ∧ w2.cell? ⟨w.heap.size + 1, 1, none⟩ = some (.int .i64 du) := ⟨a1, b0, b1⟩
  have hc2 := HC.out w2.drew du (hbb.drew)
  have HV2 := Lib.hid hv2
  have HB2 := Lib.hid hbb
  have HB36 := Lib.hid (And.intro hb3 hb6)
  have HC2 := Lib.hid hc2
  have HSZ := Lib.hid hsz
  have hkn : decide ((k : Int) < 0) = false := decide_eq_false (by omega)
  clear hv2 hbb hb3 hb6 hc2 a1 b0 b1 t2 hsz HC
  go_wp2_with (fail)
  go_region_held3 (fun u => u.cell? ⟨w.heap.size, 1, none⟩ = some (.int .i64 k) ∧ u.cell? ⟨w.heap.size + 1, 0, none⟩ = some (.slice A0 n c0) ∧ u.cell? ⟨w.heap.size + 1, 1, none⟩ = some (.int .i64 du))
    (first | exact ks | exact ks2)
    (first
      | (go_at_call 62
         with_reducible refine HC2.out.mono ?_
         rintro e w3 ⟨rfl, hb⟩
         have ks2 : w3.cell? ⟨w.heap.size, 1, none⟩ = some (.int .i64 k) ∧ w3.cell? ⟨w.heap.size + 1, 0, none⟩ = some (.slice A0 n c0) ∧ w3.cell? ⟨w.heap.size + 1, 1, none⟩ = some (.int .i64 du) := ⟨below_keep hb ks.1, below_keep hb ks.2.1, below_keep hb ks.2.2⟩
         have HB3 := Lib.hid hb
         clear hb))
  all_goals
   have hb3 : Below w2.heap.size w2 w3 := (Below.refl _ w2).drew.trans HB3.out
   have hv3 := HV2.out.below hb3
   have hbb := HB2.out.trans (hb3.mono HB2.out.size)
   have t2 := hv3.t2
   have a1 := ks2.1
   have b0 := ks2.2.1
   have hrc3 := (HRC.out.below hbb).more (hbb.size)
   have hnm : HBYM = HBYM := rfl
   have hn24 : n <= 16777216 := HBYM.out
   have HRC3 := Lib.hid hrc3
   have HBB := Lib.hid hbb
   clear ks ks2 HC2 hb3 hv3 hbb hrc3 HB36 HV2 HRC hnm
   go_wp2_with (fail)
   go_quiet (fail)
   have ks : (w3.drewN nq).cell? ⟨d, 2, none⟩ = some (.int .i64 s.bl) ∧ (w3.drewN nq).cell? ⟨w.heap.size + 1, 0, none⟩ = some (.slice A0 n c0) := ⟨t2, b0⟩
   have HRC4 := Lib.hid (HRC3.out.drewN nq)
   have HBB4 := Lib.hid (below_drewN HBB.out nq)
   clear t2 a1 b0 HRC3 HBB
   generalize w3.drewN nq = w4 at *
   have hwr : IntKind.i64.wrap ((at_ : Int) + s.bl) = (at_ : Int) + s.bl := by rw [IntKind.wrap_i64]; omega
   have HCL := Lib.hid (clone_any w4.drew _ _ _ (c0 - at_) _ HRC4.out.drew (by omega))
   go_wp2_with (fail)
   go_region_held3 (fun u => u.cell? ⟨d, 2, none⟩ = some (.int .i64 s.bl) ∧ u.cell? ⟨w.heap.size + 1, 0, none⟩ = some (.slice A0 n c0))
     (first | exact ks | exact ks2)
     (first
       | (go_at_call 108
          with_reducible refine HCL.out.mono ?_
          rintro e w5 ⟨A5, c5, rfl, hb5, hb⟩
          have ks2 : w5.cell? ⟨d, 2, none⟩ = some (.int .i64 s.bl) ∧ w5.cell? ⟨w.heap.size + 1, 0, none⟩ = some (.slice A0 n c0) := ⟨below_keep hb ks.1, below_keep hb ks.2⟩
          have HB5 := Lib.hid (And.intro hb5 hb)
          clear hb5 hb))
   all_goals
    clear ks hsl hati hwr
    go_wp2
    go_ret2
    exact ⟨A5, c5, rfl, HB5.out.1.rebase (fun b hb => Nat.le_trans (HBB4.out.size) (HB5.out.1.lt hb).1), HBL.out, (HBB4.out.drew).trans (HB5.out.2.mono HBB4.out.size)⟩
end Go.Proofs.YtfabgbmbnmbjkaaGreatDoor

/- Pruned. -/
namespace Go.Proofs.YtfabgbmbnmbjkaaGreatDoor
open Go.RowKit
set_option maxRecDepth 20000
section
variable {X : Nat -> Prop} {w w2 : World} {d p : Nat} {V : Nat -> Value} {cs : Array Value} {s : Sh} {P : List Part}
theorem DevV.put (h : DevV X w d p V cs s P) {z : Nat} (hz : z < P.length) {v : Value} {q : Part} (hq : PartOk s q) (hown : w.ownsRow 0 5 1 v q.by.length (nums .u8 q.by)) (hat : ∀ b, v.ownBlock = some b -> (V z).ownBlock = some b)
    (hk : Kp (fun b => b = p) w w2) (hrow : Blk w2 p 127 ((cs.setIfInBounds (z * 2) v).setIfInBounds (z * 2 + 1) (.int .i64 q.du))) : DevIs X w2 d s (P.set z q) := by
 have hlen : (P.set z q).length = P.length := by simp
 have hcz := h.cz
 refine ⟨p, fun i => if i = z then v else V i, _, ?_, hrow, by simp [hcz], ?_, ?_, ?_, ?_, ?_, h.xd, h.xp, fun b hx => ?_, by rw [hlen]; exact h.sz, h.ok, ?_⟩
 · rw [hlen]; exact hk.blk h.top h.ne_
 · intro i hi
   rw [hlen] at hi
   rw [Array.getElem?_setIfInBounds_ne (by omega)]
   by_cases e : i = z
   · subst e; rw [if_pos rfl, Array.getElem?_setIfInBounds_self_of_lt (by rw [hcz]; omega)]
   · rw [if_neg e, Array.getElem?_setIfInBounds_ne (by omega)]; exact h.c0 i hi
 · intro i hi
   rw [hlen] at hi
   by_cases e : i = z
   · subst e; rw [Array.getElem?_setIfInBounds_self_of_lt (by simp [hcz]; omega), getD_set_same _ _ _ _ hz]
   · rw [Array.getElem?_setIfInBounds_ne (by omega), Array.getElem?_setIfInBounds_ne (by omega), h.c1 i hi, getD_set_other _ _ _ _ _ (fun e' => e e'.symm)]
 · intro i hi
   rw [hlen] at hi
   by_cases e : i = z
   · subst e
     simp only [if_true]
     rw [getD_set_same _ _ _ _ hz]
     exact ownsRow_of_block hown (fun b hb1 => hk.block b (h.vlt hi (hat b hb1)) (h.nx i hi b (hat b hb1)).2.2)
   · simp only [if_neg e]
     rw [getD_set_other _ _ _ _ _ (fun e' => e e'.symm)]
     exact ownsRow_of_block (h.own i hi) (fun b hb1 => hk.block b (h.vlt hi hb1) (h.nx i hi b hb1).2.2)
 · intro i hi b hb1
   rw [hlen] at hi
   by_cases e : i = z
   · subst e
     simp only [if_true] at hb1
     exact h.nx i hi b (hat b hb1)
   · simp only [if_neg e] at hb1
     exact h.nx i hi b hb1
 · intro i j hi hj hij b hb1 hb2
   rw [hlen] at hi hj
   have g : ∀ i, i < P.length -> (if i = z then v else V i).ownBlock = some b -> (V i).ownBlock = some b := fun i hi e => by
    by_cases e2 : i = z
    · subst e2; rw [if_pos rfl] at e; exact hat b e
    · rw [if_neg e2] at e; exact e
   exact h.dj i j hi hj hij b (g i hi hb1) (g j hj hb2)
 · have := h.cl b hx
   have := hk.size
   omega
 · intro i hi
   rw [hlen] at hi
   by_cases e : i = z
   · subst e; rw [getD_set_same _ _ _ _ hz]; exact hq
   · rw [getD_set_other _ _ _ _ _ (fun e' => e e'.symm)]; exact h.fit i hi
end
theorem arr_set_self {α : Type} {cs : Array α} {i : Nat} {v : α} (h : cs[i]? = some v) : cs.setIfInBounds i v = cs := by
 refine Array.ext_getElem? fun j => ?_
 rw [Array.getElem?_setIfInBounds]
 split
 · rename_i e
   subst e
   split
   · exact h.symm
   · rename_i h2
     rw [Array.getElem?_eq_none (by omega)] at h
     cases h
 · rfl
theorem zreset_any (X : Nat -> Prop) (w : World) (d : Nat) (s : Sh) (P : List Part) (z : Nat) (hz : z < P.length) (h : DevIs X w d s P) :
    Calls Tryz.prog 84 #[.pointer (some ⟨d, 0, none⟩), .int .i64 z] w (fun e w' => e = .returned (.int .u16 0) ∧ DevIs X w' d s (P.set z pt0) ∧ Kp (fun b => ¬ X b) w w') := by
 have HH := Lib.hid (has_any X w d s P z h)
 obtain ⟨p, V, cs, hv⟩ := h
 have t4 := hv.t4
 have r0 := hv.r0 hz
 have r1 := hv.r1 hz
 have hf : ∀ i, w.frozen? ⟨p, i, none⟩ = false := fun i => hv.row.frozen i
 have HV := Lib.hid hv
 have HD : Hid (decide ((0 : Int) <= z ∧ (z : Int) < P.length) = true) := decide_eq_true (by omega)
 have hlen : P.length <= 256 := by have := hv.sz; have := hv.ok.facts; omega
 clear hv
 generalize V z = vz at *
 generalize (P.getD z pt0).du = du at *
 go_enter Tryz.func84, Tryz.ntmps84
 go_wp2_with (fail)
 refine HH.out.mono ?_
 rintro e w' ⟨rfl, rfl⟩
 rw [HD.out]
 go_wp2
 go_ret
 have hb := (HV.out.row.set_ (z * 2) (.slice none 0 0)).set_ (z * 2 + 1) (.int .i64 0)
 have hk := kp_setTwo (Kp.refl (fun b => b = p) w) (.inl rfl) (z * 2) (z * 2 + 1) (.slice none 0 0) (.int .i64 0)
 exact ⟨rfl, HV.out.put hz (PartOk.zero s) (World.ownsRow_nil _ _ _ _) (fun b hb => by cases hb) hk hb, hk.mono (fun b _ e => by rw [e]; exact HV.out.xp)⟩
def flushP (P : List Part) : List Part := P.map (fun q => ⟨q.bs, q.bs.length⟩)
def flushTo (P : List Part) (k : Nat) : List Part := flushP (P.take k) ++ P.drop k
theorem flushTo_zero (P : List Part) : flushTo P 0 = P := by simp [flushTo, flushP]
theorem flushTo_all (P : List Part) : flushTo P P.length = flushP P := by simp [flushTo]
theorem flushTo_length (P : List Part) (k : Nat) : (flushTo P k).length = P.length := by simp [flushTo, flushP]; omega
theorem flushTo_at (P : List Part) (k : Nat) (h : k < P.length) : (flushTo P k).getD k pt0 = P.getD k pt0 := by
 unfold flushTo flushP
 rw [List.getD_eq_getElem?_getD, List.getElem?_append_right (by simp; omega)]
 simp [List.getD_eq_getElem?_getD, Nat.min_eq_left (Nat.le_of_lt h)]
theorem flushTo_succ (P : List Part) (k : Nat) (h : k < P.length) : (flushTo P k).set k ⟨(P.getD k pt0).bs, (P.getD k pt0).bs.length⟩ = flushTo P (k + 1) := by
 unfold flushTo flushP
 have e : P.drop k = P[k] :: P.drop (k + 1) := List.drop_eq_getElem_cons h
 have e0 : k - (List.map (fun q : Part => (⟨q.bs, q.bs.length⟩ : Part)) (P.take k)).length = 0 := by simp; omega
 rw [List.set_append_right _ _ (by simp; omega), e, e0, List.set_cons_zero, List.take_succ_eq_append_getElem h, List.map_append, List.append_assoc]
 congr 1
 rw [List.getD_eq_getElem?_getD, List.getElem?_eq_getElem h]
 rfl
theorem flushP_length (P : List Part) : (flushP P).length = P.length := by simp [flushP]
theorem zflush_any (X : Nat -> Prop) (w : World) (d : Nat) (s : Sh) (P : List Part) (h : DevIs X w d s P) :
    Calls Tryz.prog 86 #[.pointer (some ⟨d, 0, none⟩)] w (fun e w' => e = .returned (.tuple #[]) ∧ DevIs X w' d s (flushP P) ∧ Kp (fun b => ¬ X b) w w') := by
 have t4 : ∃ p n, w.cell? ⟨d, 4, none⟩ = some (.slice (some ⟨p, 0, none⟩) n n) ∧ n = P.length := by
  obtain ⟨p, V, cs, hv⟩ := h
  exact ⟨p, _, hv.t4, rfl⟩
 obtain ⟨p0, n, t4, hn⟩ := t4
 have HN := Lib.hid hn
 have hlen : n <= 256 := by have := h.sz; have := h.ok.facts; omega
 have HH : Hid (DevIs X w d s (flushTo P 0) ∧ Kp (fun b => ¬ X b) w w) := ⟨by rw [flushTo_zero]; exact h, Kp.refl _ _⟩
 clear h hn
 go_enter Tryz.func86, Tryz.ntmps86
 go_wp2_with (fail)
 go_loopw [8] (fun i wr => ∃ k : Nat, k <= n ∧ i = .int .i64 k ∧ Hid (DevIs X wr d s (flushTo P k) ∧ Kp (fun b => ¬ X b) w wr)) (fun i _ => n - (intOf i).toNat)
 case atStart => exact ⟨0, Nat.zero_le _, rfl, HH⟩
 case round =>
  obtain ⟨k, hk, rfl, hd⟩ := hrel
  clear HH
  by_cases hlt : k < n
  · obtain ⟨p, V, cs, hv⟩ := hd.out.1
    have hkP : k < (flushTo P k).length := by rw [flushTo_length]; have := HN.out; omega
    have hkP0 : k < P.length := by have := HN.out; omega
    obtain ⟨A0, c0, hA0, hC⟩ := pcount_at hv hkP
    have hg : (flushTo P k).getD k pt0 = P.getD k pt0 := flushTo_at P k hkP0
    have hown := hv.own k hkP
    have t4 := hv.t4
    have r0 := hv.r0 hkP
    have r1 := hv.r1 hkP
    have hfk := hv.fit k hkP
    rw [flushTo_length, <- HN.out] at t4
    rw [hA0] at r0
    rw [hg] at r0 r1 hC hown hfk
    have hf : ∀ i, wr.frozen? ⟨p, i, none⟩ = false := fun i => hv.row.frozen i
    have HV := Lib.hid hv
    have HC := Lib.hid hC
    have HK := Lib.hid hd.out.2
    have HO := Lib.hid (And.intro hown hfk)
    have HA0 := Lib.hid hA0
    have HG := Lib.hid hg
    have HKP := Lib.hid (And.intro hkP hkP0)
    clear hv hC hA0 hown hfk hg hkP hkP0 hd
    generalize hq : P.getD k pt0 = q at *
    have HQ0 := Lib.hid hq
    clear hq
    generalize hqn : q.by.length = qn at *
    generalize hqm : q.bs.length = qm at *
    generalize q.du = du at *
    have HQ := Lib.hid (And.intro hqn hqm)
    clear hqn hqm
    have HC2 := Lib.hid (HC.out wr.drew du ((Below.refl _ wr).drew))
    go_upto_region 3 with (fail)
    go_region_law (first
        | (go_simp
           go_at_call 62
           with_reducible refine HC2.out.mono ?_
           rintro e w9 ⟨rfl, hb⟩
           have hv9 := (HV.out.below ((Below.refl _ wr).drew)).below hb
           have t49 : w9.cell? ⟨d, 4, none⟩ = some (.slice (some ⟨p, 0, none⟩) n n) := below_keep hb t4
           have r19 : w9.cell? ⟨p, k * 2 + 1, none⟩ = some (.int .i64 du) := below_keep hb r1
           have hf9 : ∀ i, w9.frozen? ⟨p, i, none⟩ = false := fun i => hv9.row.frozen i
           have HV9 := Lib.hid hv9
           have HB := Lib.hid hb
           clear hb hv9))
    all_goals
     clear t4 r0 r1 hf t49 r19 hf9
     have hV : (cs.setIfInBounds (k * 2) (V k)) = cs := arr_set_self (HV9.out.c0 k HKP.out.1)
     have hrow := HV9.out.row.set_ (k * 2 + 1) (.int .i64 (qm : Nat))
     have hkk : Kp (fun b => b = p) w9 (w9.setCell ⟨p, k * 2 + 1, none⟩ (.int .i64 (qm : Nat))) := (Kp.refl (fun b => b = p) w9).setCell (p := ⟨p, k * 2 + 1, none⟩) (.inl rfl) _
     have hO9 := HV9.out.own k HKP.out.1
     rw [HG.out] at hO9
     have hput := HV9.out.put HKP.out.1 (v := V k) (q := ⟨q.bs, qm⟩) ⟨HO.out.2.len, HO.out.2.fit, by rw [<- HQ.out.2]; exact Nat.le_refl _, HO.out.2.byt⟩ hO9 (fun b hb => hb) hkk (by rw [hV]; exact hrow)
     have hfs := flushTo_succ P k HKP.out.2
     rw [HQ0.out, HQ.out.2] at hfs
     rw [hfs] at hput
     have hw : Kp (fun b => ¬ X b) w (w9.setCell ⟨p, k * 2 + 1, none⟩ (.int .i64 (qm : Nat))) :=
      ((HK.out.drewN 1).trans (Kp.of_below (S := fun b => ¬ X b) HB.out) (fun _ _ h => h)).setCell (p := ⟨p, k * 2 + 1, none⟩) (.inl HV.out.xp) _
     have HN2 : Hid (DevIs X (w9.setCell ⟨p, k * 2 + 1, none⟩ (.int .i64 (qm : Nat))) d s (flushTo P (k + 1)) ∧ Kp (fun b => ¬ X b) w (w9.setCell ⟨p, k * 2 + 1, none⟩ (.int .i64 (qm : Nat)))) := ⟨hput, hw⟩
     clear hV hrow hkk hO9 hput hfs hw
     go_wp2
     go_roundw
     case rel => exact ⟨k + 1, by omega, by go_num, HN2⟩
     case measure => simp [intOf]; omega
  · obtain rfl : k = n := by omega
    go_wp2
    go_end0
    have := hd.out
    rw [HN.out, flushTo_all] at this
    exact ⟨rfl, this.1, this.2⟩
end Go.Proofs.YtfabgbmbnmbjkaaGreatDoor

