/- Joined texts: Lm Ln. -/
import Derived.Test.YtfabgbmbnmbjkaaGreatDoorChecked
import Derived.Test.YtfabgbmbnmbjkaaGreatDoorRac
import Derived.WalkKit
import Derived.WalkLawsBesides
import Derived.BigQuiet
import Derived.Deep.QuietTactic
import Derived.Deep.RegionWith
import Derived.Deep.RegionHeld3
import Derived.Lib.Hide
import Derived.Handy
import Derived.Test.YtfabgbmbnmbjkaaGreatDoorRab
/- Pruned. -/
namespace Go.Proofs.YtfabgbmbnmbjkaaGreatDoor
open Go.RowKit
open Go.Maps (Keyed)
def nameV (n : Int × Int) : Value := .agg #[.int .u32 n.1, .int .u64 n.2]
def addrV (a : Int × Int) : Value := .agg #[.int .i64 a.1, .int .i64 a.2]
def NameOk (n : Int × Int) : Prop := (0 <= n.1 ∧ n.1 <= 4294967295) ∧ 0 <= n.2 ∧ n.2 <= 18446744073709551615
def AddrOk (a : Int × Int) : Prop := (-9223372036854775808 <= a.1 ∧ a.1 <= 9223372036854775807) ∧ -9223372036854775808 <= a.2 ∧ a.2 <= 9223372036854775807
theorem keys_laid : laidOutB Tryz.prog = true := by kernel_rfl
theorem keys_own : Tryz.prog.keyType 105 = true ∧ Tryz.prog.keyType 53 = true := by constructor <;> kernel_rfl
theorem keys_size : Tryz.prog.types.size + 1 = (Tryz.prog.types.size - 1) + 1 + 1 := by kernel_rfl
theorem keys_cells : Tryz.prog.cellsOf 105 = 2 ∧ Tryz.prog.cellsOf 53 = 2 ∧ Tryz.prog.cellsOf 39 = 1 ∧ Tryz.prog.cellsOf 40 = 1 ∧ Tryz.prog.cellsOf 3 = 1 := by refine ⟨?_, ?_, ?_, ?_, ?_⟩ <;> kernel_rfl
theorem nameV_key (n : Int × Int) (h : NameOk n) : ∃ kl, keyOf Tryz.prog 105 (nameV n) = some kl := by
 have h1 : (Lit.int .u32 n.1).wf = true := WalkArith.wf_u32 h.1
 have h2 : (Lit.int .u64 n.2).wf = true := WalkArith.wf_u64 h.2
 obtain ⟨c1, c2, c3, c4, c5⟩ := keys_cells
 obtain ⟨m, hm⟩ : ∃ m, Tryz.prog.types.size + 1 = m + 1 + 1 := ⟨_, keys_size⟩
 unfold keyOf
 rw [hm]
 clear hm
 simp [Tryz.underlying105, keys_own.1, nameV, Value.formed, Value.cells, Program.keyLits, Tryz.underlying39, Tryz.underlying40, c1, c3, c4, h1, h2]
theorem addrV_key (n : Int × Int) (h : AddrOk n) : ∃ kl, keyOf Tryz.prog 53 (addrV n) = some kl := by
 have h1 : (Lit.int .i64 n.1).wf = true := WalkArith.wf_i64 h.1
 have h2 : (Lit.int .i64 n.2).wf = true := WalkArith.wf_i64 h.2
 obtain ⟨c1, c2, c3, c4, c5⟩ := keys_cells
 obtain ⟨m, hm⟩ : ∃ m, Tryz.prog.types.size + 1 = m + 1 + 1 := ⟨_, keys_size⟩
 unfold keyOf
 rw [hm]
 clear hm
 simp [Tryz.underlying53, keys_own.2, addrV, Value.formed, Value.cells, Program.keyLits, Tryz.underlying3, c2, c5, h1, h2]
theorem name_row : (105 : TypeId) < Tryz.prog.types.size := of_decide_eq_true (by kernel_rfl)
theorem addr_row : (53 : TypeId) < Tryz.prog.types.size := of_decide_eq_true (by kernel_rfl)
theorem name_law : WideMaps.KeyLaw Tryz.prog 105 := deep_law_laid keys_laid (m := 2) (by omega) name_row (by kernel_rfl) (by rw [Tryz.underlying105])
theorem addr_law : WideMaps.KeyLaw Tryz.prog 53 := deep_law_laid keys_laid (m := 2) (by omega) addr_row (by kernel_rfl) (by rw [Tryz.underlying53])
def nameC : KeyCode Tryz.prog 105 (Int × Int) where
  law := Keyed.of_law name_law
  kv := nameV
  ok := NameOk
  isKey := nameV_key
  inj := by
   rintro ⟨a1, a2⟩ ⟨b1, b2⟩ h
   simp [nameV] at h
   rw [h.1, h.2]
def addrC : KeyCode Tryz.prog 53 (Int × Int) where
  law := Keyed.of_law addr_law
  kv := addrV
  ok := AddrOk
  isKey := addrV_key
  inj := by
   rintro ⟨a1, a2⟩ ⟨b1, b2⟩ h
   simp [addrV] at h
   rw [h.1, h.2]
def U32Ok (t : Int) : Prop := 0 <= t ∧ t <= 4294967295
def u32C : KeyCode Tryz.prog 39 Int where
  law := Maps.int_keyed Tryz.underlying39
  kv := .int .u32
  ok := U32Ok
  isKey := fun t h => ⟨_, Maps.keyOf_int_mk Tryz.underlying39 (WalkArith.wf_u32 h)⟩
  inj := by
   intro a b h
   injection h
end Go.Proofs.YtfabgbmbnmbjkaaGreatDoor

/- Pruned. -/
namespace Go.Proofs.YtfabgbmbnmbjkaaGreatDoor
open Go.RowKit
structure LFp where
  g : Nat
  b1 : Nat
  b2 : Nat
  b3 : Nat
def LFp.S (f : LFp) (i : Nat) : Prop := i = f.g ∨ i = f.b1 ∨ i = f.b2 ∨ i = f.b3
def LFp.T (f : LFp) (i : Nat) : Prop := i = f.b1 ∨ i = f.b2 ∨ i = f.b3
structure LM (w : World) (f : LFp) (n : Nat) (L : List Pl) : Prop where
  blk : Blk w f.g 113 #[.map (some f.b1), .map (some f.b2), .map (some f.b3)]
  where_ : MapF nameC addrV w f.b1 n (atOf L)
  what : MapF addrC nameV w f.b2 n (inAt L)
  counts : ∃ Cn, MapF u32C (Value.int .u64) w f.b3 n Cn ∧ ∀ t, (Cn t).getD 0 = cnt L t
  ne : f.g ≠ f.b1 ∧ f.g ≠ f.b2 ∧ f.g ≠ f.b3 ∧ f.b1 ≠ f.b2 ∧ f.b1 ≠ f.b3 ∧ f.b2 ≠ f.b3
  uniq : Uniq L
  len : L.length <= n
  names : ∀ p ∈ L, NameOk p.n ∧ AddrOk p.a
section
variable {w w' : World} {f : LFp} {n : Nat} {L : List Pl}
theorem LM.kp {S : Nat -> Prop} (h : LM w f n L) (k : Kp S w w') (hs : ∀ i, f.S i -> ¬ S i) : LM w' f n L :=
 ⟨k.blk h.blk (hs _ (.inl rfl)), h.where_.kp k (hs _ (.inr (.inl rfl))), h.what.kp k (hs _ (.inr (.inr (.inl rfl)))), (by obtain ⟨C, h1, h2⟩ := h.counts; exact ⟨C, h1.kp k (hs _ (.inr (.inr (.inr rfl)))), h2⟩), h.ne, h.uniq, h.len, h.names⟩
theorem LM.lt (h : LM w f n L) {i : Nat} (hi : f.S i) : i < w.heap.size := by
 rcases hi with rfl | rfl | rfl | rfl
 · exact h.blk.lt
 · exact h.where_.lt
 · exact h.what.lt
 · obtain ⟨C, h1, _⟩ := h.counts
   exact h1.lt
theorem LM.below (h : LM w f n L) (k : Below w.heap.size w w') : LM w' f n L := h.kp (S := fun _ => False) (Kp.of_below k) (fun _ _ h => h)
theorem LM.alloc (h : LM w f n L) (o : Obj) : LM (w.alloc o) f n L := h.below ((Below.refl _ _).alloc (Nat.le_refl _) o)
theorem LM.drew (h : LM w f n L) : LM w.drew f n L := h.below ⟨rfl, rfl, rfl, Nat.le_refl _, fun _ _ => rfl⟩
theorem LM.mono (h : LM w f n L) {m : Nat} (hm : n <= m) : LM w f m L :=
 ⟨h.blk, h.where_.mono hm, h.what.mono hm, (by obtain ⟨C, h1, h2⟩ := h.counts; exact ⟨C, h1.mono hm, h2⟩), h.ne, h.uniq, Nat.le_trans h.len hm, h.names⟩
theorem LM.atOk (h : LM w f n L) {m a : Int × Int} (e : atOf L m = some a) : NameOk m ∧ AddrOk a := by
 obtain ⟨p, hp, rfl, rfl⟩ := (atOf_some h.uniq).1 e
 exact h.names p hp
theorem LM.inOk (h : LM w f n L) {m a : Int × Int} (e : inAt L a = some m) : NameOk m ∧ AddrOk a := h.atOk (atOf_of_inAt h.uniq e)
end
theorem lnew_any (w : World) : Calls Tryz.prog 88 #[] w fun e w' => ∃ f : LFp, e = .returned (.pointer (some ⟨f.g, 0, none⟩)) ∧ (∀ i, f.S i -> w.heap.size <= i) ∧ LM w' f 0 [] ∧ Below w.heap.size w w' := by
 have hmm := @run_makeMap Tryz.prog
 go_enter Tryz.func88, Tryz.ntmps88
 go_wp2
 go_ret
 refine ⟨⟨w.heap.size + 1 + 1 + 1, w.heap.size, w.heap.size + 1, w.heap.size + 1 + 1⟩, by simp, ?_, ?_, ?_⟩
 · rintro i (rfl | rfl | rfl | rfl) <;> simp <;> omega
 · have m1 := (((MapF.made w nameC addrV).alloc (.map #[] 0)).alloc (.map #[] 0)).alloc (.cells #[.map (some w.heap.size), .map (some (w.heap.size + 1)), .map (some (w.heap.size + 1 + 1))] 113)
   have m2 := ((MapF.made (w.alloc (.map #[] 0)) addrC nameV).alloc (.map #[] 0)).alloc (.cells #[.map (some w.heap.size), .map (some (w.heap.size + 1)), .map (some (w.heap.size + 1 + 1))] 113)
   have m3 := (MapF.made ((w.alloc (.map #[] 0)).alloc (.map #[] 0)) u32C (Value.int .u64)).alloc (.cells #[.map (some w.heap.size), .map (some (w.heap.size + 1)), .map (some (w.heap.size + 1 + 1))] 113)
   have b := Blk.new (((w.alloc (.map #[] 0)).alloc (.map #[] 0)).alloc (.map #[] 0)) 113 #[.map (some w.heap.size), .map (some (w.heap.size + 1)), .map (some (w.heap.size + 1 + 1))]
   simp only [World.size_alloc] at m1 m2 m3 b
   exact ⟨b, m1, m2, ⟨_, m3, fun t => rfl⟩, by refine ⟨?_, ?_, ?_, ?_, ?_, ?_⟩ <;> simp <;> omega, List.Pairwise.nil, Nat.le_refl _, fun p hp => by cases hp⟩
 · exact ((((Below.refl _ _).alloc (Nat.le_refl _) _).alloc (by simp) _).alloc (by simp; omega) _).alloc (by simp; omega) _
theorem place_any (w : World) (n a : Int × Int) : Calls Tryz.prog 55 #[nameV n, addrV a] w (Makes (.agg #[.int .u32 n.1, .int .u64 n.2, .int .i64 a.1, .int .i64 a.2]) w) := by
 unfold nameV addrV
 go_enter Tryz.func55, Tryz.ntmps55
 go_wp2
 go_returns
 exact ⟨rfl, (((Below.refl _ _).alloc (Nat.le_refl _) _).alloc (by simp) _).alloc (by simp; omega) _⟩
theorem lget_any (w : World) (f : LFp) (n : Nat) (L : List Pl) (m : Int × Int) (hm : NameOk m) (h : LM w f n L) : Calls Tryz.prog 40 #[.pointer (some ⟨f.g, 0, none⟩), .int .u32 m.1, .int .u64 m.2] w
    (Makes (.tuple #[addrV ((atOf L m).getD (0, 0)), .bool (atOf L m).isSome]) w) := by
 have hl : ∀ o : Obj, (Instr.lookup 109 (.map (some f.b1)) (.agg #[.int .u32 m.1, .int .u64 m.2]) true).run Tryz.prog (w.alloc o) = .ok (.tuple #[.agg #[.int .i64 ((atOf L m).getD (0, 0)).1, .int .i64 ((atOf L m).getD (0, 0)).2], .bool (atOf L m).isSome]) (w.alloc o) := by
  intro o
  have := (h.where_.alloc o).look (t := 109) (e := 53) Tryz.underlying109 (z := addrV (0, 0)) (by kernel_rfl) (a := m) hm true
  refine this.trans ?_
  cases atOf L m <;> rfl
 have h0 : w.cell? ⟨f.g, 0, none⟩ = some (.map (some f.b1)) := h.blk.cell 0
 have hg := h.blk.lt
 unfold addrV
 generalize (atOf L m).getD (0, 0) = a at *
 generalize (atOf L m).isSome = is at *
 clear h
 go_enter Tryz.func40, Tryz.ntmps40
 go_wp2
 go_returns
 exact ⟨rfl, ((Below.refl _ _).alloc (Nat.le_refl _) _).alloc (by simp) _⟩
end Go.Proofs.YtfabgbmbnmbjkaaGreatDoor

