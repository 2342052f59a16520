/- Joined texts: Cp. -/
import Derived.Test.YtfabgbmbnmbjkaaGreatDoorRaq
import Derived.Test.YtfabgbmbnmbjkaaGreatDoorRah
/- Pruned. -/
namespace Go.Proofs.YtfabgbmbnmbjkaaGreatDoor
open Go.RowKit
set_option maxRecDepth 20000
def plB (p : Pl) : List Int := packS [4, 8, 2, 2] [p.t, p.b, p.z, p.k]
theorem plB_length (p : Pl) : (plB p).length = 16 := by simp [plB, packS, beB_length, widthN]
def frontC (at_ many seq : Int) (L : List Pl) (k : Nat) : List Int := headC at_ many seq L.length ++ (L.take k).flatMap plB
theorem frontC_length (at_ many seq : Int) (L : List Pl) (k : Nat) (h : k <= L.length) : (frontC at_ many seq L k).length = 26 + 16 * k := by
 have h1 : ∀ l : List Pl, (l.flatMap plB).length = 16 * l.length := fun l => by
  induction l with
  | nil => rfl
  | cons p r ih => simp [plB_length, ih]; omega
 simp [frontC, headC_length, h1, Nat.min_eq_left h]
theorem frontC_succ (at_ many seq : Int) (L : List Pl) (k : Nat) (h : k < L.length) : frontC at_ many seq L (k + 1) = frontC at_ many seq L k ++ plB (L.getD k p0) := by
 unfold frontC
 rw [List.take_succ_eq_append_getElem h, List.flatMap_append, List.getD_eq_getElem?_getD, List.getElem?_eq_getElem h]
 simp
theorem frontC_bd (at_ many seq : Int) (L : List Pl) (k : Nat) : ∀ x ∈ frontC at_ many seq L k, ByteOk x := by
 intro x hx
 rcases List.mem_append.1 hx with h | h
 · exact packS_bd _ _ x h
 · obtain ⟨p, _, hp⟩ := List.mem_flatMap.1 h
   exact packS_bd _ _ x hp
def blockC (bl : Nat) (at_ many seq : Int) (L : List Pl) : List Int := doneB (frontC at_ many seq L L.length) bl
theorem blockC_nil (bl : Nat) (at_ many seq : Int) : blockC bl at_ many seq [] = doneB (headC at_ many seq 0) bl := by simp [blockC, frontC]
theorem roomC_fit {n bl : Nat} (h : n <= roomC bl) (hb : 64 <= bl) : 26 + 16 * n + 1 <= bl := by unfold roomC at h; omega
theorem blockC_length (bl : Nat) (at_ many seq : Int) (L : List Pl) (h : L.length <= roomC bl) (hb : 64 <= bl) : (blockC bl at_ many seq L).length = bl := by
 have h1 := roomC_fit h hb
 exact doneB_length _ _ (by rw [frontC_length _ _ _ _ _ (Nat.le_refl _)]; omega) (by omega)
theorem blockC_bd (bl : Nat) (at_ many seq : Int) (L : List Pl) : ∀ x ∈ blockC bl at_ many seq L, ByteOk x := doneB_bd _ _ (frontC_bd _ _ _ _ _)
def manyC (n room : Nat) : Nat := max ((n + room - 1) / room) 1
def partC (room : Nat) (L : List Pl) (i : Nat) : List Pl := (L.drop (i * room)).take room
theorem partC_length (room : Nat) (L : List Pl) (i : Nat) : (partC room L i).length = min room (L.length - i * room) := by simp [partC]
theorem partC_get (room : Nat) (L : List Pl) (i j : Nat) (h : j < (partC room L i).length) : (partC room L i).getD j p0 = L.getD (i * room + j) p0 := by
 rw [partC_length] at h
 unfold partC
 rw [List.getD_eq_getElem?_getD, List.getD_eq_getElem?_getD, List.getElem?_take, if_pos (by omega), List.getElem?_drop]
theorem many_le {n room i : Nat} (hr : 1 <= room) (h : i < manyC n room) : i * room <= n ∧ (n = 0 -> i = 0) ∧ (0 < n -> i * room < n) := by
 unfold manyC at h
 rcases Nat.eq_zero_or_pos n with rfl | hn
 · have h0 : (0 + room - 1) / room = 0 := Nat.div_eq_of_lt (by omega)
   rw [h0] at h
   have : i = 0 := by omega
   subst this
   simp
 · have h1 : 1 <= (n + room - 1) / room := (Nat.one_le_div_iff (by omega)).2 (by omega)
   have h2 : i + 1 <= (n + room - 1) / room := by omega
   have h3 := (Nat.le_div_iff_mul_le (by omega)).1 h2
   rw [Nat.add_mul, Nat.one_mul] at h3
   omega
theorem many_end {n room : Nat} (hr : 1 <= room) : n <= manyC n room * room := by
 have h1 := Nat.div_add_mod (n + room - 1) room
 have h2 := Nat.mod_lt (n + room - 1) (show 0 < room by omega)
 have h3 : (n + room - 1) / room * room <= manyC n room * room := Nat.mul_le_mul_right _ (by unfold manyC; omega)
 rw [Nat.mul_comm] at h1
 omega
def encC (bl : Nat) (seq : Int) (L : List Pl) : List (List Int) := (List.range (manyC L.length (roomC bl))).map (fun i : Nat => blockC bl (i : Int) (manyC L.length (roomC bl) : Nat) seq (partC (roomC bl) L i))
theorem encC_length (bl : Nat) (seq : Int) (L : List Pl) : (encC bl seq L).length = manyC L.length (roomC bl) := by simp [encC]
theorem encC_get (bl : Nat) (seq : Int) (L : List Pl) (i : Nat) (h : i < manyC L.length (roomC bl)) : (encC bl seq L).getD i [] = blockC bl i (manyC L.length (roomC bl) : Nat) seq (partC (roomC bl) L i) := by
 rw [List.getD_eq_getElem?_getD]
 unfold encC
 rw [List.getElem?_map, List.getElem?_range h]
 rfl
theorem encC_take (bl : Nat) (seq : Int) (L : List Pl) (i : Nat) (h : i < manyC L.length (roomC bl)) : (encC bl seq L).take (i + 1) = (encC bl seq L).take i ++ [blockC bl i (manyC L.length (roomC bl) : Nat) seq (partC (roomC bl) L i)] := by
 have h1 : i < (encC bl seq L).length := by rw [encC_length]; exact h
 rw [List.take_succ_eq_append_getElem h1, <- encC_get bl seq L i h, List.getD_eq_getElem?_getD, List.getElem?_eq_getElem h1]
 rfl
theorem encC_fit (bl : Nat) (seq : Int) (L : List Pl) (hb : 64 <= bl) : ∀ b ∈ encC bl seq L, b.length = bl ∧ ∀ x ∈ b, ByteOk x := by
 intro b hm
 obtain ⟨i, _, rfl⟩ := List.mem_map.1 hm
 exact ⟨blockC_length _ _ _ _ _ (by rw [partC_length]; omega) hb, blockC_bd _ _ _ _ _⟩
def appsP (P : List Part) (z : Nat) (bs : List (List Int)) : List Part := bs.foldl (fun P b => appP P z b) P
def saveL (P : List Part) (z : Nat) (bs : List (List Int)) : List Part := flushP (appsP (P.set z pt0) z bs)
structure PlacesOk (sh : Sh) (L : List Pl) : Prop where
  rise : Rising L
  n : ∀ p ∈ L, NameOk p.n
  a : ∀ p ∈ L, 2 <= p.z ∧ p.z < sh.z ∧ 0 <= p.k ∧ p.k < sh.zb
theorem PlacesOk.get {sh : Sh} {L : List Pl} (h : PlacesOk sh L) {k : Nat} (hk : k < L.length) : NameOk (L.getD k p0).n ∧ 2 <= (L.getD k p0).z ∧ (L.getD k p0).z < sh.z ∧ 0 <= (L.getD k p0).k ∧ (L.getD k p0).k < sh.zb := ⟨h.n _ (getD_mem hk), h.a _ (getD_mem hk)⟩
theorem PlacesOk.next {sh : Sh} {L : List Pl} (h : PlacesOk sh L) {k : Nat} (hk : k + 1 < L.length) : (L.getD k p0).t < (L.getD (k + 1) p0).t ∨ ((L.getD k p0).t = (L.getD (k + 1) p0).t ∧ (L.getD k p0).b < (L.getD (k + 1) p0).b) := by
 have h1 := List.pairwise_iff_getElem.1 h.rise k (k + 1) (by omega) hk (by omega)
 rw [List.getD_eq_getElem?_getD, List.getD_eq_getElem?_getD, List.getElem?_eq_getElem (by omega), List.getElem?_eq_getElem hk]
 exact lessB_iff.1 h1
end Go.Proofs.YtfabgbmbnmbjkaaGreatDoor

