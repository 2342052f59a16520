/- Joined texts: Ca. -/
import Derived.Test.YtfabgbmbnmbjkaaGreatDoorAbd
import Derived.Test.YtfabgbmbnmbjkaaGreatDoorAbq
/- Pruned. -/
namespace Go.Proofs.YtfabgbmbnmbjkaaGreatDoor
open Go.RowKit Sco Fl
theorem listTo_mem (l : List Int) (s : Int) (k : Nat) (x : Int) : x ∈ listTo l s k ↔ ∃ i : Nat, i < k ∧ x = i ∧ l.getD i 0 = s := by
 induction k with
 | zero => simp [listTo]
 | succ k ih =>
   unfold listTo
   split
   · rename_i h
     rw [List.mem_append, ih, List.mem_singleton]
     constructor
     · rintro (⟨i, h1, h2, h3⟩ | rfl)
       · exact ⟨i, by omega, h2, h3⟩
       · exact ⟨k, by omega, rfl, h⟩
     · rintro ⟨i, h1, h2, h3⟩
       by_cases e : i = k
       · subst e; exact .inr h2
       · exact .inl ⟨i, by omega, h2, h3⟩
   · rename_i h
     rw [ih]
     constructor
     · rintro ⟨i, h1, h2, h3⟩
       exact ⟨i, by omega, h2, h3⟩
     · rintro ⟨i, h1, h2, h3⟩
       refine ⟨i, ?_, h2, h3⟩
       by_cases e : i = k
       · subst e; exact absurd h3 h
       · omega
def fullM (m : StM) : List Int := listTo m.G 3 m.G.length
theorem fullM_mem (m : StM) (x : Int) : x ∈ fullM m ↔ stateAt m.G x = 3 := by
 unfold fullM
 rw [listTo_mem]
 unfold stateAt
 constructor
 · rintro ⟨i, h1, rfl, h3⟩
   rw [if_pos ⟨by omega, by omega⟩, Int.toNat_natCast]
   exact h3
 · intro h
   split at h
   · rename_i hx
     exact ⟨x.toNat, by omega, by omega, h⟩
   · cases h
def wv (a b c : Int) : Nat := fval .quo (fval .mul (fval .sub 4607182418800017408 (fval .quo (ofu a) (ofu b) default) default) (ofu c) default) (fval .add 4607182418800017408 (fval .quo (ofu a) (ofu b) default) default) default
theorem wv_is (a b c : Int) : WorthIs a b c (wv a b c) := ⟨_, _, _, _, fval_res _ _ _ _, fval_res _ _ _ _, fval_res _ _ _ _, fval_res _ _ _ _, fval_res _ _ _ _⟩
def nanW : Nat := 9221120237041090561
theorem nanW_nan : isNan nanW = true := by kernel_rfl
theorem Sco.Sm.nan {x y : Nat} (h : Sm x y) : isNan x = isNan y := by
 rcases h with rfl | ⟨h1, h2⟩
 · rfl
 · rw [h1, h2]
theorem Sco.Sm.key {x y : Nat} (h : Sm x y) (hx : isNan x = false) : x = y := by
 rcases h with rfl | ⟨h1, h2⟩
 · rfl
 · rw [h1] at hx; cases hx
theorem Sco.IsBest.sm {l l' : List Nat} {k : Nat} {n : Int} (h : IsBest l k n) (hs : ∀ i, i < k -> Sm (l.getD i 0) (l'.getD i 0)) : IsBest l' k n := by
 rcases h with ⟨rfl, h⟩ | ⟨j, rfl, h1, h2, h3, h4⟩
 · exact .inl ⟨rfl, fun i hi => by rw [<- (hs i hi).nan]; exact h i hi⟩
 · have ej := (hs j h1).key h2
   refine .inr ⟨j, rfl, h1, by rw [<- ej]; exact h2, fun i hi hn => ?_, fun i hi hn => ?_⟩
   · have hn' : isNan (l.getD i 0) = false := by rw [(hs i hi).nan]; exact hn
     rw [<- (hs i hi).key hn', <- ej]
     exact h3 i hi hn'
   · have hik : i < k := by omega
     have hn' : isNan (l.getD i 0) = false := by rw [(hs i hik).nan]; exact hn
     rw [<- (hs i hik).key hn', <- ej]
     exact h4 i hi hn'
def liveM (m : StM) (z : Int) : Nat := (ofZ z m.L).length
def ageM (m : StM) (z : Int) : Int := IntKind.u64.wrap (IntKind.u64.wrap (m.seq - lastM m z) + 1)
def fewM (sh : Sh) (m : StM) (z : Int) : Bool := decide (liveM m z <= sh.zb / 2)
def worthM (sh : Sh) (m : StM) (z : Int) : Nat := wv (liveM m z) sh.zb (ageM m z)
def worthAt (sh : Sh) (m : StM) (i : Nat) : Nat := if stateAt m.G i = 3 ∧ fewM sh m i = true then worthM sh m i else nanW
def worthsM (sh : Sh) (m : StM) : List Nat := (List.range sh.z).map (worthAt sh m)
theorem worthsM_get (sh : Sh) (m : StM) (i : Nat) (h : i < sh.z) : (worthsM sh m).getD i 0 = worthAt sh m i := by
 rw [List.getD_eq_getElem?_getD]
 unfold worthsM
 rw [List.getElem?_map, List.getElem?_range h]
 rfl
def emptyM (m : StM) : Option Int := (fullM m).find? (fun z => decide (liveM m z = 0))
def pickM (sh : Sh) (m : StM) : Int := match emptyM m with
 | some z => z
 | none => rbest (worthsM sh m) sh.z
end Go.Proofs.YtfabgbmbnmbjkaaGreatDoor

