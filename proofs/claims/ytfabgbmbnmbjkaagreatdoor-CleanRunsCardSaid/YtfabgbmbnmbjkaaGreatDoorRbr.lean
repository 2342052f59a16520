/- Joined texts: Ca. -/
import Derived.Test.YtfabgbmbnmbjkaaGreatDoorRbd
import Derived.Test.YtfabgbmbnmbjkaaGreatDoorRbq
/- Pruned. -/
namespace Go.Proofs.YtfabgbmbnmbjkaaGreatDoor
open Go.RowKit Sco Fl
theorem listTo_mem (l : List Int) (s : Int) (k : Nat) (x : Int) : x ∈ listTo l s k ↔ ∃ i : Nat, i < k ∧ x = i ∧ l.getD i 0 = s := by
 induction k with
 | zero => simp [listTo]
 | succ k ih =>
   unfold listTo
   split
   · rename_i h
     rw [List.mem_append, ih, List.mem_singleton]
     constructor
     · rintro (⟨i, h1, h2, h3⟩ | rfl)
       · exact ⟨i, by omega, h2, h3⟩
       · exact ⟨k, by omega, rfl, h⟩
     · rintro ⟨i, h1, h2, h3⟩
       by_cases e : i = k
       · subst e; exact .inr h2
       · exact .inl ⟨i, by omega, h2, h3⟩
   · rename_i h
     rw [ih]
     constructor
     · rintro ⟨i, h1, h2, h3⟩
       exact ⟨i, by omega, h2, h3⟩
     · rintro ⟨i, h1, h2, h3⟩
       refine ⟨i, ?_, h2, h3⟩
       by_cases e : i = k
       · subst e; exact absurd h3 h
       · omega
theorem listTo_up (l : List Int) (s : Int) (k : Nat) : (listTo l s k).Pairwise (· < ·) := by
 induction k with
 | zero => exact List.Pairwise.nil
 | succ k ih =>
   unfold listTo
   split
   · refine List.pairwise_append.2 ⟨ih, List.pairwise_singleton _ _, fun a ha b hb => ?_⟩
     obtain ⟨i, h1, rfl, _⟩ := (listTo_mem _ _ _ _).1 ha
     obtain rfl := List.mem_singleton.1 hb
     omega
   · exact ih
def fullM (m : StM) : List Int := listTo m.G 3 m.G.length
theorem fullM_mem (m : StM) (x : Int) : x ∈ fullM m ↔ stateAt m.G x = 3 := by
 unfold fullM
 rw [listTo_mem]
 unfold stateAt
 constructor
 · rintro ⟨i, h1, rfl, h3⟩
   rw [if_pos ⟨by omega, by omega⟩, Int.toNat_natCast]
   exact h3
 · intro h
   split at h
   · rename_i hx
     exact ⟨x.toNat, by omega, by omega, h⟩
   · cases h
def wv (a b c : Int) : Nat := fval .quo (fval .mul (fval .sub 4607182418800017408 (fval .quo (ofu a) (ofu b) default) default) (ofu c) default) (fval .add 4607182418800017408 (fval .quo (ofu a) (ofu b) default) default) default
theorem wv_is (a b c : Int) : WorthIs a b c (wv a b c) := ⟨_, _, _, _, fval_res _ _ _ _, fval_res _ _ _ _, fval_res _ _ _ _, fval_res _ _ _ _, fval_res _ _ _ _⟩
def nanW : Nat := 9221120237041090561
theorem nanW_nan : isNan nanW = true := by kernel_rfl
theorem Sco.Sm.nan {x y : Nat} (h : Sm x y) : isNan x = isNan y := by
 rcases h with rfl | ⟨h1, h2⟩
 · rfl
 · rw [h1, h2]
theorem Sco.Sm.key {x y : Nat} (h : Sm x y) (hx : isNan x = false) : x = y := by
 rcases h with rfl | ⟨h1, h2⟩
 · rfl
 · rw [h1] at hx; cases hx
theorem Sco.IsBest.sm {l l' : List Nat} {k : Nat} {n : Int} (h : IsBest l k n) (hs : ∀ i, i < k -> Sm (l.getD i 0) (l'.getD i 0)) : IsBest l' k n := by
 rcases h with ⟨rfl, h⟩ | ⟨j, rfl, h1, h2, h3, h4⟩
 · exact .inl ⟨rfl, fun i hi => by rw [<- (hs i hi).nan]; exact h i hi⟩
 · have ej := (hs j h1).key h2
   refine .inr ⟨j, rfl, h1, by rw [<- ej]; exact h2, fun i hi hn => ?_, fun i hi hn => ?_⟩
   · have hn' : isNan (l.getD i 0) = false := by rw [(hs i hi).nan]; exact hn
     rw [<- (hs i hi).key hn', <- ej]
     exact h3 i hi hn'
   · have hik : i < k := by omega
     have hn' : isNan (l.getD i 0) = false := by rw [(hs i hik).nan]; exact hn
     rw [<- (hs i hik).key hn', <- ej]
     exact h4 i hi hn'
def liveM (m : StM) (z : Int) : Nat := (ofZ z m.L).length
def ageM (m : StM) (z : Int) : Int := IntKind.u64.wrap (IntKind.u64.wrap (m.seq - lastM m z) + 1)
def fewM (sh : Sh) (m : StM) (z : Int) : Bool := decide (liveM m z <= sh.zb / 2)
def worthM (sh : Sh) (m : StM) (z : Int) : Nat := wv (liveM m z) sh.zb (ageM m z)
def worthAt (sh : Sh) (m : StM) (i : Nat) : Nat := if stateAt m.G i = 3 ∧ fewM sh m i = true then worthM sh m i else nanW
def worthsM (sh : Sh) (m : StM) : List Nat := (List.range sh.z).map (worthAt sh m)
theorem worthsM_get (sh : Sh) (m : StM) (i : Nat) (h : i < sh.z) : (worthsM sh m).getD i 0 = worthAt sh m i := by
 rw [List.getD_eq_getElem?_getD]
 unfold worthsM
 rw [List.getElem?_map, List.getElem?_range h]
 rfl
def emptyM (m : StM) : Option Int := (fullM m).find? (fun z => decide (liveM m z = 0))
def pickM (sh : Sh) (m : StM) : Int := match emptyM m with
 | some z => z
 | none => rbest (worthsM sh m) sh.z
def fewsM (sh : Sh) (m : StM) : List Int := (fullM m).filter (fun z => fewM sh m z)
theorem fewsM_mem (sh : Sh) (m : StM) (x : Int) : x ∈ fewsM sh m ↔ stateAt m.G x = 3 ∧ fewM sh m x = true := by
 unfold fewsM
 rw [List.mem_filter, fullM_mem]
theorem fewsM_up (sh : Sh) (m : StM) : (fewsM sh m).Pairwise (· < ·) := (listTo_up _ _ _).filter _
theorem pick_few {sh : Sh} {m : StM} (hg : m.G.length = sh.z) {ws : List Nat} (hl : ws.length = (fewsM sh m).length) (hs : ∀ i, i < ws.length -> Sm (ws.getD i 0) (worthM sh m ((fewsM sh m).getD i 0))) {n : Int} (hn : IsBest ws ws.length n) :
    IsBest (worthsM sh m) sh.z (if n < 0 then -1 else (fewsM sh m).getD n.toNat 0) := by
 have hget : ∀ i, i < ws.length -> (fewsM sh m).getD i 0 ∈ fewsM sh m := fun i hi => getD_mem (d := (0 : Int)) (by omega)
 have hin : ∀ x ∈ fewsM sh m, ∃ i : Nat, x = i ∧ i < sh.z := fun x hx => by
  have h := ((fewsM_mem sh m x).1 hx).1
  have := stateAt_in (z := x) (G := m.G) (by rw [h]; decide)
  exact ⟨x.toNat, by omega, by omega⟩
 have hw : ∀ i, i < ws.length -> ∃ z : Nat, (fewsM sh m).getD i 0 = z ∧ z < sh.z ∧ Sm (ws.getD i 0) ((worthsM sh m).getD z 0) := fun i hi => by
  obtain ⟨z, e, hz⟩ := hin _ (hget i hi)
  refine ⟨z, e, hz, ?_⟩
  rw [worthsM_get _ _ _ hz]
  unfold worthAt
  rw [if_pos (by rw [<- e]; exact (fewsM_mem sh m _).1 (hget i hi)), <- e]
  exact hs i hi
 have hback : ∀ z : Nat, z < sh.z -> isNan ((worthsM sh m).getD z 0) = false -> ∃ i, i < ws.length ∧ (fewsM sh m).getD i 0 = z := fun z hz hn' => by
  rw [worthsM_get _ _ _ hz] at hn'
  unfold worthAt at hn'
  split at hn'
  · rename_i h
    obtain ⟨i, hi, e⟩ := List.getElem_of_mem ((fewsM_mem sh m z).2 h)
    exact ⟨i, by omega, by rw [List.getD_eq_getElem?_getD, List.getElem?_eq_getElem hi, e]; rfl⟩
  · rw [nanW_nan] at hn'; cases hn'
 have hup : ∀ i j, i < ws.length -> j < ws.length -> (fewsM sh m).getD i 0 < (fewsM sh m).getD j 0 -> i < j := fun i j hi hj h => by
  rcases Nat.lt_trichotomy i j with hc | hc | hc
  · exact hc
  · subst hc; omega
  · have := List.pairwise_iff_getElem.1 (fewsM_up sh m) j i (by omega) (by omega) hc
    rw [List.getD_eq_getElem?_getD, List.getD_eq_getElem?_getD, List.getElem?_eq_getElem (show i < (fewsM sh m).length by omega), List.getElem?_eq_getElem (show j < (fewsM sh m).length by omega)] at h
    simp only [Option.getD_some] at h
    omega
 rcases hn with ⟨rfl, h⟩ | ⟨j, rfl, h1, h2, h3, h4⟩
 · rw [if_pos (by decide)]
   refine .inl ⟨rfl, fun z hz => ?_⟩
   cases hc : isNan ((worthsM sh m).getD z 0) with
   | true => rfl
   | false =>
     obtain ⟨i, hi, e⟩ := hback z hz hc
     obtain ⟨z', e', _, hsm⟩ := hw i hi
     obtain rfl : z' = z := by omega
     rw [<- hsm.nan, h i hi] at hc
     cases hc
 · rw [if_neg (by omega), Int.toNat_natCast]
   obtain ⟨z, e, hz, hsm⟩ := hw j h1
   have ej := hsm.key h2
   refine .inr ⟨z, e, hz, by rw [<- hsm.nan]; exact h2, fun y hy hny => ?_, fun y hy hny => ?_⟩
   · obtain ⟨i, hi, ei⟩ := hback y hy hny
     obtain ⟨y', e', _, hsi⟩ := hw i hi
     obtain rfl : y' = y := by omega
     have hni : isNan (ws.getD i 0) = false := by rw [hsi.nan]; exact hny
     rw [<- ej, <- hsi.key hni]
     exact h3 i hi hni
   · obtain ⟨i, hi, ei⟩ := hback y (by omega) hny
     obtain ⟨y', e', _, hsi⟩ := hw i hi
     obtain rfl : y' = y := by omega
     have hni : isNan (ws.getD i 0) = false := by rw [hsi.nan]; exact hny
     rw [<- ej, <- hsi.key hni]
     exact h4 i (hup i j hi h1 (by rw [ei, e]; omega)) hni
end Go.Proofs.YtfabgbmbnmbjkaaGreatDoor

