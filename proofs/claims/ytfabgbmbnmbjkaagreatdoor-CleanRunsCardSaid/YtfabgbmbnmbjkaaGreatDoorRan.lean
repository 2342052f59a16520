/- Joined texts: Bz. -/
import Derived.Test.YtfabgbmbnmbjkaaGreatDoorRal
import Derived.Lib.AppendZeros
import Derived.Laws.IdiomCopy
/- Pruned. -/
namespace Go.Proofs.YtfabgbmbnmbjkaaGreatDoor
open Go.RowKit
set_option maxRecDepth 20000
theorem Blk.setCells {g : Nat} {e : TypeId} : ∀ (vs : List Value) (o : Nat) (w : World) (cs : Array Value), Blk w g e cs -> o + vs.length <= cs.size ->
    ∃ cs' : Array Value, Blk (w.setCells g o vs) g e cs' ∧ cs'.size = cs.size ∧ cs'.toList = cs.toList.take o ++ vs ++ cs.toList.drop (o + vs.length)
  | [], o, w, cs, h, _ => ⟨cs, h, rfl, by simp⟩
  | v :: r, o, w, cs, h, hl => by
    simp only [List.length_cons] at hl
    obtain ⟨cs', h1, h2, h3⟩ := Blk.setCells r (o + 1) _ _ (h.set_ o v) (by simp; omega)
    refine ⟨cs', h1, by simpa using h2, ?_⟩
    have hlt : o < cs.toList.length := by simp; omega
    rw [h3, Array.toList_setIfInBounds, List.take_succ_eq_append_getElem (by simpa using hlt), List.take_set_of_le (Nat.le_refl _), List.getElem_set_self, List.drop_set_of_lt (by omega)]
    simp [Nat.add_assoc, Nat.add_comm 1]
theorem World.setCells_kp (g : Nat) : ∀ (vs : List Value) (o : Nat) (w : World), Kp (fun i => i = g) w (w.setCells g o vs)
  | [], _, w => Kp.refl _ w
  | v :: r, o, w => ((Kp.refl (fun i => i = g) w).setCell (p := ⟨g, o, none⟩) (.inl rfl) v).trans (World.setCells_kp g r (o + 1) _) (fun _ _ h => h)
theorem zeros_u8 (m : Nat) : (Builtin.zeroCells (Value.int .u8 0).cells m).toList = nums .u8 (List.replicate m 0) := by
 have e : (Value.int .u8 0).cells = #[Value.int .u8 0] := rfl
 rw [e]
 refine List.ext_getElem? fun j => ?_
 unfold Builtin.zeroCells nums
 simp only [Array.getElem?_toList]
 by_cases h : j < m
 · simp [h, Nat.mod_one]
 · simp [h]
theorem zeros_arr (m : Nat) : Builtin.zeroCells (Value.int .u8 0).cells m = (nums .u8 (List.replicate m 0)).toArray := by
 rw [<- zeros_u8]
theorem run_append_zeros_b (w : World) (base c m : Nat) (A : Option Addr) (xs : List Int) (ty : TypeId) (hown : BRow w base A c xs) (h0 : 0 < xs.length) (hlen : xs.length + m <= 100000000) (hbase : base <= w.heap.size) :
    ∃ A' c' w', (Builtin.append_ #[36, 3] ty #[.slice A xs.length c, .int .i64 m]).run Tryz.prog w = .ok (.slice A' (xs ++ List.replicate m 0).length c') w' ∧ BRow w' base A' c' (xs ++ List.replicate m 0) ∧
      Kp (fun i => (Value.slice A xs.length c).ownBlock = some i) w w' ∧ ((Value.slice A' (xs ++ List.replicate m 0).length c').ownBlock = (Value.slice A xs.length c).ownBlock ∨ (Value.slice A' (xs ++ List.replicate m 0).length c').ownBlock = some w.heap.size) := by
 obtain ⟨i, hi, hz, hs, hb⟩ := info_parts u8_info
 have ht : Tryz.prog.underlying 36 = some (.slice 5) := Tryz.underlying36
 have hti : Tryz.prog.underlying 3 = some (.int .i64) := Tryz.underlying3
 have hw : IntKind.i64.wrap (m : Int) = m := by rw [IntKind.wrap_i64]; omega
 have hneg : ¬ ((m : Int) < 0) := by omega
 have hbig : ¬ (281474976710656 < (m : Int)) := by omega
 have hl : (nums .u8 (List.replicate m (0 : Int))).length = m := by simp [nums]
 have hlx : (nums .u8 xs).length = xs.length := nums_length _ _
 have hlen2 : (xs ++ List.replicate m (0 : Int)).length = xs.length + m := by simp
 have hones : ∀ u ∈ nums .u8 (List.replicate m (0 : Int)), u.oneCell' = true := nums_one _ _
 rcases hown.2 with ⟨_, h⟩ | ⟨g, cap, cur, hv, hbg, hg, hnc, hcm, hcs, htake⟩
 · omega
 · injection hv with e1 e2 e3
   subst e1 e3
   rw [Nat.mul_one] at hcs htake
   by_cases hroom : xs.length + m <= c
   · have hblk : Blk w g 5 cur := hg
     obtain ⟨cur', h3, h4, h5⟩ := Blk.setCells (nums .u8 (List.replicate m (0 : Int))) xs.length w cur hblk (by rw [hl, hcs]; exact hroom)
     have hadd : (⟨g, 0, none⟩ : Addr).add xs.length = ⟨g, xs.length, none⟩ := by unfold Addr.add; split <;> simp_all
     have hw0 : IntKind.i64.wrap 0 = 0 := by rw [IntKind.wrap_i64]; rfl
     have hkp := World.setCells_kp g (nums .u8 (List.replicate m (0 : Int))) xs.length w
     have hst := run_storeCells_cells (P := Tryz.prog) g xs.length (nums .u8 (List.replicate m (0 : Int))) 0 w (fun j hj => by rw [hblk.cell]; simp; omega) (fun j _ => hblk.frozen _) hones
     simp only [Nat.add_zero] at hst
     refine ⟨some ⟨g, 0, none⟩, c, w.setCells g xs.length (nums .u8 (List.replicate m (0 : Int))), ?_, ?_, hkp.mono (fun b _ e => by rw [e]; rfl), .inl rfl⟩
     · rw [hlen2]
       by_cases hm : m = 0
       · subst hm
         have e0 : nums .u8 (List.replicate 0 (0 : Int)) = [] := rfl
         rw [e0] at hst ⊢
         simp [Builtin.append_, run_underlying ht, run_underlying hti, sizeOf, typeInfo, hi, hs, hb, asInt, asIntOf, hw0, hnc, hadd, hst]
       · simp [Builtin.append_, run_underlying ht, run_underlying hti, sizeOf, typeInfo, zeroValue, hi, hz, hs, hb, asInt, asIntOf, hw, hneg, hbig, hroom, hm, zeros_arr, hadd, hst]
     · refine ⟨by rw [nums_length, Nat.mul_one], .inr ⟨g, c, cur', by rw [hlen2], hbg, h3, by rw [hlen2]; exact hroom, hcm, by rw [h4, hcs, Nat.mul_one], ?_⟩⟩
       rw [h5, htake, nums_app, Nat.mul_one]
       exact List.take_left' (by rw [List.length_append, hl, hlx, hlen2])
   · have holds : ∀ j u, (nums .u8 xs)[j]? = some u -> w.cell? ((⟨g, 0, none⟩ : Addr).add j) = some u := World.ownsRow.cells hown (g := g) rfl
     have hfo : (Builtin.firstCells 1 xs.length (.slice (some ⟨g, 0, none⟩) xs.length c)).run Tryz.prog w.drew = .ok (nums .u8 xs).toArray w.drew := run_firstCells_some (P := Tryz.prog) w.drew 1 xs.length _ xs.length c (nums .u8 xs) (by rw [hlx, Nat.mul_one]) (by simpa using holds)
     have h63' : ¬ (9223372036854775807 < ((xs.length : Int) + (m : Int))) := by omega
     have hfit := growslice_fits (bytes := 1) (show c < xs.length + m by omega) (by omega)
     have h48' : ¬ (281474976710656 < Builtin.nextslicecap (xs.length + m) c) := by omega
     have hm : ¬ m = 0 := by omega
     have hge := grownCap_ge w (xs.length + m) c 5
     have hcm' : grownCap w (xs.length + m) c 5 <= maxLen := grownCap_le_maxLen w (xs.length + m) c 5 (by simp only [maxLen]; omega)
     refine ⟨some ⟨w.heap.size, 0, none⟩, grownCap w (xs.length + m) c 5, w.drew.alloc (.cells ((nums .u8 xs).toArray ++ (nums .u8 (List.replicate m 0)).toArray ++ Builtin.zeroCells (Value.int .u8 0).cells (grownCap w (xs.length + m) c 5 - (xs.length + m))) 5), ?_, ?_, ⟨rfl, rfl, rfl, by simp, fun k hk _ => heap_alloc_old w.drew _ hk⟩, .inr rfl⟩
     · rw [hlen2]
       simp [Builtin.append_, run_underlying ht, run_underlying hti, sizeOf, typeInfo, zeroValue, hi, hz, hs, hb, asInt, asIntOf, hw, hneg, hbig, hroom, h63', h48', Question.forced, hfo, newRow, grownCap, hm, zeros_arr]
     · refine ⟨by rw [nums_length, Nat.mul_one], .inr ⟨w.heap.size, _, _, by rw [hlen2], hbase, heap_alloc_new w.drew _, by rw [hlen2]; exact hge, hcm', ?_, ?_⟩⟩
       · rw [zeros_arr]
         simp [nums]
         omega
       · rw [hlen2, nums_app, Nat.mul_one]
         simp only [Array.toList_append, List.append_assoc]
         rw [<- List.append_assoc]
         exact List.take_left' (by rw [List.length_append, hl, hlx])
end Go.Proofs.YtfabgbmbnmbjkaaGreatDoor

