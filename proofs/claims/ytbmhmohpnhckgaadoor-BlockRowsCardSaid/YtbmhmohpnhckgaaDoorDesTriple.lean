/- TDES walked -/
import Derived.Test.YtbmhmohpnhckgaaDoorDesParts
namespace Go.Proofs.YtbmhmohpnhckgaaDoor
set_option linter.unusedSimpArgs false
open Go.RowKit Lb
theorem desparts_any (b o c n : Nat) (key : List UInt8) (hn : key.length = n) (hl : n = 8 ∨ n = 16 ∨ n = 24) (hc : n ≤ c) (w : World) (hr : Rd w (some ⟨b, o, none⟩) key) :
    Calls Tryd.prog 35 #[.slice (some ⟨b, o, none⟩) n c] w fun e w' => e = .returned (.tuple #[.agg (cs (tab 24 (partF n (fun i => key.getD i 0)))), .bool true]) ∧ Below w.heap.size w w' := by
  rcases hl with rfl | rfl | rfl
  · exact desparts_8 b o c key hn hc w hr
  · exact desparts_16 b o c key hn hc w hr
  · exact desparts_24 b o c key hn hc w hr
/-- a part of the three -/
theorem part_mid {w : World} {g : Nat} {t : TypeId} {n : Nat} {K : St} (h : Blk w g t (cs (tab 24 (partF n K)))) (j : Nat) (hj : j < 3) : w.rangeAt g (8 * j) ((tab 8 (keyF n K j)).map bv) := fun i v hv => by
  rw [List.getElem?_map] at hv
  by_cases hi : i < 8
  · rw [tab_get _ _ _ hi] at hv
    rw [h.cell, cs_get, tab_get _ _ _ (by omega)]
    exact hv
  · rw [List.getElem?_eq_none (by rw [tab_length]; omega)] at hv
    cases hv
theorem blk_range8 {w : World} {g : Nat} {t : TypeId} {F : St} (h : Blk w g t (cs (tab 8 F))) : w.rangeAt g 0 ((tab 8 F).map bv) := fun i v hv => by
  rw [List.getElem?_map] at hv
  rw [h.cell, cs_get, Nat.zero_add]
  exact hv
/-- the first and the third exchanged -/
def swapF (P : St) : St := fun i => if i < 8 then P (16 + i) else if i < 16 then P i else P (i - 16)
theorem swap_eq (n : Nat) (K : St) : ∀ i, i < 24 → (if 16 ≤ i ∧ i < 16 + 8 then keyF n K 0 (i - 16) else (fun i => if 0 ≤ i ∧ i < 0 + 8 then keyF n K 2 (i - 0) else partF n K i) i) = swapF (partF n K) i := by
  intro i hi
  simp only [swapF, keyF]
  by_cases h0 : i < 8
  · rw [if_neg (by omega), if_pos (by omega), if_pos h0]; rfl
  · by_cases h1 : i < 16
    · rw [if_neg (by omega), if_neg (by omega), if_neg h0, if_pos h1]
    · rw [if_pos (by omega), if_neg h0, if_neg h1]; congr 1; omega
theorem swap_at {w : World} {g : Nat} {t : TypeId} {P : St} (h : Blk w g t (cs (tab 24 (swapF P)))) (j : Nat) (G : St) (hG : ∀ i, i < 8 → swapF P (8 * j + i) = G i) (hj : j < 3) : w.rangeAt g (8 * j) ((tab 8 G).map bv) := fun i v hv => by
  rw [List.getElem?_map] at hv
  by_cases hi : i < 8
  · rw [tab_get _ _ _ hi] at hv
    rw [h.cell, cs_get, tab_get _ _ _ (by omega), hG i hi]
    exact hv
  · rw [List.getElem?_eq_none (by rw [tab_length]; omega)] at hv
    cases hv
theorem swap_0 {w : World} {g : Nat} {t : TypeId} {n : Nat} {K : St} (h : Blk w g t (cs (tab 24 (swapF (partF n K))))) : w.rangeAt g 0 ((tab 8 (keyF n K 2)).map bv) :=
  swap_at h 0 _ (fun i hi => by simp only [swapF, keyF]; rw [if_pos (by omega)]; congr 1; omega) (by decide)
theorem swap_1 {w : World} {g : Nat} {t : TypeId} {n : Nat} {K : St} (h : Blk w g t (cs (tab 24 (swapF (partF n K))))) : w.rangeAt g 8 ((tab 8 (keyF n K 1)).map bv) :=
  swap_at h 1 _ (fun i hi => by simp only [swapF, keyF]; rw [if_neg (by omega), if_pos (by omega)]) (by decide)
theorem swap_2 {w : World} {g : Nat} {t : TypeId} {n : Nat} {K : St} (h : Blk w g t (cs (tab 24 (swapF (partF n K))))) : w.rangeAt g 16 ((tab 8 (keyF n K 0)).map bv) :=
  swap_at h 2 _ (fun i hi => by simp only [swapF, keyF]; rw [if_neg (by omega), if_neg (by omega)]; congr 1; omega) (by decide)
set_option maxRecDepth 100000 in
set_option maxHeartbeats 8000000 in
theorem destriple_8 (b o c : Nat) (key : List UInt8) (hn : key.length = 8) (hc : 8 ≤ c) (F : St) (ba : Array Value) (hba : ba = cs (tab 8 F)) (back : Bool) (w : World) (hr : Rd w (some ⟨b, o, none⟩) key) :
    Calls Tryd.prog 25 #[.slice (some ⟨b, o, none⟩) 8 c, .agg ba, .bool back] w fun e w' => e = .returned (.tuple #[.agg (cs (tab 8 (tripF 8 (stOf key) F back))), .nilIface]) ∧ Below w.heap.size w w' := by
  subst hba
  have HN := Lib.hid hn
  clear hn
  go_enter Tryd.func25, Tryd.ntmps25
  go_wp2_with fail
  refine calls_name ?_
  intro W hW
  have hB0 : Blk W w.heap.size 66 (cs (tab 8 F)) := by rw [hW.out]; exact (Blk.new _ _ _).alloc _
  have hR0 : Blk W (w.heap.size + 1) 66 (cs (tab 8 (fun _ => 0))) := by rw [hW.out]; exact Blk.new_at (by simp) _ _
  have hr0 : Rd W (some ⟨b, o, none⟩) key := by rw [hW.out]; exact (hr.alloc _).alloc _
  have hW0 : Below w.heap.size w W := by rw [hW.out]; exact ((Below.refl _ _).alloc (Nat.le_refl _) _).alloc (by simp) _
  clear hW hr
  refine (desparts_any b o c 8 key HN.out (.inl rfl) hc W hr0).mono ?_
  rintro e w1 ⟨rfl, hB1⟩
  have hB2 := hB0.below hB1 hB0.lt
  have hR2 := hR0.below hB1 hR0.lt
  have hW2 := below_step hW0 hB1 hW0.size
  clear hB0 hR0 hr0 hW0 hB1
  go_wp2_with (first
    | (refine wpList_store_new rfl 91 _ _ rfl (cs (tab 24 (partF 8 (fun i => key.getD i 0)))) _ (by first | rfl | simp) rfl rfl 91 _ (size24 _) (by rw [cs_size, tab_length]; rfl) (one_cs _) ?_; refine wpList_name ?_; intro W2 hW2'; refine lock_stop ?_))
  have hP3 : Blk W2 w1.heap.size 91 (cs (tab 24 (partF 8 (stOf key)))) := by rw [hW2'.out]; exact Blk.new _ _ _
  have hB3 : Blk W2 w.heap.size 66 (cs (tab 8 F)) := by rw [hW2'.out]; exact hB2.alloc _
  have hR3 : Blk W2 (w.heap.size + 1) 66 (cs (tab 8 (fun _ => 0))) := by rw [hW2'.out]; exact hR2.alloc _
  have hW3 : Below w.heap.size w W2 := by rw [hW2'.out]; exact hW2.alloc hW2.size _
  have hg : w.heap.size + 1 < w1.heap.size := hR2.lt
  have r0 := part_mid hP3 0 (by decide)
  have r1 := part_mid hP3 1 (by decide)
  have r2 := part_mid hP3 2 (by decide)
  obtain ⟨g, hgg⟩ : ∃ g, g = w1.heap.size := ⟨_, rfl⟩
  rw [← hgg] at hg r0 r1 r2 hP3 ⊢
  clear hW2' hB2 hR2 hW2
  clear hgg
  simp only [Nat.mul_zero, Nat.mul_one, Nat.reduceMul] at r0 r1 r2
  refine lock_go ?_
  go_wp2_with (first
    | (refine wpList_load_mid rfl 66 _ rfl g 0 rfl ((tab 8 (keyF 8 (stOf key) 0)).map bv) _ r0 Tryd.underlying66 rfl (size8l _) ?_)
    | (refine wpList_load_row rfl 66 _ rfl w.heap.size rfl 66 _ (0, 0) _ hB3 Tryd.underlying66 rfl (size8 F) ?_))
  refine (desblock_any (keyF 8 (stOf key) 0) F _ _ (cs_of_map _) rfl back _).mono ?_
  rintro e w5 ⟨rfl, hB5⟩
  have hR5 := hR3.below hB5 hR3.lt
  have hW5 := below_step hW3 hB5 hW3.size
  clear hB3 hR3 hP3 hB5 r0 r1 r2
  go_wp2_with (first
    | (refine wpList_store_blk rfl 66 _ _ rfl (w.heap.size + 1) (cs (tab 8 (desF (keyF 8 (stOf key) 0) F back))) rfl rfl 66 _ hR5 (size8 _) (by rw [cs_size, cs_size, tab_length, tab_length]) (one_cs _) ?_))
  refine bodyPost_ret (results_cellt Tryd.results25 _ _ _ (w.heap.size + 1) (cs (tab 8 (desF (keyF 8 (stOf key) 0) F back))) 66 rfl (hR5.setRow _) _ Tryd.underlying66 rfl (size8 _)) rfl ?_
  exact ⟨rfl, below_row hW5 (by omega) _⟩
set_option maxRecDepth 100000 in
set_option maxHeartbeats 8000000 in
theorem destriple_16_f (b o c : Nat) (key : List UInt8) (hn : key.length = 16) (hc : 16 ≤ c) (F : St) (ba : Array Value) (hba : ba = cs (tab 8 F)) (w : World) (hr : Rd w (some ⟨b, o, none⟩) key) :
    Calls Tryd.prog 25 #[.slice (some ⟨b, o, none⟩) 16 c, .agg ba, .bool false] w fun e w' => e = .returned (.tuple #[.agg (cs (tab 8 (tripF 16 (stOf key) F false))), .nilIface]) ∧ Below w.heap.size w w' := by
  subst hba
  have HN := Lib.hid hn
  clear hn
  go_enter Tryd.func25, Tryd.ntmps25
  go_wp2_with fail
  refine calls_name ?_
  intro W hW
  have hB0 : Blk W w.heap.size 66 (cs (tab 8 F)) := by rw [hW.out]; exact (Blk.new _ _ _).alloc _
  have hR0 : Blk W (w.heap.size + 1) 66 (cs (tab 8 (fun _ => 0))) := by rw [hW.out]; exact Blk.new_at (by simp) _ _
  have hr0 : Rd W (some ⟨b, o, none⟩) key := by rw [hW.out]; exact (hr.alloc _).alloc _
  have hW0 : Below w.heap.size w W := by rw [hW.out]; exact ((Below.refl _ _).alloc (Nat.le_refl _) _).alloc (by simp) _
  clear hW hr
  refine (desparts_any b o c 16 key HN.out (.inr (.inl rfl)) hc W hr0).mono ?_
  rintro e w1 ⟨rfl, hB1⟩
  have hB2 := hB0.below hB1 hB0.lt
  have hR2 := hR0.below hB1 hR0.lt
  have hW2 := below_step hW0 hB1 hW0.size
  clear hB0 hR0 hr0 hW0 hB1
  go_wp2_with (first
    | (refine wpList_store_new rfl 91 _ _ rfl (cs (tab 24 (partF 16 (fun i => key.getD i 0)))) _ (by first | rfl | simp) rfl rfl 91 _ (size24 _) (by rw [cs_size, tab_length]; rfl) (one_cs _) ?_; refine wpList_name ?_; intro W2 hW2'; refine lock_stop ?_))
  have hP3 : Blk W2 w1.heap.size 91 (cs (tab 24 (partF 16 (stOf key)))) := by rw [hW2'.out]; exact Blk.new _ _ _
  have hB3 : Blk W2 w.heap.size 66 (cs (tab 8 F)) := by rw [hW2'.out]; exact hB2.alloc _
  have hR3 : Blk W2 (w.heap.size + 1) 66 (cs (tab 8 (fun _ => 0))) := by rw [hW2'.out]; exact hR2.alloc _
  have hW3 : Below w.heap.size w W2 := by rw [hW2'.out]; exact hW2.alloc hW2.size _
  have hg : w.heap.size + 1 < w1.heap.size := hR2.lt
  have r0 := part_mid hP3 0 (by decide)
  have r1 := part_mid hP3 1 (by decide)
  have r2 := part_mid hP3 2 (by decide)
  obtain ⟨g, hgg⟩ : ∃ g, g = w1.heap.size := ⟨_, rfl⟩
  rw [← hgg] at hg r0 r1 r2 hP3 ⊢
  clear hW2' hB2 hR2 hW2
  clear hgg
  simp only [Nat.mul_zero, Nat.mul_one, Nat.reduceMul] at r0 r1 r2
  refine lock_go ?_
  go_wp2_with fail
  have u8 := Tryd.underlying66
  have z0 := size8l (keyF 16 (stOf key) 0)
  have z1 := size8l (keyF 16 (stOf key) 1)
  have z2 := size8l (keyF 16 (stOf key) 2)
  have z3 := size8l F
  have SX : ∀ (w' : World) (Y : St), Blk w' g 91 (cs (tab 24 (partF 16 (stOf key)))) → Blk w' w.heap.size 66 (cs (tab 8 F)) → Blk w' (w.heap.size + 1) 66 (cs (tab 8 Y)) → (w'.rangeAt g 0 ((tab 8 (keyF 16 (stOf key) 0)).map bv) ∧ w'.rangeAt g 8 ((tab 8 (keyF 16 (stOf key) 1)).map bv) ∧ w'.rangeAt g 16 ((tab 8 (keyF 16 (stOf key) 2)).map bv) ∧ w'.rangeAt w.heap.size 0 ((tab 8 F).map bv) ∧ w'.there (w.heap.size + 1) 0 8) := by
    intro w' Y a1 a2 a3
    exact ⟨part_mid a1 0 (by decide), part_mid a1 1 (by decide), part_mid a1 2 (by decide), blk_range8 a2, a3.there 0 8 (by rw [cs_size, tab_length]; omega)⟩
  have HS := Lib.hid SX
  clear SX
  refine wp_region_held_drew (S := fun w' => w'.rangeAt g 0 ((tab 8 (keyF 16 (stOf key) 0)).map bv) ∧ w'.rangeAt g 8 ((tab 8 (keyF 16 (stOf key) 1)).map bv) ∧ w'.rangeAt g 16 ((tab 8 (keyF 16 (stOf key) 2)).map bv) ∧ w'.rangeAt w.heap.size 0 ((tab 8 F).map bv) ∧ w'.there (w.heap.size + 1) 0 8) (by kernel_rfl) (HS.out _ _ hP3.drew hB3.drew hR3.drew) (fun hHeld => ?_)
  refine wpAnyH_take (i := 0) (v := ?_) rfl (by kernel_rfl) (by kernel_rfl) (by kernel_rfl) (fun _ _ _ h => h) (Or.inl ⟨by rfl, ?_⟩) (by assumption) ?_
  rotate_left
  · (intro w hSw; go_simp)
    try with_reducible rfl
  simp only [Act.put, List.getElem_toArray, List.getElem_cons_succ, List.getElem_cons_zero, List.setIfInBounds_toArray, List.set_cons_zero, List.set_cons_succ]
  refine wpAnyH_take (i := 1) (v := _) rfl (by kernel_rfl) (by kernel_rfl) (by kernel_rfl) (fun _ _ _ h => h) (yieldsIf_load_mid (by rfl) _ _ rfl _ _ rfl _ _ (by intro w hSw; (try dsimp only at hSw); go_split_ands; assumption) (by assumption) rfl (by first | assumption | (simp only [*]; done))) (by assumption) ?_
  simp only [Act.put, List.getElem_toArray, List.getElem_cons_succ, List.getElem_cons_zero, List.setIfInBounds_toArray, List.set_cons_zero, List.set_cons_succ]
  refine wpAnyH_take (i := 2) (v := ?_) rfl (by kernel_rfl) (by kernel_rfl) (by kernel_rfl) (fun _ _ _ h => h) (Or.inl ⟨by rfl, ?_⟩) (by assumption) ?_
  rotate_left
  · (intro w hSw; go_simp)
    try with_reducible rfl
  simp only [Act.put, List.getElem_toArray, List.getElem_cons_succ, List.getElem_cons_zero, List.setIfInBounds_toArray, List.set_cons_zero, List.set_cons_succ]
  refine wpAnyH_take (i := 3) (v := _) rfl (by kernel_rfl) (by kernel_rfl) (by kernel_rfl) (fun _ _ _ h => h) (yieldsIf_load_mid (by rfl) _ _ rfl _ _ rfl _ _ (by intro w hSw; (try dsimp only at hSw); go_split_ands; assumption) (by assumption) rfl (by first | assumption | (simp only [*]; done))) (by assumption) ?_
  simp only [Act.put, List.getElem_toArray, List.getElem_cons_succ, List.getElem_cons_zero, List.setIfInBounds_toArray, List.set_cons_zero, List.set_cons_succ]
  refine wpAnyH_take (i := 4) (v := ?_) rfl (by kernel_rfl) (by kernel_rfl) (by kernel_rfl) (fun _ _ _ h => h) (Or.inl ⟨by rfl, ?_⟩) (by assumption) ?_
  rotate_left
  · (intro w hSw; go_simp)
    try with_reducible rfl
  simp only [Act.put, List.getElem_toArray, List.getElem_cons_succ, List.getElem_cons_zero, List.setIfInBounds_toArray, List.set_cons_zero, List.set_cons_succ]
  refine wpAnyH_take (i := 5) (v := _) rfl (by kernel_rfl) (by kernel_rfl) (by kernel_rfl) (fun _ _ _ h => h) (yieldsIf_load_mid (by rfl) _ _ rfl _ _ rfl _ _ (by intro w hSw; (try dsimp only at hSw); go_split_ands; assumption) (by assumption) rfl (by first | assumption | (simp only [*]; done))) (by assumption) ?_
  simp only [Act.put, List.getElem_toArray, List.getElem_cons_succ, List.getElem_cons_zero, List.setIfInBounds_toArray, List.set_cons_zero, List.set_cons_succ]
  refine wpAnyH_take (i := 6) (v := _) rfl (by kernel_rfl) (by kernel_rfl) (by kernel_rfl) (fun _ _ _ h => h) (yieldsIf_load_mid (by rfl) _ _ rfl _ _ rfl _ _ (by intro w hSw; (try dsimp only at hSw); go_split_ands; assumption) (by assumption) rfl (by first | assumption | (simp only [*]; done))) (by assumption) ?_
  simp only [Act.put, List.getElem_toArray, List.getElem_cons_succ, List.getElem_cons_zero, List.setIfInBounds_toArray, List.set_cons_zero, List.set_cons_succ]
  refine wpAnyH_take (i := 7) (v := ?_) rfl (by kernel_rfl) (by kernel_rfl) (by kernel_rfl) (fun _ _ _ h => h) (Or.inl ⟨by rfl, ?_⟩) (by assumption) ?_
  rotate_left
  · (intro w hSw; go_simp)
    try with_reducible rfl
  simp only [Act.put, List.getElem_toArray, List.getElem_cons_succ, List.getElem_cons_zero, List.setIfInBounds_toArray, List.set_cons_zero, List.set_cons_succ]
  refine wpAnyH_take (i := 9) (v := ?_) rfl (by kernel_rfl) (by kernel_rfl) (by kernel_rfl) (fun _ _ _ h => h) (Or.inl ⟨by rfl, ?_⟩) (by assumption) ?_
  rotate_left
  · (intro w hSw; go_simp)
    try with_reducible rfl
  simp only [Act.put, List.getElem_toArray, List.getElem_cons_succ, List.getElem_cons_zero, List.setIfInBounds_toArray, List.set_cons_zero, List.set_cons_succ]
  refine wpAnyH_take (i := 10) (v := ?_) rfl (by kernel_rfl) (by kernel_rfl) (by kernel_rfl) (fun _ _ _ h => h) (Or.inl ⟨by rfl, ?_⟩) (by assumption) ?_
  rotate_left
  · (intro w hSw; go_simp)
    try with_reducible rfl
  simp only [Act.put, List.getElem_toArray, List.getElem_cons_succ, List.getElem_cons_zero, List.setIfInBounds_toArray, List.set_cons_zero, List.set_cons_succ]
  refine wpAnyH_take (i := 12) (v := ?_) rfl (by kernel_rfl) (by kernel_rfl) (by kernel_rfl) (fun _ _ _ h => h) (Or.inl ⟨by rfl, ?_⟩) (by assumption) ?_
  rotate_left
  · (intro w hSw; go_simp)
    try with_reducible rfl
  simp only [Act.put, List.getElem_toArray, List.getElem_cons_succ, List.getElem_cons_zero, List.setIfInBounds_toArray, List.set_cons_zero, List.set_cons_succ]
  have hG0 := hP3.drew
  have hX0 := hB3.drew
  have hY0 := hR3.drew
  have hZ0 : Below w.heap.size w W2.drew := below_drewN hW3 1
  clear hP3 hB3 hR3 hW3 hHeld
  refine wpAnyH_ready (rs := [8]) (by kernel_rfl) (by simp) ?_
  refine AllReadyH.cons rfl (fun K hK => ?_) AllReadyH.nil
  rw [if_pos (by rfl)]
  go_simp
  refine (desblock_any (keyF 16 (stOf key) 0) F _ _ (cs_of_map _) (cs_of_map _) false _).mono ?_
  rintro e w4 ⟨rfl, hC0⟩
  have hG1 := hG0.below hC0 hG0.lt
  have hX1 := hX0.below hC0 hX0.lt
  have hY1 := hY0.below hC0 hY0.lt
  have hZ1 := below_step hZ0 hC0 hZ0.size
  refine hK.out _ _ (HS.out _ _ hG1 hX1 hY1) (fun hHeld0 => ?_)
  clear hK K hC0 hG0 hX0 hY0 hZ0
  refine wpAnyH_ready (rs := [11]) (by kernel_rfl) (by simp) ?_
  refine AllReadyH.cons rfl (fun K hK => ?_) AllReadyH.nil
  rw [if_pos (by rfl)]
  go_simp
  refine (desblock_any (keyF 16 (stOf key) 1) (desF (keyF 16 (stOf key) 0) F false) _ _ (cs_of_map _) rfl true _).mono ?_
  rintro e w5 ⟨rfl, hC1⟩
  have hG2 := hG1.below hC1 hG1.lt
  have hX2 := hX1.below hC1 hX1.lt
  have hY2 := hY1.below hC1 hY1.lt
  have hZ2 := below_step hZ1 hC1 hZ1.size
  refine hK.out _ _ (HS.out _ _ hG2 hX2 hY2) (fun hHeld1 => ?_)
  clear hK K hC1 hG1 hX1 hY1 hZ1
  refine wpAnyH_ready (rs := [13]) (by kernel_rfl) (by simp) ?_
  refine AllReadyH.cons rfl (fun K hK => ?_) AllReadyH.nil
  rw [if_pos (by rfl)]
  go_simp
  refine (desblock_any (keyF 16 (stOf key) 2) (desF (keyF 16 (stOf key) 1) (desF (keyF 16 (stOf key) 0) F false) true) _ _ (cs_of_map _) rfl false _).mono ?_
  rintro e w6 ⟨rfl, hC2⟩
  have hG3 := hG2.below hC2 hG2.lt
  have hX3 := hX2.below hC2 hX2.lt
  have hY3 := hY2.below hC2 hY2.lt
  have hZ3 := below_step hZ2 hC2 hZ2.size
  refine hK.out _ _ (HS.out _ _ hG3 hX3 hY3) (fun hHeld2 => ?_)
  clear hK K hC2 hG2 hX2 hY2 hZ2
  refine wpAnyH_ready (rs := [14]) (by kernel_rfl) (by simp) ?_
  refine AllReadyH.cons rfl (fun K hK => ?_) AllReadyH.nil
  rw [if_pos (by rfl)]
  refine wp_store_row 66 _ _ rfl (w.heap.size + 1) (cs (tab 8 (desF (keyF 16 (stOf key) 2) (desF (keyF 16 (stOf key) 1) (desF (keyF 16 (stOf key) 0) F false) true) false))) rfl rfl 66 (cs (tab 8 (fun _ => 0))) hY3 (size8 _) (by rw [cs_size, cs_size, tab_length, tab_length]) (one_cs _) ?_
  simp only [Act.put, List.getElem_toArray, List.getElem_cons_succ, List.getElem_cons_zero, List.setIfInBounds_toArray, List.set_cons_zero, List.set_cons_succ]
  refine hK.out _ _ (HS.out _ _ (hG3.farRow (by omega)) (hX3.farRow (by omega)) (hY3.setRow _)) (fun hHeld3 => ?_)
  clear hK K
  refine wpAnyH_take (i := 15) (v := ?_) rfl (by kernel_rfl) (by kernel_rfl) (by kernel_rfl) (fun _ _ _ h => h) (Or.inl ⟨by rfl, ?_⟩) (by assumption) ?_
  rotate_left
  · (intro w hSw; go_simp)
    try with_reducible rfl
  simp only [Act.put, List.getElem_toArray, List.getElem_cons_succ, List.getElem_cons_zero, List.setIfInBounds_toArray, List.set_cons_zero, List.set_cons_succ]
  refine wpAnyH_done (by kernel_rfl) ?_ _
  go_wp2_with fail
  refine bodyPost_ret (results_cellt Tryd.results25 _ _ _ (w.heap.size + 1) (cs (tab 8 (desF (keyF 16 (stOf key) 2) (desF (keyF 16 (stOf key) 1) (desF (keyF 16 (stOf key) 0) F false) true) false))) 66 rfl (hY3.setRow _) _ Tryd.underlying66 rfl (size8 _)) rfl ?_
  exact ⟨rfl, below_row hZ3 (by omega) _⟩
set_option maxRecDepth 100000 in
set_option maxHeartbeats 8000000 in
theorem destriple_16_t (b o c : Nat) (key : List UInt8) (hn : key.length = 16) (hc : 16 ≤ c) (F : St) (ba : Array Value) (hba : ba = cs (tab 8 F)) (w : World) (hr : Rd w (some ⟨b, o, none⟩) key) :
    Calls Tryd.prog 25 #[.slice (some ⟨b, o, none⟩) 16 c, .agg ba, .bool true] w fun e w' => e = .returned (.tuple #[.agg (cs (tab 8 (tripF 16 (stOf key) F true))), .nilIface]) ∧ Below w.heap.size w w' := by
  subst hba
  have HN := Lib.hid hn
  clear hn
  go_enter Tryd.func25, Tryd.ntmps25
  go_wp2_with fail
  refine calls_name ?_
  intro W hW
  have hB0 : Blk W w.heap.size 66 (cs (tab 8 F)) := by rw [hW.out]; exact (Blk.new _ _ _).alloc _
  have hR0 : Blk W (w.heap.size + 1) 66 (cs (tab 8 (fun _ => 0))) := by rw [hW.out]; exact Blk.new_at (by simp) _ _
  have hr0 : Rd W (some ⟨b, o, none⟩) key := by rw [hW.out]; exact (hr.alloc _).alloc _
  have hW0 : Below w.heap.size w W := by rw [hW.out]; exact ((Below.refl _ _).alloc (Nat.le_refl _) _).alloc (by simp) _
  clear hW hr
  refine (desparts_any b o c 16 key HN.out (.inr (.inl rfl)) hc W hr0).mono ?_
  rintro e w1 ⟨rfl, hB1⟩
  have hB2 := hB0.below hB1 hB0.lt
  have hR2 := hR0.below hB1 hR0.lt
  have hW2 := below_step hW0 hB1 hW0.size
  clear hB0 hR0 hr0 hW0 hB1
  go_wp2_with (first
    | (refine wpList_store_new rfl 91 _ _ rfl (cs (tab 24 (partF 16 (fun i => key.getD i 0)))) _ (by first | rfl | simp) rfl rfl 91 _ (size24 _) (by rw [cs_size, tab_length]; rfl) (one_cs _) ?_; refine wpList_name ?_; intro W2 hW2'; refine lock_stop ?_))
  have hP3 : Blk W2 w1.heap.size 91 (cs (tab 24 (partF 16 (stOf key)))) := by rw [hW2'.out]; exact Blk.new _ _ _
  have hB3 : Blk W2 w.heap.size 66 (cs (tab 8 F)) := by rw [hW2'.out]; exact hB2.alloc _
  have hR3 : Blk W2 (w.heap.size + 1) 66 (cs (tab 8 (fun _ => 0))) := by rw [hW2'.out]; exact hR2.alloc _
  have hW3 : Below w.heap.size w W2 := by rw [hW2'.out]; exact hW2.alloc hW2.size _
  have hg : w.heap.size + 1 < w1.heap.size := hR2.lt
  have r0 := part_mid hP3 0 (by decide)
  have r1 := part_mid hP3 1 (by decide)
  have r2 := part_mid hP3 2 (by decide)
  obtain ⟨g, hgg⟩ : ∃ g, g = w1.heap.size := ⟨_, rfl⟩
  rw [← hgg] at hg r0 r1 r2 hP3 ⊢
  clear hW2' hB2 hR2 hW2
  clear hgg
  simp only [Nat.mul_zero, Nat.mul_one, Nat.reduceMul] at r0 r1 r2
  refine lock_go ?_
  go_wp2_with (first
    | (refine wpList_load_mid rfl 66 _ rfl g 16 rfl ((tab 8 (keyF 16 (stOf key) 2)).map bv) _ r2 Tryd.underlying66 rfl (size8l _) ?_)
    | (refine wpList_load_mid rfl 66 _ rfl g 0 rfl ((tab 8 (keyF 16 (stOf key) 0)).map bv) _ r0 Tryd.underlying66 rfl (size8l _) ?_)
    | (refine wpList_store_mid rfl 66 _ _ rfl g 0 (cs (tab 8 (keyF 16 (stOf key) 2))) rfl rfl (hP3.there _ _ (by rw [cs_size, cs_size, tab_length, tab_length]; omega)) (size8 _) (one_cs _) ?_; refine wpList_name ?_; intro W3 hW3'; refine lock_stop ?_))
  have hP4 := blk_splice (m := 8) (o := 0) (G := (keyF 16 (stOf key) 2)) hP3
  have hB4 := hB3.grown (only_setCells (cs (tab 8 (keyF 16 (stOf key) 2))).toList 0 (only_refl W2 (some g))) (by intro h; injection h with h; omega)
  have hR4 := hR3.grown (only_setCells (cs (tab 8 (keyF 16 (stOf key) 2))).toList 0 (only_refl W2 (some g))) (by intro h; injection h with h; omega)
  have hW4 := below_setCells (g := g) (by omega) (cs (tab 8 (keyF 16 (stOf key) 2))).toList 0 hW3
  rw [← hW3'.out] at hP4 hB4 hR4 hW4
  clear hP3 hB3 hR3 hW3 hW3' r0 r1 r2
  refine lock_go ?_
  go_wp2_with (first
    | (refine wpList_store_mid rfl 66 _ _ rfl g 16 (cs (tab 8 (keyF 16 (stOf key) 0))) rfl rfl (hP4.there _ _ (by rw [cs_size, cs_size, tab_length, tab_length]; omega)) (size8 _) (one_cs _) ?_; refine wpList_name ?_; intro W4 hW4'; refine lock_stop ?_))
  have hP5 := blk_splice (m := 8) (o := 16) (G := (keyF 16 (stOf key) 0)) hP4
  have hB3 := hB4.grown (only_setCells (cs (tab 8 (keyF 16 (stOf key) 0))).toList 16 (only_refl W3 (some g))) (by intro h; injection h with h; omega)
  have hR3 := hR4.grown (only_setCells (cs (tab 8 (keyF 16 (stOf key) 0))).toList 16 (only_refl W3 (some g))) (by intro h; injection h with h; omega)
  have hW3 := below_setCells (g := g) (by omega) (cs (tab 8 (keyF 16 (stOf key) 0))).toList 16 hW4
  rw [← hW4'.out] at hP5 hB3 hR3 hW3
  have hP3 : Blk W4 g 91 (cs (tab 24 (swapF (partF 16 (stOf key))))) := by
    have e : tab 24 _ = tab 24 (swapF (partF 16 (stOf key))) := tab_congr 24 _ _ (swap_eq 16 (stOf key))
    rw [← e]; exact hP5
  clear hP4 hP5 hB4 hR4 hW4 hW4'
  refine lock_go ?_
  go_wp2_with fail
  have u8 := Tryd.underlying66
  have z0 := size8l (keyF 16 (stOf key) 0)
  have z1 := size8l (keyF 16 (stOf key) 1)
  have z2 := size8l (keyF 16 (stOf key) 2)
  have z3 := size8l F
  have SX : ∀ (w' : World) (Y : St), Blk w' g 91 (cs (tab 24 (swapF (partF 16 (stOf key))))) → Blk w' w.heap.size 66 (cs (tab 8 F)) → Blk w' (w.heap.size + 1) 66 (cs (tab 8 Y)) → (w'.rangeAt g 0 ((tab 8 (keyF 16 (stOf key) 2)).map bv) ∧ w'.rangeAt g 8 ((tab 8 (keyF 16 (stOf key) 1)).map bv) ∧ w'.rangeAt g 16 ((tab 8 (keyF 16 (stOf key) 0)).map bv) ∧ w'.rangeAt w.heap.size 0 ((tab 8 F).map bv) ∧ w'.there (w.heap.size + 1) 0 8) := by
    intro w' Y a1 a2 a3
    exact ⟨swap_0 a1, swap_1 a1, swap_2 a1, blk_range8 a2, a3.there 0 8 (by rw [cs_size, tab_length]; omega)⟩
  have HS := Lib.hid SX
  clear SX
  refine wp_region_held_drew (S := fun w' => w'.rangeAt g 0 ((tab 8 (keyF 16 (stOf key) 2)).map bv) ∧ w'.rangeAt g 8 ((tab 8 (keyF 16 (stOf key) 1)).map bv) ∧ w'.rangeAt g 16 ((tab 8 (keyF 16 (stOf key) 0)).map bv) ∧ w'.rangeAt w.heap.size 0 ((tab 8 F).map bv) ∧ w'.there (w.heap.size + 1) 0 8) (by kernel_rfl) (HS.out _ _ hP3.drew hB3.drew hR3.drew) (fun hHeld => ?_)
  refine wpAnyH_take (i := 0) (v := ?_) rfl (by kernel_rfl) (by kernel_rfl) (by kernel_rfl) (fun _ _ _ h => h) (Or.inl ⟨by rfl, ?_⟩) (by assumption) ?_
  rotate_left
  · (intro w hSw; go_simp)
    try with_reducible rfl
  simp only [Act.put, List.getElem_toArray, List.getElem_cons_succ, List.getElem_cons_zero, List.setIfInBounds_toArray, List.set_cons_zero, List.set_cons_succ]
  refine wpAnyH_take (i := 1) (v := _) rfl (by kernel_rfl) (by kernel_rfl) (by kernel_rfl) (fun _ _ _ h => h) (yieldsIf_load_mid (by rfl) _ _ rfl _ _ rfl _ _ (by intro w hSw; (try dsimp only at hSw); go_split_ands; assumption) (by assumption) rfl (by first | assumption | (simp only [*]; done))) (by assumption) ?_
  simp only [Act.put, List.getElem_toArray, List.getElem_cons_succ, List.getElem_cons_zero, List.setIfInBounds_toArray, List.set_cons_zero, List.set_cons_succ]
  refine wpAnyH_take (i := 2) (v := ?_) rfl (by kernel_rfl) (by kernel_rfl) (by kernel_rfl) (fun _ _ _ h => h) (Or.inl ⟨by rfl, ?_⟩) (by assumption) ?_
  rotate_left
  · (intro w hSw; go_simp)
    try with_reducible rfl
  simp only [Act.put, List.getElem_toArray, List.getElem_cons_succ, List.getElem_cons_zero, List.setIfInBounds_toArray, List.set_cons_zero, List.set_cons_succ]
  refine wpAnyH_take (i := 3) (v := _) rfl (by kernel_rfl) (by kernel_rfl) (by kernel_rfl) (fun _ _ _ h => h) (yieldsIf_load_mid (by rfl) _ _ rfl _ _ rfl _ _ (by intro w hSw; (try dsimp only at hSw); go_split_ands; assumption) (by assumption) rfl (by first | assumption | (simp only [*]; done))) (by assumption) ?_
  simp only [Act.put, List.getElem_toArray, List.getElem_cons_succ, List.getElem_cons_zero, List.setIfInBounds_toArray, List.set_cons_zero, List.set_cons_succ]
  refine wpAnyH_take (i := 4) (v := ?_) rfl (by kernel_rfl) (by kernel_rfl) (by kernel_rfl) (fun _ _ _ h => h) (Or.inl ⟨by rfl, ?_⟩) (by assumption) ?_
  rotate_left
  · (intro w hSw; go_simp)
    try with_reducible rfl
  simp only [Act.put, List.getElem_toArray, List.getElem_cons_succ, List.getElem_cons_zero, List.setIfInBounds_toArray, List.set_cons_zero, List.set_cons_succ]
  refine wpAnyH_take (i := 5) (v := _) rfl (by kernel_rfl) (by kernel_rfl) (by kernel_rfl) (fun _ _ _ h => h) (yieldsIf_load_mid (by rfl) _ _ rfl _ _ rfl _ _ (by intro w hSw; (try dsimp only at hSw); go_split_ands; assumption) (by assumption) rfl (by first | assumption | (simp only [*]; done))) (by assumption) ?_
  simp only [Act.put, List.getElem_toArray, List.getElem_cons_succ, List.getElem_cons_zero, List.setIfInBounds_toArray, List.set_cons_zero, List.set_cons_succ]
  refine wpAnyH_take (i := 6) (v := _) rfl (by kernel_rfl) (by kernel_rfl) (by kernel_rfl) (fun _ _ _ h => h) (yieldsIf_load_mid (by rfl) _ _ rfl _ _ rfl _ _ (by intro w hSw; (try dsimp only at hSw); go_split_ands; assumption) (by assumption) rfl (by first | assumption | (simp only [*]; done))) (by assumption) ?_
  simp only [Act.put, List.getElem_toArray, List.getElem_cons_succ, List.getElem_cons_zero, List.setIfInBounds_toArray, List.set_cons_zero, List.set_cons_succ]
  refine wpAnyH_take (i := 7) (v := ?_) rfl (by kernel_rfl) (by kernel_rfl) (by kernel_rfl) (fun _ _ _ h => h) (Or.inl ⟨by rfl, ?_⟩) (by assumption) ?_
  rotate_left
  · (intro w hSw; go_simp)
    try with_reducible rfl
  simp only [Act.put, List.getElem_toArray, List.getElem_cons_succ, List.getElem_cons_zero, List.setIfInBounds_toArray, List.set_cons_zero, List.set_cons_succ]
  refine wpAnyH_take (i := 9) (v := ?_) rfl (by kernel_rfl) (by kernel_rfl) (by kernel_rfl) (fun _ _ _ h => h) (Or.inl ⟨by rfl, ?_⟩) (by assumption) ?_
  rotate_left
  · (intro w hSw; go_simp)
    try with_reducible rfl
  simp only [Act.put, List.getElem_toArray, List.getElem_cons_succ, List.getElem_cons_zero, List.setIfInBounds_toArray, List.set_cons_zero, List.set_cons_succ]
  refine wpAnyH_take (i := 10) (v := ?_) rfl (by kernel_rfl) (by kernel_rfl) (by kernel_rfl) (fun _ _ _ h => h) (Or.inl ⟨by rfl, ?_⟩) (by assumption) ?_
  rotate_left
  · (intro w hSw; go_simp)
    try with_reducible rfl
  simp only [Act.put, List.getElem_toArray, List.getElem_cons_succ, List.getElem_cons_zero, List.setIfInBounds_toArray, List.set_cons_zero, List.set_cons_succ]
  refine wpAnyH_take (i := 12) (v := ?_) rfl (by kernel_rfl) (by kernel_rfl) (by kernel_rfl) (fun _ _ _ h => h) (Or.inl ⟨by rfl, ?_⟩) (by assumption) ?_
  rotate_left
  · (intro w hSw; go_simp)
    try with_reducible rfl
  simp only [Act.put, List.getElem_toArray, List.getElem_cons_succ, List.getElem_cons_zero, List.setIfInBounds_toArray, List.set_cons_zero, List.set_cons_succ]
  have hG0 := hP3.drew
  have hX0 := hB3.drew
  have hY0 := hR3.drew
  have hZ0 : Below w.heap.size w W4.drew := below_drewN hW3 1
  clear hP3 hB3 hR3 hW3 hHeld
  refine wpAnyH_ready (rs := [8]) (by kernel_rfl) (by simp) ?_
  refine AllReadyH.cons rfl (fun K hK => ?_) AllReadyH.nil
  rw [if_pos (by rfl)]
  go_simp
  refine (desblock_any (keyF 16 (stOf key) 2) F _ _ (cs_of_map _) (cs_of_map _) true _).mono ?_
  rintro e w4 ⟨rfl, hC0⟩
  have hG1 := hG0.below hC0 hG0.lt
  have hX1 := hX0.below hC0 hX0.lt
  have hY1 := hY0.below hC0 hY0.lt
  have hZ1 := below_step hZ0 hC0 hZ0.size
  refine hK.out _ _ (HS.out _ _ hG1 hX1 hY1) (fun hHeld0 => ?_)
  clear hK K hC0 hG0 hX0 hY0 hZ0
  refine wpAnyH_ready (rs := [11]) (by kernel_rfl) (by simp) ?_
  refine AllReadyH.cons rfl (fun K hK => ?_) AllReadyH.nil
  rw [if_pos (by rfl)]
  go_simp
  refine (desblock_any (keyF 16 (stOf key) 1) (desF (keyF 16 (stOf key) 2) F true) _ _ (cs_of_map _) rfl false _).mono ?_
  rintro e w5 ⟨rfl, hC1⟩
  have hG2 := hG1.below hC1 hG1.lt
  have hX2 := hX1.below hC1 hX1.lt
  have hY2 := hY1.below hC1 hY1.lt
  have hZ2 := below_step hZ1 hC1 hZ1.size
  refine hK.out _ _ (HS.out _ _ hG2 hX2 hY2) (fun hHeld1 => ?_)
  clear hK K hC1 hG1 hX1 hY1 hZ1
  refine wpAnyH_ready (rs := [13]) (by kernel_rfl) (by simp) ?_
  refine AllReadyH.cons rfl (fun K hK => ?_) AllReadyH.nil
  rw [if_pos (by rfl)]
  go_simp
  refine (desblock_any (keyF 16 (stOf key) 0) (desF (keyF 16 (stOf key) 1) (desF (keyF 16 (stOf key) 2) F true) false) _ _ (cs_of_map _) rfl true _).mono ?_
  rintro e w6 ⟨rfl, hC2⟩
  have hG3 := hG2.below hC2 hG2.lt
  have hX3 := hX2.below hC2 hX2.lt
  have hY3 := hY2.below hC2 hY2.lt
  have hZ3 := below_step hZ2 hC2 hZ2.size
  refine hK.out _ _ (HS.out _ _ hG3 hX3 hY3) (fun hHeld2 => ?_)
  clear hK K hC2 hG2 hX2 hY2 hZ2
  refine wpAnyH_ready (rs := [14]) (by kernel_rfl) (by simp) ?_
  refine AllReadyH.cons rfl (fun K hK => ?_) AllReadyH.nil
  rw [if_pos (by rfl)]
  refine wp_store_row 66 _ _ rfl (w.heap.size + 1) (cs (tab 8 (desF (keyF 16 (stOf key) 0) (desF (keyF 16 (stOf key) 1) (desF (keyF 16 (stOf key) 2) F true) false) true))) rfl rfl 66 (cs (tab 8 (fun _ => 0))) hY3 (size8 _) (by rw [cs_size, cs_size, tab_length, tab_length]) (one_cs _) ?_
  simp only [Act.put, List.getElem_toArray, List.getElem_cons_succ, List.getElem_cons_zero, List.setIfInBounds_toArray, List.set_cons_zero, List.set_cons_succ]
  refine hK.out _ _ (HS.out _ _ (hG3.farRow (by omega)) (hX3.farRow (by omega)) (hY3.setRow _)) (fun hHeld3 => ?_)
  clear hK K
  refine wpAnyH_take (i := 15) (v := ?_) rfl (by kernel_rfl) (by kernel_rfl) (by kernel_rfl) (fun _ _ _ h => h) (Or.inl ⟨by rfl, ?_⟩) (by assumption) ?_
  rotate_left
  · (intro w hSw; go_simp)
    try with_reducible rfl
  simp only [Act.put, List.getElem_toArray, List.getElem_cons_succ, List.getElem_cons_zero, List.setIfInBounds_toArray, List.set_cons_zero, List.set_cons_succ]
  refine wpAnyH_done (by kernel_rfl) ?_ _
  go_wp2_with fail
  refine bodyPost_ret (results_cellt Tryd.results25 _ _ _ (w.heap.size + 1) (cs (tab 8 (desF (keyF 16 (stOf key) 0) (desF (keyF 16 (stOf key) 1) (desF (keyF 16 (stOf key) 2) F true) false) true))) 66 rfl (hY3.setRow _) _ Tryd.underlying66 rfl (size8 _)) rfl ?_
  exact ⟨rfl, below_row hZ3 (by omega) _⟩
set_option maxRecDepth 100000 in
set_option maxHeartbeats 8000000 in
theorem destriple_24_f (b o c : Nat) (key : List UInt8) (hn : key.length = 24) (hc : 24 ≤ c) (F : St) (ba : Array Value) (hba : ba = cs (tab 8 F)) (w : World) (hr : Rd w (some ⟨b, o, none⟩) key) :
    Calls Tryd.prog 25 #[.slice (some ⟨b, o, none⟩) 24 c, .agg ba, .bool false] w fun e w' => e = .returned (.tuple #[.agg (cs (tab 8 (tripF 24 (stOf key) F false))), .nilIface]) ∧ Below w.heap.size w w' := by
  subst hba
  have HN := Lib.hid hn
  clear hn
  go_enter Tryd.func25, Tryd.ntmps25
  go_wp2_with fail
  refine calls_name ?_
  intro W hW
  have hB0 : Blk W w.heap.size 66 (cs (tab 8 F)) := by rw [hW.out]; exact (Blk.new _ _ _).alloc _
  have hR0 : Blk W (w.heap.size + 1) 66 (cs (tab 8 (fun _ => 0))) := by rw [hW.out]; exact Blk.new_at (by simp) _ _
  have hr0 : Rd W (some ⟨b, o, none⟩) key := by rw [hW.out]; exact (hr.alloc _).alloc _
  have hW0 : Below w.heap.size w W := by rw [hW.out]; exact ((Below.refl _ _).alloc (Nat.le_refl _) _).alloc (by simp) _
  clear hW hr
  refine (desparts_any b o c 24 key HN.out (.inr (.inr rfl)) hc W hr0).mono ?_
  rintro e w1 ⟨rfl, hB1⟩
  have hB2 := hB0.below hB1 hB0.lt
  have hR2 := hR0.below hB1 hR0.lt
  have hW2 := below_step hW0 hB1 hW0.size
  clear hB0 hR0 hr0 hW0 hB1
  go_wp2_with (first
    | (refine wpList_store_new rfl 91 _ _ rfl (cs (tab 24 (partF 24 (fun i => key.getD i 0)))) _ (by first | rfl | simp) rfl rfl 91 _ (size24 _) (by rw [cs_size, tab_length]; rfl) (one_cs _) ?_; refine wpList_name ?_; intro W2 hW2'; refine lock_stop ?_))
  have hP3 : Blk W2 w1.heap.size 91 (cs (tab 24 (partF 24 (stOf key)))) := by rw [hW2'.out]; exact Blk.new _ _ _
  have hB3 : Blk W2 w.heap.size 66 (cs (tab 8 F)) := by rw [hW2'.out]; exact hB2.alloc _
  have hR3 : Blk W2 (w.heap.size + 1) 66 (cs (tab 8 (fun _ => 0))) := by rw [hW2'.out]; exact hR2.alloc _
  have hW3 : Below w.heap.size w W2 := by rw [hW2'.out]; exact hW2.alloc hW2.size _
  have hg : w.heap.size + 1 < w1.heap.size := hR2.lt
  have r0 := part_mid hP3 0 (by decide)
  have r1 := part_mid hP3 1 (by decide)
  have r2 := part_mid hP3 2 (by decide)
  obtain ⟨g, hgg⟩ : ∃ g, g = w1.heap.size := ⟨_, rfl⟩
  rw [← hgg] at hg r0 r1 r2 hP3 ⊢
  clear hW2' hB2 hR2 hW2
  clear hgg
  simp only [Nat.mul_zero, Nat.mul_one, Nat.reduceMul] at r0 r1 r2
  refine lock_go ?_
  go_wp2_with fail
  have u8 := Tryd.underlying66
  have z0 := size8l (keyF 24 (stOf key) 0)
  have z1 := size8l (keyF 24 (stOf key) 1)
  have z2 := size8l (keyF 24 (stOf key) 2)
  have z3 := size8l F
  have SX : ∀ (w' : World) (Y : St), Blk w' g 91 (cs (tab 24 (partF 24 (stOf key)))) → Blk w' w.heap.size 66 (cs (tab 8 F)) → Blk w' (w.heap.size + 1) 66 (cs (tab 8 Y)) → (w'.rangeAt g 0 ((tab 8 (keyF 24 (stOf key) 0)).map bv) ∧ w'.rangeAt g 8 ((tab 8 (keyF 24 (stOf key) 1)).map bv) ∧ w'.rangeAt g 16 ((tab 8 (keyF 24 (stOf key) 2)).map bv) ∧ w'.rangeAt w.heap.size 0 ((tab 8 F).map bv) ∧ w'.there (w.heap.size + 1) 0 8) := by
    intro w' Y a1 a2 a3
    exact ⟨part_mid a1 0 (by decide), part_mid a1 1 (by decide), part_mid a1 2 (by decide), blk_range8 a2, a3.there 0 8 (by rw [cs_size, tab_length]; omega)⟩
  have HS := Lib.hid SX
  clear SX
  refine wp_region_held_drew (S := fun w' => w'.rangeAt g 0 ((tab 8 (keyF 24 (stOf key) 0)).map bv) ∧ w'.rangeAt g 8 ((tab 8 (keyF 24 (stOf key) 1)).map bv) ∧ w'.rangeAt g 16 ((tab 8 (keyF 24 (stOf key) 2)).map bv) ∧ w'.rangeAt w.heap.size 0 ((tab 8 F).map bv) ∧ w'.there (w.heap.size + 1) 0 8) (by kernel_rfl) (HS.out _ _ hP3.drew hB3.drew hR3.drew) (fun hHeld => ?_)
  refine wpAnyH_take (i := 0) (v := ?_) rfl (by kernel_rfl) (by kernel_rfl) (by kernel_rfl) (fun _ _ _ h => h) (Or.inl ⟨by rfl, ?_⟩) (by assumption) ?_
  rotate_left
  · (intro w hSw; go_simp)
    try with_reducible rfl
  simp only [Act.put, List.getElem_toArray, List.getElem_cons_succ, List.getElem_cons_zero, List.setIfInBounds_toArray, List.set_cons_zero, List.set_cons_succ]
  refine wpAnyH_take (i := 1) (v := _) rfl (by kernel_rfl) (by kernel_rfl) (by kernel_rfl) (fun _ _ _ h => h) (yieldsIf_load_mid (by rfl) _ _ rfl _ _ rfl _ _ (by intro w hSw; (try dsimp only at hSw); go_split_ands; assumption) (by assumption) rfl (by first | assumption | (simp only [*]; done))) (by assumption) ?_
  simp only [Act.put, List.getElem_toArray, List.getElem_cons_succ, List.getElem_cons_zero, List.setIfInBounds_toArray, List.set_cons_zero, List.set_cons_succ]
  refine wpAnyH_take (i := 2) (v := ?_) rfl (by kernel_rfl) (by kernel_rfl) (by kernel_rfl) (fun _ _ _ h => h) (Or.inl ⟨by rfl, ?_⟩) (by assumption) ?_
  rotate_left
  · (intro w hSw; go_simp)
    try with_reducible rfl
  simp only [Act.put, List.getElem_toArray, List.getElem_cons_succ, List.getElem_cons_zero, List.setIfInBounds_toArray, List.set_cons_zero, List.set_cons_succ]
  refine wpAnyH_take (i := 3) (v := _) rfl (by kernel_rfl) (by kernel_rfl) (by kernel_rfl) (fun _ _ _ h => h) (yieldsIf_load_mid (by rfl) _ _ rfl _ _ rfl _ _ (by intro w hSw; (try dsimp only at hSw); go_split_ands; assumption) (by assumption) rfl (by first | assumption | (simp only [*]; done))) (by assumption) ?_
  simp only [Act.put, List.getElem_toArray, List.getElem_cons_succ, List.getElem_cons_zero, List.setIfInBounds_toArray, List.set_cons_zero, List.set_cons_succ]
  refine wpAnyH_take (i := 4) (v := ?_) rfl (by kernel_rfl) (by kernel_rfl) (by kernel_rfl) (fun _ _ _ h => h) (Or.inl ⟨by rfl, ?_⟩) (by assumption) ?_
  rotate_left
  · (intro w hSw; go_simp)
    try with_reducible rfl
  simp only [Act.put, List.getElem_toArray, List.getElem_cons_succ, List.getElem_cons_zero, List.setIfInBounds_toArray, List.set_cons_zero, List.set_cons_succ]
  refine wpAnyH_take (i := 5) (v := _) rfl (by kernel_rfl) (by kernel_rfl) (by kernel_rfl) (fun _ _ _ h => h) (yieldsIf_load_mid (by rfl) _ _ rfl _ _ rfl _ _ (by intro w hSw; (try dsimp only at hSw); go_split_ands; assumption) (by assumption) rfl (by first | assumption | (simp only [*]; done))) (by assumption) ?_
  simp only [Act.put, List.getElem_toArray, List.getElem_cons_succ, List.getElem_cons_zero, List.setIfInBounds_toArray, List.set_cons_zero, List.set_cons_succ]
  refine wpAnyH_take (i := 6) (v := _) rfl (by kernel_rfl) (by kernel_rfl) (by kernel_rfl) (fun _ _ _ h => h) (yieldsIf_load_mid (by rfl) _ _ rfl _ _ rfl _ _ (by intro w hSw; (try dsimp only at hSw); go_split_ands; assumption) (by assumption) rfl (by first | assumption | (simp only [*]; done))) (by assumption) ?_
  simp only [Act.put, List.getElem_toArray, List.getElem_cons_succ, List.getElem_cons_zero, List.setIfInBounds_toArray, List.set_cons_zero, List.set_cons_succ]
  refine wpAnyH_take (i := 7) (v := ?_) rfl (by kernel_rfl) (by kernel_rfl) (by kernel_rfl) (fun _ _ _ h => h) (Or.inl ⟨by rfl, ?_⟩) (by assumption) ?_
  rotate_left
  · (intro w hSw; go_simp)
    try with_reducible rfl
  simp only [Act.put, List.getElem_toArray, List.getElem_cons_succ, List.getElem_cons_zero, List.setIfInBounds_toArray, List.set_cons_zero, List.set_cons_succ]
  refine wpAnyH_take (i := 9) (v := ?_) rfl (by kernel_rfl) (by kernel_rfl) (by kernel_rfl) (fun _ _ _ h => h) (Or.inl ⟨by rfl, ?_⟩) (by assumption) ?_
  rotate_left
  · (intro w hSw; go_simp)
    try with_reducible rfl
  simp only [Act.put, List.getElem_toArray, List.getElem_cons_succ, List.getElem_cons_zero, List.setIfInBounds_toArray, List.set_cons_zero, List.set_cons_succ]
  refine wpAnyH_take (i := 10) (v := ?_) rfl (by kernel_rfl) (by kernel_rfl) (by kernel_rfl) (fun _ _ _ h => h) (Or.inl ⟨by rfl, ?_⟩) (by assumption) ?_
  rotate_left
  · (intro w hSw; go_simp)
    try with_reducible rfl
  simp only [Act.put, List.getElem_toArray, List.getElem_cons_succ, List.getElem_cons_zero, List.setIfInBounds_toArray, List.set_cons_zero, List.set_cons_succ]
  refine wpAnyH_take (i := 12) (v := ?_) rfl (by kernel_rfl) (by kernel_rfl) (by kernel_rfl) (fun _ _ _ h => h) (Or.inl ⟨by rfl, ?_⟩) (by assumption) ?_
  rotate_left
  · (intro w hSw; go_simp)
    try with_reducible rfl
  simp only [Act.put, List.getElem_toArray, List.getElem_cons_succ, List.getElem_cons_zero, List.setIfInBounds_toArray, List.set_cons_zero, List.set_cons_succ]
  have hG0 := hP3.drew
  have hX0 := hB3.drew
  have hY0 := hR3.drew
  have hZ0 : Below w.heap.size w W2.drew := below_drewN hW3 1
  clear hP3 hB3 hR3 hW3 hHeld
  refine wpAnyH_ready (rs := [8]) (by kernel_rfl) (by simp) ?_
  refine AllReadyH.cons rfl (fun K hK => ?_) AllReadyH.nil
  rw [if_pos (by rfl)]
  go_simp
  refine (desblock_any (keyF 24 (stOf key) 0) F _ _ (cs_of_map _) (cs_of_map _) false _).mono ?_
  rintro e w4 ⟨rfl, hC0⟩
  have hG1 := hG0.below hC0 hG0.lt
  have hX1 := hX0.below hC0 hX0.lt
  have hY1 := hY0.below hC0 hY0.lt
  have hZ1 := below_step hZ0 hC0 hZ0.size
  refine hK.out _ _ (HS.out _ _ hG1 hX1 hY1) (fun hHeld0 => ?_)
  clear hK K hC0 hG0 hX0 hY0 hZ0
  refine wpAnyH_ready (rs := [11]) (by kernel_rfl) (by simp) ?_
  refine AllReadyH.cons rfl (fun K hK => ?_) AllReadyH.nil
  rw [if_pos (by rfl)]
  go_simp
  refine (desblock_any (keyF 24 (stOf key) 1) (desF (keyF 24 (stOf key) 0) F false) _ _ (cs_of_map _) rfl true _).mono ?_
  rintro e w5 ⟨rfl, hC1⟩
  have hG2 := hG1.below hC1 hG1.lt
  have hX2 := hX1.below hC1 hX1.lt
  have hY2 := hY1.below hC1 hY1.lt
  have hZ2 := below_step hZ1 hC1 hZ1.size
  refine hK.out _ _ (HS.out _ _ hG2 hX2 hY2) (fun hHeld1 => ?_)
  clear hK K hC1 hG1 hX1 hY1 hZ1
  refine wpAnyH_ready (rs := [13]) (by kernel_rfl) (by simp) ?_
  refine AllReadyH.cons rfl (fun K hK => ?_) AllReadyH.nil
  rw [if_pos (by rfl)]
  go_simp
  refine (desblock_any (keyF 24 (stOf key) 2) (desF (keyF 24 (stOf key) 1) (desF (keyF 24 (stOf key) 0) F false) true) _ _ (cs_of_map _) rfl false _).mono ?_
  rintro e w6 ⟨rfl, hC2⟩
  have hG3 := hG2.below hC2 hG2.lt
  have hX3 := hX2.below hC2 hX2.lt
  have hY3 := hY2.below hC2 hY2.lt
  have hZ3 := below_step hZ2 hC2 hZ2.size
  refine hK.out _ _ (HS.out _ _ hG3 hX3 hY3) (fun hHeld2 => ?_)
  clear hK K hC2 hG2 hX2 hY2 hZ2
  refine wpAnyH_ready (rs := [14]) (by kernel_rfl) (by simp) ?_
  refine AllReadyH.cons rfl (fun K hK => ?_) AllReadyH.nil
  rw [if_pos (by rfl)]
  refine wp_store_row 66 _ _ rfl (w.heap.size + 1) (cs (tab 8 (desF (keyF 24 (stOf key) 2) (desF (keyF 24 (stOf key) 1) (desF (keyF 24 (stOf key) 0) F false) true) false))) rfl rfl 66 (cs (tab 8 (fun _ => 0))) hY3 (size8 _) (by rw [cs_size, cs_size, tab_length, tab_length]) (one_cs _) ?_
  simp only [Act.put, List.getElem_toArray, List.getElem_cons_succ, List.getElem_cons_zero, List.setIfInBounds_toArray, List.set_cons_zero, List.set_cons_succ]
  refine hK.out _ _ (HS.out _ _ (hG3.farRow (by omega)) (hX3.farRow (by omega)) (hY3.setRow _)) (fun hHeld3 => ?_)
  clear hK K
  refine wpAnyH_take (i := 15) (v := ?_) rfl (by kernel_rfl) (by kernel_rfl) (by kernel_rfl) (fun _ _ _ h => h) (Or.inl ⟨by rfl, ?_⟩) (by assumption) ?_
  rotate_left
  · (intro w hSw; go_simp)
    try with_reducible rfl
  simp only [Act.put, List.getElem_toArray, List.getElem_cons_succ, List.getElem_cons_zero, List.setIfInBounds_toArray, List.set_cons_zero, List.set_cons_succ]
  refine wpAnyH_done (by kernel_rfl) ?_ _
  go_wp2_with fail
  refine bodyPost_ret (results_cellt Tryd.results25 _ _ _ (w.heap.size + 1) (cs (tab 8 (desF (keyF 24 (stOf key) 2) (desF (keyF 24 (stOf key) 1) (desF (keyF 24 (stOf key) 0) F false) true) false))) 66 rfl (hY3.setRow _) _ Tryd.underlying66 rfl (size8 _)) rfl ?_
  exact ⟨rfl, below_row hZ3 (by omega) _⟩
set_option maxRecDepth 100000 in
set_option maxHeartbeats 8000000 in
theorem destriple_24_t (b o c : Nat) (key : List UInt8) (hn : key.length = 24) (hc : 24 ≤ c) (F : St) (ba : Array Value) (hba : ba = cs (tab 8 F)) (w : World) (hr : Rd w (some ⟨b, o, none⟩) key) :
    Calls Tryd.prog 25 #[.slice (some ⟨b, o, none⟩) 24 c, .agg ba, .bool true] w fun e w' => e = .returned (.tuple #[.agg (cs (tab 8 (tripF 24 (stOf key) F true))), .nilIface]) ∧ Below w.heap.size w w' := by
  subst hba
  have HN := Lib.hid hn
  clear hn
  go_enter Tryd.func25, Tryd.ntmps25
  go_wp2_with fail
  refine calls_name ?_
  intro W hW
  have hB0 : Blk W w.heap.size 66 (cs (tab 8 F)) := by rw [hW.out]; exact (Blk.new _ _ _).alloc _
  have hR0 : Blk W (w.heap.size + 1) 66 (cs (tab 8 (fun _ => 0))) := by rw [hW.out]; exact Blk.new_at (by simp) _ _
  have hr0 : Rd W (some ⟨b, o, none⟩) key := by rw [hW.out]; exact (hr.alloc _).alloc _
  have hW0 : Below w.heap.size w W := by rw [hW.out]; exact ((Below.refl _ _).alloc (Nat.le_refl _) _).alloc (by simp) _
  clear hW hr
  refine (desparts_any b o c 24 key HN.out (.inr (.inr rfl)) hc W hr0).mono ?_
  rintro e w1 ⟨rfl, hB1⟩
  have hB2 := hB0.below hB1 hB0.lt
  have hR2 := hR0.below hB1 hR0.lt
  have hW2 := below_step hW0 hB1 hW0.size
  clear hB0 hR0 hr0 hW0 hB1
  go_wp2_with (first
    | (refine wpList_store_new rfl 91 _ _ rfl (cs (tab 24 (partF 24 (fun i => key.getD i 0)))) _ (by first | rfl | simp) rfl rfl 91 _ (size24 _) (by rw [cs_size, tab_length]; rfl) (one_cs _) ?_; refine wpList_name ?_; intro W2 hW2'; refine lock_stop ?_))
  have hP3 : Blk W2 w1.heap.size 91 (cs (tab 24 (partF 24 (stOf key)))) := by rw [hW2'.out]; exact Blk.new _ _ _
  have hB3 : Blk W2 w.heap.size 66 (cs (tab 8 F)) := by rw [hW2'.out]; exact hB2.alloc _
  have hR3 : Blk W2 (w.heap.size + 1) 66 (cs (tab 8 (fun _ => 0))) := by rw [hW2'.out]; exact hR2.alloc _
  have hW3 : Below w.heap.size w W2 := by rw [hW2'.out]; exact hW2.alloc hW2.size _
  have hg : w.heap.size + 1 < w1.heap.size := hR2.lt
  have r0 := part_mid hP3 0 (by decide)
  have r1 := part_mid hP3 1 (by decide)
  have r2 := part_mid hP3 2 (by decide)
  obtain ⟨g, hgg⟩ : ∃ g, g = w1.heap.size := ⟨_, rfl⟩
  rw [← hgg] at hg r0 r1 r2 hP3 ⊢
  clear hW2' hB2 hR2 hW2
  clear hgg
  simp only [Nat.mul_zero, Nat.mul_one, Nat.reduceMul] at r0 r1 r2
  refine lock_go ?_
  go_wp2_with (first
    | (refine wpList_load_mid rfl 66 _ rfl g 16 rfl ((tab 8 (keyF 24 (stOf key) 2)).map bv) _ r2 Tryd.underlying66 rfl (size8l _) ?_)
    | (refine wpList_load_mid rfl 66 _ rfl g 0 rfl ((tab 8 (keyF 24 (stOf key) 0)).map bv) _ r0 Tryd.underlying66 rfl (size8l _) ?_)
    | (refine wpList_store_mid rfl 66 _ _ rfl g 0 (cs (tab 8 (keyF 24 (stOf key) 2))) rfl rfl (hP3.there _ _ (by rw [cs_size, cs_size, tab_length, tab_length]; omega)) (size8 _) (one_cs _) ?_; refine wpList_name ?_; intro W3 hW3'; refine lock_stop ?_))
  have hP4 := blk_splice (m := 8) (o := 0) (G := (keyF 24 (stOf key) 2)) hP3
  have hB4 := hB3.grown (only_setCells (cs (tab 8 (keyF 24 (stOf key) 2))).toList 0 (only_refl W2 (some g))) (by intro h; injection h with h; omega)
  have hR4 := hR3.grown (only_setCells (cs (tab 8 (keyF 24 (stOf key) 2))).toList 0 (only_refl W2 (some g))) (by intro h; injection h with h; omega)
  have hW4 := below_setCells (g := g) (by omega) (cs (tab 8 (keyF 24 (stOf key) 2))).toList 0 hW3
  rw [← hW3'.out] at hP4 hB4 hR4 hW4
  clear hP3 hB3 hR3 hW3 hW3' r0 r1 r2
  refine lock_go ?_
  go_wp2_with (first
    | (refine wpList_store_mid rfl 66 _ _ rfl g 16 (cs (tab 8 (keyF 24 (stOf key) 0))) rfl rfl (hP4.there _ _ (by rw [cs_size, cs_size, tab_length, tab_length]; omega)) (size8 _) (one_cs _) ?_; refine wpList_name ?_; intro W4 hW4'; refine lock_stop ?_))
  have hP5 := blk_splice (m := 8) (o := 16) (G := (keyF 24 (stOf key) 0)) hP4
  have hB3 := hB4.grown (only_setCells (cs (tab 8 (keyF 24 (stOf key) 0))).toList 16 (only_refl W3 (some g))) (by intro h; injection h with h; omega)
  have hR3 := hR4.grown (only_setCells (cs (tab 8 (keyF 24 (stOf key) 0))).toList 16 (only_refl W3 (some g))) (by intro h; injection h with h; omega)
  have hW3 := below_setCells (g := g) (by omega) (cs (tab 8 (keyF 24 (stOf key) 0))).toList 16 hW4
  rw [← hW4'.out] at hP5 hB3 hR3 hW3
  have hP3 : Blk W4 g 91 (cs (tab 24 (swapF (partF 24 (stOf key))))) := by
    have e : tab 24 _ = tab 24 (swapF (partF 24 (stOf key))) := tab_congr 24 _ _ (swap_eq 24 (stOf key))
    rw [← e]; exact hP5
  clear hP4 hP5 hB4 hR4 hW4 hW4'
  refine lock_go ?_
  go_wp2_with fail
  have u8 := Tryd.underlying66
  have z0 := size8l (keyF 24 (stOf key) 0)
  have z1 := size8l (keyF 24 (stOf key) 1)
  have z2 := size8l (keyF 24 (stOf key) 2)
  have z3 := size8l F
  have SX : ∀ (w' : World) (Y : St), Blk w' g 91 (cs (tab 24 (swapF (partF 24 (stOf key))))) → Blk w' w.heap.size 66 (cs (tab 8 F)) → Blk w' (w.heap.size + 1) 66 (cs (tab 8 Y)) → (w'.rangeAt g 0 ((tab 8 (keyF 24 (stOf key) 2)).map bv) ∧ w'.rangeAt g 8 ((tab 8 (keyF 24 (stOf key) 1)).map bv) ∧ w'.rangeAt g 16 ((tab 8 (keyF 24 (stOf key) 0)).map bv) ∧ w'.rangeAt w.heap.size 0 ((tab 8 F).map bv) ∧ w'.there (w.heap.size + 1) 0 8) := by
    intro w' Y a1 a2 a3
    exact ⟨swap_0 a1, swap_1 a1, swap_2 a1, blk_range8 a2, a3.there 0 8 (by rw [cs_size, tab_length]; omega)⟩
  have HS := Lib.hid SX
  clear SX
  refine wp_region_held_drew (S := fun w' => w'.rangeAt g 0 ((tab 8 (keyF 24 (stOf key) 2)).map bv) ∧ w'.rangeAt g 8 ((tab 8 (keyF 24 (stOf key) 1)).map bv) ∧ w'.rangeAt g 16 ((tab 8 (keyF 24 (stOf key) 0)).map bv) ∧ w'.rangeAt w.heap.size 0 ((tab 8 F).map bv) ∧ w'.there (w.heap.size + 1) 0 8) (by kernel_rfl) (HS.out _ _ hP3.drew hB3.drew hR3.drew) (fun hHeld => ?_)
  refine wpAnyH_take (i := 0) (v := ?_) rfl (by kernel_rfl) (by kernel_rfl) (by kernel_rfl) (fun _ _ _ h => h) (Or.inl ⟨by rfl, ?_⟩) (by assumption) ?_
  rotate_left
  · (intro w hSw; go_simp)
    try with_reducible rfl
  simp only [Act.put, List.getElem_toArray, List.getElem_cons_succ, List.getElem_cons_zero, List.setIfInBounds_toArray, List.set_cons_zero, List.set_cons_succ]
  refine wpAnyH_take (i := 1) (v := _) rfl (by kernel_rfl) (by kernel_rfl) (by kernel_rfl) (fun _ _ _ h => h) (yieldsIf_load_mid (by rfl) _ _ rfl _ _ rfl _ _ (by intro w hSw; (try dsimp only at hSw); go_split_ands; assumption) (by assumption) rfl (by first | assumption | (simp only [*]; done))) (by assumption) ?_
  simp only [Act.put, List.getElem_toArray, List.getElem_cons_succ, List.getElem_cons_zero, List.setIfInBounds_toArray, List.set_cons_zero, List.set_cons_succ]
  refine wpAnyH_take (i := 2) (v := ?_) rfl (by kernel_rfl) (by kernel_rfl) (by kernel_rfl) (fun _ _ _ h => h) (Or.inl ⟨by rfl, ?_⟩) (by assumption) ?_
  rotate_left
  · (intro w hSw; go_simp)
    try with_reducible rfl
  simp only [Act.put, List.getElem_toArray, List.getElem_cons_succ, List.getElem_cons_zero, List.setIfInBounds_toArray, List.set_cons_zero, List.set_cons_succ]
  refine wpAnyH_take (i := 3) (v := _) rfl (by kernel_rfl) (by kernel_rfl) (by kernel_rfl) (fun _ _ _ h => h) (yieldsIf_load_mid (by rfl) _ _ rfl _ _ rfl _ _ (by intro w hSw; (try dsimp only at hSw); go_split_ands; assumption) (by assumption) rfl (by first | assumption | (simp only [*]; done))) (by assumption) ?_
  simp only [Act.put, List.getElem_toArray, List.getElem_cons_succ, List.getElem_cons_zero, List.setIfInBounds_toArray, List.set_cons_zero, List.set_cons_succ]
  refine wpAnyH_take (i := 4) (v := ?_) rfl (by kernel_rfl) (by kernel_rfl) (by kernel_rfl) (fun _ _ _ h => h) (Or.inl ⟨by rfl, ?_⟩) (by assumption) ?_
  rotate_left
  · (intro w hSw; go_simp)
    try with_reducible rfl
  simp only [Act.put, List.getElem_toArray, List.getElem_cons_succ, List.getElem_cons_zero, List.setIfInBounds_toArray, List.set_cons_zero, List.set_cons_succ]
  refine wpAnyH_take (i := 5) (v := _) rfl (by kernel_rfl) (by kernel_rfl) (by kernel_rfl) (fun _ _ _ h => h) (yieldsIf_load_mid (by rfl) _ _ rfl _ _ rfl _ _ (by intro w hSw; (try dsimp only at hSw); go_split_ands; assumption) (by assumption) rfl (by first | assumption | (simp only [*]; done))) (by assumption) ?_
  simp only [Act.put, List.getElem_toArray, List.getElem_cons_succ, List.getElem_cons_zero, List.setIfInBounds_toArray, List.set_cons_zero, List.set_cons_succ]
  refine wpAnyH_take (i := 6) (v := _) rfl (by kernel_rfl) (by kernel_rfl) (by kernel_rfl) (fun _ _ _ h => h) (yieldsIf_load_mid (by rfl) _ _ rfl _ _ rfl _ _ (by intro w hSw; (try dsimp only at hSw); go_split_ands; assumption) (by assumption) rfl (by first | assumption | (simp only [*]; done))) (by assumption) ?_
  simp only [Act.put, List.getElem_toArray, List.getElem_cons_succ, List.getElem_cons_zero, List.setIfInBounds_toArray, List.set_cons_zero, List.set_cons_succ]
  refine wpAnyH_take (i := 7) (v := ?_) rfl (by kernel_rfl) (by kernel_rfl) (by kernel_rfl) (fun _ _ _ h => h) (Or.inl ⟨by rfl, ?_⟩) (by assumption) ?_
  rotate_left
  · (intro w hSw; go_simp)
    try with_reducible rfl
  simp only [Act.put, List.getElem_toArray, List.getElem_cons_succ, List.getElem_cons_zero, List.setIfInBounds_toArray, List.set_cons_zero, List.set_cons_succ]
  refine wpAnyH_take (i := 9) (v := ?_) rfl (by kernel_rfl) (by kernel_rfl) (by kernel_rfl) (fun _ _ _ h => h) (Or.inl ⟨by rfl, ?_⟩) (by assumption) ?_
  rotate_left
  · (intro w hSw; go_simp)
    try with_reducible rfl
  simp only [Act.put, List.getElem_toArray, List.getElem_cons_succ, List.getElem_cons_zero, List.setIfInBounds_toArray, List.set_cons_zero, List.set_cons_succ]
  refine wpAnyH_take (i := 10) (v := ?_) rfl (by kernel_rfl) (by kernel_rfl) (by kernel_rfl) (fun _ _ _ h => h) (Or.inl ⟨by rfl, ?_⟩) (by assumption) ?_
  rotate_left
  · (intro w hSw; go_simp)
    try with_reducible rfl
  simp only [Act.put, List.getElem_toArray, List.getElem_cons_succ, List.getElem_cons_zero, List.setIfInBounds_toArray, List.set_cons_zero, List.set_cons_succ]
  refine wpAnyH_take (i := 12) (v := ?_) rfl (by kernel_rfl) (by kernel_rfl) (by kernel_rfl) (fun _ _ _ h => h) (Or.inl ⟨by rfl, ?_⟩) (by assumption) ?_
  rotate_left
  · (intro w hSw; go_simp)
    try with_reducible rfl
  simp only [Act.put, List.getElem_toArray, List.getElem_cons_succ, List.getElem_cons_zero, List.setIfInBounds_toArray, List.set_cons_zero, List.set_cons_succ]
  have hG0 := hP3.drew
  have hX0 := hB3.drew
  have hY0 := hR3.drew
  have hZ0 : Below w.heap.size w W4.drew := below_drewN hW3 1
  clear hP3 hB3 hR3 hW3 hHeld
  refine wpAnyH_ready (rs := [8]) (by kernel_rfl) (by simp) ?_
  refine AllReadyH.cons rfl (fun K hK => ?_) AllReadyH.nil
  rw [if_pos (by rfl)]
  go_simp
  refine (desblock_any (keyF 24 (stOf key) 2) F _ _ (cs_of_map _) (cs_of_map _) true _).mono ?_
  rintro e w4 ⟨rfl, hC0⟩
  have hG1 := hG0.below hC0 hG0.lt
  have hX1 := hX0.below hC0 hX0.lt
  have hY1 := hY0.below hC0 hY0.lt
  have hZ1 := below_step hZ0 hC0 hZ0.size
  refine hK.out _ _ (HS.out _ _ hG1 hX1 hY1) (fun hHeld0 => ?_)
  clear hK K hC0 hG0 hX0 hY0 hZ0
  refine wpAnyH_ready (rs := [11]) (by kernel_rfl) (by simp) ?_
  refine AllReadyH.cons rfl (fun K hK => ?_) AllReadyH.nil
  rw [if_pos (by rfl)]
  go_simp
  refine (desblock_any (keyF 24 (stOf key) 1) (desF (keyF 24 (stOf key) 2) F true) _ _ (cs_of_map _) rfl false _).mono ?_
  rintro e w5 ⟨rfl, hC1⟩
  have hG2 := hG1.below hC1 hG1.lt
  have hX2 := hX1.below hC1 hX1.lt
  have hY2 := hY1.below hC1 hY1.lt
  have hZ2 := below_step hZ1 hC1 hZ1.size
  refine hK.out _ _ (HS.out _ _ hG2 hX2 hY2) (fun hHeld1 => ?_)
  clear hK K hC1 hG1 hX1 hY1 hZ1
  refine wpAnyH_ready (rs := [13]) (by kernel_rfl) (by simp) ?_
  refine AllReadyH.cons rfl (fun K hK => ?_) AllReadyH.nil
  rw [if_pos (by rfl)]
  go_simp
  refine (desblock_any (keyF 24 (stOf key) 0) (desF (keyF 24 (stOf key) 1) (desF (keyF 24 (stOf key) 2) F true) false) _ _ (cs_of_map _) rfl true _).mono ?_
  rintro e w6 ⟨rfl, hC2⟩
  have hG3 := hG2.below hC2 hG2.lt
  have hX3 := hX2.below hC2 hX2.lt
  have hY3 := hY2.below hC2 hY2.lt
  have hZ3 := below_step hZ2 hC2 hZ2.size
  refine hK.out _ _ (HS.out _ _ hG3 hX3 hY3) (fun hHeld2 => ?_)
  clear hK K hC2 hG2 hX2 hY2 hZ2
  refine wpAnyH_ready (rs := [14]) (by kernel_rfl) (by simp) ?_
  refine AllReadyH.cons rfl (fun K hK => ?_) AllReadyH.nil
  rw [if_pos (by rfl)]
  refine wp_store_row 66 _ _ rfl (w.heap.size + 1) (cs (tab 8 (desF (keyF 24 (stOf key) 0) (desF (keyF 24 (stOf key) 1) (desF (keyF 24 (stOf key) 2) F true) false) true))) rfl rfl 66 (cs (tab 8 (fun _ => 0))) hY3 (size8 _) (by rw [cs_size, cs_size, tab_length, tab_length]) (one_cs _) ?_
  simp only [Act.put, List.getElem_toArray, List.getElem_cons_succ, List.getElem_cons_zero, List.setIfInBounds_toArray, List.set_cons_zero, List.set_cons_succ]
  refine hK.out _ _ (HS.out _ _ (hG3.farRow (by omega)) (hX3.farRow (by omega)) (hY3.setRow _)) (fun hHeld3 => ?_)
  clear hK K
  refine wpAnyH_take (i := 15) (v := ?_) rfl (by kernel_rfl) (by kernel_rfl) (by kernel_rfl) (fun _ _ _ h => h) (Or.inl ⟨by rfl, ?_⟩) (by assumption) ?_
  rotate_left
  · (intro w hSw; go_simp)
    try with_reducible rfl
  simp only [Act.put, List.getElem_toArray, List.getElem_cons_succ, List.getElem_cons_zero, List.setIfInBounds_toArray, List.set_cons_zero, List.set_cons_succ]
  refine wpAnyH_done (by kernel_rfl) ?_ _
  go_wp2_with fail
  refine bodyPost_ret (results_cellt Tryd.results25 _ _ _ (w.heap.size + 1) (cs (tab 8 (desF (keyF 24 (stOf key) 0) (desF (keyF 24 (stOf key) 1) (desF (keyF 24 (stOf key) 2) F true) false) true))) 66 rfl (hY3.setRow _) _ Tryd.underlying66 rfl (size8 _)) rfl ?_
  exact ⟨rfl, below_row hZ3 (by omega) _⟩
theorem destriple_any (A : Option Addr) (n c : Nat) (key : List UInt8) (hn : key.length = n) (hl : n = 8 ∨ n = 16 ∨ n = 24) (hc : n ≤ c) (F : St) (ba : Array Value) (hba : ba = cs (tab 8 F)) (back : Bool) (w : World) (hr : Rd w A key) :
    Calls Tryd.prog 25 #[.slice A n c, .agg ba, .bool back] w fun e w' => e = .returned (.tuple #[.agg (cs (tab 8 (tripF n (stOf key) F back))), .nilIface]) ∧ Below w.heap.size w w' := by
  obtain ⟨b, o, rfl, _, _⟩ := hr.open_ (by omega)
  rcases hl with rfl | rfl | rfl
  · exact destriple_8 b o c key hn hc F ba hba back w hr
  · cases back
    · exact destriple_16_f b o c key hn hc F ba hba w hr
    · exact destriple_16_t b o c key hn hc F ba hba w hr
  · cases back
    · exact destriple_24_f b o c key hn hc F ba hba w hr
    · exact destriple_24_t b o c key hn hc F ba hba w hr
end Go.Proofs.YtbmhmohpnhckgaaDoor
