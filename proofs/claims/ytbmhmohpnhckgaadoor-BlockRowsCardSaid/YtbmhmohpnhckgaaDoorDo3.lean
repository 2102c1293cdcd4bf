/- (*Cipher).wide at AES -/
import Derived.Test.YtbmhmohpnhckgaaDoorBook
import Derived.Test.YtbmhmohpnhckgaaDoorAesEnc
import Derived.Test.YtbmhmohpnhckgaaDoorAesMath
import Derived.Test.YtbmhmohpnhckgaaDoorHeld
import Derived.Test.YtbmhmohpnhckgaaDoorDesBlk
namespace Go.Proofs.YtbmhmohpnhckgaaDoor
set_option linter.unusedSimpArgs false
open Go.RowKit Lb
theorem size16l (F : St) : (Tryd.prog.info? 41).map (·.size) = some ((tab 16 F).map bv).length := by rw [info16, List.length_map, tab_length]
theorem blk_range16 {w : World} {g : Nat} {t : TypeId} {F : St} (h : Blk w g t (cs (tab 16 F))) : w.rangeAt g 0 ((tab 16 F).map bv) := fun i v hv => by
  rw [List.getElem?_map] at hv
  rw [h.cell, cs_get, Nat.zero_add]
  exact hv
theorem cs_of16 (l : List UInt8) : (l.map bv).toArray = cs l := rfl
set_option maxRecDepth 100000 in
set_option maxHeartbeats 8000000 in
theorem wide_enc {p : Nat} {K : Option Addr} {cK : Nat} {B : Value} (key : List UInt8) (nk : Nat) (hk4 : key.length = 4 * nk) (hnk : nk = 4 ∨ nk = 6 ∨ nk = 8) (w : World) (hb : Blk w p 62 #[.int .i64 1, .slice K (4 * nk) cK, B]) (hr : Rd w K key) (F : St) (xa : Array Value) (hxa : xa = cs (tab 16 F)) :
    Calls Tryd.prog 26 #[.pointer (some ⟨p, 0, none⟩), .agg xa, .bool false] w fun e w' => e = .returned (.tuple #[.agg (cs (tab 16 (encK key F))), .nilIface]) ∧ Below w.heap.size w w' := by
  subst hxa
  have HK4 := Lib.hid hk4
  clear hk4
  have c0 := fun o1 o2 => cell_alloc (cell_alloc (w := w) (b := p) (o := 0) (hb.cell 0) o1) o2
  have hpl := hb.lt
  go_enter Tryd.func26, Tryd.ntmps26
  go_wp2_with fail
  refine wp_name ?_
  intro W hW
  have hX : Blk W w.heap.size 41 (cs (tab 16 F)) := by rw [hW.out]; exact (Blk.new _ _ _).alloc _
  have hY : Blk W (w.heap.size + 1) 41 (cs (tab 16 (fun _ => 0))) := by rw [hW.out]; exact Blk.new_at (by simp) _ _
  have hZ : Below w.heap.size w W := by rw [hW.out]; exact ((Below.refl _ _).alloc (Nat.le_refl _) _).alloc (by simp) _
  clear hW c0
  have hG := hb.below hZ hb.lt
  have hR := hr.below hZ
  clear hb hr
  have u16 := Tryd.underlying41
  have z16 := size16l F
  have SX : ∀ (w' : World) (Y : St), Blk w' p 62 #[.int .i64 1, .slice K (4 * nk) cK, B] → Blk w' w.heap.size 41 (cs (tab 16 F)) → Blk w' (w.heap.size + 1) 41 (cs (tab 16 Y)) → (w'.cell? ⟨p, 1, none⟩ = some (.slice K (4 * nk) cK) ∧ w'.rangeAt w.heap.size 0 ((tab 16 F).map bv) ∧ w'.there (w.heap.size + 1) 0 16) := by
    intro w' Y a1 a2 a3
    exact ⟨a1.cell 1, blk_range16 a2, a3.there 0 16 (by rw [cs_size, tab_length]; omega)⟩
  have HS := Lib.hid SX
  clear SX
  refine wp_region_held_drew (S := fun w' => w'.cell? ⟨p, 1, none⟩ = some (.slice K (4 * nk) cK) ∧ w'.rangeAt w.heap.size 0 ((tab 16 F).map bv) ∧ w'.there (w.heap.size + 1) 0 16) (by kernel_rfl) (HS.out _ _ hG.drew hX.drew hY.drew) (fun hHeld => ?_)
  refine wpAnyH_take (i := 0) (v := ?_) rfl (by kernel_rfl) (by kernel_rfl) (by kernel_rfl) (fun _ _ _ h => h) (Or.inl ⟨by rfl, ?_⟩) (by assumption) ?_
  rotate_left
  · (intro w hSw; go_simp)
    try with_reducible rfl
  simp only [Act.put, List.getElem_toArray, List.getElem_cons_succ, List.getElem_cons_zero, List.setIfInBounds_toArray, List.set_cons_zero, List.set_cons_succ]
  refine wpAnyH_take (i := 1) (v := ?_) rfl (by kernel_rfl) (by kernel_rfl) (by kernel_rfl) (fun _ _ _ h => h) (Or.inl ⟨by rfl, ?_⟩) (by assumption) ?_
  rotate_left
  · (intro w hSw; go_simp)
    try with_reducible rfl
  simp only [Act.put, List.getElem_toArray, List.getElem_cons_succ, List.getElem_cons_zero, List.setIfInBounds_toArray, List.set_cons_zero, List.set_cons_succ]
  refine wpAnyH_take (i := 2) (v := ?_) rfl (by kernel_rfl) (by kernel_rfl) (by kernel_rfl) (fun _ _ _ h => h) (Or.inl ⟨by rfl, ?_⟩) (by assumption) ?_
  rotate_left
  · (intro w hSw; go_simp)
    try with_reducible rfl
  simp only [Act.put, List.getElem_toArray, List.getElem_cons_succ, List.getElem_cons_zero, List.setIfInBounds_toArray, List.set_cons_zero, List.set_cons_succ]
  refine wpAnyH_take (i := 3) (v := ?_) rfl (by kernel_rfl) (by kernel_rfl) (by kernel_rfl) (fun _ _ _ h => h) (Or.inl ⟨by rfl, ?_⟩) (by assumption) ?_
  rotate_left
  · (intro w hSw; go_simp)
    try with_reducible rfl
  simp only [Act.put, List.getElem_toArray, List.getElem_cons_succ, List.getElem_cons_zero, List.setIfInBounds_toArray, List.set_cons_zero, List.set_cons_succ]
  refine wpAnyH_take (i := 4) (v := _) rfl (by kernel_rfl) (by kernel_rfl) (by kernel_rfl) (fun _ _ _ h => h) (yieldsIf_load_mid (by rfl) _ _ rfl _ _ rfl _ _ (by intro w hSw; (try dsimp only at hSw); go_split_ands; assumption) (by assumption) rfl (by first | assumption | (simp only [*]; done))) (by assumption) ?_
  simp only [Act.put, List.getElem_toArray, List.getElem_cons_succ, List.getElem_cons_zero, List.setIfInBounds_toArray, List.set_cons_zero, List.set_cons_succ]
  refine wpAnyH_ready (rs := [5]) (by kernel_rfl) (by simp) ?_
  refine AllReadyH.cons rfl (fun K hK => ?_) AllReadyH.nil
  rw [if_pos (by rfl)]
  go_simp
  refine (aesenc_any _ key nk HK4.out cK F _ (cs_of16 _) W.drew hR.drew hnk).mono ?_
  rintro e w4 ⟨rfl, hC⟩
  have hG1 := hG.drew.below hC hG.lt
  have hX1 := hX.drew.below hC hX.lt
  have hY1 := hY.drew.below hC hY.lt
  have hZ1 := below_step (below_drewN hZ 1) hC hZ.size
  refine hK.out _ _ (HS.out _ _ hG1 hX1 hY1) (fun hHeld0 => ?_)
  clear hK K hC hG hX hY hZ hHeld
  refine wpAnyH_take (i := 6) (v := ?_) rfl (by kernel_rfl) (by kernel_rfl) (by kernel_rfl) (fun _ _ _ h => h) (Or.inl ⟨by rfl, ?_⟩) (by assumption) ?_
  rotate_left
  · (intro w hSw; go_simp)
    try with_reducible rfl
  simp only [Act.put, List.getElem_toArray, List.getElem_cons_succ, List.getElem_cons_zero, List.setIfInBounds_toArray, List.set_cons_zero, List.set_cons_succ]
  refine wpAnyH_take (i := 7) (v := ?_) rfl (by kernel_rfl) (by kernel_rfl) (by kernel_rfl) (fun _ _ _ h => h) (Or.inl ⟨by rfl, ?_⟩) (by assumption) ?_
  rotate_left
  · (intro w hSw; go_simp)
    try with_reducible rfl
  simp only [Act.put, List.getElem_toArray, List.getElem_cons_succ, List.getElem_cons_zero, List.setIfInBounds_toArray, List.set_cons_zero, List.set_cons_succ]
  refine wpAnyH_ready (rs := [8]) (by kernel_rfl) (by simp) ?_
  refine AllReadyH.cons rfl (fun K hK => ?_) AllReadyH.nil
  rw [if_pos (by rfl)]
  refine wp_store_row 41 _ _ rfl (w.heap.size + 1) (cs (tab 16 (encK key F))) rfl rfl 41 (cs (tab 16 (fun _ => 0))) hY1 (size16 _) (by rw [cs_size, cs_size, tab_length, tab_length]) (one_cs _) ?_
  simp only [Act.put, List.getElem_toArray, List.getElem_cons_succ, List.getElem_cons_zero, List.setIfInBounds_toArray, List.set_cons_zero, List.set_cons_succ]
  refine hK.out _ _ (HS.out _ _ (hG1.farRow (by omega)) (hX1.farRow (by omega)) (hY1.setRow _)) (fun hHeld3 => ?_)
  clear hK K
  refine wpAnyH_take (i := 9) (v := ?_) rfl (by kernel_rfl) (by kernel_rfl) (by kernel_rfl) (fun _ _ _ h => h) (Or.inl ⟨by rfl, ?_⟩) (by assumption) ?_
  rotate_left
  · (intro w hSw; go_simp)
    try with_reducible rfl
  simp only [Act.put, List.getElem_toArray, List.getElem_cons_succ, List.getElem_cons_zero, List.setIfInBounds_toArray, List.set_cons_zero, List.set_cons_succ]
  refine wpAnyH_done (by kernel_rfl) ?_ _
  go_wp2_with fail
  refine bodyPost_ret (results_cellt Tryd.results26 _ _ _ (w.heap.size + 1) (cs (tab 16 (encK key F))) 41 rfl (hY1.setRow _) _ Tryd.underlying41 rfl (size16 _)) rfl ?_
  exact ⟨rfl, below_row hZ1 (by omega) _⟩
set_option maxRecDepth 100000 in
set_option maxHeartbeats 8000000 in
theorem wide_dec {p : Nat} {K : Option Addr} {cK : Nat} {B : Value} (key : List UInt8) (nk : Nat) (hk4 : key.length = 4 * nk) (hnk : nk = 4 ∨ nk = 6 ∨ nk = 8) (w : World) (hb : Blk w p 62 #[.int .i64 1, .slice K (4 * nk) cK, B]) (hr : Rd w K key) (F : St) (xa : Array Value) (hxa : xa = cs (tab 16 F)) :
    Calls Tryd.prog 26 #[.pointer (some ⟨p, 0, none⟩), .agg xa, .bool true] w fun e w' => e = .returned (.tuple #[.agg (cs (tab 16 (decK key F))), .nilIface]) ∧ Below w.heap.size w w' := by
  subst hxa
  have HK4 := Lib.hid hk4
  clear hk4
  have c0 := fun o1 o2 => cell_alloc (cell_alloc (w := w) (b := p) (o := 0) (hb.cell 0) o1) o2
  have hpl := hb.lt
  go_enter Tryd.func26, Tryd.ntmps26
  go_wp2_with fail
  refine wp_name ?_
  intro W hW
  have hX : Blk W w.heap.size 41 (cs (tab 16 F)) := by rw [hW.out]; exact (Blk.new _ _ _).alloc _
  have hY : Blk W (w.heap.size + 1) 41 (cs (tab 16 (fun _ => 0))) := by rw [hW.out]; exact Blk.new_at (by simp) _ _
  have hZ : Below w.heap.size w W := by rw [hW.out]; exact ((Below.refl _ _).alloc (Nat.le_refl _) _).alloc (by simp) _
  clear hW c0
  have hG := hb.below hZ hb.lt
  have hR := hr.below hZ
  clear hb hr
  have u16 := Tryd.underlying41
  have z16 := size16l F
  have SX : ∀ (w' : World) (Y : St), Blk w' p 62 #[.int .i64 1, .slice K (4 * nk) cK, B] → Blk w' w.heap.size 41 (cs (tab 16 F)) → Blk w' (w.heap.size + 1) 41 (cs (tab 16 Y)) → (w'.cell? ⟨p, 1, none⟩ = some (.slice K (4 * nk) cK) ∧ w'.rangeAt w.heap.size 0 ((tab 16 F).map bv) ∧ w'.there (w.heap.size + 1) 0 16) := by
    intro w' Y a1 a2 a3
    exact ⟨a1.cell 1, blk_range16 a2, a3.there 0 16 (by rw [cs_size, tab_length]; omega)⟩
  have HS := Lib.hid SX
  clear SX
  refine wp_region_held_drew (S := fun w' => w'.cell? ⟨p, 1, none⟩ = some (.slice K (4 * nk) cK) ∧ w'.rangeAt w.heap.size 0 ((tab 16 F).map bv) ∧ w'.there (w.heap.size + 1) 0 16) (by kernel_rfl) (HS.out _ _ hG.drew hX.drew hY.drew) (fun hHeld => ?_)
  refine wpAnyH_take (i := 0) (v := ?_) rfl (by kernel_rfl) (by kernel_rfl) (by kernel_rfl) (fun _ _ _ h => h) (Or.inl ⟨by rfl, ?_⟩) (by assumption) ?_
  rotate_left
  · (intro w hSw; go_simp)
    try with_reducible rfl
  simp only [Act.put, List.getElem_toArray, List.getElem_cons_succ, List.getElem_cons_zero, List.setIfInBounds_toArray, List.set_cons_zero, List.set_cons_succ]
  refine wpAnyH_take (i := 1) (v := ?_) rfl (by kernel_rfl) (by kernel_rfl) (by kernel_rfl) (fun _ _ _ h => h) (Or.inl ⟨by rfl, ?_⟩) (by assumption) ?_
  rotate_left
  · (intro w hSw; go_simp)
    try with_reducible rfl
  simp only [Act.put, List.getElem_toArray, List.getElem_cons_succ, List.getElem_cons_zero, List.setIfInBounds_toArray, List.set_cons_zero, List.set_cons_succ]
  refine wpAnyH_take (i := 2) (v := ?_) rfl (by kernel_rfl) (by kernel_rfl) (by kernel_rfl) (fun _ _ _ h => h) (Or.inl ⟨by rfl, ?_⟩) (by assumption) ?_
  rotate_left
  · (intro w hSw; go_simp)
    try with_reducible rfl
  simp only [Act.put, List.getElem_toArray, List.getElem_cons_succ, List.getElem_cons_zero, List.setIfInBounds_toArray, List.set_cons_zero, List.set_cons_succ]
  refine wpAnyH_take (i := 3) (v := ?_) rfl (by kernel_rfl) (by kernel_rfl) (by kernel_rfl) (fun _ _ _ h => h) (Or.inl ⟨by rfl, ?_⟩) (by assumption) ?_
  rotate_left
  · (intro w hSw; go_simp)
    try with_reducible rfl
  simp only [Act.put, List.getElem_toArray, List.getElem_cons_succ, List.getElem_cons_zero, List.setIfInBounds_toArray, List.set_cons_zero, List.set_cons_succ]
  refine wpAnyH_take (i := 4) (v := _) rfl (by kernel_rfl) (by kernel_rfl) (by kernel_rfl) (fun _ _ _ h => h) (yieldsIf_load_mid (by rfl) _ _ rfl _ _ rfl _ _ (by intro w hSw; (try dsimp only at hSw); go_split_ands; assumption) (by assumption) rfl (by first | assumption | (simp only [*]; done))) (by assumption) ?_
  simp only [Act.put, List.getElem_toArray, List.getElem_cons_succ, List.getElem_cons_zero, List.setIfInBounds_toArray, List.set_cons_zero, List.set_cons_succ]
  refine wpAnyH_ready (rs := [5]) (by kernel_rfl) (by simp) ?_
  refine AllReadyH.cons rfl (fun K hK => ?_) AllReadyH.nil
  rw [if_pos (by rfl)]
  go_simp
  refine (aesdec_any _ key nk HK4.out cK F _ (cs_of16 _) W.drew hR.drew hnk).mono ?_
  rintro e w4 ⟨rfl, hC⟩
  have hG1 := hG.drew.below hC hG.lt
  have hX1 := hX.drew.below hC hX.lt
  have hY1 := hY.drew.below hC hY.lt
  have hZ1 := below_step (below_drewN hZ 1) hC hZ.size
  refine hK.out _ _ (HS.out _ _ hG1 hX1 hY1) (fun hHeld0 => ?_)
  clear hK K hC hG hX hY hZ hHeld
  refine wpAnyH_take (i := 6) (v := ?_) rfl (by kernel_rfl) (by kernel_rfl) (by kernel_rfl) (fun _ _ _ h => h) (Or.inl ⟨by rfl, ?_⟩) (by assumption) ?_
  rotate_left
  · (intro w hSw; go_simp)
    try with_reducible rfl
  simp only [Act.put, List.getElem_toArray, List.getElem_cons_succ, List.getElem_cons_zero, List.setIfInBounds_toArray, List.set_cons_zero, List.set_cons_succ]
  refine wpAnyH_take (i := 7) (v := ?_) rfl (by kernel_rfl) (by kernel_rfl) (by kernel_rfl) (fun _ _ _ h => h) (Or.inl ⟨by rfl, ?_⟩) (by assumption) ?_
  rotate_left
  · (intro w hSw; go_simp)
    try with_reducible rfl
  simp only [Act.put, List.getElem_toArray, List.getElem_cons_succ, List.getElem_cons_zero, List.setIfInBounds_toArray, List.set_cons_zero, List.set_cons_succ]
  refine wpAnyH_ready (rs := [8]) (by kernel_rfl) (by simp) ?_
  refine AllReadyH.cons rfl (fun K hK => ?_) AllReadyH.nil
  rw [if_pos (by rfl)]
  refine wp_store_row 41 _ _ rfl (w.heap.size + 1) (cs (tab 16 (decK key F))) rfl rfl 41 (cs (tab 16 (fun _ => 0))) hY1 (size16 _) (by rw [cs_size, cs_size, tab_length, tab_length]) (one_cs _) ?_
  simp only [Act.put, List.getElem_toArray, List.getElem_cons_succ, List.getElem_cons_zero, List.setIfInBounds_toArray, List.set_cons_zero, List.set_cons_succ]
  refine hK.out _ _ (HS.out _ _ (hG1.farRow (by omega)) (hX1.farRow (by omega)) (hY1.setRow _)) (fun hHeld3 => ?_)
  clear hK K
  refine wpAnyH_take (i := 9) (v := ?_) rfl (by kernel_rfl) (by kernel_rfl) (by kernel_rfl) (fun _ _ _ h => h) (Or.inl ⟨by rfl, ?_⟩) (by assumption) ?_
  rotate_left
  · (intro w hSw; go_simp)
    try with_reducible rfl
  simp only [Act.put, List.getElem_toArray, List.getElem_cons_succ, List.getElem_cons_zero, List.setIfInBounds_toArray, List.set_cons_zero, List.set_cons_succ]
  refine wpAnyH_done (by kernel_rfl) ?_ _
  go_wp2_with fail
  refine bodyPost_ret (results_cellt Tryd.results26 _ _ _ (w.heap.size + 1) (cs (tab 16 (decK key F))) 41 rfl (hY1.setRow _) _ Tryd.underlying41 rfl (size16 _)) rfl ?_
  exact ⟨rfl, below_row hZ1 (by omega) _⟩
end Go.Proofs.YtbmhmohpnhckgaaDoor
