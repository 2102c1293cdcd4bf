import Derived.Test.YtbmhmohpnhckgaaDoorAesWalk
namespace Go.Proofs.YtbmhmohpnhckgaaDoor
open Go.RowKit Lb
set_option maxRecDepth 100000 in
set_option maxHeartbeats 4000000 in
theorem aescols_any (g : Nat) (F M : St) (mv : Array Value) (hm : mv = cs (tab 4 M)) (w : World)
    (hb : Blk w g 41 (cs (tab 16 F))) :
    Calls Tryd.prog 61 #[.pointer (some ⟨g, 0, none⟩), .agg mv] w fun e w' => e = .returned (.tuple #[]) ∧ Blk w' g 41 (cs (tab 16 (colsK F M))) ∧ w.grownBy w' (some g) := by
  subst hm
  have hg := hb.lt
  go_enter Tryd.func61, Tryd.ntmps61
  go_wp2_with (first
    | (refine wpList_load_row rfl 41 _ rfl g rfl 41 _ (0, 0) _ (hb.alloc _) Tryd.underlying41 rfl (size16 F) ?_)
    | (refine wpList_store_new rfl 41 _ _ rfl (cs (tab 16 F)) _ (by first | rfl | simp) rfl rfl 41 _ (size16 F) (by rw [cs_size, tab_length]; rfl) (one_cs _) ?_))
  go_loopw [12, 5, 6, 7, 8, 24] (fun s12 _ _ _ _ _ wr => ∃ k : Nat, k ≤ 16 ∧ s12 = .int .i64 k ∧ Blk wr g 41 (cs (tab 16 (upto k (colsK F M) F))) ∧ Blk wr (w.heap.size + 1) 41 (cs (tab 16 F)) ∧ Blk wr w.heap.size 138 (cs (tab 4 M)) ∧ w.grownBy wr (some g))
    (fun s12 _ _ _ _ _ _ => 16 - (intOf s12).toNat)
  case atStart => exact ⟨0, by omega, rfl, by rw [upto_0]; exact (hb.alloc _).alloc _, by have := Blk.new (w.alloc (.cells (cs (tab 4 M)) 138)) 41 (cs (tab 16 F)); simpa using this, (Blk.new _ _ _).alloc _, only_alloc (only_alloc (only_refl _ _) _) _⟩
  case round =>
    obtain ⟨k, hk, rfl, hB, hN, hMm, hG⟩ := hrel
    by_cases hlt : k < 16
    · have f1 := hB.frozen k
      have c1 := tab_cell hB k hlt
      have hdk : decide ((k : Int) < 16) = true := by simp; omega
      have hB1 := Lib.hid (blk_midStart hB 0 0 rfl)
      have hN1 := Lib.hid (hN.far (p := ⟨g, k, none⟩) (by simp only; omega) (.int .u8 0))
      have hM1 := Lib.hid (hMm.far (p := ⟨g, k, none⟩) (by simp only; omega) (.int .u8 0))
      have hG1 := Lib.hid (only_setCell (p := ⟨g, k, none⟩) hG (.inl rfl) (.int .u8 0))
      clear hN hMm hG
      go_wp2_with fail
      go_loopw [24, 8] (fun s24 _ wx => ∃ j : Nat, j ≤ 4 ∧ s24 = .int .i64 j ∧ Blk wx g 41 (cs (tab 16 (mid k (colSum F M k j) (colsK F M) F))) ∧ Blk wx (w.heap.size + 1) 41 (cs (tab 16 F)) ∧ Blk wx w.heap.size 138 (cs (tab 4 M)) ∧ w.grownBy wx (some g))
        (fun s24 _ _ => 4 - (intOf s24).toNat)
      case atStart => exact ⟨0, by omega, rfl, hB1.out, hN1.out, hM1.out, hG1.out⟩
      case round =>
        clear hB1 hN1 hM1 hG1
        obtain ⟨j, hj, rfl, hB2, hN2, hM2, hG2⟩ := hrel
        by_cases hlt : j < 4
        · have f2 := hB2.frozen k
          have hki : (k : Int) < 16 := by omega
          have d1 := tab_cell hB2 k (by omega)
          rw [mid_at] at d1
          have d2 := tab_cell hM2 j (by omega)
          have d3 := tab_cell hN2 (k / 4 * 4 + (k + j) % 4) (by omega)
          go_wp2_with fail
          have e1 : IntKind.i64.wrap ((k : Int) % 4 + (j : Int)) = (k : Int) % 4 + (j : Int) := IntWalk.i64_in _ (by omega)
          have e2 : ((k : Int) % 4 + (j : Int)).tmod 4 = ((k : Int) + (j : Int)) % 4 := by rw [IntWalk.rem_in _ _ (by omega)]; omega
          have e3 : IntKind.i64.wrap ((k : Int) / 4 * 4 + ((k : Int) + (j : Int)) % 4) = (k : Int) / 4 * 4 + ((k : Int) + (j : Int)) % 4 := IntWalk.i64_in _ (by omega)
          have e4 : (0 : Int) ≤ (k : Int) / 4 * 4 + ((k : Int) + (j : Int)) % 4 := by omega
          have e5 : (k : Int) / 4 * 4 + ((k : Int) + (j : Int)) % 4 < 16 := by omega
          have e6 : ((k : Int) / 4 * 4 + ((k : Int) + (j : Int)) % 4).toNat = k / 4 * 4 + (k + j) % 4 := by omega
          go_region_law (first
            | (go_simp; go_at_call 77; refine (gfmul_any (M j) (F (k / 4 * 4 + (k + j) % 4)) _ _ rfl rfl _).mono ?_; rintro e w' ⟨rfl, rfl⟩))
          all_goals clear e1 e2 e3 e4 e5 e6
          all_goals go_wp2_with fail
          all_goals
            go_roundw
            case rel => exact ⟨j + 1, by omega, by go_num, (blk_midStep hB2 (colSum F M k (j + 1)) _ (by rw [u8_bits_xor]; rfl)).drew, (hN2.far (p := ⟨g, k, none⟩) (by simp only; omega) _).drew, (hM2.far (p := ⟨g, k, none⟩) (by simp only; omega) _).drew, only_drew (only_setCell hG2 (.inl rfl) _)⟩
            case measure => simp [intOf]; omega
        · obtain rfl : j = 4 := by omega
          go_wp2_with fail
          go_roundw
          case rel => exact ⟨k + 1, by omega, by go_num, by have := mid_end 16 k (colsK F M) F; rw [← this]; exact hB2, hN2, hM2, hG2⟩
          case measure => simp [intOf]; omega
    · obtain rfl : k = 16 := by omega
      go_wp2_with fail
      go_end0
      exact ⟨rfl, by rw [upto_all] at hB; exact hB, hG⟩
end Go.Proofs.YtbmhmohpnhckgaaDoor
