/- DES: the block cipher -/
import Derived.Test.YtbmhmohpnhckgaaDoorDesBlk
namespace Go.Proofs.YtbmhmohpnhckgaaDoor
open Go.RowKit Lb
theorem zero_kv : (#[Value.int IntKind.u64 0, Value.int IntKind.u64 0, Value.int IntKind.u64 0, Value.int IntKind.u64 0, Value.int IntKind.u64 0, Value.int IntKind.u64 0, Value.int IntKind.u64 0, Value.int IntKind.u64 0, Value.int IntKind.u64 0, Value.int IntKind.u64 0, Value.int IntKind.u64 0, Value.int IntKind.u64 0, Value.int IntKind.u64 0, Value.int IntKind.u64 0, Value.int IntKind.u64 0, Value.int IntKind.u64 0] : Array Value) = kv (fun _ => 0) := rfl
theorem half_r (x : Nat) (hx : x < 18446744073709551616) : bits .and .u64 (x : Int) 4294967295 = ((x % 2 ^ 32 : Nat) : Int) := by
  have e3 : (4294967295 : Int) = ((2 ^ 32 - 1 : Nat) : Int) := by decide
  rw [e3, u64_and_nat _ _ hx (by decide), Nat.and_two_pow_sub_one_eq_mod]
theorem half_l (x : Nat) : (x : Int) / 4294967296 = ((x / 2 ^ 32 : Nat) : Int) := by simp
theorem join32 (r l : Nat) (hr : r < 4294967296) (hl : l < 4294967296) : bits .or .u64 ((r : Int) * 4294967296) (l : Int) = ((r * 2 ^ 32 + l : Nat) : Int) := by
  have e : ((r : Int) * 4294967296) = ((r * 2 ^ 32 : Nat) : Int) := by simp
  rw [e, u64_join r l 32 (by unfold U64; omega) (by omega)]
theorem xor32 (a b : Nat) (ha : a < 4294967296) (hb : b < 4294967296) : bits .xor .u64 (a : Int) (b : Int) = ((a ^^^ b : Nat) : Int) := u64_xor_nat _ _ (by omega) (by omega)
theorem take_ks (K : Nat → Nat) (back : Bool) (k : Nat) (hk : k < 16) : (ksL K back).take (k + 1) = (ksL K back).take k ++ [K (if back then 15 - k else k)] := by
  rw [List.take_succ_eq_append_getElem (by simp [ksL]; exact hk)]
  simp [ksL]
theorem feist_step (f : Nat → Nat → Nat) (K : Nat → Nat) (back : Bool) (p : Nat × Nat) (k : Nat) (hk : k < 16) : feist f ((ksL K back).take (k + 1)) p = ((feist f ((ksL K back).take k) p).2, (feist f ((ksL K back).take k) p).1 ^^^ f (feist f ((ksL K back).take k) p).2 (K (if back then 15 - k else k))) := by
  rw [take_ks K back k hk, feist_snoc]
set_option maxRecDepth 100000 in
set_option maxHeartbeats 4000000 in
theorem desblock_any (key b : Nat → UInt8) (ka ba : Array Value) (hka : ka = cs (tab 8 key)) (hba : ba = cs (tab 8 b)) (back : Bool) (w : World) : Calls Tryd.prog 36 #[.agg ka, .agg ba, .bool back] w fun e w' => e = .returned (.agg (cs (tab 8 (desF key b back)))) ∧ Below w.heap.size w w' := by
  subst hka hba
  go_enter Tryd.func36, Tryd.ntmps36
  go_wp2_with (first
    | (refine wpList_load_row rfl 66 _ rfl w.heap.size rfl 66 _ (0, 0) _ (((Blk.new w 66 (cs (tab 8 key))).alloc _).alloc _) Tryd.underlying66 rfl (size8 key) ?_))
  refine calls_name ?_
  intro W hW
  have hB : Blk W (w.heap.size + 1) 66 (cs (tab 8 b)) := by rw [hW.out]; exact (Blk.new_at (by simp) _ _).alloc _
  have hR : Blk W (w.heap.size + 1 + 1) 66 (cs (tab 8 (fun _ => 0))) := by rw [hW.out]; exact Blk.new_at (by simp) _ _
  have hW0 : Below w.heap.size w W := by rw [hW.out]; exact (((Below.refl _ _).alloc (Nat.le_refl _) _).alloc (by simp) _).alloc (by simp; omega) _
  clear hW
  refine (desrounds_any key _ rfl _).mono ?_
  rintro e w1 ⟨rfl, hB1⟩
  have hR1 := hR.below hB1 hR.lt
  have hO1 := hB.below hB1 hB.lt
  have hW1 := below_step hW0 hB1 hW0.size
  clear hR hB hW0 hB1
  go_wp2_with (first
    | (refine wpList_store_new rfl 117 _ _ rfl (kv (keyN key)) _ (by first | rfl | simp) rfl rfl 117 _ (sizeK16 _) (by rw [kv_size]; rfl) (one_kv _) ?_)
    | (refine wpList_load_row rfl 66 _ rfl (w.heap.size + 1) rfl 66 _ (0, 0) _ (hO1.alloc _) Tryd.underlying66 rfl (size8 b) ?_))
  have hK := Blk.new w1 117 (kv (keyN key))
  have hR2 := hR1.alloc (.cells (kv (keyN key)) 117)
  have hW2 := hW1.alloc hW1.size (.cells (kv (keyN key)) 117)
  have hs1 := hR1.lt
  obtain ⟨g, hg⟩ : ∃ g, g = w1.heap.size := ⟨_, rfl⟩
  rw [← hg] at hK hs1 ⊢
  have hgs : Hid (g = w1.heap.size) := hg
  clear hg
  refine (desnumber_any b _ rfl _).mono ?_
  rintro e w2 ⟨rfl, hB2⟩
  have hK3 := hK.below hB2 hK.lt
  have hR3 := hR2.below hB2 hR2.lt
  have hW3 := below_step hW2 hB2 hW2.size
  clear hK hR2 hW2 hB2 hR1 hO1 hW1
  go_wp2_with fail
  refine (despermute_tbl (numN b 8) 64 64 _ pIP _ _ rfl rfl (by have := numN_lt b 8; unfold U64; omega) pIP_in (by decide) (by decide) (by kernel_rfl) _).mono ?_
  rintro e w3 ⟨rfl, q1, rfl⟩
  obtain ⟨x, hx⟩ : ∃ x, x = permN (numN b 8) 64 pIP 64 := ⟨_, rfl⟩
  have hxl : x < 18446744073709551616 := by rw [hx]; exact permN_lt _ _ _ _
  rw [← hx]
  have HX := Lib.hid hx
  clear hx
  go_wp2_with fail
  rw [half_l x, half_r x hxl]
  obtain ⟨p0, hp0⟩ : ∃ p0 : Nat × Nat, p0 = (x / 2 ^ 32, x % 2 ^ 32) := ⟨_, rfl⟩
  have hl0 : p0.1 < 2 ^ 32 := by rw [hp0]; simp only; omega
  have hr0 : p0.2 < 2 ^ 32 := by rw [hp0]; simp only; omega
  rw [show x / 2 ^ 32 = p0.1 by rw [hp0], show x % 2 ^ 32 = p0.2 by rw [hp0]]
  have HP := Lib.hid hp0
  have HL := Lib.hid hl0
  have HR := Lib.hid hr0
  clear hp0 hl0 hr0
  obtain ⟨S, hS⟩ : ∃ S : Nat → Nat × Nat, S = fun k => feist mixN ((ksL (keyN key) back).take k) p0 := ⟨_, rfl⟩
  have hS0 : Hid (S 0 = p0) := by show _ = _; rw [hS]; rfl
  have hSk : Hid (∀ k, k < 16 → S (k + 1) = ((S k).2, (S k).1 ^^^ mixN (S k).2 (keyN key (if back then 15 - k else k)))) := fun k hk => by rw [hS]; exact feist_step _ _ _ _ _ hk
  have hSl : Hid (∀ k, (S k).1 < 4294967296 ∧ (S k).2 < 4294967296) := fun k => by rw [hS]; exact feist_lt mixN mixN_lt _ _ HL.out HR.out
  obtain ⟨y, hy⟩ : ∃ y, y = unpermN ((S 16).2 * 2 ^ 32 + (S 16).1) pIP 64 := ⟨_, rfl⟩
  have hY : Hid (unpermN ((S 16).2 * 2 ^ 32 + (S 16).1) pIP 64 = y) := hy.symm
  have hSe : Hid (desF key b back = bytN y) := by
    show _ = _
    rw [hy]
    unfold desF desN
    rw [← HX.out, ← HP.out, hS]
    rfl
  rw [show p0.1 = (S 0).1 by rw [hS0.out], show p0.2 = (S 0).2 by rw [hS0.out]]
  clear hS HP HL HR HX hS0 hy
  cases back
  · go_loopw [9, 10, 11, 21] (fun s9 s10 _ s21 wr => ∃ k : Nat, k ≤ 16 ∧ s21 = .int .i64 (k : Int) ∧ s9 = .int .u64 ((S k).1 : Nat) ∧ s10 = .int .u64 ((S k).2 : Nat) ∧ Blk wr (w.heap.size + 1 + 1) 66 (cs (tab 8 (fun _ => 0))) ∧ Blk wr g 117 (kv (keyN key)) ∧ Below w.heap.size w wr) (fun _ _ _ s21 _ => 16 - (intOf s21).toNat)
    case atStart => exact ⟨0, by omega, rfl, rfl, rfl, hR3.drewN _, hK3.drewN _, below_drewN hW3 _⟩
    case round =>
      clear hR3 hK3 hW3
      obtain ⟨k, hk', rfl, rfl, rfl, hR, hK, hW⟩ := hrel
      obtain ⟨hl1, hl2⟩ := hSl.out k
      by_cases hlt : k < 16
      · have c1 : wr.cell? ⟨g, k, none⟩ = some (.int .u64 (keyN key k : Nat)) := by rw [hK.cell]; exact kv_get _ _ hlt
        go_wp2_with fail
        refine (desmix_any (S k).2 (keyN key k) _ _ rfl rfl hl2 (by have := keyN_lt key k; unfold U64; omega) _).mono ?_
        rintro e w4 ⟨rfl, q4, rfl⟩
        go_wp2_with fail
        rw [xor32 _ _ hl1 (mixN_lt _ _)]
        go_roundw
        case rel => exact ⟨k + 1, by omega, by go_num, by rw [hSk.out k hlt], by rw [hSk.out k hlt]; rfl, hR.drewN _, hK.drewN _, below_drewN hW _⟩
        case measure => simp [intOf]; omega
      · obtain rfl : k = 16 := by omega
        go_wp2_with fail
        refine (desunpermute_tbl ((S 16).2 * 2 ^ 32 + (S 16).1) 64 _ pIP _ (join32 _ _ hl2 hl1) (by unfold U64; omega) pIP_in (by decide) (by kernel_rfl) _).mono ?_
        rintro e w4 ⟨rfl, q4, rfl⟩
        rw [hY.out]
        go_wp2_with fail
        refine (desbytes_any y _ rfl _).mono ?_
        rintro e w5 ⟨rfl, hB5⟩
        have hR5 := (hR.drewN q4).below hB5 hR.lt
        have hW5 := below_step (below_drewN hW q4) hB5 hW.size
        clear hR hK hW hB5
        go_wp2_with (first
          | (refine wpList_store_blk rfl 66 _ _ rfl (w.heap.size + 1 + 1) (cs (tab 8 (bytN y))) rfl rfl 66 _ hR5 (size8 _) (by rw [cs_size, cs_size, tab_length, tab_length]) (one_cs _) ?_))
        refine bodyPost_ret (results_cell1 Tryd.results36 _ _ _ (w.heap.size + 1 + 1) (cs (tab 8 (bytN y))) 66 rfl (hR5.setRow _) _ Tryd.underlying66 rfl (size8 _)) rfl ?_
        exact ⟨by rw [hSe.out], below_row hW5 (by omega) _⟩
  · go_loopw [9, 10, 11, 21] (fun s9 s10 _ s21 wr => ∃ k : Nat, k ≤ 16 ∧ s21 = .int .i64 (k : Int) ∧ s9 = .int .u64 ((S k).1 : Nat) ∧ s10 = .int .u64 ((S k).2 : Nat) ∧ Blk wr (w.heap.size + 1 + 1) 66 (cs (tab 8 (fun _ => 0))) ∧ Blk wr g 117 (kv (keyN key)) ∧ Below w.heap.size w wr) (fun _ _ _ s21 _ => 16 - (intOf s21).toNat)
    case atStart => exact ⟨0, by omega, rfl, rfl, rfl, hR3.drewN _, hK3.drewN _, below_drewN hW3 _⟩
    case round =>
      clear hR3 hK3 hW3
      obtain ⟨k, hk', rfl, rfl, rfl, hR, hK, hW⟩ := hrel
      obtain ⟨hl1, hl2⟩ := hSl.out k
      by_cases hlt : k < 16
      · have c1 : wr.cell? ⟨g, 15 - k, none⟩ = some (.int .u64 (keyN key (15 - k) : Nat)) := by rw [hK.cell]; exact kv_get _ _ (by omega)
        go_wp2_with fail
        refine (desmix_any (S k).2 (keyN key (15 - k)) _ _ rfl rfl hl2 (by have := keyN_lt key (15 - k); unfold U64; omega) _).mono ?_
        rintro e w4 ⟨rfl, q4, rfl⟩
        go_wp2_with fail
        rw [xor32 _ _ hl1 (mixN_lt _ _)]
        go_roundw
        case rel => exact ⟨k + 1, by omega, by go_num, by rw [hSk.out k hlt], by rw [hSk.out k hlt]; rfl, hR.drewN _, hK.drewN _, below_drewN hW _⟩
        case measure => simp [intOf]; omega
      · obtain rfl : k = 16 := by omega
        go_wp2_with fail
        refine (desunpermute_tbl ((S 16).2 * 2 ^ 32 + (S 16).1) 64 _ pIP _ (join32 _ _ hl2 hl1) (by unfold U64; omega) pIP_in (by decide) (by kernel_rfl) _).mono ?_
        rintro e w4 ⟨rfl, q4, rfl⟩
        rw [hY.out]
        go_wp2_with fail
        refine (desbytes_any y _ rfl _).mono ?_
        rintro e w5 ⟨rfl, hB5⟩
        have hR5 := (hR.drewN q4).below hB5 hR.lt
        have hW5 := below_step (below_drewN hW q4) hB5 hW.size
        clear hR hK hW hB5
        go_wp2_with (first
          | (refine wpList_store_blk rfl 66 _ _ rfl (w.heap.size + 1 + 1) (cs (tab 8 (bytN y))) rfl rfl 66 _ hR5 (size8 _) (by rw [cs_size, cs_size, tab_length, tab_length]) (one_cs _) ?_))
        refine bodyPost_ret (results_cell1 Tryd.results36 _ _ _ (w.heap.size + 1 + 1) (cs (tab 8 (bytN y))) 66 rfl (hR5.setRow _) _ Tryd.underlying66 rfl (size8 _)) rfl ?_
        exact ⟨by rw [hSe.out], below_row hW5 (by omega) _⟩
end Go.Proofs.YtbmhmohpnhckgaaDoor
