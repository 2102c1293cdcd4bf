/- DES: the round keys; the block cipher -/
import Derived.Test.YtbmhmohpnhckgaaDoorDesMix
namespace Go.Proofs.YtbmhmohpnhckgaaDoor
open Go.RowKit Lb
/-- sixteen numbers -/
def kv (F : Nat → Nat) : Array Value := ((List.range 16).map fun i => Value.int .u64 (F i : Int)).toArray
theorem kv_size (F : Nat → Nat) : (kv F).size = 16 := by simp [kv]
theorem kv_get (F : Nat → Nat) (i : Nat) (h : i < 16) : (kv F)[i]? = some (.int .u64 (F i : Int)) := by simp [kv, h]
theorem kv_congr (F G : Nat → Nat) (h : ∀ i, i < 16 → F i = G i) : kv F = kv G := by
  unfold kv
  congr 1
  apply List.map_congr_left
  intro a ha
  rw [h a (List.mem_range.1 ha)]
theorem kv_set (F : Nat → Nat) (k x : Nat) : (kv F).setIfInBounds k (.int .u64 (x : Int)) = kv (fun i => if i = k then x else F i) := by
  apply Array.ext_getElem?
  intro i
  by_cases hi : i < 16
  · rw [kv_get _ _ hi, Array.getElem?_setIfInBounds]
    by_cases e : k = i
    · subst e; simp [kv_size, hi]
    · rw [if_neg e, if_neg (fun h => e h.symm), kv_get _ _ hi]
  · rw [Array.getElem?_eq_none (by simp [kv_size]; omega), Array.getElem?_eq_none (by simp [kv_size]; omega)]
theorem one_kv (F : Nat → Nat) : (kv F).all (·.oneCell') = true := by
  rw [Array.all_eq_true_iff_forall_mem]
  intro v hv
  simp only [kv, List.mem_toArray, List.mem_map] at hv
  obtain ⟨x, _, rfl⟩ := hv
  rfl
theorem infoK : (Tryd.prog.info? 117).map (·.size) = some 16 := by kernel_rfl
theorem sizeK16 (F : Nat → Nat) : (Tryd.prog.info? 117).map (·.size) = some (kv F).size := by rw [infoK, kv_size]
/-- so far -/
def sofar (k : Nat) (F : Nat → Nat) : Nat → Nat := fun i => if i < k then F i else 0
theorem sofar_step (k : Nat) (F : Nat → Nat) : kv (fun i => if i = k then F k else sofar k F i) = kv (sofar (k + 1) F) := kv_congr _ _ fun i _ => by
  unfold sofar
  by_cases e : i = k
  · subst e; simp
  · rw [if_neg e]
    by_cases h : i < k
    · rw [if_pos h, if_pos (by omega)]
    · rw [if_neg h, if_neg (by omega)]
theorem sofar_all (F : Nat → Nat) : kv (sofar 16 F) = kv F := kv_congr _ _ fun i hi => by unfold sofar; rw [if_pos hi]
theorem rk_join (c d : Nat) (hc : c < 268435456) (hd : d < 268435456) : bits .or .u64 ((c : Int) * 268435456) (d : Int) = ((c * 2 ^ 28 + d : Nat) : Int) := by
  have e : ((c : Int) * 268435456) = ((c * 2 ^ 28 : Nat) : Int) := by simp
  rw [e, u64_join c d 28 (by unfold U64; omega) (by omega)]
theorem calls_name {P : Program} {f : Nat} {args : Array Value} {w0 : World} {Q : Ending → World → Prop} (h : ∀ W, Hid (W = w0) → Calls P f args W Q) : Calls P f args w0 Q := h w0 rfl
theorem rk_c (x : Nat) : (x : Int) / 268435456 = (((cdN x 0).1 : Nat) : Int) := by simp [cdN]
theorem rk_d (x : Nat) (hx : x < 72057594037927936) : bits .and .u64 (x : Int) 268435455 = (((cdN x 0).2 : Nat) : Int) := by
  have e3 : (268435455 : Int) = ((2 ^ 28 - 1 : Nat) : Int) := by decide
  rw [e3, u64_and_nat _ _ (by omega) (by decide), Nat.and_two_pow_sub_one_eq_mod]
  rfl
theorem sh1a (k : Nat) (h : ((k : Int) == 0) = true) : (1 : Int) = ((shN k : Nat) : Int) := by
  have h' := beq_iff_eq.1 h
  unfold shN; rw [if_pos (by omega)]; rfl
theorem sh1b (k : Nat) (h : ((k : Int) == 1) = true) : (1 : Int) = ((shN k : Nat) : Int) := by
  have h' := beq_iff_eq.1 h
  unfold shN; rw [if_pos (by omega)]; rfl
theorem sh1c (k : Nat) (h : ((k : Int) == 8) = true) : (1 : Int) = ((shN k : Nat) : Int) := by
  have h' := beq_iff_eq.1 h
  unfold shN; rw [if_pos (by omega)]; rfl
theorem sh1d (k : Nat) (h : ((k : Int) == 15) = true) : (1 : Int) = ((shN k : Nat) : Int) := by
  have h' := beq_iff_eq.1 h
  unfold shN; rw [if_pos (by omega)]; rfl
theorem sh2 (k : Nat) (h0 : ((k : Int) == 0) = false) (h1 : ((k : Int) == 1) = false) (h8 : ((k : Int) == 8) = false) (h15 : ((k : Int) == 15) = false) : (2 : Int) = ((shN k : Nat) : Int) := by
  have h0' := beq_eq_false_iff_ne.1 h0
  have h1' := beq_eq_false_iff_ne.1 h1
  have h8' := beq_eq_false_iff_ne.1 h8
  have h15' := beq_eq_false_iff_ne.1 h15
  unfold shN; rw [if_neg (by omega)]; rfl
theorem shN_or (k : Nat) : shN k = 1 ∨ shN k = 2 := by unfold shN; split <;> simp
theorem turn_c (x k : Nat) (hx : x < 72057594037927936) (b : Int) (hb : b = ((shN k : Nat) : Int)) (w : World) : Calls Tryd.prog 73 #[.int .u64 ((cdN x k).1 : Nat), .int .i64 b] w fun e w' => e = .returned (.int .u64 ((cdN x (k + 1)).1 : Nat)) ∧ ∃ q, w' = w.drewN q :=
  desturn_any _ (shN k) _ _ rfl hb (cdN_lt x hx k).1 (shN_or k) w
theorem turn_d (x k : Nat) (hx : x < 72057594037927936) (b : Int) (hb : b = ((shN k : Nat) : Int)) (w : World) : Calls Tryd.prog 73 #[.int .u64 ((cdN x k).2 : Nat), .int .i64 b] w fun e w' => e = .returned (.int .u64 ((cdN x (k + 1)).2 : Nat)) ∧ ∃ q, w' = w.drewN q :=
  desturn_any _ (shN k) _ _ rfl hb (cdN_lt x hx k).2 (shN_or k) w
theorem rk_any (x k : Nat) (s : ByteArray) (a : Int) (ha : a = (((cdN x (k + 1)).1 * 2 ^ 28 + (cdN x (k + 1)).2 : Nat) : Int)) (hx : x < 72057594037927936) (ht : tblB s pC2 48 = true) (w : World) :
    Calls Tryd.prog 48 #[.int .u64 a, .int .i64 56, .string s] w fun e w' => e = .returned (.int .u64 (rkN x k : Nat)) ∧ ∃ q, w' = w.drewN q :=
  despermute_tbl _ 56 48 s pC2 a 56 ha rfl (by have := cdN_lt x hx (k + 1); unfold U64; omega) pC2_in (by decide) (by decide) ht w
set_option maxRecDepth 100000 in
set_option maxHeartbeats 4000000 in
theorem desrounds_any (F : Nat → UInt8) (bs : Array Value) (hbs : bs = cs (tab 8 F)) (w : World) : Calls Tryd.prog 47 #[.agg bs] w fun e w' => e = .returned (.agg (kv (keyN F))) ∧ Below w.heap.size w w' := by
  subst hbs
  go_enter Tryd.func47, Tryd.ntmps47
  go_wp2_with (first
    | (refine wpList_load_row rfl 66 _ rfl w.heap.size rfl 66 _ (0, 0) _ (((Blk.new w 66 (cs (tab 8 F))).alloc _).alloc _) Tryd.underlying66 rfl (size8 F) ?_))
  refine calls_name ?_
  intro W hW
  have hR : Blk W (w.heap.size + 1) 117 (kv (fun _ => 0)) := by rw [hW.out]; exact (Blk.new_at (by simp) _ _).alloc _
  have hB : Blk W (w.heap.size + 1 + 1) 117 (kv (fun _ => 0)) := by rw [hW.out]; exact Blk.new_at (by simp) _ _
  have hW0 : Below w.heap.size w W := by rw [hW.out]; exact (((Below.refl _ _).alloc (Nat.le_refl _) _).alloc (by simp) _).alloc (by simp; omega) _
  clear hW
  refine (desnumber_any F _ rfl _).mono ?_
  rintro e w1 ⟨rfl, hB1⟩
  have hR1 := hR.below hB1 hR.lt
  have hO1 := hB.below hB1 hB.lt
  have hW1 := below_step hW0 hB1 hW0.size
  clear hR hB hW0 hB1
  go_wp2_with fail
  refine (despermute_tbl (numN F 8) 64 56 _ pC1 _ _ rfl rfl (by have := numN_lt F 8; unfold U64; omega) pC1_in (by decide) (by decide) (by kernel_rfl) _).mono ?_
  rintro e w2 ⟨rfl, q1, rfl⟩
  obtain ⟨x, hx⟩ : ∃ x, x = permN (numN F 8) 64 pC1 56 := ⟨_, rfl⟩
  have hxl : x < 72057594037927936 := by rw [hx]; exact permN_lt _ _ _ _
  have HK : Hid (rkN x = keyN F) := by show _ = _; rw [hx]; rfl
  rw [← hx]
  clear hx
  go_wp2_with fail
  rw [rk_c x, rk_d x hxl]
  have hc0 := cdN_lt x hxl 0
  go_loopw [5, 6, 7, 8, 16] (fun s5 s6 _ _ s16 wr => ∃ k q : Nat, k ≤ 16 ∧ s16 = .int .i64 (k : Int) ∧ s5 = .int .u64 ((cdN x k).1 : Nat) ∧ s6 = .int .u64 ((cdN x k).2 : Nat) ∧ Blk wr (w.heap.size + 1) 117 (kv (fun _ => 0)) ∧ Blk wr (w.heap.size + 1 + 1) 117 (kv (sofar k (rkN x))) ∧ Below w.heap.size w wr) (fun _ _ _ _ s16 _ => 16 - (intOf s16).toNat)
  case atStart => exact ⟨0, 0, by omega, rfl, rfl, rfl, hR1.drewN _, hO1.drewN _, below_drewN hW1 _⟩
  case round =>
    clear hR1 hO1 hW1 hc0
    obtain ⟨k, q, hk', rfl, rfl, rfl, hR, hO, hW⟩ := hrel
    by_cases hlt : k < 16
    · have f1 := fun q' => (hO.drewN q').frozen k
      have hc1 := cdN_lt x hxl k
      have hc2 := cdN_lt x hxl (k + 1)
      have c1 : wr.cell? ⟨w.heap.size + 1 + 1, k, none⟩ = some (.int .u64 (sofar k (rkN x) k : Nat)) := by rw [hO.cell]; exact kv_get _ _ hlt
      go_wp2_with fail
      all_goals
        first
          | have hb := Lib.hid (sh1a k (by assumption))
          | have hb := Lib.hid (sh1b k (by assumption))
          | have hb := Lib.hid (sh1c k (by assumption))
          | have hb := Lib.hid (sh1d k (by assumption))
          | have hb := Lib.hid (sh2 k (by assumption) (by assumption) (by assumption) (by assumption))
        refine (turn_c x k hxl _ hb.out _).mono ?_
        rintro e w2 ⟨rfl, q2, rfl⟩
        go_wp2_with fail
        refine (turn_d x k hxl _ hb.out _).mono ?_
        rintro e w3 ⟨rfl, q3, rfl⟩
        go_wp2_with fail
        refine (rk_any x k _ _ (rk_join _ _ hc2.1 hc2.2) hxl (by kernel_rfl) _).mono ?_
        rintro e w4 ⟨rfl, q4, rfl⟩
        go_wp2_with fail
        go_roundw
        case rel => exact ⟨k + 1, 0, by omega, by go_num, rfl, rfl, (hR.drewN _).far (p := ⟨w.heap.size + 1 + 1, k, none⟩) (by simp) _, (by
          have h := (hO.drewN (q2 + q3 + q4)).set_ k (.int .u64 (rkN x k : Nat))
          rw [kv_set, sofar_step] at h
          exact h), (below_drewN hW _).setCell (by simp; omega) _⟩
        case measure => simp [intOf]; omega
    · obtain rfl : k = 16 := by omega
      rw [sofar_all] at hO
      go_wp2_with (first
        | (refine wpList_load_row rfl 117 _ rfl (w.heap.size + 1 + 1) rfl 117 _ (0, 0) _ hO Tryd.underlying117 rfl (sizeK16 _) ?_)
        | (refine wpList_store_blk rfl 117 _ _ rfl (w.heap.size + 1) (kv (rkN x)) rfl rfl 117 _ hR (sizeK16 _) (by rw [kv_size, kv_size]) (one_kv _) ?_))
      refine bodyPost_ret (results_cell1 Tryd.results47 _ _ _ (w.heap.size + 1) (kv (rkN x)) 117 rfl (hR.setRow _) _ Tryd.underlying117 rfl (sizeK16 _)) rfl ?_
      exact ⟨by rw [HK.out], below_row hW (by omega) _⟩
end Go.Proofs.YtbmhmohpnhckgaaDoor
