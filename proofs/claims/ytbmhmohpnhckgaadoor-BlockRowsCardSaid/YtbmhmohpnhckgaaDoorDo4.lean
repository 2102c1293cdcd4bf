/- (*Cipher).Do at AES, at TDES -/
import Derived.Test.YtbmhmohpnhckgaaDoorDo3
import Derived.Test.YtbmhmohpnhckgaaDoorDo2
import Derived.Test.YtbmhmohpnhckgaaDoorDesTriple
namespace Go.Proofs.YtbmhmohpnhckgaaDoor
set_option linter.unusedSimpArgs false
open Go.RowKit Lb
/-- what a slice reads as, as a range -/
theorem rd_range {w : World} {b o : Nat} {x : List UInt8} (hr : Rd w (some ⟨b, o, none⟩) x) : w.rangeAt b o (x.map bv) := fun j v hv => by
  rw [List.getElem?_map] at hv
  cases hx2 : x[j]? with
  | none => rw [hx2] at hv; cases hv
  | some x2 =>
    rw [hx2] at hv
    have hv' : some (bv x2) = some v := hv
    obtain rfl := Option.some.inj hv'
    have h0 : 0 < x.length := by have := (List.getElem?_eq_some_iff.1 hx2).1; omega
    obtain ⟨ad, e, _, _, hc⟩ := hr h0
    injection e with e; subst e
    have := hc j x2 hx2
    rwa [add_mk] at this
set_option maxRecDepth 100000 in
set_option maxHeartbeats 8000000 in
theorem do_aes {p : Nat} {K : Option Addr} {cK : Nat} {B : Value} (key : List UInt8) (nk : Nat) (hk4 : key.length = 4 * nk) (hnk : nk = 4 ∨ nk = 6 ∨ nk = 8) (w : World) (hb : Blk w p 62 #[.int .i64 1, .slice K (4 * nk) cK, B]) (hrK : Rd w K key)
    (A : Option Addr) (m c : Nat) (x : List UInt8) (hx : x.length = 16) (hm : m = 16) (hr : Rd w A x) (back : Bool) :
    Calls Tryd.prog 16 #[.pointer (some ⟨p, 0, none⟩), .slice A m c, .bool back] w fun e w' => ∃ g, e = .returned (.tuple #[.slice (some ⟨g, 0, none⟩) 16 16, .nilIface]) ∧ Blk w' g 41 (cs (aesL key x back)) ∧ w.heap.size ≤ g ∧ Below w.heap.size w w' := by
  subst hm
  obtain ⟨bA, oA, rfl, hbA, _⟩ := hr.open_ (by omega)
  have HX := Lib.hid hx
  have HK4 := Lib.hid hk4
  have zx : (Tryd.prog.info? 41).map (·.size) = some (x.map bv).length := by rw [List.length_map, hx]; exact info16'
  have hrg := rd_range hr
  have harr : ∀ (w : World), (Instr.arrayAt 41 (.slice (some ⟨bA, oA, none⟩) 16 c)).run Tryd.prog w = .ok (.pointer (some ⟨bA, oA, none⟩)) w := fun w => run_arrayAt w _ _ 16 _ _ c Tryd.underlying41 (by omega)
  have k0 := hb.cell 0
  have hxa : (x.map bv).toArray = cs (tab 16 (stOf x)) := congrArg cs (tab_of x 16 hx)
  have HXA := Lib.hid hxa
  clear hx hk4 hxa
  have hW : ∀ back, Calls Tryd.prog 26 #[.pointer (some ⟨p, 0, none⟩), .agg (x.map bv).toArray, .bool back] w fun e w' => e = .returned (.tuple #[.agg (cs (aesL key x back)), .nilIface]) ∧ Below w.heap.size w w' := by
    intro back
    cases back
    · exact wide_enc key nk HK4.out hnk w hb hrK (stOf x) _ HXA.out
    · exact wide_dec key nk HK4.out hnk w hb hrK (stOf x) _ HXA.out
  have HW := Lib.hid hW
  clear hW
  go_enter Tryd.func16, Tryd.ntmps16
  go_wp2_with (first
    | (go_at_call 14; refine (size_any p 1 _ _ _ hb).mono ?_; rintro e w1 ⟨rfl, hw1⟩; obtain rfl := hw1.symm)
    | (refine wpList_load_mid rfl 41 _ rfl bA oA rfl (x.map bv) _ hrg Tryd.underlying41 rfl zx ?_))
  refine (HW.out back).mono ?_
  rintro e w2 ⟨rfl, hB2⟩
  obtain ⟨y, hy⟩ : ∃ y, y = aesL key x back := ⟨_, rfl⟩
  have hyl : y.length = 16 := by rw [hy]; exact aesL_length _ _ _
  rw [← hy]
  have zy : (Tryd.prog.info? 41).map (·.size) = some (cs y).size := by rw [cs_size, hyl]; exact info16'
  have HYL := Lib.hid hyl
  have HY := Lib.hid hy
  clear hyl hy hrg harr k0
  go_wp2_with (first
    | (refine wpList_store_new rfl 41 _ _ rfl (cs y) _ (by first | rfl | simp) rfl rfl 41 _ zy (by rw [cs_size, HYL.out]; rfl) (one_cs _) ?_))
  go_ret2
  exact ⟨w2.heap.size, rfl, by rw [← HY.out]; exact Blk.new _ _ _, hB2.size, hB2.alloc hB2.size _⟩
set_option maxRecDepth 100000 in
set_option maxHeartbeats 8000000 in
theorem do_des {p : Nat} {KA : Option Addr} {n cK : Nat} {B : Value} (key : List UInt8) (hn : key.length = n) (hl : n = 8 ∨ n = 16 ∨ n = 24) (hcK : n ≤ cK) (w : World) (hb : Blk w p 62 #[.int .i64 2, .slice KA n cK, B]) (hrK : Rd w KA key)
    (A : Option Addr) (m c : Nat) (x : List UInt8) (hx : x.length = 8) (hm : m = 8) (hr : Rd w A x) (back : Bool) :
    Calls Tryd.prog 16 #[.pointer (some ⟨p, 0, none⟩), .slice A m c, .bool back] w fun e w' => ∃ g, e = .returned (.tuple #[.slice (some ⟨g, 0, none⟩) 8 8, .nilIface]) ∧ Blk w' g 66 (cs (tripL key x back)) ∧ w.heap.size ≤ g ∧ Below w.heap.size w w' := by
  subst hm
  obtain ⟨bA, oA, rfl, hbA, _⟩ := hr.open_ (by omega)
  have HX := Lib.hid hx
  have HN := Lib.hid hn
  have zx : (Tryd.prog.info? 66).map (·.size) = some (x.map bv).length := by rw [List.length_map, hx]; exact info8'
  have hrg := rd_range hr
  have harr : ∀ (w : World), (Instr.arrayAt 66 (.slice (some ⟨bA, oA, none⟩) 8 c)).run Tryd.prog w = .ok (.pointer (some ⟨bA, oA, none⟩)) w := fun w => run_arrayAt w _ _ 8 _ _ c Tryd.underlying66 (by omega)
  have k0 := hb.cell 0
  have hxa : (x.map bv).toArray = cs (tab 8 (stOf x)) := congrArg cs (tab_of x 8 hx)
  have HXA := Lib.hid hxa
  clear hx hn hxa
  go_enter Tryd.func16, Tryd.ntmps16
  go_wp2_with (first
    | (go_at_call 14; refine (size_any p 2 _ _ _ hb).mono ?_; rintro e w1 ⟨rfl, hw1⟩; obtain rfl := hw1.symm))
  have hG := hb
  have hKR := hrK
  have hXR := hr
  have SX : ∀ (w' : World), Blk w' p 62 #[.int .i64 2, .slice KA n cK, B] → Rd w' (some ⟨bA, oA, none⟩) x → (w'.cell? ⟨p, 1, none⟩ = some (.slice KA n cK) ∧ w'.rangeAt bA oA (x.map bv)) := fun w' a1 a2 => ⟨a1.cell 1, rd_range a2⟩
  have HS := Lib.hid SX
  clear SX hb hrK hr hrg k0
  have u8 := Tryd.underlying66
  obtain ⟨y, hy⟩ : ∃ y, y = tripL key x back := ⟨_, rfl⟩
  have hyl : y.length = 8 := by rw [hy]; exact tripL_length _ _ _
  have hye : cs (tab 8 (tripF n (stOf key) (stOf x) back)) = cs y := by rw [hy, ← HN.out]; rfl
  have zy : (Tryd.prog.info? 66).map (·.size) = some (cs y).size := by rw [cs_size, hyl]; exact info8'
  have HY := Lib.hid hy
  have HYE := Lib.hid hye
  have HYL := Lib.hid hyl
  clear hy hye hyl
  refine wp_region_held_drew (S := fun w' => w'.cell? ⟨p, 1, none⟩ = some (.slice KA n cK) ∧ w'.rangeAt bA oA (x.map bv)) (by kernel_rfl) (HS.out _ hG.drew hXR.drew) (fun hHeld => ?_)
  refine wpAnyH_take (i := 0) (v := ?_) rfl (by kernel_rfl) (by kernel_rfl) (by kernel_rfl) (fun _ _ _ h => h) (Or.inl ⟨by rfl, ?_⟩) (by assumption) ?_
  rotate_left
  · (intro w hSw; go_simp)
    try with_reducible rfl
  simp only [Act.put, List.getElem_toArray, List.getElem_cons_succ, List.getElem_cons_zero, List.setIfInBounds_toArray, List.set_cons_zero, List.set_cons_succ]
  refine wpAnyH_take (i := 1) (v := ?_) rfl (by kernel_rfl) (by kernel_rfl) (by kernel_rfl) (fun _ _ _ h => h) (Or.inl ⟨by rfl, ?_⟩) (by assumption) ?_
  rotate_left
  · (intro w hSw; go_simp)
    try with_reducible rfl
  simp only [Act.put, List.getElem_toArray, List.getElem_cons_succ, List.getElem_cons_zero, List.setIfInBounds_toArray, List.set_cons_zero, List.set_cons_succ]
  refine wpAnyH_take (i := 2) (v := ?_) rfl (by kernel_rfl) (by kernel_rfl) (by kernel_rfl) (fun _ _ _ h => h) (Or.inl ⟨by rfl, ?_⟩) (by assumption) ?_
  rotate_left
  · (intro w hSw; go_simp)
    try with_reducible rfl
  simp only [Act.put, List.getElem_toArray, List.getElem_cons_succ, List.getElem_cons_zero, List.setIfInBounds_toArray, List.set_cons_zero, List.set_cons_succ]
  refine wpAnyH_take (i := 3) (v := ?_) rfl (by kernel_rfl) (by kernel_rfl) (by kernel_rfl) (fun _ _ _ h => h) (Or.inl ⟨by rfl, ?_⟩) (by assumption) ?_
  rotate_left
  · (intro w hSw; go_simp)
    try with_reducible rfl
  simp only [Act.put, List.getElem_toArray, List.getElem_cons_succ, List.getElem_cons_zero, List.setIfInBounds_toArray, List.set_cons_zero, List.set_cons_succ]
  refine wpAnyH_take (i := 4) (v := ?_) rfl (by kernel_rfl) (by kernel_rfl) (by kernel_rfl) (fun _ _ _ h => h) (Or.inl ⟨by rfl, ?_⟩) (by assumption) ?_
  rotate_left
  · (intro w hSw; go_simp)
    try with_reducible rfl
  simp only [Act.put, List.getElem_toArray, List.getElem_cons_succ, List.getElem_cons_zero, List.setIfInBounds_toArray, List.set_cons_zero, List.set_cons_succ]
  refine wpAnyH_take (i := 5) (v := ?_) rfl (by kernel_rfl) (by kernel_rfl) (by kernel_rfl) (fun _ _ _ h => h) (Or.inl ⟨by rfl, ?_⟩) (by assumption) ?_
  rotate_left
  · (intro w hSw; go_simp)
    try with_reducible rfl
  simp only [Act.put, List.getElem_toArray, List.getElem_cons_succ, List.getElem_cons_zero, List.setIfInBounds_toArray, List.set_cons_zero, List.set_cons_succ]
  refine wpAnyH_take (i := 6) (v := _) rfl (by kernel_rfl) (by kernel_rfl) (by kernel_rfl) (fun _ _ _ h => h) (yieldsIf_load_mid (by rfl) _ _ rfl _ _ rfl _ _ (by intro w hSw; (try dsimp only at hSw); go_split_ands; assumption) (by assumption) rfl (by first | assumption | (simp only [*]; done))) (by assumption) ?_
  simp only [Act.put, List.getElem_toArray, List.getElem_cons_succ, List.getElem_cons_zero, List.setIfInBounds_toArray, List.set_cons_zero, List.set_cons_succ]
  refine wpAnyH_take (i := 7) (v := ?_) rfl (by kernel_rfl) (by kernel_rfl) (by kernel_rfl) (fun _ _ _ h => h) (Or.inl ⟨by rfl, ?_⟩) (by assumption) ?_
  rotate_left
  · (intro w hSw; go_simp)
    try with_reducible rfl
  simp only [Act.put, List.getElem_toArray, List.getElem_cons_succ, List.getElem_cons_zero, List.setIfInBounds_toArray, List.set_cons_zero, List.set_cons_succ]
  refine wpAnyH_ready (rs := [8, 12]) (by kernel_rfl) (by simp) ?_
  refine AllReadyH.cons rfl (fun K1 hK1 => ?_) (AllReadyH.cons rfl (fun K2 hK2 => ?_) AllReadyH.nil)
  · rw [if_pos (by rfl)]
    go_simp
    refine (destriple_any KA n cK key HN.out hl hcK (stOf x) _ HXA.out back w.drew hKR.drew).mono ?_
    rintro e w2 ⟨rfl, hC⟩
    have hG2 := hG.drew.below hC hG.lt
    have hX2 := hXR.drew.below hC
    have hs : w.heap.size ≤ w2.heap.size := hC.size
    have hZ2 : Below w.heap.size w w2 := below_step (below_drewN (Below.refl _ _) 1) hC (Nat.le_refl _)
    rw [HYE.out]
    refine hK1.out _ _ (HS.out _ hG2 hX2) (fun hHeld1 => ?_)
    clear hK1 K1 hHeld
    refine wpAnyH_take (i := 9) (v := ?_) rfl (by kernel_rfl) (by kernel_rfl) (by kernel_rfl) (fun _ _ _ h => h) (Or.inl ⟨by rfl, ?_⟩) (by assumption) ?_
    rotate_left
    · (intro w hSw; go_simp)
      try with_reducible rfl
    simp only [Act.put, List.getElem_toArray, List.getElem_cons_succ, List.getElem_cons_zero, List.setIfInBounds_toArray, List.set_cons_zero, List.set_cons_succ]
    refine wpAnyH_take (i := 10) (v := ?_) rfl (by kernel_rfl) (by kernel_rfl) (by kernel_rfl) (fun _ _ _ h => h) (Or.inl ⟨by rfl, ?_⟩) (by assumption) ?_
    rotate_left
    · (intro w hSw; go_simp)
      try with_reducible rfl
    simp only [Act.put, List.getElem_toArray, List.getElem_cons_succ, List.getElem_cons_zero, List.setIfInBounds_toArray, List.set_cons_zero, List.set_cons_succ]
    refine wpAnyH_take (i := 11) (v := ?_) rfl (by kernel_rfl) (by kernel_rfl) (by kernel_rfl) (fun _ _ _ h => h) (Or.inl ⟨by rfl, ?_⟩) (by assumption) ?_
    rotate_left
    · (intro w hSw; go_simp)
      try with_reducible rfl
    simp only [Act.put, List.getElem_toArray, List.getElem_cons_succ, List.getElem_cons_zero, List.setIfInBounds_toArray, List.set_cons_zero, List.set_cons_succ]
    refine wpAnyH_ready (rs := [12]) (by kernel_rfl) (by simp) ?_
    refine AllReadyH.cons rfl (fun K hK => ?_) AllReadyH.nil
    rw [if_pos (by rfl)]
    go_simp
    refine hK.out _ _ (HS.out _ (hG2.alloc _) (hX2.alloc _)) (fun hHeld2 => ?_)
    clear hK K
    have hY3 : Blk (w2.alloc (.cells (cs (tab 8 (fun _ => 0))) 66)) w2.heap.size 66 (cs (tab 8 (fun _ => 0))) := Blk.new _ _ _
    have hne : p ≠ w2.heap.size := by have := hG2.lt; omega
    have hnb : bA ≠ w2.heap.size := by omega
    refine wpAnyH_ready (rs := [13]) (by kernel_rfl) (by simp) ?_
    refine AllReadyH.cons rfl (fun K hK => ?_) AllReadyH.nil
    rw [if_pos (by rfl)]
    refine wp_store_row 66 _ _ rfl w2.heap.size (cs y) rfl rfl 66 (cs (tab 8 (fun _ => 0))) hY3 zy (by rw [cs_size, cs_size, HYL.out, tab_length]) (one_cs _) ?_
    simp only [Act.put, List.getElem_toArray, List.getElem_cons_succ, List.getElem_cons_zero, List.setIfInBounds_toArray, List.set_cons_zero, List.set_cons_succ]
    refine hK.out _ _ (HS.out _ ((hG2.alloc _).farRow hne) ((hX2.alloc _).only (only_of_setRow _ _ _) (by intro ad e; injection e with e; subst e; exact hnb))) (fun hHeld3 => ?_)
    clear hK K
    refine wpAnyH_take (i := 14) (v := ?_) rfl (by kernel_rfl) (by kernel_rfl) (by kernel_rfl) (fun _ _ _ h => h) (Or.inl ⟨by rfl, ?_⟩) (by assumption) ?_
    rotate_left
    · (intro w hSw; go_simp)
      try with_reducible rfl
    simp only [Act.put, List.getElem_toArray, List.getElem_cons_succ, List.getElem_cons_zero, List.setIfInBounds_toArray, List.set_cons_zero, List.set_cons_succ]
    refine wpAnyH_done (by kernel_rfl) ?_ _
    go_wp2_with fail
    go_ret2
    exact ⟨w2.heap.size, rfl, by rw [← HY.out]; exact hY3.setRow _, by omega, below_row (hZ2.alloc (by have := hZ2.size; omega) _) hZ2.size _⟩
  · rw [if_pos (by rfl)]
    go_simp
    have hG1 := hG.drew.alloc (.cells (cs (tab 8 (fun _ => 0))) 66)
    have hX1 := hXR.drew.alloc (.cells (cs (tab 8 (fun _ => 0))) 66)
    have hK1 := hKR.drew.alloc (.cells (cs (tab 8 (fun _ => 0))) 66)
    have hY1 : Blk (w.drew.alloc (.cells (cs (tab 8 (fun _ => 0))) 66)) w.heap.size 66 (cs (tab 8 (fun _ => 0))) := Blk.new _ _ _
    have hZ1 : Below w.heap.size w (w.drew.alloc (.cells (cs (tab 8 (fun _ => 0))) 66)) := (below_drewN (Below.refl _ _) 1).alloc (Nat.le_refl _) _
    have hne : p ≠ w.heap.size := by have := hG.lt; omega
    have hnb : bA ≠ w.heap.size := by omega
    refine hK2.out _ _ (HS.out _ hG1 hX1) (fun hHeld1 => ?_)
    clear hK2 K2 hHeld
    refine wpAnyH_ready (rs := [8]) (by kernel_rfl) (by simp) ?_
    refine AllReadyH.cons rfl (fun K hK => ?_) AllReadyH.nil
    rw [if_pos (by rfl)]
    go_simp
    refine (destriple_any KA n cK key HN.out hl hcK (stOf x) _ HXA.out back (w.drew.alloc (.cells (cs (tab 8 (fun _ => 0))) 66)) hK1).mono ?_
    rintro e w2 ⟨rfl, hC⟩
    have hG2 := hG1.below hC hG1.lt
    have hX2 := hX1.below hC
    have hY3 := hY1.below hC hY1.lt
    have hZ2 : Below w.heap.size w w2 := below_step hZ1 hC hZ1.size
    rw [HYE.out]
    refine hK.out _ _ (HS.out _ hG2 hX2) (fun hHeld2 => ?_)
    clear hK K
    refine wpAnyH_take (i := 9) (v := ?_) rfl (by kernel_rfl) (by kernel_rfl) (by kernel_rfl) (fun _ _ _ h => h) (Or.inl ⟨by rfl, ?_⟩) (by assumption) ?_
    rotate_left
    · (intro w hSw; go_simp)
      try with_reducible rfl
    simp only [Act.put, List.getElem_toArray, List.getElem_cons_succ, List.getElem_cons_zero, List.setIfInBounds_toArray, List.set_cons_zero, List.set_cons_succ]
    refine wpAnyH_take (i := 10) (v := ?_) rfl (by kernel_rfl) (by kernel_rfl) (by kernel_rfl) (fun _ _ _ h => h) (Or.inl ⟨by rfl, ?_⟩) (by assumption) ?_
    rotate_left
    · (intro w hSw; go_simp)
      try with_reducible rfl
    simp only [Act.put, List.getElem_toArray, List.getElem_cons_succ, List.getElem_cons_zero, List.setIfInBounds_toArray, List.set_cons_zero, List.set_cons_succ]
    refine wpAnyH_take (i := 11) (v := ?_) rfl (by kernel_rfl) (by kernel_rfl) (by kernel_rfl) (fun _ _ _ h => h) (Or.inl ⟨by rfl, ?_⟩) (by assumption) ?_
    rotate_left
    · (intro w hSw; go_simp)
      try with_reducible rfl
    simp only [Act.put, List.getElem_toArray, List.getElem_cons_succ, List.getElem_cons_zero, List.setIfInBounds_toArray, List.set_cons_zero, List.set_cons_succ]
    refine wpAnyH_ready (rs := [13]) (by kernel_rfl) (by simp) ?_
    refine AllReadyH.cons rfl (fun K hK => ?_) AllReadyH.nil
    rw [if_pos (by rfl)]
    refine wp_store_row 66 _ _ rfl w.heap.size (cs y) rfl rfl 66 (cs (tab 8 (fun _ => 0))) hY3 zy (by rw [cs_size, cs_size, HYL.out, tab_length]) (one_cs _) ?_
    simp only [Act.put, List.getElem_toArray, List.getElem_cons_succ, List.getElem_cons_zero, List.setIfInBounds_toArray, List.set_cons_zero, List.set_cons_succ]
    refine hK.out _ _ (HS.out _ (hG2.farRow hne) (hX2.only (only_of_setRow _ _ _) (by intro ad e; injection e with e; subst e; exact hnb))) (fun hHeld3 => ?_)
    clear hK K
    refine wpAnyH_take (i := 14) (v := ?_) rfl (by kernel_rfl) (by kernel_rfl) (by kernel_rfl) (fun _ _ _ h => h) (Or.inl ⟨by rfl, ?_⟩) (by assumption) ?_
    rotate_left
    · (intro w hSw; go_simp)
      try with_reducible rfl
    simp only [Act.put, List.getElem_toArray, List.getElem_cons_succ, List.getElem_cons_zero, List.setIfInBounds_toArray, List.set_cons_zero, List.set_cons_succ]
    refine wpAnyH_done (by kernel_rfl) ?_ _
    go_wp2_with fail
    go_ret2
    exact ⟨w.heap.size, rfl, by rw [← HY.out]; exact hY3.setRow _, Nat.le_refl _, below_row hZ2 (Nat.le_refl _) _⟩
end Go.Proofs.YtbmhmohpnhckgaaDoor
