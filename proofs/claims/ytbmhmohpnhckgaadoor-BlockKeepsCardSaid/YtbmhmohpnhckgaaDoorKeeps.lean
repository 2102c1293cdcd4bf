/- law05: BlockKeeps -/
import Derived.Test.YtbmhmohpnhckgaaDoorStep2
namespace Go.Proofs.YtbmhmohpnhckgaaDoor
open Go.RowKit Lb
/-- the first j bytes turned over -/
def flipL (l : List UInt8) (j : Nat) : List UInt8 := l.mapIdx fun i x => if i < j then x ^^^ 255 else x
theorem flipL_length (l : List UInt8) (j : Nat) : (flipL l j).length = l.length := by simp [flipL]
theorem flipL_0 (l : List UInt8) : flipL l 0 = l := by
  apply List.ext_getElem?
  intro i
  simp [flipL, List.getElem?_mapIdx]
theorem flipL_at (l : List UInt8) (j : Nat) (x : UInt8) (h : l[j]? = some x) : (flipL l j)[j]? = some x := by
  rw [flipL, List.getElem?_mapIdx, h]
  simp
theorem flipL_step (l : List UInt8) (j : Nat) (x : UInt8) (h : l[j]? = some x) : (flipL l j).set j (x ^^^ 255) = flipL l (j + 1) := by
  have hl := (List.getElem?_eq_some_iff.1 h).1
  apply List.ext_getElem?
  intro i
  rw [List.getElem?_set]
  by_cases e : j = i
  · subst e
    rw [if_pos rfl, if_pos (by rw [flipL_length]; exact hl), flipL, List.getElem?_mapIdx, h]
    simp
  · rw [if_neg e]
    simp only [flipL, List.getElem?_mapIdx]
    cases l[i]? with
    | none => rfl
    | some y =>
      simp only [Option.map_some]
      by_cases h2 : i < j
      · rw [if_pos h2, if_pos (by omega)]
      · rw [if_neg h2, if_neg (by omega)]
theorem flip_bits (x : UInt8) : bits .xor .u8 (x.toNat : Int) 255 = ((x ^^^ 255).toNat : Int) := u8_bits_xor x 255
set_option maxRecDepth 100000 in
set_option maxHeartbeats 8000000 in
theorem keeps_any (kd : Int) (h0 : 0 ≤ kd) (h255 : kd ≤ 255) (A : Option Addr) (n c : Nat) (key : List UInt8) (D : Option Addr) (nd cd : Nat) (draws : List UInt8) (x16 : List UInt8) (xa : Array Value) (hxa : xa = cs x16) (hx16 : x16.length = 16) (w : World)
    (hn : n = key.length) (hr : Rd w A key) (hnd : nd = draws.length) (hrd : Rd w D draws) (hvar : ErrVar w) :
    Calls Tryd.prog 7 #[.int .u8 kd, .slice A n c, .slice D nd cd, .agg xa] w fun e w' => e = .returned (.bool true) ∧ Below w.heap.size w w' := by
  subst hxa
  obtain ⟨k, hk⟩ : ∃ k, k = 1 + kd % 3 := ⟨_, rfl⟩
  have hk3 : k = 1 ∨ k = 2 ∨ k = 3 := by omega
  have HN := Lib.hid hn
  have HND := Lib.hid hnd
  have HX16 := Lib.hid hx16
  have HK := Lib.hid hk
  have HK3 := Lib.hid hk3
  obtain ⟨s, hs⟩ : ∃ s, s = sizeK k := ⟨_, rfl⟩
  have hs16 : s ≤ 16 := by have := sizeK_or k; omega
  have hs0 : 0 < s := by have := sizeK_or k; omega
  have HS := Lib.hid hs
  obtain ⟨ky, hky⟩ : ∃ ky, ky = rightL k key := ⟨_, rfl⟩
  have hok : KeyOk k ky := by rw [hky]; exact right_ok k key hk3
  have HKY := Lib.hid hky
  obtain ⟨x, hxx⟩ : ∃ x, x = x16.take s := ⟨_, rfl⟩
  have hxl : x.length = s := by rw [hxx, List.length_take]; omega
  have HXX := Lib.hid hxx
  have HXL := Lib.hid hxl
  have zx16 : (Tryd.prog.info? 41).map (·.size) = some (cs x16).size := by rw [cs_size, hx16]; exact info16'
  clear hn hnd hx16 hk hk3 hs hky hxx hxl
  by_cases hl : n ≤ 100
  · by_cases hd : nd ≤ 2000
    · by_cases hd32 : 32 ≤ nd
      · go_enter Tryd.func7, Tryd.ntmps7
        go_wp2_with fail
        rw [← HK.out]
        have hX := Blk.new w 41 (cs x16)
        have hr0 : Rd (w.alloc (.cells (cs x16) 41)) A key := hr.alloc _
        have hrd0 : Rd (w.alloc (.cells (cs x16) 41)) D draws := hrd.alloc _
        have hvar0 : ErrVar (w.alloc (.cells (cs x16) 41)) := hvar.alloc _
        have hW0 : Below w.heap.size w (w.alloc (.cells (cs x16) 41)) := (Below.refl _ _).alloc (Nat.le_refl _) _
        clear hr hrd hvar
        refine (awake_any _ hvar0).mono ?_
        rintro e w1 ⟨rfl, hB1⟩
        have hX1 := hX.below hB1 hX.lt
        have hr1 := hr0.below hB1
        have hrd1 := hrd0.below hB1
        have hW1 := below_step hW0 hB1 hW0.size
        clear hX hr0 hrd0 hvar0 hW0 hB1
        go_wp2_with fail
        refine (book_rdy w.heap.size D nd cd draws w1 HND.out hrd1 (by have := HND.out; omega) hX1.lt).mono ?_
        rintro e w2 ⟨pb, F, rfl, hrdy2, hFlo, hB2⟩
        have hX2 := hX1.below hB2 hX1.lt
        have hw2 : w.heap.size < w2.heap.size := hX2.lt
        have hr2 := hr1.below hB2
        have hW2 := below_step hW1 hB2 hW1.size
        clear hX1 hr1 hrd1 hW1 hB2 hFlo
        go_wp2_with fail
        refine (right_any k HK3.out A n c key HN.out _ hr2 (by omega)).mono ?_
        rintro e w3 ⟨A3, c3, rfl, hown3, hB3⟩
        rw [← HKY.out] at hown3
        have hkyl : ky.length = rightN k := by rw [HKY.out]; exact rightL_length k key
        have hN0 : 0 < rightN k := by rcases HK3.out with h | h | h <;> subst h <;> decide
        have hN1 : rightN k ≤ 24 := by rcases HK3.out with h | h | h <;> subst h <;> decide
        obtain ⟨go, rfl, hgo1, hgo2⟩ : ∃ go, A3 = some ⟨go, 0, none⟩ ∧ w2.heap.size ≤ go ∧ go < w3.heap.size := by
          rcases hown3.form with ⟨_, h⟩ | ⟨g, h1, h2, h3, _⟩
          · rw [h] at hkyl; simp at hkyl; omega
          · exact ⟨g, h1, h2, h3⟩
        have HKL := Lib.hid hkyl
        have hrdy3 := hrdy2.below hB3
        have hX3 := hX2.below hB3 hX2.lt
        have hW3 := below_step hW2 hB3 hW2.size
        have hFb : Hid (∀ i, F i → i < w2.heap.size) := by obtain ⟨_, _, _, _, _, _, _, _, _, _, _, _, _, _, h⟩ := hrdy2.book; exact h
        obtain ⟨N, hN⟩ : ∃ N, N = rightN k := ⟨_, rfl⟩
        rw [← hN] at hN0 hN1 ⊢
        have HN' := Lib.hid hN
        clear hX2 hr2 hW2 hrdy2 hkyl hN
        go_wp2_with fail
        rw [HN'.out]
        refine (new_right' k HK3.out key ky HKY.out (some ⟨go, 0, none⟩) c3 w3 hrdy3 hown3.rd).mono ?_
        rintro e w4 ⟨p, rfl, hcA4, hB4⟩
        rw [← HN'.out]
        have hrdy4 := hrdy3.below hB4
        have hX4 := hX3.below hB4 hX3.lt
        have hown4 := hown3.below hB4
        have hW4 := below_step hW3 hB4 hW3.size
        have hs34 := hB4.size
        obtain ⟨a0, ha0⟩ : ∃ a0, a0 = w3.heap.size := ⟨_, rfl⟩
        obtain ⟨a1, ha1⟩ : ∃ a1, a1 = w4.heap.size := ⟨_, rfl⟩
        have hFA : Hid (∀ i, F i → i < a0 ∨ a1 ≤ i) := fun i h => .inl (by have := hFb.out i h; have := hB3.size; omega)
        have hFB : Hid (∀ i, F i → i < a0) := fun i h => by have := hFb.out i h; have := hB3.size; omega
        have hgoF : Hid (¬ F go) := fun h => by have := hFb.out _ h; omega
        rw [← ha0, ← ha1] at hcA4
        have hsA : a1 ≤ w4.heap.size := by omega
        have hgoA : go < a0 := by omega
        have hw0 : w.heap.size < a0 := by have := hX3.lt; omega
        have hga : a0 ≤ a1 := by omega
        clear hX3 hW3 hB3 hB4 hrdy3 hown3 ha0 hFb
        go_wp2_with (first
          | (refine wpList_load_row rfl 41 _ rfl w.heap.size rfl 41 _ (0, 0) _ hX4 Tryd.underlying41 rfl zx16 ?_)
          | (refine wpList_store_new rfl 41 _ _ rfl (cs x16) _ (by first | rfl | simp) rfl rfl 41 _ zx16 (by rw [cs_size, HX16.out]; rfl) (one_cs _) ?_))
        obtain ⟨gw, hgw⟩ : ∃ gw, gw = w4.heap.size := ⟨_, rfl⟩
        have hC5 : Blk (w4.alloc (.cells (cs x16) 41)) gw 41 (cs x16) := by rw [hgw]; exact Blk.new _ _ _
        have hal : Below w4.heap.size w4 (w4.alloc (.cells (cs x16) 41)) := (Below.refl _ _).alloc (Nat.le_refl _) _
        have hs45 : (w4.alloc (.cells (cs x16) 41)).heap.size = gw + 1 := by rw [hgw]; simp
        have hX5 := hX4.alloc (.cells (cs x16) 41)
        have hrdy5 := hrdy4.below hal
        have hcA5 := hcA4.below hal hok.pos
        have hown5 := hown4.alloc (.cells (cs x16) 41)
        have hW5 := hW4.alloc hW4.size (.cells (cs x16) 41)
        have hgw0 : a1 ≤ gw := by omega
        rw [← hgw]
        clear hX4 hrdy4 hcA4 hown4 hW4 hal hsA ha1 hs34
        have hgws : Hid (gw = w4.heap.size) := hgw
        clear hgw
        refine calls_name ?_
        intro w5 hw5
        rw [← hw5.out] at hC5 hX5 hrdy5 hcA5 hown5 hW5 hs45
        clear hw5
        have hs5 : gw < w5.heap.size := by rw [hs45]; omega
        clear hs45
        have hsl := slice16 w.heap.size s hs16
        refine (size_s p k s HS.out hcA5).mono ?_
        rintro e w' ⟨rfl, hw'⟩
        obtain rfl := hw'.symm
        go_wp2_with fail
        have hrx5 := Rd.of_blk_take hX5 s
        rw [← HXX.out] at hrx5
        refine (do_step k s HS.out w5 hrdy5 (hcA5.mono hFA.out) (some ⟨w.heap.size, 0, none⟩) 16 x HXL.out hrx5 hok false (by simp) (by have := HND.out; omega)).mono ?_
        rintro e w6 ⟨F5, hF5, hrdy6, _, hfr6, hB6, _, hcase⟩
        rcases doP_first k HK3.out draws ky x false (by rw [HXL.out, HS.out]) with ⟨_, _, hlt⟩ | ⟨y, rows, t, hP, _, hP3, _, hrl, htl, _⟩
        · have := HND.out; omega
        rw [hP] at hcase hrdy6
        have HP3 := Lib.hid hP3
        clear hP hP3
        rcases hcase with ⟨y', g, ty, hy, hyl, rfl, hg6, hgw5, hng⟩ | ⟨hy, _⟩
        rotate_left
        · cases hy
        obtain rfl : y = y' := Option.some.inj hy
        have HYL := Lib.hid hyl
        clear hy hyl
        have hX6 := hX5.below hB6 (by omega)
        have hW6 := hW5.trans (hB6.mono (by omega))
        have hC6 := hC5.fr hfr6 (fun h => by have := hFB.out _ h; omega)
        have hown6 := hown5.fr hfr6 (fun k hk h => by injection hk with hk; subst hk; exact hgoF.out h)
        have hcA6 := hcA5.fr (F' := fun i => i < a0 ∨ a1 ≤ i) hfr6 (fun i h => .inl (hFA.out i h)) (fun i h => .inl h) hok.pos
        have hF5A : Hid (∀ i, F5 i → i < a0 ∨ a1 ≤ i) := fun i h => by
          rcases hF5 i h with h1 | h1
          · exact hFA.out i h1
          · exact .inr (by omega)
        have hng1 := not_new hF5 hgoF.out (by omega)
        have hng2 := not_new hF5 (fun h => by have := hFB.out _ h; omega : ¬ F gw) hs5
        have HNG1 := Lib.hid hng1
        have HNG2 := Lib.hid hng2
        have HNG := Lib.hid hng
        have hgl := hg6.lt
        have hFb6 : Hid (∀ i, F5 i → i < w6.heap.size) := by obtain ⟨_, _, _, _, _, _, _, _, _, _, _, _, _, _, h⟩ := hrdy6.book; exact h
        clear hX5 hrdy5 hcA5 hown5 hW5 hC5 hB6 hfr6 hrx5 hF5 hng1 hng2 hng hgoF
        go_wp2_with (first
          | (at_builtin; refine wpList_app rfl _ _ rfl w6.heap.size _ _ _ [] rfl rfl (Own.of_blk (g := w6.heap.size) (by exact Blk.new _ _ _) (Nat.le_refl _) (by simp)) (some ⟨g, 0, none⟩) s s y HYL.out.symm rfl ((Rd.of_blk hg6).alloc _) (by rw [List.length_nil, HYL.out]; omega) (by simp) ?_; intro A7 c7 w7 hown7 hgr7 hat7; refine lock_stop ?_))
        have hB7 : Below w6.heap.size w6 w7 := ((Below.refl _ _).alloc (Nat.le_refl _) _).grown hgr7 (by simp) (by intro k hk; simp [blkOf] at hk; omega)
        rw [List.nil_append] at hown7
        rw [HYL.out]
        have hX7 := hX6.below hB7 (by omega)
        have hC7 := hC6.below hB7 hC6.lt
        have hg7 := hg6.below hB7 hgl
        have hgo7 := hown6.below hB7
        have hcA7 := hcA6.below hB7 hok.pos
        have hrdy7 := hrdy6.below hB7
        have hW7 := below_step hW6 hB7 hW6.size
        have hs67 := hB7.size
        have hA7 : Hid (∀ k, blkOf A7 = some k → w6.heap.size ≤ k) := fun k hk => (hown7.lt k hk).1
        clear hX6 hC6 hg6 hown6 hcA6 hrdy6 hW6 hB7 hgr7 hat7
        refine lock_go ?_
        go_wp2_with fail
        go_loopg [19] s (fun gq s19 wr => ∃ j : Nat, j ≤ s ∧ gq = s - j ∧ s19 = .int .i64 (j : Int) ∧ Blk wr g ty (cs (flipL y j)) ∧ w7.grownBy wr (some g))
        case atStart => exact ⟨0, by omega, by omega, rfl, by rw [flipL_0]; exact hg7, only_refl _ _⟩
        case round =>
          obtain ⟨j, hj, hgk, rfl, hgb, hG⟩ := hrel
          have HG := Lib.hid hgk
          clear hgk
          by_cases hlt : j < s
          · obtain ⟨v, hv⟩ : ∃ v, y[j]? = some v := ⟨_, List.getElem?_eq_getElem (by rw [HYL.out]; exact hlt)⟩
            have c1 : wr.cell? ⟨g, j, none⟩ = some (.int .u8 (v.toNat : Int)) := by rw [hgb.cell, cs_get, flipL_at y j v hv]; rfl
            have f1 := hgb.frozen j
            have hnx : Blk (wr.setCell ⟨g, j, none⟩ (.int .u8 (bits .xor .u8 (v.toNat : Int) 255))) g ty (cs (flipL y (j + 1))) := by
              have h := hgb.set_ j (bv (v ^^^ 255))
              rw [cs_set, flipL_step y j v hv] at h
              rw [flip_bits]; exact h
            have HNX := Lib.hid hnx
            clear hnx hv hgb
            go_wp2_with fail
            go_roundg (s - (j + 1))
            case measure => have := HG.out; omega
            case rel => exact ⟨j + 1, by omega, rfl, by go_num, HNX.out, only_setCell hG (.inl rfl) _⟩
          · have hfrg : Fr (fun i => i = g) w7 wr := Fr.of_only hG _ (.inl rfl)
            have hX8 := hX7.grown hG (by intro h; injection h with h; omega)
            have hC8 := hC7.grown hG (by intro h; injection h with h; omega)
            have hgo8 := hgo7.only hG (by intro h; injection h with h; have h' : go = g := h; omega)
            have hcA8 := hcA7.fr (F' := fun i => i < a0 ∨ a1 ≤ i) hfrg (fun i h => by subst h; exact .inl (.inr (by omega))) (fun i h => .inl h) hok.pos
            have hbk8 := hrdy7.book.fr hfrg (fun i h e => by subst e; exact HNG.out h)
            have hwant8 := hown7.only hG (by intro h; have := hA7.out _ h; omega)
            have hW8 : Below w.heap.size w wr := hW7.trans ((below_of_only hG (by have := hg7.lt; omega)).mono (by omega))
            have hs78 := hG.size
            have hlow : Hid (∀ i, F5 i → w.heap.size < i) := fun i h => hrdy7.low i h
            have hszw : w.heap.size < w7.heap.size := hrdy7.size
            clear hX7 hC7 hgo7 hcA7 hrdy7 hW7 hown7 hG hfrg hgb hg7
            go_wp2_with fail
            obtain ⟨w8, hw8⟩ : ∃ w8, w8 = wr := ⟨_, rfl⟩
            rw [← hw8] at hX8 hC8 hgo8 hcA8 hbk8 hwant8 hW8 hs78 ⊢
            clear hw8
            go_loopg [20] N (fun gq s20 wr => ∃ j : Nat, j ≤ N ∧ gq = N - j ∧ s20 = .int .i64 (j : Int) ∧ Own wr w2.heap.size (some ⟨go, 0, none⟩) c3 (flipL ky j) ∧ w8.grownBy wr (some go))
            case atStart => exact ⟨0, by omega, by omega, rfl, by rw [flipL_0]; exact hgo8, only_refl _ _⟩
            case round =>
              obtain ⟨j2, hj2, hgk, rfl, hgb, hG⟩ := hrel
              have HG2 := Lib.hid hgk
              clear hgk
              by_cases hlt2 : j2 < N
              · obtain ⟨v, hv⟩ : ∃ v, ky[j2]? = some v := ⟨_, List.getElem?_eq_getElem (by rw [HKL.out, ← HN'.out]; exact hlt2)⟩
                have c1 : wr.cell? ⟨go, j2, none⟩ = some (.int .u8 (v.toNat : Int)) := hgb.cell_at j2 v (flipL_at ky j2 v hv)
                have f1 := hgb.frozen_at j2
                have hnx : Own (wr.setCell ⟨go, j2, none⟩ (.int .u8 (bits .xor .u8 (v.toNat : Int) 255))) w2.heap.size (some ⟨go, 0, none⟩) c3 (flipL ky (j2 + 1)) := by
                  have h := hgb.set j2 (v ^^^ 255)
                  rw [flipL_step ky j2 v hv] at h
                  rw [flip_bits]; exact h
                have HNX := Lib.hid hnx
                clear hnx hv hgb
                go_wp2_with fail
                go_roundg (N - (j2 + 1))
                case measure => have := HG2.out; omega
                case rel => exact ⟨j2 + 1, by omega, rfl, by go_num, HNX.out, only_setCell hG (.inl rfl) _⟩
              · have hfrg : Fr (fun i => i = go) w8 wr := Fr.of_only hG _ (.inl rfl)
                have hX9 := hX8.grown hG (by intro h; injection h with h; omega)
                have hC9 := hC8.grown hG (by intro h; injection h with h; omega)
                have hcA9 := hcA8.fr (F' := fun i => i < a0 ∨ a1 ≤ i) hfrg (fun i h => by subst h; exact .inl (.inl hgoA)) (fun i h => .inl h) hok.pos
                have hbk9 := hbk8.fr hfrg (fun i h e => by subst e; exact HNG1.out h)
                have hwant9 := hwant8.only hG (by intro h; have := hA7.out _ h; omega)
                have hgoL : go < w8.heap.size := by have := hX8.lt; omega
                have hW9 : Below w.heap.size w wr := hW8.trans ((below_of_only hG (by omega)).mono (by omega))
                have hs89 := hG.size
                have hrdy9 : Rdy w.heap.size wr F5 pb rows t := ⟨hbk9, hlow.out, by omega⟩
                clear hX8 hC8 hgo8 hcA8 hbk8 hW8 hwant8 hG hfrg hgb hbk9
                go_wp2_with fail
                refine (size_s p k s HS.out hcA9).mono ?_
                rintro e w' ⟨rfl, hw'⟩
                obtain rfl := hw'.symm
                go_wp2_with fail
                have hrx9 := Rd.of_blk_take hX9 s
                rw [← HXX.out] at hrx9
                obtain ⟨w9, hw9⟩ : ∃ w9, w9 = wr := ⟨_, rfl⟩
                rw [← hw9] at hX9 hC9 hcA9 hwant9 hW9 hs89 hrdy9 hrx9 ⊢
                clear hw9
                refine (do_step k s HS.out w9 hrdy9 (hcA9.mono hF5A.out) (some ⟨w.heap.size, 0, none⟩) 16 x HXL.out hrx9 hok false (by omega) (by have := HND.out; omega)).mono ?_
                rintro e w10 ⟨F6, hF6, hrdy10, _, hfr10, hB10, _, hcase⟩
                rw [HP3.out] at hcase
                rcases hcase with ⟨y', g3, ty3, hy, hyl, rfl, hg10, _, _⟩ | ⟨hy, _⟩
                rotate_left
                · cases hy
                obtain rfl : y = y' := Option.some.inj hy
                clear hy hyl
                have hX10 := hX9.below hB10 (by omega)
                have hC10 := hC9.fr hfr10 HNG2.out
                have hwant10 := hwant9.fr hfr10 (fun k hk h => by have := hA7.out k hk; have := hFb6.out _ h; omega)
                have hW10 := hW9.trans (hB10.mono (by omega))
                have heq : ∀ w, (binOp .eql 41 (.agg (cs x16)) (.agg (cs x16))).run Tryd.prog w = .ok (.bool true) w := fun w => by rw [eql16 x16 x16 HX16.out HX16.out, beq_self_eq_true]
                clear hX9 hC9 hcA9 hwant9 hW9 hrdy9 hrx9 hB10 hfr10 hrdy10 hF6
                go_wp2_with (first
                  | (refine wpList_load_g (by rfl) 41 _ rfl w.heap.size 41 rfl (cs x16) _ hX10 Tryd.underlying41 rfl zx16 ?_)
                  | (refine wpList_load_g (by rfl) 41 _ rfl gw 41 rfl (cs x16) _ hC10 Tryd.underlying41 rfl zx16 ?_))
                refine (same_any (some ⟨g3, 0, none⟩) A7 s s s c7 y y HYL.out.symm HYL.out.symm _ (Rd.of_blk hg10) hwant10.rd (by rw [HYL.out]; omega)).mono ?_
                rintro e _ ⟨rfl, q, rfl⟩
                rw [beq_self_eq_true]
                go_wp2_with fail
                go_ret
                exact ⟨rfl, below_drewN hW10 _⟩
      · go_enter Tryd.func7, Tryd.ntmps7
        go_wp2_with fail
        have hvar0 : ErrVar (w.alloc (.cells (cs x16) 41)) := hvar.alloc _
        have hW0 : Below w.heap.size w (w.alloc (.cells (cs x16) 41)) := (Below.refl _ _).alloc (Nat.le_refl _) _
        clear hr hrd hvar
        refine (awake_any _ hvar0).mono ?_
        rintro e w1 ⟨rfl, hB1⟩
        have hvar1 := hvar0.below hB1
        have hW1 := below_step hW0 hB1 hW0.size
        go_wp2_with fail
        refine (awake_any _ hvar1).mono ?_
        rintro e w2 ⟨rfl, hB2⟩
        have hW2 := below_step hW1 hB2 hW1.size
        go_wp2_with fail
        go_ret
        exact ⟨rfl, hW2⟩
    · go_enter Tryd.func7, Tryd.ntmps7
      go_wp2_with fail
      have hvar0 : ErrVar (w.alloc (.cells (cs x16) 41)) := hvar.alloc _
      have hW0 : Below w.heap.size w (w.alloc (.cells (cs x16) 41)) := (Below.refl _ _).alloc (Nat.le_refl _) _
      clear hr hrd hvar
      refine (awake_any _ hvar0).mono ?_
      rintro e w1 ⟨rfl, hB1⟩
      have hvar1 := hvar0.below hB1
      have hW1 := below_step hW0 hB1 hW0.size
      go_wp2_with fail
      refine (awake_any _ hvar1).mono ?_
      rintro e w2 ⟨rfl, hB2⟩
      have hW2 := below_step hW1 hB2 hW1.size
      go_wp2_with fail
      go_ret
      exact ⟨rfl, hW2⟩
  · go_enter Tryd.func7, Tryd.ntmps7
    go_wp2_with fail
    have hvar0 : ErrVar (w.alloc (.cells (cs x16) 41)) := hvar.alloc _
    have hW0 : Below w.heap.size w (w.alloc (.cells (cs x16) 41)) := (Below.refl _ _).alloc (Nat.le_refl _) _
    clear hr hrd hvar
    refine (awake_any _ hvar0).mono ?_
    rintro e w1 ⟨rfl, hB1⟩
    have hvar1 := hvar0.below hB1
    have hW1 := below_step hW0 hB1 hW0.size
    go_wp2_with fail
    refine (awake_any _ hvar1).mono ?_
    rintro e w2 ⟨rfl, hB2⟩
    have hW2 := below_step hW1 hB2 hW1.size
    go_wp2_with fail
    go_ret
    exact ⟨rfl, hW2⟩
end Go.Proofs.YtbmhmohpnhckgaaDoor
