/- law05: BlockBack -/
import Derived.Test.YtbmhmohpnhckgaaDoorStep
namespace Go.Proofs.YtbmhmohpnhckgaaDoor
open Go.RowKit Lb
set_option maxRecDepth 100000 in
set_option maxHeartbeats 8000000 in
theorem back_any (kd : Int) (h0 : 0 ≤ kd) (h255 : kd ≤ 255) (A : Option Addr) (n c : Nat) (key : List UInt8) (D : Option Addr) (nd cd : Nat) (draws : List UInt8) (x16 : List UInt8) (xa : Array Value) (hxa : xa = cs x16) (hx16 : x16.length = 16) (back : Bool) (w : World)
    (hn : n = key.length) (hr : Rd w A key) (hnd : nd = draws.length) (hrd : Rd w D draws) (hvar : ErrVar w) :
    Calls Tryd.prog 5 #[.int .u8 kd, .slice A n c, .slice D nd cd, .agg xa, .bool back] w fun e w' => e = .returned (.bool true) ∧ Below w.heap.size w w' := by
  subst hxa
  obtain ⟨k, hk⟩ : ∃ k, k = 1 + kd % 3 := ⟨_, rfl⟩
  have hk3 : k = 1 ∨ k = 2 ∨ k = 3 := by omega
  have HN := Lib.hid hn
  have HND := Lib.hid hnd
  have HX16 := Lib.hid hx16
  have HK := Lib.hid hk
  have HK3 := Lib.hid hk3
  obtain ⟨s, hs⟩ : ∃ s, s = sizeK k := ⟨_, rfl⟩
  have hs16 : s ≤ 16 := by have := sizeK_or k; omega
  have hs0 : 0 < s := by have := sizeK_or k; omega
  have HS := Lib.hid hs
  obtain ⟨ky, hky⟩ : ∃ ky, ky = rightL k key := ⟨_, rfl⟩
  have hok : KeyOk k ky := by rw [hky]; exact right_ok k key hk3
  have HKY := Lib.hid hky
  obtain ⟨x, hxx⟩ : ∃ x, x = x16.take s := ⟨_, rfl⟩
  have hxl : x.length = s := by rw [hxx, List.length_take]; omega
  have HXX := Lib.hid hxx
  have HXL := Lib.hid hxl
  clear hn hnd hx16 hk hk3 hs hky hxx hxl
  by_cases hl : n ≤ 100
  · by_cases hd : nd ≤ 2000
    · go_enter Tryd.func5, Tryd.ntmps5
      go_wp2_with fail
      rw [← HK.out]
      have hX : Blk (w.alloc (.cells (cs x16) 41)) w.heap.size 41 (cs x16) := Blk.new _ _ _
      have hr0 : Rd (w.alloc (.cells (cs x16) 41)) A key := hr.alloc _
      have hrd0 : Rd (w.alloc (.cells (cs x16) 41)) D draws := hrd.alloc _
      have hvar0 : ErrVar (w.alloc (.cells (cs x16) 41)) := hvar.alloc _
      have hW0 : Below w.heap.size w (w.alloc (.cells (cs x16) 41)) := (Below.refl _ _).alloc (Nat.le_refl _) _
      clear hr hrd hvar
      refine (awake_any _ hvar0).mono ?_
      rintro e w1 ⟨rfl, hB1⟩
      have hX1 := hX.below hB1 hX.lt
      have hr1 := hr0.below hB1
      have hrd1 := hrd0.below hB1
      have hvar1 := hvar0.below hB1
      have hW1 := below_step hW0 hB1 hW0.size
      clear hX hr0 hrd0 hvar0 hW0 hB1
      go_wp2_with fail
      refine (book_rdy w.heap.size D nd cd draws w1 HND.out hrd1 (by have := HND.out; omega) hX1.lt).mono ?_
      rintro e w2 ⟨pb, F, rfl, hrdy2, hFlo, hB2⟩
      have hX2 := hX1.below hB2 hX1.lt
      have hr2 := hr1.below hB2
      have hvar2 := hvar1.below hB2
      have hW2 := below_step hW1 hB2 hW1.size
      clear hX1 hr1 hrd1 hvar1 hW1 hB2 hFlo
      go_wp2_with fail
      refine (right_any k HK3.out A n c key HN.out _ hr2 (by omega)).mono ?_
      rintro e w3 ⟨A3, c3, rfl, hown, hB3⟩
      rw [← HKY.out] at hown
      have hrk := hown.rd
      have hrdy3 := hrdy2.below hB3
      have hX3 := hX2.below hB3 hX2.lt
      have hvar3 := hvar2.below hB3
      have hW3 := below_step hW2 hB3 hW2.size
      clear hX2 hr2 hvar2 hW2 hB3 hrdy2 hown
      go_wp2_with fail
      refine (new_right k HK3.out key ky HKY.out A3 c3 w3 hrdy3 hrk).mono ?_
      rintro e w4 ⟨p, rfl, hcip4, hB4⟩
      have hrdy4 := hrdy3.below hB4
      have hX4 := hX3.below hB4 hX3.lt
      have hvar4 := hvar3.below hB4
      have hW4 := below_step hW3 hB4 hW3.size
      clear hX3 hvar3 hW3 hB4 hrdy3 hrk
      go_wp2_with fail
      have hsl := slice16 w.heap.size s hs16
      refine (size_s p k s HS.out hcip4).mono ?_
      rintro e w' ⟨rfl, hw'⟩
      obtain rfl := hw'.symm
      go_wp2_with fail
      have hrx4 := Rd.of_blk_take hX4 s
      rw [← HXX.out] at hrx4
      refine (do_step k s HS.out w4 hrdy4 hcip4 (some ⟨w.heap.size, 0, none⟩) 16 x HXL.out hrx4 hok back (by simp) (by have := HND.out; omega)).mono ?_
      rintro e w5 ⟨F5, hF5, hrdy5, hcip5, hfr5, hB5, hv5, hcase⟩
      have hX5 := hX4.below hB5 (by omega)
      have hvar5 := hv5 hvar4
      have hW5 := hW4.trans (hB5.mono (by omega))
      clear hrdy4 hcip4 hX4 hvar4 hW4 hB5 hv5 hrx4 hfr5
      rcases doP_first k HK3.out draws ky x back (by rw [HXL.out, HS.out]) with ⟨hP, rfl, hlt⟩ | ⟨y, rows, t, hP, hP2, hP3, hge, hrl, htl, _⟩
      · rw [hP] at hcase
        clear hP
        rcases hcase with ⟨y, g, t, hy, _⟩ | ⟨_, _, T, u, rfl, hv⟩
        · cases hy
        have hlt' : nd < 16 := by rw [HND.out]; exact hlt
        clear hlt
        go_wp2_with fail
        go_ret
        exact ⟨congrArg (fun b => Ending.returned (.bool b)) (decide_eq_true (show (nd : Int) < 16 by omega)), hW5⟩
      · rw [hP] at hcase hrdy5
        have HP2 := Lib.hid hP2
        have HP3 := Lib.hid hP3
        clear hP hP2 hP3 hge
        rcases hcase with ⟨y', g, ty, hy, hyl, rfl, hg5, hgw, hng⟩ | ⟨hy, _⟩
        rotate_left
        · cases hy
        obtain rfl : y = y' := Option.some.inj hy
        have HYL := Lib.hid hyl
        clear hy hyl
        have hgl := hg5.lt
        go_wp2_with fail
        refine (do_step k s HS.out w5 hrdy5 hcip5 (some ⟨g, 0, none⟩) s y HYL.out (Rd.of_blk hg5) hok (!back) (by omega) (by have := HND.out; omega)).mono ?_
        rintro e w6 ⟨F6, hF6, hrdy6, hcip6, hfr6, hB6, hv6, hcase⟩
        have hX6 := hX5.below hB6 (by omega)
        have hvar6 := hv6 hvar5
        have hW6 := hW5.trans (hB6.mono (by omega))
        have hg6 := hg5.fr hfr6 hng
        have hng6 := not_new hF6 hng hgl
        simp only [HP2.out] at hcase hrdy6
        clear hrdy5 hcip5 hX5 hvar5 hW5 hB6 hv6 hfr6 hg5 hng hF6 hgl
        rcases hcase with ⟨x', g2, ty2, hy, hyl, rfl, hz6, hgw2, hnz⟩ | ⟨hy, _⟩
        rotate_left
        · cases hy
        obtain rfl : x = x' := Option.some.inj hy
        clear hy hyl
        go_wp2_with fail
        refine (size_s p k s HS.out hcip6).mono ?_
        rintro e w' ⟨rfl, hw'⟩
        obtain rfl := hw'.symm
        go_wp2_with fail
        have hrx6 := Rd.of_blk_take hX6 s
        rw [← HXX.out] at hrx6
        refine (do_step k s HS.out w6 hrdy6 hcip6 (some ⟨w.heap.size, 0, none⟩) 16 x HXL.out hrx6 hok back (by omega) (by have := HND.out; omega)).mono ?_
        rintro e w7 ⟨F7, hF7, hrdy7, hcip7, hfr7, hB7, hv7, hcase⟩
        have hX7 := hX6.below hB7 (by omega)
        have hW7 := hW6.trans (hB7.mono (by omega))
        have hg7 := hg6.fr hfr7 hng6
        have hz7 := hz6.fr hfr7 hnz
        simp only [HP3.out] at hcase hrdy7
        clear hrdy6 hcip6 hX6 hvar6 hW6 hB7 hv7 hfr7 hg6 hz6 hng6 hnz hF7 hrx6 hrdy7
        rcases hcase with ⟨y', g3, ty3, hy, hyl, rfl, ha7, hgw3, hna⟩ | ⟨hy, _⟩
        rotate_left
        · cases hy
        obtain rfl : y = y' := Option.some.inj hy
        clear hy hyl
        go_wp2_with fail
        refine (size_s p k s HS.out hcip7).mono ?_
        rintro e w' ⟨rfl, hw'⟩
        obtain rfl := hw'.symm
        go_wp2_with fail
        have hrx7 := Rd.of_blk_take hX7 s
        rw [← HXX.out] at hrx7
        refine (same_any (some ⟨g2, 0, none⟩) (some ⟨w.heap.size, 0, none⟩) s s s 16 x x HXL.out.symm HXL.out.symm w7 (Rd.of_blk hz7) hrx7 (by rw [HXL.out]; omega)).mono ?_
        rintro e _ ⟨rfl, q, rfl⟩
        rw [beq_self_eq_true]
        go_wp2_with fail
        refine (same_any (some ⟨g3, 0, none⟩) (some ⟨g, 0, none⟩) s s s s y y HYL.out.symm HYL.out.symm _ (Rd.of_blk (ha7.drewN q)) (Rd.of_blk (hg7.drewN q)) (by rw [HYL.out]; omega)).mono ?_
        rintro e _ ⟨rfl, q2, rfl⟩
        rw [beq_self_eq_true]
        go_wp2_with fail
        go_ret
        exact ⟨rfl, below_drewN hW7 _⟩
    · go_enter Tryd.func5, Tryd.ntmps5
      go_wp2_with fail
      have hvar0 : ErrVar (w.alloc (.cells (cs x16) 41)) := hvar.alloc _
      have hW0 : Below w.heap.size w (w.alloc (.cells (cs x16) 41)) := (Below.refl _ _).alloc (Nat.le_refl _) _
      clear hr hrd hvar
      refine (awake_any _ hvar0).mono ?_
      rintro e w1 ⟨rfl, hB1⟩
      have hvar1 := hvar0.below hB1
      have hW1 := below_step hW0 hB1 hW0.size
      go_wp2_with fail
      refine (awake_any _ hvar1).mono ?_
      rintro e w2 ⟨rfl, hB2⟩
      have hW2 := below_step hW1 hB2 hW1.size
      go_wp2_with fail
      go_ret
      exact ⟨rfl, hW2⟩
  · go_enter Tryd.func5, Tryd.ntmps5
    go_wp2_with fail
    have hvar0 : ErrVar (w.alloc (.cells (cs x16) 41)) := hvar.alloc _
    have hW0 : Below w.heap.size w (w.alloc (.cells (cs x16) 41)) := (Below.refl _ _).alloc (Nat.le_refl _) _
    clear hr hrd hvar
    refine (awake_any _ hvar0).mono ?_
    rintro e w1 ⟨rfl, hB1⟩
    have hvar1 := hvar0.below hB1
    have hW1 := below_step hW0 hB1 hW0.size
    go_wp2_with fail
    refine (awake_any _ hvar1).mono ?_
    rintro e w2 ⟨rfl, hB2⟩
    have hW2 := below_step hW1 hB2 hW1.size
    go_wp2_with fail
    go_ret
    exact ⟨rfl, hW2⟩
end Go.Proofs.YtbmhmohpnhckgaaDoor
