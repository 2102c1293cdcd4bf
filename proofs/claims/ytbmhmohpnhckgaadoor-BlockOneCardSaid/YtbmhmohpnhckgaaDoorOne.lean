/- law05: BlockOne -/
import Derived.Test.YtbmhmohpnhckgaaDoorStep
namespace Go.Proofs.YtbmhmohpnhckgaaDoor
open Go.RowKit Lb
set_option maxRecDepth 100000 in
set_option maxHeartbeats 8000000 in
theorem one_any (kd : Int) (h0 : 0 ≤ kd) (h255 : kd ≤ 255) (A : Option Addr) (n c : Nat) (key : List UInt8) (D : Option Addr) (nd cd : Nat) (draws : List UInt8) (x16 : List UInt8) (xa : Array Value) (hxa : xa = cs x16) (hx16 : x16.length = 16) (y16 : List UInt8) (ya : Array Value) (hya : ya = cs y16) (hy16 : y16.length = 16) (back : Bool) (w : World)
    (hn : n = key.length) (hr : Rd w A key) (hnd : nd = draws.length) (hrd : Rd w D draws) (hvar : ErrVar w) :
    Calls Tryd.prog 6 #[.int .u8 kd, .slice A n c, .slice D nd cd, .agg xa, .agg ya, .bool back] w fun e w' => e = .returned (.bool true) ∧ Below w.heap.size w w' := by
  subst hxa
  subst hya
  obtain ⟨k, hk⟩ : ∃ k, k = 1 + kd % 3 := ⟨_, rfl⟩
  have hk3 : k = 1 ∨ k = 2 ∨ k = 3 := by omega
  have HN := Lib.hid hn
  have HND := Lib.hid hnd
  have HX16 := Lib.hid hx16
  have HY16 := Lib.hid hy16
  have HK := Lib.hid hk
  have HK3 := Lib.hid hk3
  obtain ⟨s, hs⟩ : ∃ s, s = sizeK k := ⟨_, rfl⟩
  have hs16 : s ≤ 16 := by have := sizeK_or k; omega
  have hs0 : 0 < s := by have := sizeK_or k; omega
  have HS := Lib.hid hs
  obtain ⟨ky, hky⟩ : ∃ ky, ky = rightL k key := ⟨_, rfl⟩
  have hok : KeyOk k ky := by rw [hky]; exact right_ok k key hk3
  have HKY := Lib.hid hky
  obtain ⟨x, hxx⟩ : ∃ x, x = x16.take s := ⟨_, rfl⟩
  have hxl : x.length = s := by rw [hxx, List.length_take]; omega
  have HXX := Lib.hid hxx
  have HXL := Lib.hid hxl
  obtain ⟨z, hzz⟩ : ∃ z, z = y16.take s := ⟨_, rfl⟩
  have hzl : z.length = s := by rw [hzz, List.length_take]; omega
  have HZZ := Lib.hid hzz
  have HZL := Lib.hid hzl
  clear hzz hzl hy16
  clear hn hnd hx16 hk hk3 hs hky hxx hxl
  by_cases hl : n ≤ 100
  · by_cases hd : nd ≤ 2000
    · go_enter Tryd.func6, Tryd.ntmps6
      go_wp2_with fail
      rw [← HK.out]
      have hX : Blk ((w.alloc (.cells (cs x16) 41)).alloc (.cells (cs y16) 41)) w.heap.size 41 (cs x16) := (Blk.new _ _ _).alloc _
      have hY : Blk ((w.alloc (.cells (cs x16) 41)).alloc (.cells (cs y16) 41)) (w.heap.size + 1) 41 (cs y16) := Blk.new_at (by simp) _ _
      have hr0 : Rd ((w.alloc (.cells (cs x16) 41)).alloc (.cells (cs y16) 41)) A key := (hr.alloc _).alloc _
      have hrd0 : Rd ((w.alloc (.cells (cs x16) 41)).alloc (.cells (cs y16) 41)) D draws := (hrd.alloc _).alloc _
      have hvar0 : ErrVar ((w.alloc (.cells (cs x16) 41)).alloc (.cells (cs y16) 41)) := (hvar.alloc _).alloc _
      have hW0 : Below w.heap.size w ((w.alloc (.cells (cs x16) 41)).alloc (.cells (cs y16) 41)) := ((Below.refl _ _).alloc (Nat.le_refl _) _).alloc (by simp) _
      clear hr hrd hvar
      refine (awake_any _ hvar0).mono ?_
      rintro e w1 ⟨rfl, hB1⟩
      have hX1 := hX.below hB1 hX.lt
      have hY1 := hY.below hB1 hY.lt
      have hr1 := hr0.below hB1
      have hrd1 := hrd0.below hB1
      have hvar1 := hvar0.below hB1
      have hW1 := below_step hW0 hB1 hW0.size
      clear hX hY hr0 hrd0 hvar0 hW0 hB1
      go_wp2_with fail
      refine (book_rdy (w.heap.size + 1) D nd cd draws w1 HND.out hrd1 (by have := HND.out; omega) hY1.lt).mono ?_
      rintro e w2 ⟨pb, F, rfl, hrdy2, hFlo, hB2⟩
      have hX2 := hX1.below hB2 hX1.lt
      have hY2 := hY1.below hB2 hY1.lt
      have hr2 := hr1.below hB2
      have hvar2 := hvar1.below hB2
      have hW2 := below_step hW1 hB2 hW1.size
      clear hX1 hY1 hr1 hrd1 hvar1 hW1 hB2 hFlo
      go_wp2_with fail
      refine (right_any k HK3.out A n c key HN.out _ hr2 (by omega)).mono ?_
      rintro e w3 ⟨A3, c3, rfl, hown, hB3⟩
      rw [← HKY.out] at hown
      have hrk := hown.rd
      have hrdy3 := hrdy2.below hB3
      have hX3 := hX2.below hB3 hX2.lt
      have hY3 := hY2.below hB3 hY2.lt
      have hvar3 := hvar2.below hB3
      have hW3 := below_step hW2 hB3 hW2.size
      clear hX2 hY2 hr2 hvar2 hW2 hB3 hrdy2 hown
      go_wp2_with fail
      refine (new_right k HK3.out key ky HKY.out A3 c3 w3 hrdy3 hrk).mono ?_
      rintro e w4 ⟨p, rfl, hcip4, hB4⟩
      have hrdy4 := hrdy3.below hB4
      have hX4 := hX3.below hB4 hX3.lt
      have hY4 := hY3.below hB4 hY3.lt
      have hvar4 := hvar3.below hB4
      have hW4 := below_step hW3 hB4 hW3.size
      clear hX3 hY3 hvar3 hW3 hB4 hrdy3 hrk
      go_wp2_with fail
      have hsl := slice16 w.heap.size s hs16
      refine (size_s p k s HS.out hcip4).mono ?_
      rintro e w' ⟨rfl, hw'⟩
      obtain rfl := hw'.symm
      go_wp2_with fail
      have hrx4 := Rd.of_blk_take hX4 s
      rw [← HXX.out] at hrx4
      refine (do_step k s HS.out w4 hrdy4 hcip4 (some ⟨w.heap.size, 0, none⟩) 16 x HXL.out hrx4 hok back (by simp) (by have := HND.out; omega)).mono ?_
      rintro e w5 ⟨F5, hF5, hrdy5, hcip5, hfr5, hB5, hv5, hcase⟩
      have hX5 := hX4.below hB5 (by omega)
      have hY5 := hY4.below hB5 (by omega)
      have hW5 := hW4.trans (hB5.mono (by omega))
      have hsl2 := slice16 (w.heap.size + 1) s hs16
      clear hrdy4 hcip4 hX4 hY4 hvar4 hW4 hB5 hv5 hrx4 hfr5
      rcases doP_first k HK3.out draws ky x back (by rw [HXL.out, HS.out]) with ⟨hP, rfl, hlt⟩ | ⟨y, rows, t, hP, _, _, _, hrl, htl, _⟩
      · rw [hP] at hcase hrdy5
        clear hP
        rcases hcase with ⟨y, g, t, hy, _⟩ | ⟨_, _, T, u, rfl, hv⟩
        · cases hy
        clear hlt
        go_wp2_with fail
        refine (size_s p 3 s HS.out hcip5).mono ?_
        rintro e w' ⟨rfl, hw'⟩
        obtain rfl := hw'.symm
        go_wp2_with fail
        have hry5 := Rd.of_blk_take hY5 s
        rw [← HZZ.out] at hry5
        refine (do_step 3 s HS.out w5 hrdy5 hcip5 (some ⟨w.heap.size + 1, 0, none⟩) 16 z HZL.out hry5 hok back (by simp) (by have := HND.out; omega)).mono ?_
        rintro e w6 ⟨F6, hF6, hrdy6, hcip6, hfr6, hB6, hv6, hcase⟩
        have hW6 := hW5.trans (hB6.mono (by omega))
        clear hrdy5 hcip5 hX5 hY5 hW5 hB6 hv6 hry5 hfr6 hrdy6 hcip6 hv
        rcases hcase with ⟨y', g, ty, _, _, rfl, _⟩ | ⟨_, _, T2, u2, rfl, _⟩
        · go_wp2_with fail
          go_ret
          exact ⟨rfl, hW6⟩
        · go_wp2_with fail
          go_ret
          exact ⟨rfl, hW6⟩
      · have hT := doP_two k HK3.out draws ky x z back (by rw [HXL.out, HS.out]) (by rw [HZL.out, HS.out]) y rows t hP
        rw [hP] at hcase hrdy5
        have HT := Lib.hid hT
        clear hP hT
        rcases hcase with ⟨y', g, ty, hy, hyl, rfl, hg5, hgw, hng⟩ | ⟨hy, _⟩
        rotate_left
        · cases hy
        obtain rfl : y = y' := Option.some.inj hy
        have HYL := Lib.hid hyl
        clear hy hyl
        have hgl := hg5.lt
        go_wp2_with fail
        refine (size_s p k s HS.out hcip5).mono ?_
        rintro e w' ⟨rfl, hw'⟩
        obtain rfl := hw'.symm
        go_wp2_with fail
        have hry5 := Rd.of_blk_take hY5 s
        rw [← HZZ.out] at hry5
        refine (do_step k s HS.out w5 hrdy5 hcip5 (some ⟨w.heap.size + 1, 0, none⟩) 16 z HZL.out hry5 hok back (by omega) (by have := HND.out; omega)).mono ?_
        rintro e w6 ⟨F6, hF6, hrdy6, hcip6, hfr6, hB6, hv6, hcase⟩
        have hX6 := hX5.below hB6 (by omega)
        have hY6 := hY5.below hB6 (by omega)
        have hW6 := hW5.trans (hB6.mono (by omega))
        have hg6 := hg5.fr hfr6 hng
        clear hrdy5 hcip5 hX5 hY5 hW5 hB6 hv6 hfr6 hg5 hng hF6 hgl hry5 hrdy6
        rcases HT.out with ⟨hno, rfl⟩ | ⟨v, hsome, heq⟩
        · rw [hno] at hcase
          rcases hcase with ⟨y', g2, ty2, hy, _⟩ | ⟨_, _, T2, u2, rfl, _⟩
          · cases hy
          clear hno
          go_wp2_with fail
          go_ret
          exact ⟨rfl, hW6⟩
        · rw [hsome] at hcase
          have HEQ := Lib.hid heq
          clear hsome heq
          rcases hcase with ⟨v', g2, ty2, hy, hvl, rfl, hv6, hgw2, hnv⟩ | ⟨hy, _⟩
          rotate_left
          · cases hy
          obtain rfl : v = v' := Option.some.inj hy
          have HVL := Lib.hid hvl
          clear hy hvl
          have hrx6 := Rd.of_blk_take hX6 s
          have hry6 := Rd.of_blk_take hY6 s
          rw [← HXX.out] at hrx6
          rw [← HZZ.out] at hry6
          have q1 := fun nq => same_any (some ⟨g, 0, none⟩) (some ⟨g2, 0, none⟩) s s s s y v HYL.out.symm HVL.out.symm (w6.drewN nq) (Rd.of_blk (hg6.drewN nq)) (Rd.of_blk (hv6.drewN nq)) (by rw [HYL.out]; omega)
          have q2 := fun nq => same_any (some ⟨w.heap.size, 0, none⟩) (some ⟨w.heap.size + 1, 0, none⟩) s s 16 16 x z HXL.out.symm HZL.out.symm (w6.drewN nq) (hrx6.drewN nq) (hry6.drewN nq) (by rw [HXL.out]; omega)
          have q3 := fun nq => size_s p k s HS.out (hcip6.below (below_drewN (Below.refl w6.heap.size w6) nq) hok.pos)
          have Q1 := Lib.hid q1
          have Q2 := Lib.hid q2
          have Q3 := Lib.hid q3
          clear q1 q2 q3
          go_wp2_with fail
          go_quiet ((first | (go_at_call 18; with_reducible exact Calls.quiet_of (Q1.out _)) | (go_at_call 18; with_reducible exact Calls.quiet_of (Q2.out _)) | (go_at_call 14; with_reducible exact Calls.quiet_of_same (Q3.out _))))
          go_wp2_with fail
          go_ret
          exact ⟨(by show Ending.returned (.bool ((y == v) == (x == z))) = _; rw [HEQ.out]; simp), below_drewN hW6 _⟩
    · go_enter Tryd.func6, Tryd.ntmps6
      go_wp2_with fail
      have hvar0 : ErrVar ((w.alloc (.cells (cs x16) 41)).alloc (.cells (cs y16) 41)) := (hvar.alloc _).alloc _
      have hW0 : Below w.heap.size w ((w.alloc (.cells (cs x16) 41)).alloc (.cells (cs y16) 41)) := ((Below.refl _ _).alloc (Nat.le_refl _) _).alloc (by simp) _
      clear hr hrd hvar
      refine (awake_any _ hvar0).mono ?_
      rintro e w1 ⟨rfl, hB1⟩
      have hvar1 := hvar0.below hB1
      have hW1 := below_step hW0 hB1 hW0.size
      go_wp2_with fail
      refine (awake_any _ hvar1).mono ?_
      rintro e w2 ⟨rfl, hB2⟩
      have hW2 := below_step hW1 hB2 hW1.size
      go_wp2_with fail
      go_ret
      exact ⟨rfl, hW2⟩
  · go_enter Tryd.func6, Tryd.ntmps6
    go_wp2_with fail
    have hvar0 : ErrVar ((w.alloc (.cells (cs x16) 41)).alloc (.cells (cs y16) 41)) := (hvar.alloc _).alloc _
    have hW0 : Below w.heap.size w ((w.alloc (.cells (cs x16) 41)).alloc (.cells (cs y16) 41)) := ((Below.refl _ _).alloc (Nat.le_refl _) _).alloc (by simp) _
    clear hr hrd hvar
    refine (awake_any _ hvar0).mono ?_
    rintro e w1 ⟨rfl, hB1⟩
    have hvar1 := hvar0.below hB1
    have hW1 := below_step hW0 hB1 hW0.size
    go_wp2_with fail
    refine (awake_any _ hvar1).mono ?_
    rintro e w2 ⟨rfl, hB2⟩
    have hW2 := below_step hW1 hB2 hW1.size
    go_wp2_with fail
    go_ret
    exact ⟨rfl, hW2⟩
end Go.Proofs.YtbmhmohpnhckgaaDoor
