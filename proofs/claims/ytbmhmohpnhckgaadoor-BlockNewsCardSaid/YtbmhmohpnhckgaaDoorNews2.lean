/- law05: BlockNews -/
import Derived.Test.YtbmhmohpnhckgaaDoorLaw05
namespace Go.Proofs.YtbmhmohpnhckgaaDoor
open Go.RowKit
set_option maxRecDepth 100000 in
set_option maxHeartbeats 16000000 in
theorem news_any (kind : Int) (A : Option Addr) (n c : Nat) (key : List UInt8) (wi : Bool) (w : World) (hn : n = key.length) (hr : Rd w A key) (hvar : ErrVar w) :
    Calls Tryd.prog 3 #[.int .i64 kind, .slice A n c, .bool wi] w fun e w' => e = .returned (.bool true) ∧ Below w.heap.size w w' := by
  have HN := Lib.hid hn
  clear hn
  by_cases hl : n ≤ 100
  · cases wi
    · rcases (show kind < 1 ∨ 3 < kind ∨ kind = 1 ∨ kind = 2 ∨ kind = 3 by omega) with h | h | rfl | rfl | rfl
      · -- lt
        go_enter Tryd.func3, Tryd.ntmps3
        go_wp2_with fail
        refine (awake_any w hvar).mono ?_
        rintro e w1 ⟨rfl, hB1⟩
        have hr1 := hr.below hB1
        have hvar1 := hvar.below hB1
        clear hr hvar
        go_wp2_with fail
        have hr2 := hr1
        have hvar2 := hvar1
        have hBw2 := hB1
        clear hr1 hvar1
        refine (new_kind kind A n c none _ (.inl (by omega))).mono ?_
        rintro e w3 ⟨rfl, hw3⟩
        obtain rfl := hw3.symm
        go_wp2_with fail
        refine (Code_any _ (.errno (n := 1)) hvar2).mono ?_
        rintro e w4 ⟨rfl, hB4⟩
        go_wp2_with fail
        go_ret
        exact ⟨rfl, below_mid hBw2 hB4 hBw2.size⟩
      · -- gt
        go_enter Tryd.func3, Tryd.ntmps3
        go_wp2_with fail
        refine (awake_any w hvar).mono ?_
        rintro e w1 ⟨rfl, hB1⟩
        have hr1 := hr.below hB1
        have hvar1 := hvar.below hB1
        clear hr hvar
        go_wp2_with fail
        have hr2 := hr1
        have hvar2 := hvar1
        have hBw2 := hB1
        clear hr1 hvar1
        refine (new_kind kind A n c none _ (.inl (by omega))).mono ?_
        rintro e w3 ⟨rfl, hw3⟩
        obtain rfl := hw3.symm
        go_wp2_with fail
        refine (Code_any _ (.errno (n := 1)) hvar2).mono ?_
        rintro e w4 ⟨rfl, hB4⟩
        go_wp2_with fail
        go_ret
        exact ⟨rfl, below_mid hBw2 hB4 hBw2.size⟩
      · -- 1
        cases hf : fitsK 1 n
        · -- no
          go_enter Tryd.func3, Tryd.ntmps3
          go_wp2_with fail
          refine (awake_any w hvar).mono ?_
          rintro e w1 ⟨rfl, hB1⟩
          have hr1 := hr.below hB1
          have hvar1 := hvar.below hB1
          clear hr hvar
          go_wp2_with fail
          have hr2 := hr1
          have hvar2 := hvar1
          have hBw2 := hB1
          clear hr1 hvar1
          refine (new_size 1 A n c none _ (.inl rfl) hf).mono ?_
          rintro e w3 ⟨rfl, hw3⟩
          obtain rfl := hw3.symm
          go_wp2_with fail
          refine (reffits_any 1 _ n rfl (by decide) _).mono ?_
          rintro e w5 ⟨rfl, hw5⟩
          obtain rfl := hw5.symm
          rw [hf]
          go_wp2_with fail
          refine (Code_any _ (.errno (n := 2)) hvar2).mono ?_
          rintro e w4 ⟨rfl, hB4⟩
          go_wp2_with fail
          go_ret
          exact ⟨rfl, below_mid hBw2 hB4 hBw2.size⟩
        · -- fits
          go_enter Tryd.func3, Tryd.ntmps3
          go_wp2_with fail
          refine (awake_any w hvar).mono ?_
          rintro e w1 ⟨rfl, hB1⟩
          have hr1 := hr.below hB1
          have hvar1 := hvar.below hB1
          clear hr hvar
          go_wp2_with fail
          have hr2 := hr1
          have hvar2 := hvar1
          have hBw2 := hB1
          clear hr1 hvar1
          refine (new_good 1 A n c key none _ HN.out hr2 (by have := HN.out; omega) (.inl rfl) hf).mono ?_
          rintro e w3 ⟨p, K, cK, rfl, hp, hK, hps, hKs, hB3⟩
          have hBw3 := below_mid hBw2 hB3 hBw2.size
          clear hK hKs hB3
          go_wp2_with fail
          refine (reffits_any 1 _ n rfl (by decide) _).mono ?_
          rintro e w5 ⟨rfl, hw5⟩
          obtain rfl := hw5.symm
          rw [hf]
          go_wp2_with fail
          refine (size_any p 1 _ _ _ hp).mono ?_
          rintro e w6 ⟨rfl, hw6⟩
          obtain rfl := hw6.symm
          go_wp2_with fail
          go_ret
          exact ⟨rfl, hBw3⟩
      · -- 2
        cases hf : fitsK 2 n
        · -- no
          go_enter Tryd.func3, Tryd.ntmps3
          go_wp2_with fail
          refine (awake_any w hvar).mono ?_
          rintro e w1 ⟨rfl, hB1⟩
          have hr1 := hr.below hB1
          have hvar1 := hvar.below hB1
          clear hr hvar
          go_wp2_with fail
          have hr2 := hr1
          have hvar2 := hvar1
          have hBw2 := hB1
          clear hr1 hvar1
          refine (new_size 2 A n c none _ (.inr (.inl rfl)) hf).mono ?_
          rintro e w3 ⟨rfl, hw3⟩
          obtain rfl := hw3.symm
          go_wp2_with fail
          refine (reffits_any 2 _ n rfl (by decide) _).mono ?_
          rintro e w5 ⟨rfl, hw5⟩
          obtain rfl := hw5.symm
          rw [hf]
          go_wp2_with fail
          refine (Code_any _ (.errno (n := 2)) hvar2).mono ?_
          rintro e w4 ⟨rfl, hB4⟩
          go_wp2_with fail
          go_ret
          exact ⟨rfl, below_mid hBw2 hB4 hBw2.size⟩
        · -- fits
          go_enter Tryd.func3, Tryd.ntmps3
          go_wp2_with fail
          refine (awake_any w hvar).mono ?_
          rintro e w1 ⟨rfl, hB1⟩
          have hr1 := hr.below hB1
          have hvar1 := hvar.below hB1
          clear hr hvar
          go_wp2_with fail
          have hr2 := hr1
          have hvar2 := hvar1
          have hBw2 := hB1
          clear hr1 hvar1
          refine (new_good 2 A n c key none _ HN.out hr2 (by have := HN.out; omega) (.inr (.inl rfl)) hf).mono ?_
          rintro e w3 ⟨p, K, cK, rfl, hp, hK, hps, hKs, hB3⟩
          have hBw3 := below_mid hBw2 hB3 hBw2.size
          clear hK hKs hB3
          go_wp2_with fail
          refine (reffits_any 2 _ n rfl (by decide) _).mono ?_
          rintro e w5 ⟨rfl, hw5⟩
          obtain rfl := hw5.symm
          rw [hf]
          go_wp2_with fail
          refine (size_any p 2 _ _ _ hp).mono ?_
          rintro e w6 ⟨rfl, hw6⟩
          obtain rfl := hw6.symm
          go_wp2_with fail
          go_ret
          exact ⟨rfl, hBw3⟩
      · -- 3
        go_enter Tryd.func3, Tryd.ntmps3
        go_wp2_with fail
        refine (awake_any w hvar).mono ?_
        rintro e w1 ⟨rfl, hB1⟩
        have hr1 := hr.below hB1
        have hvar1 := hvar.below hB1
        clear hr hvar
        go_wp2_with fail
        have hr2 := hr1
        have hvar2 := hvar1
        have hBw2 := hB1
        clear hr1 hvar1
        refine (new_kind 3 A n c none _ (.inr ⟨rfl, rfl⟩)).mono ?_
        rintro e w3 ⟨rfl, hw3⟩
        obtain rfl := hw3.symm
        go_wp2_with fail
        refine (Code_any _ (.errno (n := 1)) hvar2).mono ?_
        rintro e w4 ⟨rfl, hB4⟩
        go_wp2_with fail
        go_ret
        exact ⟨rfl, below_mid hBw2 hB4 hBw2.size⟩
    · rcases (show kind < 1 ∨ 3 < kind ∨ kind = 1 ∨ kind = 2 ∨ kind = 3 by omega) with h | h | rfl | rfl | rfl
      · -- lt
        go_enter Tryd.func3, Tryd.ntmps3
        go_wp2_with fail
        refine (awake_any w hvar).mono ?_
        rintro e w1 ⟨rfl, hB1⟩
        have hr1 := hr.below hB1
        have hvar1 := hvar.below hB1
        clear hr hvar
        go_wp2_with fail
        refine (book_any none 0 0 [] w1 rfl (Rd.nil _ _) (by decide)).mono ?_
        rintro e w2 ⟨pb, rfl, hbk, hB2⟩
        have hr2 := hr1.below hB2
        have hvar2 := hvar1.below hB2
        have hBw2 := below_mid hB1 hB2 hB1.size
        clear hr1 hvar1 hbk
        go_wp2_with fail
        refine (new_kind kind A n c (some ⟨pb, 0, none⟩) _ (.inl (by omega))).mono ?_
        rintro e w3 ⟨rfl, hw3⟩
        obtain rfl := hw3.symm
        go_wp2_with fail
        refine (Code_any _ (.errno (n := 1)) hvar2).mono ?_
        rintro e w4 ⟨rfl, hB4⟩
        go_wp2_with fail
        go_ret
        exact ⟨rfl, below_mid hBw2 hB4 hBw2.size⟩
      · -- gt
        go_enter Tryd.func3, Tryd.ntmps3
        go_wp2_with fail
        refine (awake_any w hvar).mono ?_
        rintro e w1 ⟨rfl, hB1⟩
        have hr1 := hr.below hB1
        have hvar1 := hvar.below hB1
        clear hr hvar
        go_wp2_with fail
        refine (book_any none 0 0 [] w1 rfl (Rd.nil _ _) (by decide)).mono ?_
        rintro e w2 ⟨pb, rfl, hbk, hB2⟩
        have hr2 := hr1.below hB2
        have hvar2 := hvar1.below hB2
        have hBw2 := below_mid hB1 hB2 hB1.size
        clear hr1 hvar1 hbk
        go_wp2_with fail
        refine (new_kind kind A n c (some ⟨pb, 0, none⟩) _ (.inl (by omega))).mono ?_
        rintro e w3 ⟨rfl, hw3⟩
        obtain rfl := hw3.symm
        go_wp2_with fail
        refine (Code_any _ (.errno (n := 1)) hvar2).mono ?_
        rintro e w4 ⟨rfl, hB4⟩
        go_wp2_with fail
        go_ret
        exact ⟨rfl, below_mid hBw2 hB4 hBw2.size⟩
      · -- 1
        cases hf : fitsK 1 n
        · -- no
          go_enter Tryd.func3, Tryd.ntmps3
          go_wp2_with fail
          refine (awake_any w hvar).mono ?_
          rintro e w1 ⟨rfl, hB1⟩
          have hr1 := hr.below hB1
          have hvar1 := hvar.below hB1
          clear hr hvar
          go_wp2_with fail
          refine (book_any none 0 0 [] w1 rfl (Rd.nil _ _) (by decide)).mono ?_
          rintro e w2 ⟨pb, rfl, hbk, hB2⟩
          have hr2 := hr1.below hB2
          have hvar2 := hvar1.below hB2
          have hBw2 := below_mid hB1 hB2 hB1.size
          clear hr1 hvar1 hbk
          go_wp2_with fail
          refine (new_size 1 A n c (some ⟨pb, 0, none⟩) _ (.inl rfl) hf).mono ?_
          rintro e w3 ⟨rfl, hw3⟩
          obtain rfl := hw3.symm
          go_wp2_with fail
          refine (reffits_any 1 _ n rfl (by decide) _).mono ?_
          rintro e w5 ⟨rfl, hw5⟩
          obtain rfl := hw5.symm
          rw [hf]
          go_wp2_with fail
          refine (Code_any _ (.errno (n := 2)) hvar2).mono ?_
          rintro e w4 ⟨rfl, hB4⟩
          go_wp2_with fail
          go_ret
          exact ⟨rfl, below_mid hBw2 hB4 hBw2.size⟩
        · -- fits
          go_enter Tryd.func3, Tryd.ntmps3
          go_wp2_with fail
          refine (awake_any w hvar).mono ?_
          rintro e w1 ⟨rfl, hB1⟩
          have hr1 := hr.below hB1
          have hvar1 := hvar.below hB1
          clear hr hvar
          go_wp2_with fail
          refine (book_any none 0 0 [] w1 rfl (Rd.nil _ _) (by decide)).mono ?_
          rintro e w2 ⟨pb, rfl, hbk, hB2⟩
          have hr2 := hr1.below hB2
          have hvar2 := hvar1.below hB2
          have hBw2 := below_mid hB1 hB2 hB1.size
          clear hr1 hvar1 hbk
          go_wp2_with fail
          refine (new_good 1 A n c key (some ⟨pb, 0, none⟩) _ HN.out hr2 (by have := HN.out; omega) (.inl rfl) hf).mono ?_
          rintro e w3 ⟨p, K, cK, rfl, hp, hK, hps, hKs, hB3⟩
          have hBw3 := below_mid hBw2 hB3 hBw2.size
          clear hK hKs hB3
          go_wp2_with fail
          refine (reffits_any 1 _ n rfl (by decide) _).mono ?_
          rintro e w5 ⟨rfl, hw5⟩
          obtain rfl := hw5.symm
          rw [hf]
          go_wp2_with fail
          refine (size_any p 1 _ _ _ hp).mono ?_
          rintro e w6 ⟨rfl, hw6⟩
          obtain rfl := hw6.symm
          go_wp2_with fail
          go_ret
          exact ⟨rfl, hBw3⟩
      · -- 2
        cases hf : fitsK 2 n
        · -- no
          go_enter Tryd.func3, Tryd.ntmps3
          go_wp2_with fail
          refine (awake_any w hvar).mono ?_
          rintro e w1 ⟨rfl, hB1⟩
          have hr1 := hr.below hB1
          have hvar1 := hvar.below hB1
          clear hr hvar
          go_wp2_with fail
          refine (book_any none 0 0 [] w1 rfl (Rd.nil _ _) (by decide)).mono ?_
          rintro e w2 ⟨pb, rfl, hbk, hB2⟩
          have hr2 := hr1.below hB2
          have hvar2 := hvar1.below hB2
          have hBw2 := below_mid hB1 hB2 hB1.size
          clear hr1 hvar1 hbk
          go_wp2_with fail
          refine (new_size 2 A n c (some ⟨pb, 0, none⟩) _ (.inr (.inl rfl)) hf).mono ?_
          rintro e w3 ⟨rfl, hw3⟩
          obtain rfl := hw3.symm
          go_wp2_with fail
          refine (reffits_any 2 _ n rfl (by decide) _).mono ?_
          rintro e w5 ⟨rfl, hw5⟩
          obtain rfl := hw5.symm
          rw [hf]
          go_wp2_with fail
          refine (Code_any _ (.errno (n := 2)) hvar2).mono ?_
          rintro e w4 ⟨rfl, hB4⟩
          go_wp2_with fail
          go_ret
          exact ⟨rfl, below_mid hBw2 hB4 hBw2.size⟩
        · -- fits
          go_enter Tryd.func3, Tryd.ntmps3
          go_wp2_with fail
          refine (awake_any w hvar).mono ?_
          rintro e w1 ⟨rfl, hB1⟩
          have hr1 := hr.below hB1
          have hvar1 := hvar.below hB1
          clear hr hvar
          go_wp2_with fail
          refine (book_any none 0 0 [] w1 rfl (Rd.nil _ _) (by decide)).mono ?_
          rintro e w2 ⟨pb, rfl, hbk, hB2⟩
          have hr2 := hr1.below hB2
          have hvar2 := hvar1.below hB2
          have hBw2 := below_mid hB1 hB2 hB1.size
          clear hr1 hvar1 hbk
          go_wp2_with fail
          refine (new_good 2 A n c key (some ⟨pb, 0, none⟩) _ HN.out hr2 (by have := HN.out; omega) (.inr (.inl rfl)) hf).mono ?_
          rintro e w3 ⟨p, K, cK, rfl, hp, hK, hps, hKs, hB3⟩
          have hBw3 := below_mid hBw2 hB3 hBw2.size
          clear hK hKs hB3
          go_wp2_with fail
          refine (reffits_any 2 _ n rfl (by decide) _).mono ?_
          rintro e w5 ⟨rfl, hw5⟩
          obtain rfl := hw5.symm
          rw [hf]
          go_wp2_with fail
          refine (size_any p 2 _ _ _ hp).mono ?_
          rintro e w6 ⟨rfl, hw6⟩
          obtain rfl := hw6.symm
          go_wp2_with fail
          go_ret
          exact ⟨rfl, hBw3⟩
      · -- 3
        cases hf : fitsK 3 n
        · -- no
          go_enter Tryd.func3, Tryd.ntmps3
          go_wp2_with fail
          refine (awake_any w hvar).mono ?_
          rintro e w1 ⟨rfl, hB1⟩
          have hr1 := hr.below hB1
          have hvar1 := hvar.below hB1
          clear hr hvar
          go_wp2_with fail
          refine (book_any none 0 0 [] w1 rfl (Rd.nil _ _) (by decide)).mono ?_
          rintro e w2 ⟨pb, rfl, hbk, hB2⟩
          have hr2 := hr1.below hB2
          have hvar2 := hvar1.below hB2
          have hBw2 := below_mid hB1 hB2 hB1.size
          clear hr1 hvar1 hbk
          go_wp2_with fail
          refine (new_size 3 A n c (some ⟨pb, 0, none⟩) _ (.inr (.inr ⟨rfl, by simp⟩)) hf).mono ?_
          rintro e w3 ⟨rfl, hw3⟩
          obtain rfl := hw3.symm
          go_wp2_with fail
          refine (reffits_any 3 _ n rfl (by decide) _).mono ?_
          rintro e w5 ⟨rfl, hw5⟩
          obtain rfl := hw5.symm
          rw [hf]
          go_wp2_with fail
          refine (Code_any _ (.errno (n := 2)) hvar2).mono ?_
          rintro e w4 ⟨rfl, hB4⟩
          go_wp2_with fail
          go_ret
          exact ⟨rfl, below_mid hBw2 hB4 hBw2.size⟩
        · -- fits
          go_enter Tryd.func3, Tryd.ntmps3
          go_wp2_with fail
          refine (awake_any w hvar).mono ?_
          rintro e w1 ⟨rfl, hB1⟩
          have hr1 := hr.below hB1
          have hvar1 := hvar.below hB1
          clear hr hvar
          go_wp2_with fail
          refine (book_any none 0 0 [] w1 rfl (Rd.nil _ _) (by decide)).mono ?_
          rintro e w2 ⟨pb, rfl, hbk, hB2⟩
          have hr2 := hr1.below hB2
          have hvar2 := hvar1.below hB2
          have hBw2 := below_mid hB1 hB2 hB1.size
          clear hr1 hvar1 hbk
          go_wp2_with fail
          refine (new_good 3 A n c key (some ⟨pb, 0, none⟩) _ HN.out hr2 (by have := HN.out; omega) (.inr (.inr ⟨rfl, by simp⟩)) hf).mono ?_
          rintro e w3 ⟨p, K, cK, rfl, hp, hK, hps, hKs, hB3⟩
          have hBw3 := below_mid hBw2 hB3 hBw2.size
          clear hK hKs hB3
          go_wp2_with fail
          refine (reffits_any 3 _ n rfl (by decide) _).mono ?_
          rintro e w5 ⟨rfl, hw5⟩
          obtain rfl := hw5.symm
          rw [hf]
          go_wp2_with fail
          refine (size_any p 3 _ _ _ hp).mono ?_
          rintro e w6 ⟨rfl, hw6⟩
          obtain rfl := hw6.symm
          go_wp2_with fail
          go_ret
          exact ⟨rfl, hBw3⟩
  · go_enter Tryd.func3, Tryd.ntmps3
    go_wp2_with fail
    refine (awake_any w hvar).mono ?_
    rintro e w1 ⟨rfl, hB1⟩
    have hvar1 := hvar.below hB1
    go_wp2_with fail
    refine (awake_any w1 hvar1).mono ?_
    rintro e w2 ⟨rfl, hB2⟩
    go_wp2_with fail
    go_ret
    exact ⟨rfl, below_mid hB1 hB2 hB1.size⟩
end Go.Proofs.YtbmhmohpnhckgaaDoor
