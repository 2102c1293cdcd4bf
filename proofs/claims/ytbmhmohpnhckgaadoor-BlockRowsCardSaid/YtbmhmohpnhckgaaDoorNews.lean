/- ref02.Same, ref05.Fits -/
import Derived.Test.YtbmhmohpnhckgaaDoorBook
import Derived.Deep.LoopGhost
import Derived.Deep.QuietTactic
import Derived.BigQuiet
namespace Go.Proofs.YtbmhmohpnhckgaaDoor
open Go.RowKit
set_option maxRecDepth 100000 in
theorem reffits_any (kind : Int) (n : Int) (m : Nat) (hn : n = m) (hk : kind = 1 ∨ kind = 2 ∨ kind = 3) (w : World) :
    Calls Tryd.prog 13 #[.int .i64 kind, .int .i64 n] w fun e w' => e = .returned (.bool (fitsK kind m)) ∧ w' = w := by
  subst hn
  have b1 : ((m : Int) == 16) = (m == 16) := by rw [Bool.eq_iff_iff]; simp; omega
  have b2 : ((m : Int) == 24) = (m == 24) := by rw [Bool.eq_iff_iff]; simp; omega
  have b3 : ((m : Int) == 32) = (m == 32) := by rw [Bool.eq_iff_iff]; simp; omega
  have b4 : ((m : Int) == 8) = (m == 8) := by rw [Bool.eq_iff_iff]; simp; omega
  have b5 : (decide ((1 : Int) ≤ (m : Int))) = decide (1 ≤ m) := by rw [Bool.eq_iff_iff]; simp; omega
  have b6 : (decide ((m : Int) ≤ 32)) = decide (m ≤ 32) := by rw [Bool.eq_iff_iff]; simp; omega
  rcases hk with rfl | rfl | rfl
  · go_enter Tryd.func13, Tryd.ntmps13
    generalize hr : fitsK 1 m = r
    go_wp2_with fail
    all_goals (go_ret; subst hr; refine ⟨?_, rfl⟩; congr 1 <;> (unfold fitsK; simp_all))
  · go_enter Tryd.func13, Tryd.ntmps13
    generalize hr : fitsK 2 m = r
    go_wp2_with fail
    all_goals (go_ret; subst hr; refine ⟨?_, rfl⟩; congr 1 <;> (unfold fitsK; simp_all))
  · go_enter Tryd.func13, Tryd.ntmps13
    generalize hr : fitsK 3 m = r
    go_wp2_with fail
    all_goals (go_ret; subst hr; refine ⟨?_, rfl⟩; congr 1 <;> (unfold fitsK; simp_all))
set_option maxRecDepth 100000 in
set_option maxHeartbeats 1000000 in
theorem same_any (A B : Option Addr) (n k c d : Nat) (l m : List UInt8) (hn : n = l.length) (hk : k = m.length) (w : World) (hA : Rd w A l) (hB : Rd w B m) (hmax : l.length ≤ 140737488355328) :
    Calls Tryd.prog 18 #[.slice A n c, .slice B k d] w fun e w' => e = .returned (.bool (l == m)) ∧ ∃ q, w' = w.drewN q := by
  have HN := Lib.hid hn
  have HK := Lib.hid hk
  have hmax' : n ≤ 140737488355328 := by omega
  clear hn hk hmax
  by_cases hnk : n = k
  · subst hnk
    go_enter Tryd.func18, Tryd.ntmps18
    go_wp2_with fail
    go_loopg [5] n (fun gq s5 wr => ∃ j q : Nat, j ≤ n ∧ gq = n - j ∧ s5 = .int .i64 (j : Int) ∧ wr = w.drewN q ∧ Hid (∀ i, i < j → l[i]? = m[i]?))
    case atStart => exact ⟨0, 0, by omega, by omega, rfl, rfl, fun i h => by omega⟩
    case round =>
      obtain ⟨j, q, hj, hgk, rfl, rfl, hall⟩ := hrel
      have HG := Lib.hid hgk
      clear hgk
      by_cases hlt : j < n
      · obtain ⟨bA, oA, rfl, hbA, hcA⟩ := hA.open_ (by have := HN.out; omega)
        obtain ⟨bB, oB, rfl, hbB, hcB⟩ := hB.open_ (by have := HK.out; omega)
        have f1 := hcA j (by have := HN.out; omega)
        have f2 := hcB j (by have := HK.out; omega)
        obtain ⟨x, hx⟩ : ∃ x, x = l[j]?.getD 0 := ⟨_, rfl⟩
        obtain ⟨y, hy⟩ : ∃ y, y = m[j]?.getD 0 := ⟨_, rfl⟩
        rw [← hx] at f1
        rw [← hy] at f2
        have hx' : l[j]? = some x := by rw [hx, List.getElem?_eq_getElem (by have := HN.out; omega)]; rfl
        have hy' : m[j]? = some y := by rw [hy, List.getElem?_eq_getElem (by have := HK.out; omega)]; rfl
        have HXX := Lib.hid hx'
        have HYY := Lib.hid hy'
        clear hx hy hx' hy' hcA hcB
        by_cases hxy : x = y
        · subst hxy
          have hnx : Hid (∀ i, i < j + 1 → l[i]? = m[i]?) := fun i hi => by
            by_cases e : i = j
            · subst e; rw [HXX.out, HYY.out]
            · exact hall.out i (by omega)
          go_wp2_with fail
          go_quiet (fail)
          go_wp2_with fail
          go_roundg (n - (j + 1))
          case measure => have := HG.out; omega
          case rel => exact ⟨j + 1, q + nq, by omega, rfl, by go_num, by first | rfl | exact (World.drewN_drewN _ _ _) | simp [World.drewN, Nat.add_assoc], hnx⟩
        · have hne : Hid ((l == m) = false) := by
            show _ = _
            rw [beq_eq_false_iff_ne]
            rintro rfl
            have := HXX.out.symm.trans HYY.out
            exact hxy (Option.some.inj this)
          have hb : ((x.toNat : Int) == (y.toNat : Int)) = false := by
            rw [beq_eq_false_iff_ne]
            intro e
            exact hxy (UInt8.toNat_inj.1 (by omega))
          go_wp2_with fail
          go_quiet (fail)
          go_wp2_with fail
          go_ret
          exact ⟨by rw [hne.out]; rfl, q + nq, by first | rfl | exact (World.drewN_drewN _ _ _) | simp [World.drewN, Nat.add_assoc]⟩
      · have heq : Hid ((l == m) = true) := by
          show _ = _
          rw [beq_iff_eq]
          apply List.ext_getElem?
          intro i
          by_cases hi : i < j
          · exact hall.out i hi
          · rw [List.getElem?_eq_none (by have := HN.out; omega), List.getElem?_eq_none (by have := HK.out; omega)]
        go_wp2_with fail
        go_ret
        exact ⟨by rw [heq.out]; rfl, _, rfl⟩
  · have hne : Hid ((l == m) = false) := by
      show _ = _
      rw [beq_eq_false_iff_ne]
      rintro rfl
      exact hnk (HN.out.trans HK.out.symm)
    go_enter Tryd.func18, Tryd.ntmps18
    go_wp2_with fail
    go_ret
    exact ⟨by rw [hne.out]; rfl, 0, rfl⟩
end Go.Proofs.YtbmhmohpnhckgaaDoor
