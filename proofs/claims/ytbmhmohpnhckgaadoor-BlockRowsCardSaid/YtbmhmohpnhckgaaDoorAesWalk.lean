import Derived.Test.YtbmhmohpnhckgaaDoorProg
import Derived.Test.YtbmhmohpnhckgaaDoorGfWalk
import Derived.Test.YtbmhmohpnhckgaaDoorAesPlain
import Derived.Test.YtbmhmohpnhckgaaDoorMem
import Derived.WalkKit
import Derived.RegionTactic
import Derived.BigRegion
import Derived.Deep.WholeRow
import Derived.StillTailTactics
import Derived.Deep.RegionHeld3
import Derived.Deep.RegionLaw
import Derived.Deep.AppendLies
import Derived.Deep.QuietTactic
import Derived.BigQuiet
import Derived.KernelRfl
namespace Go.Proofs.YtbmhmohpnhckgaaDoor
open Go.RowKit Lb
theorem tab_cell {w : World} {g : Nat} {t : TypeId} {n : Nat} {F : St} (h : Blk w g t (cs (tab n F))) (i : Nat) (hi : i < n) : w.cell? ⟨g, i, none⟩ = some (.int .u8 (F i).toNat) := by
  rw [h.cell, cs_get, tab_get _ _ _ hi]; rfl
theorem blk_upto {w : World} {g : Nat} {t : TypeId} {n : Nat} {new old : St} {k : Nat} (h : Blk w g t (cs (tab n (upto k new old)))) (v : Int) (e : v = ((new k).toNat : Int)) :
    Blk (w.setCell ⟨g, k, none⟩ (.int .u8 v)) g t (cs (tab n (upto (k + 1) new old))) := by
  subst e
  have := h.set_ k (bv (new k))
  rw [cs_set, upto_step] at this
  exact this
set_option maxRecDepth 100000 in
set_option maxHeartbeats 1000000 in
theorem aeswith_any (g : Nat) (F : St) (A : Option Addr) (ws : List UInt8) (c : Nat) (round : Nat) (r : Int) (hr : r = round) (hlen : 16 * round + 16 ≤ ws.length) (hmax : ws.length ≤ 1000) (w : World)
    (hb : Blk w g 41 (cs (tab 16 F))) (hw : Rd w A ws) (hne : ∀ ad, A = some ad → ad.block ≠ g) :
    Calls Tryd.prog 60 #[.pointer (some ⟨g, 0, none⟩), .slice A ws.length c, .int .i64 r] w fun e w' => e = .returned (.tuple #[]) ∧ Blk w' g 41 (cs (tab 16 (withK F ws round))) ∧ w.grownBy w' (some g) := by
  subst hr
  obtain ⟨bl, off, rfl, hlt, hc⟩ := hw.open_ (by omega)
  have hag := hne _ rfl
  simp only at hag
  clear hne hw
  go_enter Tryd.func60, Tryd.ntmps60
  go_wp2
  go_loopw [7, 6] (fun s7 _ wr => ∃ k : Nat, k ≤ 16 ∧ s7 = .int .i64 k ∧ Blk wr g 41 (cs (tab 16 (upto k (withK F ws round) F))) ∧ w.grownBy wr (some g))
    (fun s7 _ _ => 16 - (intOf s7).toNat)
  case atStart => exact ⟨0, by omega, rfl, by rw [upto_0]; exact hb, only_refl _ _⟩
  case round =>
    obtain ⟨k, hk, rfl, hB, hG⟩ := hrel
    by_cases hlt : k < 16
    · have c1 := tab_cell hB k hlt
      have f1 := hB.frozen k
      have c2 := only_cell hG hag (hc (16 * round + k) (by omega))
      clear hc
      go_wp2
      go_region
      go_wp2
      go_roundw
      case rel => exact ⟨k + 1, by omega, by go_num, (blk_upto hB _ (by rw [upto_at, u8_bits_xor]; rfl)).drew, only_drew (only_setCell hG (.inl rfl) _)⟩
      case measure => simp [intOf]; omega
    · obtain rfl : k = 16 := by omega
      go_wp2
      go_end0
      exact ⟨rfl, by rw [upto_all] at hB; exact hB, hG⟩
theorem info16 : (Tryd.prog.info? 41).map (·.size) = some 16 := by kernel_rfl
theorem size16 (F : St) : (Tryd.prog.info? 41).map (·.size) = some (cs (tab 16 F)).size := by rw [info16, cs_size, tab_length]
set_option maxRecDepth 100000 in
set_option maxHeartbeats 1000000 in
theorem aesrows_any (g : Nat) (F : St) (times : Nat) (r : Int) (hr : r = times) (ht : times = 1 ∨ times = 3) (w : World)
    (hb : Blk w g 41 (cs (tab 16 F))) :
    Calls Tryd.prog 62 #[.pointer (some ⟨g, 0, none⟩), .int .i64 r] w fun e w' => e = .returned (.tuple #[]) ∧ Blk w' g 41 (cs (tab 16 (rowsK F times))) ∧ w.grownBy w' (some g) := by
  subst hr
  have hg := hb.lt
  go_enter Tryd.func62, Tryd.ntmps62
  go_wp2_with (first
    | (refine wpList_load_row rfl 41 _ rfl g rfl 41 _ (0, 0) _ hb Tryd.underlying41 rfl (size16 F) ?_)
    | (refine wpList_store_new rfl 41 _ _ rfl (cs (tab 16 F)) _ (by first | rfl | simp) rfl rfl 41 _ (size16 F) (by rw [cs_size, tab_length]; rfl) (one_cs _) ?_))
  go_loopw [10, 5, 6] (fun s10 _ _ wr => ∃ k : Nat, k ≤ 16 ∧ s10 = .int .i64 k ∧ Blk wr g 41 (cs (tab 16 (upto k (rowsK F times) F))) ∧ Blk wr w.heap.size 41 (cs (tab 16 F)) ∧ w.grownBy wr (some g))
    (fun s10 _ _ _ => 16 - (intOf s10).toNat)
  case atStart => exact ⟨0, by omega, rfl, by rw [upto_0]; exact hb.alloc _, Blk.new _ _ _, only_alloc (only_refl _ _) _⟩
  case round =>
    obtain ⟨k, hk, rfl, hB, hN, hG⟩ := hrel
    by_cases hlt : k < 16
    · have f1 := hB.frozen k
      have c1 := tab_cell hB k hlt
      rcases ht with rfl | rfl
      · have c2 := tab_cell hN ((k + 4 * (k % 4)) % 16) (by omega)
        go_wp2
        go_region
        go_wp2
        go_roundw
        case rel => exact ⟨k + 1, by omega, by go_num, (blk_upto hB _ (by unfold rowsK; rw [Nat.mul_one])).drew, (hN.far (p := ⟨g, k, none⟩) (by simp only; omega) _).drew, only_drew (only_setCell hG (.inl rfl) _)⟩
        case measure => simp [intOf]; omega
      · have c2 := tab_cell hN ((k + 4 * (k % 4) * 3) % 16) (by omega)
        go_wp2
        go_region
        go_wp2
        go_roundw
        case rel => exact ⟨k + 1, by omega, by go_num, (blk_upto hB _ rfl).drew, (hN.far (p := ⟨g, k, none⟩) (by simp only; omega) _).drew, only_drew (only_setCell hG (.inl rfl) _)⟩
        case measure => simp [intOf]; omega
    · obtain rfl : k = 16 := by omega
      go_wp2
      go_end0
      exact ⟨rfl, by rw [upto_all] at hB; exact hB, hG⟩
set_option maxRecDepth 100000 in
set_option maxHeartbeats 1000000 in
theorem aesboxes_gbox (g : Nat) (F : St) (w : World)
    (hb : Blk w g 41 (cs (tab 16 F))) :
    Calls Tryd.prog 63 #[.pointer (some ⟨g, 0, none⟩), .func (.func 65) #[] #[]] w fun e w' => e = .returned (.tuple #[]) ∧ Blk w' g 41 (cs (tab 16 (boxesK F gbox))) ∧ w.grownBy w' (some g) := by
  have hg := hb.lt
  go_enter Tryd.func63, Tryd.ntmps63
  go_wp2_with fail
  go_loopw [5, 4] (fun s5 _ wr => ∃ k : Nat, k ≤ 16 ∧ s5 = .int .i64 k ∧ Blk wr g 41 (cs (tab 16 (upto k (boxesK F gbox) F))) ∧ w.grownBy wr (some g))
    (fun s5 _ _ => 16 - (intOf s5).toNat)
  case atStart => exact ⟨0, by omega, rfl, by rw [upto_0]; exact hb, only_refl _ _⟩
  case round =>
    obtain ⟨k, hk, rfl, hB, hG⟩ := hrel
    by_cases hlt : k < 16
    · have f1 := hB.frozen k
      have c1 := tab_cell hB k hlt
      rw [upto_at] at c1
      go_wp2_with fail
      go_region_law (first
        | (go_simp; go_at_call 65; refine (gfbox_any (F k) _ rfl _).mono ?_; rintro e w' ⟨rfl, m, rfl⟩))
      go_wp2_with fail
      go_roundw
      case rel => exact ⟨k + 1, by omega, by go_num, blk_upto (hB.drewN _) _ rfl, only_setCell (only_drewN hG _) (.inl rfl) _⟩
      case measure => simp [intOf]; omega
    · obtain rfl : k = 16 := by omega
      go_wp2_with fail
      go_end0
      exact ⟨rfl, by rw [upto_all] at hB; exact hB, hG⟩
set_option maxRecDepth 100000 in
set_option maxHeartbeats 1000000 in
theorem aesboxes_gunbox (g : Nat) (F : St) (w : World)
    (hb : Blk w g 41 (cs (tab 16 F))) :
    Calls Tryd.prog 63 #[.pointer (some ⟨g, 0, none⟩), .func (.func 64) #[] #[]] w fun e w' => e = .returned (.tuple #[]) ∧ Blk w' g 41 (cs (tab 16 (boxesK F gunbox))) ∧ w.grownBy w' (some g) := by
  have hg := hb.lt
  go_enter Tryd.func63, Tryd.ntmps63
  go_wp2_with fail
  go_loopw [5, 4] (fun s5 _ wr => ∃ k : Nat, k ≤ 16 ∧ s5 = .int .i64 k ∧ Blk wr g 41 (cs (tab 16 (upto k (boxesK F gunbox) F))) ∧ w.grownBy wr (some g))
    (fun s5 _ _ => 16 - (intOf s5).toNat)
  case atStart => exact ⟨0, by omega, rfl, by rw [upto_0]; exact hb, only_refl _ _⟩
  case round =>
    obtain ⟨k, hk, rfl, hB, hG⟩ := hrel
    by_cases hlt : k < 16
    · have f1 := hB.frozen k
      have c1 := tab_cell hB k hlt
      rw [upto_at] at c1
      go_wp2_with fail
      go_region_law (first
        | (go_simp; go_at_call 64; refine (gfunbox_any (F k) _ rfl _).mono ?_; rintro e w' ⟨rfl, m, rfl⟩))
      go_wp2_with fail
      go_roundw
      case rel => exact ⟨k + 1, by omega, by go_num, blk_upto (hB.drewN _) _ rfl, only_setCell (only_drewN hG _) (.inl rfl) _⟩
      case measure => simp [intOf]; omega
    · obtain rfl : k = 16 := by omega
      go_wp2_with fail
      go_end0
      exact ⟨rfl, by rw [upto_all] at hB; exact hB, hG⟩
theorem blk_midStart {w : World} {g : Nat} {t : TypeId} {n : Nat} {new old : St} {k : Nat} (h : Blk w g t (cs (tab n (upto k new old)))) (x : UInt8) (v : Int) (e : v = (x.toNat : Int)) :
    Blk (w.setCell ⟨g, k, none⟩ (.int .u8 v)) g t (cs (tab n (mid k x new old))) := by
  subst e
  have := h.set_ k (bv x)
  rw [cs_set, mid_start] at this
  exact this
theorem blk_midStep {w : World} {g : Nat} {t : TypeId} {n : Nat} {new old : St} {k : Nat} {x : UInt8} (h : Blk w g t (cs (tab n (mid k x new old)))) (y : UInt8) (v : Int) (e : v = (y.toNat : Int)) :
    Blk (w.setCell ⟨g, k, none⟩ (.int .u8 v)) g t (cs (tab n (mid k y new old))) := by
  subst e
  have := h.set_ k (bv y)
  rw [cs_set, mid_step] at this
  exact this
end Go.Proofs.YtbmhmohpnhckgaaDoor
