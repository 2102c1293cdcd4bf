import Derived.Test.YtbmhmohpnhckgaaDoorProg
import Derived.Test.YtbmhmohpnhckgaaDoorGfPlain
import Derived.Test.YtbmhmohpnhckgaaDoorMem
import Derived.WalkKit
import Derived.Laws.BitsLemmas
import Derived.Laws.BitsAllLaws
import Derived.Lib.Hide
import Derived.KernelRfl
import Derived.Deep.QuietTactic
import Derived.BigQuiet
namespace Go.Proofs.YtbmhmohpnhckgaaDoor
open Go.RowKit Lb
theorem mulGo_eq (n : Nat) (x y o : UInt8) : mulGo (n+1) x y o = mulGo n (xt x) (y >>> 1) (if y &&& 1 = 1 then o ^^^ x else o) := rfl
theorem u8_shl1 (a : UInt8) : ((a.toNat : Int) * (2 : Int)) % (256 : Int) = ((a <<< 1).toNat : Int) := by
  have : (a <<< 1).toNat = a.toNat * 2 % 256 := by
    rw [UInt8.toNat_shiftLeft]; simp [Nat.shiftLeft_eq]
  rw [this]; omega
theorem u8_shr1 (a : UInt8) : (a.toNat : Int) / (2 : Int) = ((a >>> 1).toNat : Int) := by
  have : (a >>> 1).toNat = a.toNat / 2 := by
    rw [UInt8.toNat_shiftRight]; simp [Nat.shiftRight_eq_div_pow]
  rw [this]; omega

theorem toNat_inj {a b : UInt8} : ((a.toNat : Int) = (b.toNat : Int)) ↔ a = b := by
  constructor
  · intro h; exact UInt8.toNat_inj.1 (by omega)
  · intro h; rw [h]
theorem u8_and1_eq (q : UInt8) : (bits .and .u8 (q.toNat : Int) 1 == 1) = decide (q &&& 1 = 1) := by
  have h := u8_bits_and q 1
  have e : ((1 : UInt8).toNat : Int) = 1 := rfl
  rw [e] at h; rw [h, Bool.eq_iff_iff]
  simp only [beq_iff_eq, decide_eq_true_eq]
  exact toNat_inj (b := 1)
theorem u8_and128_ne (q : UInt8) : (bits .and .u8 (q.toNat : Int) 128 != 0) = !decide (q &&& 128 = 0) := by
  have h := u8_bits_and q 128
  have e : ((128 : UInt8).toNat : Int) = 128 := rfl
  rw [e] at h; rw [h, Bool.eq_iff_iff]
  simp only [bne_iff_ne, ne_eq, Bool.not_eq_true', decide_eq_false_iff_not]
  exact not_congr (toNat_inj (b := 0))
theorem xt_1 (p : UInt8) (h : (bits .and .u8 (p.toNat : Int) 128 != 0) = true) : Value.int .u8 (bits .xor .u8 ((p.toNat : Int) * 2 % 256) 27) = .int .u8 ((xt p).toNat : Int) := by
  rw [u8_and128_ne] at h
  simp only [Bool.not_eq_true', decide_eq_false_iff_not] at h
  unfold xt; rw [if_neg h, u8_shl1]
  exact congrArg _ (u8_bits_xor (p <<< 1) 27)
theorem xt_0 (p : UInt8) (h : (bits .and .u8 (p.toNat : Int) 128 != 0) = false) : Value.int .u8 ((p.toNat : Int) * 2 % 256) = .int .u8 ((xt p).toNat : Int) := by
  rw [u8_and128_ne] at h
  simp only [Bool.not_eq_false', decide_eq_true_eq] at h
  unfold xt; rw [if_pos h, u8_shl1]
theorem ou_1 (q o p : UInt8) (h : (bits .and .u8 (q.toNat : Int) 1 == 1) = true) : Value.int .u8 (bits .xor .u8 (o.toNat : Int) (p.toNat : Int)) = .int .u8 ((if q &&& 1 = 1 then o ^^^ p else o).toNat : Int) := by
  rw [u8_and1_eq] at h
  simp only [decide_eq_true_eq] at h
  rw [if_pos h, u8_bits_xor]
theorem ou_0 (q o p : UInt8) (h : (bits .and .u8 (q.toNat : Int) 1 == 1) = false) : Value.int .u8 (o.toNat : Int) = .int .u8 ((if q &&& 1 = 1 then o ^^^ p else o).toNat : Int) := by
  rw [u8_and1_eq] at h
  simp only [decide_eq_false_iff_not] at h
  rw [if_neg h]
theorem mulGo_step (k : Nat) (hk : k < 8) (p q o r : UInt8) (H : Hid (mulGo (8 - k) p q o = r)) : Hid (mulGo (8 - (k + 1)) (xt p) (q >>> 1) (if q &&& 1 = 1 then o ^^^ p else o) = r) := by
  have e : 8 - k = (8 - (k + 1)) + 1 := by omega
  have h := H.out
  rw [e, mulGo_eq] at h; exact h
set_option maxHeartbeats 1000000 in
theorem gfmul_any (x y : UInt8) (a b : Int) (ha : a = x.toNat) (hb : b = y.toNat) (w : World) :
    Calls Tryd.prog 77 #[.int .u8 a, .int .u8 b] w fun e w' => e = .returned (.int .u8 (gmul x y).toNat) ∧ w = w' := by
  subst ha hb
  go_enter Tryd.func77, Tryd.ntmps77
  go_wp2
  go_loop [0, 1, 5, 7] (fun s0 s1 s5 s7 => ∃ (k : Nat) (p q o : UInt8), k ≤ 8 ∧ s0 = .int .u8 p.toNat ∧ s1 = .int .u8 q.toNat ∧ s5 = .int .u8 o.toNat ∧ s7 = .int .i64 k ∧ Hid (mulGo (8 - k) p q o = gmul x y))
    (fun _ _ _ s7 => 8 - (intOf s7).toNat)
  case atStart => exact ⟨0, x, y, 0, by omega, rfl, rfl, rfl, rfl, rfl⟩
  case round =>
    obtain ⟨k, p, q, o, hk, rfl, rfl, rfl, rfl, H⟩ := hrel
    go_wp2
    iterate 4
      · have hlt : (k : Int) < 8 := by assumption
        go_round
        case rel => exact ⟨k + 1, xt p, q >>> 1, (if q &&& 1 = 1 then o ^^^ p else o), by omega, by first | exact xt_1 p (by assumption) | exact xt_0 p (by assumption), congrArg _ (u8_shr1 q),
            by first | exact ou_1 q o p (by assumption) | exact ou_0 q o p (by assumption), by go_num, mulGo_step k (by omega) p q o _ H⟩
        case measure => simp [intOf]; omega
    · have hge : (8 : Int) ≤ k := by assumption
      have e8 : 8 - k = 0 := by omega
      have h := H.out
      rw [e8] at h
      go_ret
      exact ⟨by rw [← h]; rfl, rfl⟩


theorem invGo_step (k : Nat) (hk : k < 7) (p o r : UInt8) (H : Hid (invGo (7 - k) p o = r)) : Hid (invGo (7 - (k + 1)) (gmul p p) (gmul o (gmul p p)) = r) := by
  have e : 7 - k = (7 - (k + 1)) + 1 := by omega
  have h := H.out
  rw [e] at h; exact h
set_option maxHeartbeats 1000000 in
theorem gfinv_any (x : UInt8) (a : Int) (ha : a = x.toNat) (w : World) :
    Calls Tryd.prog 78 #[.int .u8 a] w fun e w' => e = .returned (.int .u8 (ginv x).toNat) ∧ w = w' := by
  subst ha
  go_enter Tryd.func78, Tryd.ntmps78
  go_wp2_with fail
  go_loop [0, 3, 4] (fun s0 s3 s4 => ∃ (k : Nat) (p o : UInt8), k ≤ 7 ∧ s0 = .int .u8 p.toNat ∧ s3 = .int .u8 o.toNat ∧ s4 = .int .i64 k ∧ Hid (invGo (7 - k) p o = ginv x))
    (fun _ _ s4 => 7 - (intOf s4).toNat)
  case atStart => exact ⟨0, x, 1, by omega, rfl, rfl, rfl, rfl⟩
  case round =>
    obtain ⟨k, p, o, hk, rfl, rfl, rfl, H⟩ := hrel
    by_cases hlt : k < 7
    · go_wp2_with fail
      refine (gfmul_any p p _ _ rfl rfl _).mono ?_
      rintro e w' ⟨rfl, rfl⟩
      go_wp2_with fail
      refine (gfmul_any o (gmul p p) _ _ rfl rfl _).mono ?_
      rintro e w' ⟨rfl, rfl⟩
      go_wp2_with fail
      go_round
      case rel => exact ⟨k + 1, _, _, by omega, rfl, rfl, by go_num, invGo_step k hlt p o _ H⟩
      case measure => simp [intOf]; omega
    · have e7 : 7 - k = 0 := by omega
      have h := H.out
      rw [e7] at h
      have HH := Lib.hid h
      clear h e7
      go_wp2_with fail
      go_ret
      exact ⟨by rw [← HH.out]; rfl, rfl⟩
theorem rotl_int (x : UInt8) (n : Nat) : bits .or .u8 ((x.toNat : Int) * 2 ^ n % 256) ((x.toNat : Int) / 2 ^ (8 - n)) = ((rotl x n).toNat : Int) := by
  have hx := x.toNat_lt
  have e1 : ((x.toNat : Int) * 2 ^ n % 256) = ((x.toNat * 2 ^ n % 256 : Nat) : Int) := by simp
  have e2 : ((x.toNat : Int) / 2 ^ (8 - n)) = ((x.toNat / 2 ^ (8 - n) : Nat) : Int) := by simp
  have h1 : x.toNat * 2 ^ n % 256 < 256 := Nat.mod_lt _ (by decide)
  have h2 : x.toNat / 2 ^ (8 - n) < 256 := Nat.lt_of_le_of_lt (Nat.div_le_self _ _) hx
  rw [e1, e2, u8_or_nat _ _ h1 h2]
  unfold rotl
  have h3 : x.toNat * 2 ^ n % 256 ||| x.toNat / 2 ^ (8 - n) < 2 ^ 8 := Nat.or_lt_two_pow h1 h2
  simp only [UInt8.toNat_ofNat', Nat.mod_eq_of_lt h3]

set_option maxHeartbeats 1000000 in
theorem gfturn_any (x : UInt8) (a n : Int) (m : Nat) (ha : a = x.toNat) (hn : n = m) (hm : m ≤ 8) (w : World) :
    Calls Tryd.prog 79 #[.int .u8 a, .int .i64 n] w fun e w' => e = .returned (.int .u8 (rotl x m).toNat) ∧ ∃ m, w' = w.drewN m := by
  subst ha hn
  go_enter Tryd.func79, Tryd.ntmps79
  go_wp2
  go_quiet (fail)
  go_wp2
  go_ret
  have e8 : (8 - (m : Int)).toNat = 8 - m := by omega
  refine ⟨ret_int ?_, _, rfl⟩
  rw [← rotl_int x m]
set_option maxHeartbeats 1000000 in
theorem gfbox_any (x : UInt8) (a : Int) (ha : a = x.toNat) (w : World) :
    Calls Tryd.prog 65 #[.int .u8 a] w fun e w' => e = .returned (.int .u8 (gbox x).toNat) ∧ ∃ m, w' = w.drewN m := by
  subst ha
  go_enter Tryd.func65, Tryd.ntmps65
  go_wp2_with fail
  refine (gfinv_any x _ rfl _).mono ?_
  rintro e w' ⟨rfl, rfl⟩
  go_wp2_with fail
  refine (gfturn_any (ginv x) _ _ 1 rfl rfl (by decide) _).mono ?_
  rintro e w' ⟨rfl, m1, rfl⟩
  go_wp2_with fail
  refine (gfturn_any (ginv x) _ _ 2 rfl rfl (by decide) _).mono ?_
  rintro e w' ⟨rfl, m1, rfl⟩
  go_wp2_with fail
  refine (gfturn_any (ginv x) _ _ 3 rfl rfl (by decide) _).mono ?_
  rintro e w' ⟨rfl, m1, rfl⟩
  go_wp2_with fail
  refine (gfturn_any (ginv x) _ _ 4 rfl rfl (by decide) _).mono ?_
  rintro e w' ⟨rfl, m1, rfl⟩
  go_wp2_with fail
  go_ret
  refine ⟨ret_int ?_, _, rfl⟩
  have e99 : (99 : Int) = ((99 : UInt8).toNat : Int) := rfl
  rw [u8_bits_xor, u8_bits_xor, u8_bits_xor, u8_bits_xor, e99, u8_bits_xor]
  rfl
set_option maxHeartbeats 1000000 in
theorem gfunbox_any (x : UInt8) (a : Int) (ha : a = x.toNat) (w : World) :
    Calls Tryd.prog 64 #[.int .u8 a] w fun e w' => e = .returned (.int .u8 (gunbox x).toNat) ∧ ∃ m, w' = w.drewN m := by
  subst ha
  go_enter Tryd.func64, Tryd.ntmps64
  go_wp2_with fail
  refine (gfturn_any x _ _ 1 rfl rfl (by decide) _).mono ?_
  rintro e w' ⟨rfl, m1, rfl⟩
  go_wp2_with fail
  refine (gfturn_any x _ _ 3 rfl rfl (by decide) _).mono ?_
  rintro e w' ⟨rfl, m1, rfl⟩
  go_wp2_with fail
  refine (gfturn_any x _ _ 6 rfl rfl (by decide) _).mono ?_
  rintro e w' ⟨rfl, m1, rfl⟩
  go_wp2_with fail
  refine (gfinv_any (rotl x 1 ^^^ rotl x 3 ^^^ rotl x 6 ^^^ 5) _ ?_ _).mono ?_
  · have e5 : (5 : Int) = ((5 : UInt8).toNat : Int) := rfl
    rw [u8_bits_xor, u8_bits_xor, e5, u8_bits_xor]
  rintro e w' ⟨rfl, rfl⟩
  go_wp2_with fail
  go_ret
  exact ⟨ret_int rfl, _, rfl⟩
end Go.Proofs.YtbmhmohpnhckgaaDoor
