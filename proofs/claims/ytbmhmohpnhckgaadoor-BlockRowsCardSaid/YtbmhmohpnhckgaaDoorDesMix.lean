/- DES: a round's function; the round keys -/
import Derived.Test.YtbmhmohpnhckgaaDoorDesBox
import Derived.Test.YtbmhmohpnhckgaaDoorDesMath
namespace Go.Proofs.YtbmhmohpnhckgaaDoor
open Go.RowKit Lb
theorem tbl_of {s : ByteArray} {P : Nat → Nat} {n : Nat} (m : Nat) (h : tblB s P n = true) (hP : ∀ k, k < n → 1 ≤ P k ∧ P k ≤ m) : Tbl s n m ∧ ∀ k, k < n → ent s k = P k := by
  simp only [tblB, Bool.and_eq_true, beq_iff_eq, List.all_eq_true, List.mem_range, decide_eq_true_eq] at h
  obtain ⟨hs, hd⟩ := h
  refine ⟨⟨hs, fun i hi => ?_, fun k hk => ?_, fun k hk => ?_⟩, fun k hk => (hd k hk).2⟩
  · obtain ⟨⟨⟨⟨a, b⟩, c⟩, d⟩, _⟩ := hd (i / 2) (by omega)
    unfold byteAt
    rcases Nat.mod_two_eq_zero_or_one i with h0 | h1
    · rw [show 2 * (i / 2) = i by omega] at a b
      exact ⟨a, b⟩
    · rw [show 2 * (i / 2) + 1 = i by omega] at c d
      exact ⟨c, d⟩
  · rw [(hd k hk).2]; exact (hP k hk).1
  · rw [(hd k hk).2]; exact (hP k hk).2
theorem despermute_tbl (x m n : Nat) (s : ByteArray) (P : Nat → Nat) (a z : Int) (ha : a = x) (hz : z = m) (hx : U64 x) (hP : ∀ k, k < n → 1 ≤ P k ∧ P k ≤ m) (hn : n ≤ 64) (hm : m ≤ 64) (ht : tblB s P n = true) (w : World) :
    Calls Tryd.prog 48 #[.int .u64 a, .int .i64 z, .string s] w fun e w' => e = .returned (.int .u64 (permN x m P n : Nat)) ∧ ∃ q, w' = w.drewN q := by
  obtain ⟨h1, h2⟩ := tbl_of m ht hP
  rw [← permN_congr x m (ent s) P n h2]
  exact despermute_any x m n s a z ha hz hx h1 hn hm w
theorem desunpermute_tbl (x n : Nat) (s : ByteArray) (P : Nat → Nat) (a : Int) (ha : a = x) (hx : U64 x) (hP : ∀ k, k < n → 1 ≤ P k ∧ P k ≤ 64) (hn : n ≤ 64) (ht : tblB s P n = true) (w : World) :
    Calls Tryd.prog 52 #[.int .u64 a, .string s] w fun e w' => e = .returned (.int .u64 (unpermN x P n : Nat)) ∧ ∃ q, w' = w.drewN q := by
  obtain ⟨h1, h2⟩ := tbl_of 64 ht hP
  rw [← unpermN_congr x (ent s) P n h2]
  exact desunpermute_any x n s a ha hx h1 hn w
theorem pP_in : ∀ k, k < 32 → 1 ≤ pP k ∧ pP k ≤ 32 := by decide +kernel
theorem pC1_in : ∀ k, k < 56 → 1 ≤ pC1 k ∧ pC1 k ≤ 64 := by decide +kernel
theorem pC2_in : ∀ k, k < 48 → 1 ≤ pC2 k ∧ pC2 k ≤ 56 := by decide +kernel
theorem pIP_in : ∀ k, k < 64 → 1 ≤ pIP k ∧ pIP k ≤ 64 := by decide +kernel
theorem wideN_lt (half : Nat) (hh : half < 4294967296) : U64 (wideN half) := by unfold U64 wideN; omega
theorem wide_eq (half : Nat) (hh : half < 4294967296) : bits .or .u64 (bits .or .u64 (IntKind.u64.wrap (bits .and .u64 (half : Int) 1 * 8589934592)) ((half : Int) * 2)) ((half : Int) / 2147483648) = ((wideN half : Nat) : Int) := by
  have e1 : (1 : Int) = ((1 : Nat) : Int) := rfl
  have e2 : ((half % 2 : Nat) : Int) * 8589934592 = ((half % 2 * 2 ^ 33 : Nat) : Int) := by simp
  have e3 : (half : Int) * 2 = ((half * 2 : Nat) : Int) := by simp
  have e4 : (half : Int) / 2147483648 = ((half / 2 ^ 31 : Nat) : Int) := by simp
  have e5 : half % 2 * 2 ^ 33 + half * 2 = (half % 2 * 2 ^ 32 + half) * 2 ^ 1 := by omega
  rw [e1, u64_and_nat _ _ (by omega) (by decide), Nat.and_one_is_mod, e2, IntWalk.u64_in _ (by omega), e3, u64_join _ _ 33 (by unfold U64; omega) (by omega), e5, e4, u64_join _ _ 1 (by unfold U64; omega) (by omega)]
  unfold wideN
  congr 1; omega
theorem six_eq (W key k : Nat) (hW : U64 W) (hk : U64 key) : bits .xor .u64 (bits .and .u64 ((W : Int) / 2 ^ (28 - 4 * k)) 63) (bits .and .u64 ((key : Int) / 2 ^ (42 - 6 * k)) 63) = ((sixN W key k : Nat) : Int) := by
  have h1 : W / 2 ^ (28 - 4 * k) < 18446744073709551616 := Nat.lt_of_le_of_lt (Nat.div_le_self _ _) hW.out
  have h2 : key / 2 ^ (42 - 6 * k) < 18446744073709551616 := Nat.lt_of_le_of_lt (Nat.div_le_self _ _) hk.out
  have e1 : ((W : Int) / 2 ^ (28 - 4 * k)) = ((W / 2 ^ (28 - 4 * k) : Nat) : Int) := by simp
  have e2 : ((key : Int) / 2 ^ (42 - 6 * k)) = ((key / 2 ^ (42 - 6 * k) : Nat) : Int) := by simp
  have e3 : (63 : Int) = ((2 ^ 6 - 1 : Nat) : Int) := by decide
  have a1 : W / 2 ^ (28 - 4 * k) % 2 ^ 6 < 64 := Nat.mod_lt _ (by decide)
  have a2 : key / 2 ^ (42 - 6 * k) % 2 ^ 6 < 64 := Nat.mod_lt _ (by decide)
  rw [e1, e2, e3, u64_and_nat _ _ h1 (by decide), u64_and_nat _ _ h2 (by decide), Nat.and_two_pow_sub_one_eq_mod, Nat.and_two_pow_sub_one_eq_mod, u64_xor_nat _ _ (by omega) (by omega)]
  rfl
theorem mix_end (p b k : Nat) (hk : k < 8) (hp : p < 2 ^ (4 * k)) (hb : b < 16) : Value.int .u64 (bits .or .u64 (IntKind.u64.wrap ((p : Int) * 16)) (b : Int)) = .int .u64 ((p * 16 + b : Nat) : Int) := by
  have h1 : (2 : Nat) ^ (4 * k) ≤ 2 ^ 28 := Nat.pow_le_pow_right (by decide) (by omega)
  have e28 : (2 : Nat) ^ 28 = 268435456 := by decide
  have e : ((p : Int) * 16) = ((p * 2 ^ 4 : Nat) : Int) := by simp
  rw [e, IntWalk.u64_in _ (by omega), u64_join p b 4 (by unfold U64; omega) (by omega)]
set_option maxRecDepth 100000 in
set_option maxHeartbeats 2000000 in
theorem desmix_any (half key : Nat) (a b : Int) (ha : a = half) (hb : b = key) (hh : half < 4294967296) (hk : U64 key) (w : World) : Calls Tryd.prog 50 #[.int .u64 a, .int .u64 b] w fun e w' => e = .returned (.int .u64 (mixN half key : Nat)) ∧ ∃ q, w' = w.drewN q := by
  subst ha hb
  go_enter Tryd.func50, Tryd.ntmps50
  go_wp2
  rw [wide_eq half hh]
  obtain ⟨W, hW⟩ : ∃ W, W = wideN half := ⟨_, rfl⟩
  have hW64 : U64 W := by rw [hW]; exact wideN_lt half hh
  rw [← hW]
  have HW := Lib.hid hW
  clear hW
  go_loopw [5, 7, 8, 18] (fun s5 _ _ s18 wr => ∃ k q : Nat, k ≤ 8 ∧ s18 = .int .i64 (k : Int) ∧ s5 = .int .u64 (mixGo W key k : Nat) ∧ wr = w.drewN q) (fun _ _ _ s18 _ => 8 - (intOf s18).toNat)
  case atStart => exact ⟨0, 0, by omega, rfl, rfl, rfl⟩
  case round =>
    obtain ⟨k, q, hk', rfl, rfl, rfl⟩ := hrel
    by_cases hlt : k < 8
    · go_wp2
      go_quiet (fail)
      go_wp2_with fail
      refine (desbox_any k (sixN W key k) _ _ rfl (six_eq W key k hW64 hk) hlt (sixN_lt _ _ _) _).mono ?_
      rintro e w1 ⟨rfl, hw1⟩
      obtain rfl := hw1.symm
      go_wp2_with fail
      go_roundw
      case rel => exact ⟨k + 1, q + nq, by omega, by go_num, mix_end _ _ k hlt (mixGo_lt W key k (by omega)) (boxN_lt k hlt _ (sixN_lt _ _ _)), by first | rfl | exact (World.drewN_drewN _ _ _) | simp [World.drewN, Nat.add_assoc]⟩
      case measure => simp [intOf]; omega
    · obtain rfl : k = 8 := by omega
      have hm := mixGo_lt W key 8 (by omega)
      go_wp2_with fail
      refine (despermute_tbl (mixGo W key 8) 32 32 _ pP _ _ rfl rfl (by unfold U64; omega) pP_in (by decide) (by decide) (by kernel_rfl) _).mono ?_
      rintro e w1 ⟨rfl, q1, rfl⟩
      go_wp2_with fail
      go_ret
      refine ⟨?_, q + q1, by first | rfl | exact (World.drewN_drewN _ _ _) | simp [World.drewN, Nat.add_assoc]⟩
      rw [HW.out]; rfl
end Go.Proofs.YtbmhmohpnhckgaaDoor
