import Derived.Test.YtbmhmohpnhckgaaDoorProg
import Derived.Test.YtbmhmohpnhckgaaDoorDesPlain
import Derived.Test.YtbmhmohpnhckgaaDoorMem
import Derived.Deep.LoopGhost
import Derived.Deep.QuietTactic
import Derived.BigQuiet
import Derived.KernelRfl
namespace Go.Proofs.YtbmhmohpnhckgaaDoor
open Go.RowKit Lb
/-- a table: digits, two an entry, none above m -/
structure Tbl (s : ByteArray) (n m : Nat) : Prop where
  size : s.size = 2 * n
  digit : ∀ i, i < s.size → 48 ≤ (byteAt s i).toNat ∧ (byteAt s i).toNat ≤ 57
  least : ∀ k, k < n → 1 ≤ ent s k
  most : ∀ k, k < n → ent s k ≤ m
theorem pow63 (p k : Nat) (h : p < 2 ^ k) (hk : k ≤ 63) : p < 9223372036854775808 := by
  have := Nat.pow_le_pow_right (n := 2) (by decide) hk
  have e : (2 : Nat) ^ 63 = 9223372036854775808 := by decide
  omega
def U64 (x : Nat) : Prop := x < 18446744073709551616
theorem U64.out {x : Nat} (h : U64 x) : x < 18446744073709551616 := h
theorem u64_shl1 (p : Nat) (h : p < 9223372036854775808) : IntKind.u64.wrap ((p : Int) * 2) = ((p * 2 : Nat) : Int) := by
  rw [IntWalk.u64_in _ (by omega)]; omega
theorem u64_bit (x e : Nat) (hx : U64 x) : bits .and .u64 ((x : Int) / 2 ^ e) 1 = ((x / 2 ^ e % 2 : Nat) : Int) := by
  have hx' := hx.out
  have e1 : ((x : Int) / 2 ^ e) = ((x / 2 ^ e : Nat) : Int) := by simp
  have e2 : (1 : Int) = ((1 : Nat) : Int) := rfl
  have h2 : x / 2 ^ e < 18446744073709551616 := Nat.lt_of_le_of_lt (Nat.div_le_self _ _) hx'
  rw [e1, e2, u64_and_nat _ _ h2 (by decide), Nat.and_one_is_mod]
theorem u64_join (p b i : Nat) (hp : U64 (p * 2 ^ i + b)) (hb : b < 2 ^ i) : bits .or .u64 ((p * 2 ^ i : Nat) : Int) (b : Int) = ((p * 2 ^ i + b : Nat) : Int) := by
  have hp' := hp.out
  rw [u64_or_nat _ _ (by omega) (by omega), nat_join i _ _ (Nat.mul_mod_left _ _) hb]
theorem perm_end (x m k c : Nat) (P : Nat → Nat) (hx : U64 x) (hk : k ≤ 63) (hP : P k = c) :
    Value.int .u64 (bits .or .u64 (IntKind.u64.wrap ((permN x m P k : Int) * 2)) (bits .and .u64 ((x : Int) / 2 ^ (m - c)) 1)) = .int .u64 ((permN x m P (k + 1) : Nat) : Int) := by
  have h := pow63 _ k (permN_lt x m P k) hk
  have e : permN x m P k * 2 = permN x m P k * 2 ^ 1 := by rw [Nat.pow_one]
  rw [u64_shl1 _ h, u64_bit x _ hx, e, u64_join _ _ 1 (by unfold U64; omega) (by omega)]
  simp only [permN, hP, Nat.pow_one]
set_option maxRecDepth 100000 in
set_option maxHeartbeats 1000000 in
theorem despermute_any (x m n : Nat) (s : ByteArray) (a z : Int) (ha : a = x) (hz : z = m) (hx : U64 x) (ht : Tbl s n m) (hn : n ≤ 64) (hm : m ≤ 64) (w : World) :
    Calls Tryd.prog 48 #[.int .u64 a, .int .i64 z, .string s] w fun e w' => e = .returned (.int .u64 (permN x m (ent s) n : Nat)) ∧ ∃ q, w' = w.drewN q := by
  subst ha hz
  have hsz := ht.size
  have HS := Lib.hid hsz
  have hle : s.size ≤ 128 := by omega
  clear hsz
  go_enter Tryd.func48, Tryd.ntmps48
  go_wp2
  go_loopg [7, 8, 9] n (fun gq s7 s8 _ wr => ∃ k q : Nat, k ≤ n ∧ gq = n - k ∧ s7 = .int .u64 (permN x m (ent s) k : Nat) ∧ s8 = .int .i64 ((2 * k : Nat) : Int) ∧ wr = w.drewN q)
  case atStart => exact ⟨0, 0, by omega, by omega, rfl, rfl, rfl⟩
  case round =>
    obtain ⟨k, q, hk, hgk, rfl, rfl, rfl⟩ := hrel
    have HG := Lib.hid hgk
    clear hgk
    by_cases hlt : k < n
    · have h1 : 2 * k < s.size := by rw [HS.out]; omega
      have h2 : 2 * k + 1 < s.size := by rw [HS.out]; omega
      have i1 := fun w => idx_str (P := Tryd.prog) Tryd.underlying9 s (2 * (k : Int)) (2 * k) (by omega) h1 w
      have i2 := fun w => idx_str (P := Tryd.prog) Tryd.underlying9 s (2 * (k : Int) + 1) (2 * k + 1) (by omega) h2 w
      have g1 := ht.digit (2 * k) h1
      have g2 := ht.digit (2 * k + 1) h2
      have g3 := ht.least k hlt
      have g4 := ht.most k hlt
      obtain ⟨c1, hc1⟩ : ∃ c1, c1 = (byteAt s (2 * k)).toNat := ⟨_, rfl⟩
      obtain ⟨c2, hc2⟩ : ∃ c2, c2 = (byteAt s (2 * k + 1)).toNat := ⟨_, rfl⟩
      have he : Hid (ent s k = (c1 - 48) * 10 + (c2 - 48)) := by show _ = _; rw [hc1, hc2]; rfl
      simp only [← hc1] at i1 g1
      simp only [← hc2] at i2 g2
      rw [he.out] at g3 g4
      clear hc1 hc2
      obtain ⟨g1a, g1b⟩ := g1
      obtain ⟨g2a, g2b⟩ := g2
      have e3 : IntKind.i64.wrap (2 * (k : Int) + 1) = 2 * (k : Int) + 1 := IntWalk.i64_in _ (by omega)
      have u1 : IntKind.u8.wrap ((c1 : Int) - 48) = (c1 : Int) - 48 := IntWalk.u8_in _ (by omega)
      have u2 : IntKind.u8.wrap ((c2 : Int) - 48) = (c2 : Int) - 48 := IntWalk.u8_in _ (by omega)
      have v1 : IntKind.i64.wrap ((c1 : Int) - 48) = (c1 : Int) - 48 := IntWalk.i64_in _ (by omega)
      have v2 : IntKind.i64.wrap ((c2 : Int) - 48) = (c2 : Int) - 48 := IntWalk.i64_in _ (by omega)
      have v3 : IntKind.i64.wrap (((c1 : Int) - 48) * 10) = ((c1 : Int) - 48) * 10 := IntWalk.i64_in _ (by omega)
      have v4 : IntKind.i64.wrap (((c1 : Int) - 48) * 10 + ((c2 : Int) - 48)) = ((c1 : Int) - 48) * 10 + ((c2 : Int) - 48) := IntWalk.i64_in _ (by omega)
      go_wp2
      go_quiet (fail)
      clear e3 u1 u2 v1 v2 v3 v4 i1 i2
      go_wp2
      go_roundg (n - (k + 1))
      case measure => have := HG.out; omega
      case rel => exact ⟨k + 1, _, by omega, rfl, perm_end x m k _ _ hx (by omega) he.out, by go_num, rfl⟩
    · have h1 : s.size ≤ 2 * k := by rw [HS.out]; omega
      go_wp2
      go_ret
      obtain rfl : k = n := by omega
      exact ⟨ret_int rfl, _, rfl⟩
theorem unperm_end (x k c : Nat) (P : Nat → Nat) (hx : U64 x) (hc : 1 ≤ c) (hc2 : c ≤ 64) (hacc : unpermN x P k < 2 ^ 64) (hP : P k = c) :
    Value.int .u64 (bits .or .u64 (unpermN x P k : Int) (IntKind.u64.wrap (bits .and .u64 ((x : Int) / 2 ^ (63 - k)) 1 * 2 ^ (64 - c)))) = .int .u64 ((unpermN x P (k + 1) : Nat) : Int) := by
  have h2 : (2 : Nat) ^ (64 - c) ≤ 2 ^ 63 := Nat.pow_le_pow_right (by decide) (by omega)
  have e63 : (2 : Nat) ^ 63 = 9223372036854775808 := by decide
  have e64 : (2 : Nat) ^ 64 = 18446744073709551616 := by decide
  obtain ⟨b, hb⟩ : ∃ b, b = x / 2 ^ (63 - k) % 2 := ⟨_, rfl⟩
  have hb2 : b < 2 := by rw [hb]; omega
  have hm : b * 2 ^ (64 - c) < 18446744073709551616 := by
    have : b * 2 ^ (64 - c) ≤ 1 * 2 ^ 63 := Nat.mul_le_mul (by omega) h2
    omega
  have e1 : ((b : Nat) : Int) * 2 ^ (64 - c) = ((b * 2 ^ (64 - c) : Nat) : Int) := by simp
  rw [u64_bit x _ hx, ← hb, e1, IntWalk.u64_in _ (by omega), u64_or_nat _ _ (by omega) hm]
  simp only [unpermN, hP, ← hb]
set_option maxRecDepth 100000 in
set_option maxHeartbeats 1000000 in
theorem desunpermute_any (x n : Nat) (s : ByteArray) (a : Int) (ha : a = x) (hx : U64 x) (ht : Tbl s n 64) (hn : n ≤ 64) (w : World) :
    Calls Tryd.prog 52 #[.int .u64 a, .string s] w fun e w' => e = .returned (.int .u64 (unpermN x (ent s) n : Nat)) ∧ ∃ q, w' = w.drewN q := by
  subst ha
  have hsz := ht.size
  have HS := Lib.hid hsz
  have hle : s.size ≤ 128 := by omega
  clear hsz
  go_enter Tryd.func52, Tryd.ntmps52
  go_wp2
  go_loopg [5, 6, 7] n (fun gq s5 s6 _ wr => ∃ k q : Nat, k ≤ n ∧ gq = n - k ∧ s5 = .int .u64 (unpermN x (ent s) k : Nat) ∧ s6 = .int .i64 ((2 * k : Nat) : Int) ∧ wr = w.drewN q)
  case atStart => exact ⟨0, 0, by omega, by omega, rfl, rfl, rfl⟩
  case round =>
    obtain ⟨k, q, hk, hgk, rfl, rfl, rfl⟩ := hrel
    have HG := Lib.hid hgk
    clear hgk
    by_cases hlt : k < n
    · have h1 : 2 * k < s.size := by rw [HS.out]; omega
      have h2 : 2 * k + 1 < s.size := by rw [HS.out]; omega
      have i1 := fun w => idx_str (P := Tryd.prog) Tryd.underlying9 s (2 * (k : Int)) (2 * k) (by omega) h1 w
      have i2 := fun w => idx_str (P := Tryd.prog) Tryd.underlying9 s (2 * (k : Int) + 1) (2 * k + 1) (by omega) h2 w
      have g1 := ht.digit (2 * k) h1
      have g2 := ht.digit (2 * k + 1) h2
      have g3 := ht.least k hlt
      have g4 := ht.most k hlt
      obtain ⟨c1, hc1⟩ : ∃ c1, c1 = (byteAt s (2 * k)).toNat := ⟨_, rfl⟩
      obtain ⟨c2, hc2⟩ : ∃ c2, c2 = (byteAt s (2 * k + 1)).toNat := ⟨_, rfl⟩
      have he : Hid (ent s k = (c1 - 48) * 10 + (c2 - 48)) := by show _ = _; rw [hc1, hc2]; rfl
      simp only [← hc1] at i1 g1
      simp only [← hc2] at i2 g2
      rw [he.out] at g3 g4
      clear hc1 hc2
      obtain ⟨g1a, g1b⟩ := g1
      obtain ⟨g2a, g2b⟩ := g2
      have e3 : IntKind.i64.wrap (2 * (k : Int) + 1) = 2 * (k : Int) + 1 := IntWalk.i64_in _ (by omega)
      have u1 : IntKind.u8.wrap ((c1 : Int) - 48) = (c1 : Int) - 48 := IntWalk.u8_in _ (by omega)
      have u2 : IntKind.u8.wrap ((c2 : Int) - 48) = (c2 : Int) - 48 := IntWalk.u8_in _ (by omega)
      have v1 : IntKind.i64.wrap ((c1 : Int) - 48) = (c1 : Int) - 48 := IntWalk.i64_in _ (by omega)
      have v2 : IntKind.i64.wrap ((c2 : Int) - 48) = (c2 : Int) - 48 := IntWalk.i64_in _ (by omega)
      have v3 : IntKind.i64.wrap (((c1 : Int) - 48) * 10) = ((c1 : Int) - 48) * 10 := IntWalk.i64_in _ (by omega)
      have v4 : IntKind.i64.wrap (((c1 : Int) - 48) * 10 + ((c2 : Int) - 48)) = ((c1 : Int) - 48) * 10 + ((c2 : Int) - 48) := IntWalk.i64_in _ (by omega)
      go_wp2
      go_quiet (fail)
      clear e3 u1 u2 v1 v2 v3 v4 i1 i2
      go_wp2
      go_roundg (n - (k + 1))
      case measure => have := HG.out; omega
      case rel => exact ⟨k + 1, _, by omega, rfl, unperm_end x k _ _ hx g3 g4 (unpermN_lt x _ n (fun k hk => (ht.least k hk)) k (by omega)) he.out, by go_num, rfl⟩
    · have h1 : s.size ≤ 2 * k := by rw [HS.out]; omega
      go_wp2
      go_ret
      obtain rfl : k = n := by omega
      exact ⟨ret_int rfl, _, rfl⟩
end Go.Proofs.YtbmhmohpnhckgaaDoor
