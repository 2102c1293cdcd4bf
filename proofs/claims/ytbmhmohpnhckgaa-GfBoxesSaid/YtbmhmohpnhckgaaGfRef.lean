import Derived.Test.YtbmhmohpnhckgaaGfWalk
namespace Go.Proofs.Ytbmhmohpnhckgaa
open Go.RowKit Lb
theorem ofInt_i64 (a : Nat) (ha : a < 9223372036854775808) : (BitVec.ofInt 64 (a : Int)).toNat = a := by
  rw [BitVec.ofInt_natCast, BitVec.toNat_ofNat]; exact Nat.mod_eq_of_lt (by omega)
theorem i64_and_nat (a b : Nat) (ha : a < 9223372036854775808) (hb : b < 9223372036854775808) : bits .and .i64 (a : Int) (b : Int) = ((a &&& b : Nat) : Int) := by
  have hx : a &&& b < 2 ^ 63 := Nat.and_lt_two_pow _ (by omega)
  show IntKind.i64.wrap ((BitVec.ofInt 64 (a : Int) &&& BitVec.ofInt 64 (b : Int)).toNat : Int) = _
  rw [BitVec.toNat_and, ofInt_i64 a ha, ofInt_i64 b hb, IntKind.wrap_i64]
  omega
theorem i64_or_nat (a b : Nat) (ha : a < 9223372036854775808) (hb : b < 9223372036854775808) : bits .or .i64 (a : Int) (b : Int) = ((a ||| b : Nat) : Int) := by
  have hx : a ||| b < 2 ^ 63 := Nat.or_lt_two_pow (by omega) (by omega)
  show IntKind.i64.wrap ((BitVec.ofInt 64 (a : Int) ||| BitVec.ofInt 64 (b : Int)).toNat : Int) = _
  rw [BitVec.toNat_or, ofInt_i64 a ha, ofInt_i64 b hb, IntKind.wrap_i64]
  omega
theorem i64_xor_nat (a b : Nat) (ha : a < 9223372036854775808) (hb : b < 9223372036854775808) : bits .xor .i64 (a : Int) (b : Int) = ((a ^^^ b : Nat) : Int) := by
  have hx : a ^^^ b < 2 ^ 63 := Nat.xor_lt_two_pow (by omega) (by omega)
  show IntKind.i64.wrap ((BitVec.ofInt 64 (a : Int) ^^^ BitVec.ofInt 64 (b : Int)).toNat : Int) = _
  rw [BitVec.toNat_xor, ofInt_i64 a ha, ofInt_i64 b hb, IntKind.wrap_i64]
  omega
theorem i64_bit (a i : Nat) (ha : a < 9223372036854775808) : (bits .and .i64 ((a : Int) / 2 ^ i) 1 == 1) = a.testBit i := by
  have e1 : ((a : Int) / 2 ^ i) = ((a / 2 ^ i : Nat) : Int) := by simp
  have h2 : a / 2 ^ i < 9223372036854775808 := Nat.lt_of_le_of_lt (Nat.div_le_self _ _) ha
  have e3 : (1 : Int) = ((1 : Nat) : Int) := rfl
  rw [e1, e3, i64_and_nat _ _ h2 (by decide), Nat.testBit, Nat.shiftRight_eq_div_pow, Bool.eq_iff_iff, Nat.and_comm]
  simp only [beq_iff_eq, bne_iff_ne]
  have : 1 &&& a / 2 ^ i = a / 2 ^ i % 2 := Nat.one_and_eq_mod_two _
  rw [this]; omega

theorem pow_le14 (n : Nat) (h : n ≤ 14) : 2 ^ n ≤ 16384 := by
  have := Nat.pow_le_pow_right (n := 2) (by decide) h
  simpa using this
theorem wrap_small (t : Nat) (h : t ≤ 32767) : wrap64 (t : Int) = t := IntWalk.wrap64_in _ (by omega)
theorem xor_pow (q n : Nat) (hq : q < 32768) (h : n ≤ 14) : bits .xor .i64 (q : Int) (wrap64 (2 ^ n)) = ((q ^^^ 2 ^ n : Nat) : Int) := by
  have h1 := pow_le14 n h
  have e : (2 ^ n : Int) = ((2 ^ n : Nat) : Int) := by simp
  rw [e, wrap_small _ (by omega), i64_xor_nat _ _ (by omega) (by omega)]
theorem xor_283 (q n : Nat) (hq : q < 32768) (h : n ≤ 6) : bits .xor .i64 (q : Int) (wrap64 (283 * 2 ^ n)) = ((q ^^^ (283 * 2 ^ n) : Nat) : Int) := by
  have h1 : 2 ^ n ≤ 64 := by
    have := Nat.pow_le_pow_right (n := 2) (by decide) h
    simpa using this
  have e : (283 * 2 ^ n : Int) = ((283 * 2 ^ n : Nat) : Int) := by simp
  rw [e, wrap_small _ (by omega), i64_xor_nat _ _ (by omega) (by omega)]
theorem xor_lt (q r : Nat) (hq : q < 32768) (h : r < 32768) : q ^^^ r < 32768 := Nat.xor_lt_two_pow (n := 15) hq h
theorem pow_283 (n : Nat) (h : n ≤ 6) : 283 * 2 ^ n < 32768 := by
  have h1 : 2 ^ n ≤ 64 := by
    have := Nat.pow_le_pow_right (n := 2) (by decide) h
    simpa using this
  omega
theorem rIn_no (a b i k q r : Nat) (hk : k < 8) (c : (a.testBit i && b.testBit k) = false) (H : Hid (rIn a b i (8 - k) q = r)) : Hid (rIn a b i (8 - (k + 1)) q = r) := by
  have e : 8 - k = (8 - (k + 1)) + 1 := by omega
  have e7 : 7 - (8 - (k + 1)) = k := by omega
  have h := H.out
  rw [e] at h
  simp only [rIn, e7] at h
  rw [if_neg (by rw [c]; decide)] at h
  exact h
theorem rIn_yes (a b i k q r : Nat) (hk : k < 8) (c : (a.testBit i && b.testBit k) = true) (H : Hid (rIn a b i (8 - k) q = r)) : Hid (rIn a b i (8 - (k + 1)) (q ^^^ 2 ^ (i + k)) = r) := by
  have e : 8 - k = (8 - (k + 1)) + 1 := by omega
  have e7 : 7 - (8 - (k + 1)) = k := by omega
  have h := H.out
  rw [e] at h
  simp only [rIn, e7] at h
  rw [if_pos c] at h
  exact h
theorem rOut_step (a b i p q r : Nat) (hi : i < 8) (H : Hid (rOut a b (8 - i) p = r)) (H2 : Hid (rIn a b i 0 q = rIn a b i 8 p)) : Hid (rOut a b (8 - (i + 1)) q = r) := by
  have e : 8 - i = (8 - (i + 1)) + 1 := by omega
  have e7 : 7 - (8 - (i + 1)) = i := by omega
  have h := H.out
  rw [e] at h
  simp only [rOut, e7] at h
  rw [← H2.out] at h
  exact h
theorem rRed_no (n p r : Nat) (c : p.testBit (n + 8) = false) (H : Hid (rRed (n + 1) p = r)) : Hid (rRed n p = r) := by
  have h := H.out
  simp only [rRed] at h
  rw [if_neg (by rw [c]; decide)] at h
  exact h
theorem rRed_yes (n p r : Nat) (c : p.testBit (n + 8) = true) (H : Hid (rRed (n + 1) p = r)) : Hid (rRed n (p ^^^ (283 * 2 ^ n)) = r) := by
  have h := H.out
  simp only [rRed] at h
  rw [if_pos c] at h
  exact h
set_option maxHeartbeats 1000000 in
theorem refmul_any (x y : UInt8) (a b : Int) (ha : a = x.toNat) (hb : b = y.toNat) (w : World) :
    Calls Try.prog 27 #[.int .u8 a, .int .u8 b] w fun e w' => e = .returned (.int .u8 (refMul x y).toNat) ∧ w = w' := by
  subst ha hb
  have hx := x.toNat_lt
  have hy := y.toNat_lt
  go_enter Try.func27, Try.ntmps27
  go_wp2
  go_loop [5, 6, 7] (fun s5 s6 s7 => ∃ (i p : Nat), i ≤ 8 ∧ s6 = .int .i64 i ∧ s5 = .int .i64 p ∧ p < 32768 ∧ Hid (rOut x.toNat y.toNat (8 - i) p = rOut x.toNat y.toNat 8 0))
    (fun _ s6 _ => 8 - (intOf s6).toNat)
  case atStart => exact ⟨0, 0, by omega, rfl, rfl, by omega, rfl⟩
  case round =>
    obtain ⟨i, p, hi, rfl, rfl, hp, H⟩ := hrel
    by_cases hlt : i < 8
    · go_wp2
      go_loop [5, 7] (fun s5 s7 => ∃ (k q : Nat), k ≤ 8 ∧ s7 = .int .i64 k ∧ s5 = .int .i64 q ∧ q < 32768 ∧ Hid (rIn x.toNat y.toNat i (8 - k) q = rIn x.toNat y.toNat i 8 p))
        (fun _ s7 => 8 - (intOf s7).toNat)
      case atStart => exact ⟨0, p, by omega, rfl, rfl, hp, rfl⟩
      case round =>
        obtain ⟨k, q, hk, rfl, rfl, hq, H2⟩ := hrel
        have b1 := i64_bit x.toNat i (by omega)
        have b2 := i64_bit y.toNat k (by omega)
        by_cases hlt : k < 8
        · cases c1 : x.toNat.testBit i
          · rw [c1] at b1
            have C : Hid ((x.toNat.testBit i && y.toNat.testBit k) = false) := by show _ = _; rw [c1]; rfl
            clear b2 c1
            go_wp2
            go_round
            case rel => exact ⟨k + 1, q, by omega, by go_num, rfl, hq, rIn_no _ _ i k q _ hlt C.out H2⟩
            case measure => simp [intOf]; omega
          · rw [c1] at b1
            cases c2 : y.toNat.testBit k
            · rw [c2] at b2
              have C : Hid ((x.toNat.testBit i && y.toNat.testBit k) = false) := by show _ = _; rw [c1, c2]; rfl
              clear c1 c2
              go_wp2
              go_round
              case rel => exact ⟨k + 1, q, by omega, by go_num, rfl, hq, rIn_no _ _ i k q _ hlt C.out H2⟩
              case measure => simp [intOf]; omega
            · rw [c2] at b2
              have C : Hid ((x.toNat.testBit i && y.toNat.testBit k) = true) := by show _ = _; rw [c1, c2]; rfl
              clear c1 c2
              go_wp2
              go_round
              case rel => exact ⟨k + 1, q ^^^ 2 ^ (i + k), by omega, by go_num, congrArg _ (xor_pow q (i + k) hq (by omega)), xor_lt _ _ hq (by have := pow_le14 (i + k) (by omega); omega), rIn_yes _ _ i k q _ hlt C.out H2⟩
              case measure => simp [intOf]; omega
        · obtain rfl : k = 8 := by omega
          go_wp2
          go_round
          case rel => exact ⟨i + 1, q, by omega, by go_num, rfl, hq, rOut_step _ _ i p q _ (by omega) H H2⟩
          case measure => simp [intOf]; omega
    · obtain rfl : i = 8 := by omega
      go_wp2
      go_loop [5, 8] (fun s5 s8 => ∃ (n q : Nat), n ≤ 7 ∧ s8 = .int .i64 ((n : Int) + 7) ∧ s5 = .int .i64 q ∧ q < 32768 ∧ Hid (rRed n q = rRed 7 p))
        (fun _ s8 => (intOf s8).toNat)
      case atStart => exact ⟨7, p, by omega, rfl, rfl, hp, rfl⟩
      case round =>
        obtain ⟨n, q, hn, rfl, rfl, hq, H2⟩ := hrel
        by_cases h0 : n = 0
        · subst h0
          go_wp2
          go_ret
          have e1 : p = rOut x.toNat y.toNat 8 0 := H.out
          have e2 : q = rRed 7 p := H2.out
          refine ⟨ret_int ?_, rfl⟩
          unfold refMul
          rw [← e1, ← e2]
          simp
        · obtain ⟨m, rfl⟩ : ∃ m, n = m + 1 := ⟨n - 1, by omega⟩
          have b1 := i64_bit q (m + 8) (by omega)
          cases c1 : q.testBit (m + 8)
          · rw [c1] at b1
            have C := Lib.hid c1
            clear c1
            go_wp2
            go_round
            case rel => exact ⟨m, q, by omega, by go_num, rfl, hq, rRed_no m q _ C.out H2⟩
            case measure => simp [intOf]; omega
          · rw [c1] at b1
            have C := Lib.hid c1
            clear c1
            go_wp2
            go_round
            case rel => exact ⟨m, q ^^^ (283 * 2 ^ m), by omega, by go_num, congrArg _ (xor_283 q m hq (by omega)), xor_lt _ _ hq (pow_283 m (by omega)), rRed_yes m q _ C.out H2⟩
            case measure => simp [intOf]; omega
theorem refInv_at (i : Nat) (h1 : 1 ≤ i) (h : i < 256) (x r : UInt8) (H : Hid (refInvGo (256 - i) x = r)) :
    (refMul x (UInt8.ofNat i) = 1 → r = UInt8.ofNat i) ∧ (refMul x (UInt8.ofNat i) ≠ 1 → Hid (refInvGo (256 - (i + 1)) x = r)) := by
  have e : 256 - i = (256 - (i + 1)) + 1 := by omega
  have e7 : 255 - (256 - (i + 1)) = i := by omega
  have h := H.out
  rw [e] at h
  simp only [refInvGo, e7] at h
  constructor
  · intro c; rw [if_pos c] at h; exact h.symm
  · intro c; rw [if_neg c] at h; exact h
theorem ofNat_int (i : Nat) (h : i < 256) : (i : Int) = ((UInt8.ofNat i).toNat : Int) := by
  simp only [UInt8.toNat_ofNat', Nat.mod_eq_of_lt h]
set_option maxRecDepth 100000 in
set_option maxHeartbeats 1000000 in
theorem refinv_any (x : UInt8) (a : Int) (ha : a = x.toNat) (w : World) :
    Calls Try.prog 9 #[.int .u8 a] w fun e w' => e = .returned (.int .u8 (refInv x).toNat) ∧ w = w' := by
  subst ha
  go_enter Try.func9, Try.ntmps9
  go_wp2_with fail
  go_loop [3] (fun s3 => ∃ (i : Nat), 1 ≤ i ∧ i ≤ 256 ∧ s3 = .int .i64 i ∧ Hid (refInvGo (256 - i) x = refInv x))
    (fun s3 => 256 - (intOf s3).toNat)
  case atStart => exact ⟨1, by omega, by omega, rfl, rfl⟩
  case round =>
    obtain ⟨i, hi, hn, rfl, H⟩ := hrel
    by_cases h0 : i = 256
    · subst h0
      go_wp2_with fail
      go_ret
      exact ⟨ret_int (by rw [← H.out]; rfl), rfl⟩
    · have hlt : i < 256 := by omega
      have A := Lib.hid (refInv_at i hi hlt x _ H)
      go_wp2_with fail
      refine (refmul_any x (UInt8.ofNat i) _ _ rfl (ofNat_int i hlt) _).mono ?_
      rintro e w' ⟨rfl, rfl⟩
      by_cases c : refMul x (UInt8.ofNat i) = 1
      · have T : (((refMul x (UInt8.ofNat i)).toNat : Int) == 1) = true := by rw [c]; rfl
        have C := Lib.hid c
        clear c
        go_wp2_with fail
        go_ret
        exact ⟨ret_int (by rw [A.out.1 C.out, ← ofNat_int i hlt]), rfl⟩
      · have T : (((refMul x (UInt8.ofNat i)).toNat : Int) == 1) = false := by
          rw [beq_eq_false_iff_ne]; intro e; exact c (toNat_inj.1 e)
        have C := Lib.hid c
        clear c
        go_wp2_with fail
        go_round
        case rel => exact ⟨i + 1, by omega, by omega, by go_num, A.out.2 C.out⟩
        case measure => simp [intOf]; omega
theorem affIn_step (b i k q r : Nat) (h4 : 4 ≤ k) (hk : k < 9) (H : Hid (affIn b i (9 - k) q = r)) : Hid (affIn b i (9 - (k + 1)) (q ^^^ b / 2 ^ ((i + k) % 8)) = r) := by
  have e : 9 - k = (9 - (k + 1)) + 1 := by omega
  have e7 : 8 - (9 - (k + 1)) = k := by omega
  have h := H.out
  rw [e] at h
  simp only [affIn, e7] at h
  exact h
theorem affOut_step (b i o q r : Nat) (hi : i < 8) (H : Hid (affOut b (8 - i) o = r)) (H2 : Hid (affIn b i (9 - 9) q = affIn b i 5 (99 / 2 ^ i))) :
    Hid (affOut b (8 - (i + 1)) (o ||| q % 2 * 2 ^ i) = r) := by
  have e : 8 - i = (8 - (i + 1)) + 1 := by omega
  have e7 : 7 - (8 - (i + 1)) = i := by omega
  have h := H.out
  rw [e] at h
  simp only [affOut, e7] at h
  rw [← H2.out] at h
  exact h
theorem aff_xor (q b n : Nat) (hq : q < 256) (hb : b < 256) : bits .xor .i64 (q : Int) ((b : Int) / 2 ^ n) = ((q ^^^ b / 2 ^ n : Nat) : Int) := by
  have e1 : ((b : Int) / 2 ^ n) = ((b / 2 ^ n : Nat) : Int) := by simp
  have h2 : b / 2 ^ n < 256 := Nat.lt_of_le_of_lt (Nat.div_le_self _ _) hb
  rw [e1, i64_xor_nat _ _ (by omega) (by omega)]
theorem aff_or (o q n : Nat) (ho : o < 256) (hq : q < 256) (h : n ≤ 7) : bits .or .i64 (o : Int) (wrap64 (bits .and .i64 (q : Int) 1 * 2 ^ n)) = ((o ||| q % 2 * 2 ^ n : Nat) : Int) := by
  have e3 : (1 : Int) = ((1 : Nat) : Int) := rfl
  have h1 : 2 ^ n ≤ 128 := by
    have := Nat.pow_le_pow_right (n := 2) (by decide) h
    simpa using this
  have h2 : q % 2 * 2 ^ n ≤ 128 := by
    have : q % 2 ≤ 1 := by omega
    calc q % 2 * 2 ^ n ≤ 1 * 128 := Nat.mul_le_mul this h1
      _ = 128 := by omega
  have e : ((q % 2 : Nat) : Int) * 2 ^ n = ((q % 2 * 2 ^ n : Nat) : Int) := by simp
  rw [e3, i64_and_nat _ _ (by omega) (by decide), Nat.and_one_is_mod, e, wrap_small _ (by omega), i64_or_nat _ _ (by omega) (by omega)]
theorem aff_or_lt (o q n : Nat) (ho : o < 256) (h : n ≤ 7) : (o ||| q % 2 * 2 ^ n) < 256 := by
  have h1 : 2 ^ n ≤ 128 := by
    have := Nat.pow_le_pow_right (n := 2) (by decide) h
    simpa using this
  have h2 : q % 2 * 2 ^ n ≤ 128 := by
    have : q % 2 ≤ 1 := by omega
    calc q % 2 * 2 ^ n ≤ 1 * 128 := Nat.mul_le_mul this h1
      _ = 128 := by omega
  exact Nat.or_lt_two_pow (n := 8) ho (by omega)
theorem aff_xor_lt (q b n : Nat) (hq : q < 256) (hb : b < 256) : (q ^^^ b / 2 ^ n) < 256 :=
  Nat.xor_lt_two_pow (n := 8) hq (Nat.lt_of_le_of_lt (Nat.div_le_self _ _) hb)
theorem aff_99 (n : Nat) : (99 : Int) / 2 ^ n = ((99 / 2 ^ n : Nat) : Int) := by simp
theorem ret_mod (o : Nat) (ho : o < 256) (r : Nat) (h : o = r) : ((o : Nat) : Int) = ((UInt8.ofNat r).toNat : Int) := by
  subst h; exact ofNat_int o ho
set_option maxRecDepth 100000 in
set_option maxHeartbeats 1000000 in
theorem refaff_any (x : UInt8) (a : Int) (ha : a = x.toNat) (w : World) :
    Calls Try.prog 29 #[.int .u8 a] w fun e w' => e = .returned (.int .u8 (refAff x).toNat) ∧ w = w' := by
  subst ha
  have hx := x.toNat_lt
  go_enter Try.func29, Try.ntmps29
  go_wp2
  go_loop [4, 5, 6, 7] (fun s4 s5 s6 s7 => ∃ (i o : Nat), i ≤ 8 ∧ s5 = .int .i64 i ∧ s4 = .int .i64 o ∧ o < 256 ∧ Hid (affOut x.toNat (8 - i) o = affOut x.toNat 8 0))
    (fun _ s5 _ _ => 8 - (intOf s5).toNat)
  case atStart => exact ⟨0, 0, by omega, rfl, rfl, by omega, rfl⟩
  case round =>
    obtain ⟨i, o, hi, rfl, rfl, ho, H⟩ := hrel
    by_cases hlt : i < 8
    · go_wp2
      go_loop [6, 7] (fun s6 s7 => ∃ (k q : Nat), 4 ≤ k ∧ k ≤ 9 ∧ s7 = .int .i64 k ∧ s6 = .int .i64 q ∧ q < 256 ∧ Hid (affIn x.toNat i (9 - k) q = affIn x.toNat i 5 (99 / 2 ^ i)))
        (fun _ s7 => 9 - (intOf s7).toNat)
      case atStart => exact ⟨4, 99 / 2 ^ i, by omega, by omega, rfl, congrArg _ (aff_99 i), Nat.lt_of_le_of_lt (Nat.div_le_self _ _) (by decide), rfl⟩
      case round =>
        obtain ⟨k, q, hk4, hk, rfl, rfl, hq, H2⟩ := hrel
        by_cases hlt : k < 9
        · go_wp2
          go_round
          case rel => exact ⟨k + 1, _, by omega, by omega, by go_num, congrArg _ (aff_xor q _ _ hq hx), aff_xor_lt q _ _ hq hx, affIn_step _ i k q _ hk4 hlt H2⟩
          case measure => simp [intOf]; omega
        · obtain rfl : k = 9 := by omega
          go_wp2
          go_round
          case rel => exact ⟨i + 1, _, by omega, by go_num, congrArg _ (aff_or o q i ho hq (by omega)), aff_or_lt o q i ho (by omega), affOut_step _ i o q _ (by omega) H H2⟩
          case measure => simp [intOf]; omega
    · obtain rfl : i = 8 := by omega
      go_wp2
      go_ret
      exact ⟨ret_int (ret_mod o ho _ H.out), rfl⟩
set_option maxRecDepth 100000 in
set_option maxHeartbeats 1000000 in
theorem refbox_any (x : UInt8) (a : Int) (ha : a = x.toNat) (w : World) :
    Calls Try.prog 11 #[.int .u8 a] w fun e w' => e = .returned (.int .u8 (refAff (refInv x)).toNat) ∧ w = w' := by
  subst ha
  go_enter Try.func11, Try.ntmps11
  go_wp2_with fail
  refine (refinv_any x _ rfl _).mono ?_
  rintro e w' ⟨rfl, rfl⟩
  go_wp2_with fail
  refine (refaff_any (refInv x) _ rfl _).mono ?_
  rintro e w' ⟨rfl, rfl⟩
  go_wp2_with fail
  go_ret
  exact ⟨ret_int rfl, rfl⟩
theorem below_drewN {B : Nat} {a w : World} (h : Below B a w) (n : Nat) : Below B a (w.drewN n) := ⟨h.os, h.tape, h.output, h.size, h.block⟩
set_option maxRecDepth 100000 in
set_option maxHeartbeats 1000000 in
theorem gfawake_any (h1 : gmul 87 131 = 193) (h2 : gbox 0 = 99) (h3 : gbox 83 = 237) (h4 : gunbox 237 = 83) (h5 : ginv 1 = 1) (w : World) :
    Calls Try.prog 7 #[] w fun e w' => e = .returned (.bool true) ∧ Below w.heap.size w w' := by
  have k1 : (((gmul 87 131).toNat : Int) == 193) = true := by rw [h1]; rfl
  have k2 : (((gbox 0).toNat : Int) == 99) = true := by rw [h2]; rfl
  have k3 : (((gbox 83).toNat : Int) == 237) = true := by rw [h3]; rfl
  have k4 : (((gunbox 237).toNat : Int) == 83) = true := by rw [h4]; rfl
  have k5 : (((ginv 1).toNat : Int) == 1) = true := by rw [h5]; rfl
  clear h1 h2 h3 h4 h5
  go_enter Try.func7, Try.ntmps7
  go_wp2_with fail
  refine (gfmul_any 87 131 _ _ rfl rfl _).mono ?_
  rintro e w' ⟨rfl, rfl⟩
  go_wp2_with fail
  refine (gfbox_any 0 _ rfl _).mono ?_
  rintro e w' ⟨rfl, m, rfl⟩
  go_wp2_with fail
  refine (gfbox_any 83 _ rfl _).mono ?_
  rintro e w' ⟨rfl, m, rfl⟩
  go_wp2_with fail
  refine (gfunbox_any 237 _ rfl _).mono ?_
  rintro e w' ⟨rfl, m, rfl⟩
  go_wp2_with fail
  refine (gfinv_any 1 _ rfl _).mono ?_
  rintro e w' ⟨rfl, rfl⟩
  go_wp2_with fail
  go_ret
  exact ⟨rfl, below_drewN (Below.refl _ _) _⟩
set_option maxRecDepth 100000 in
set_option maxHeartbeats 1000000 in
theorem gfboxes_any (hbox : ∀ x, gbox x = refAff (refInv x)) (hinv : ∀ x, ginv x = refInv x) (h1 : gmul 87 131 = 193) (h2 : gbox 0 = 99) (h3 : gbox 83 = 237) (h4 : gunbox 237 = 83) (h5 : ginv 1 = 1) (x : UInt8) (w : World) :
    Calls Try.prog 3 #[.int .u8 x.toNat] w fun e w' => e = .returned (.bool true) ∧ Below w.heap.size w w' := by
  have A := Lib.hid (gfawake_any h1 h2 h3 h4 h5)
  clear h1 h2 h3 h4 h5
  have e1 : (((ginv x).toNat : Int) == ((refInv x).toNat : Int)) = true := by rw [hinv x]; simp
  have e2 : (((gbox x).toNat : Int) == ((refAff (refInv x)).toNat : Int)) = true := by rw [hbox x]; simp
  clear hbox hinv
  go_enter Try.func3, Try.ntmps3
  go_wp2_with fail
  refine (A.out _).mono ?_
  rintro e w1 ⟨rfl, hb⟩
  go_wp2_with fail
  refine (gfinv_any x _ rfl _).mono ?_
  rintro e w' ⟨rfl, rfl⟩
  go_wp2_with fail
  refine (refinv_any x _ rfl _).mono ?_
  rintro e w' ⟨rfl, rfl⟩
  go_wp2_with fail
  refine (gfbox_any x _ rfl _).mono ?_
  rintro e w' ⟨rfl, m, rfl⟩
  go_wp2_with fail
  refine (refbox_any x _ rfl _).mono ?_
  rintro e w' ⟨rfl, rfl⟩
  go_wp2_with fail
  go_ret
  exact ⟨rfl, below_drewN hb _⟩
end Go.Proofs.Ytbmhmohpnhckgaa
