/- plain: the block cipher DES, as the program reckons it, on numbers -/
namespace Lb
/-- the k-th entry of a table of two decimal digits each -/
def ent (s : ByteArray) (k : Nat) : Nat := ((s.data.toList.getD (2 * k) 0).toNat - 48) * 10 + ((s.data.toList.getD (2 * k + 1) 0).toNat - 48)
def permN (x size : Nat) (P : Nat → Nat) : Nat → Nat
  | 0 => 0
  | k+1 => permN x size P k * 2 + x / 2 ^ (size - P k) % 2
theorem permN_lt (x size : Nat) (P : Nat → Nat) (k : Nat) : permN x size P k < 2 ^ k := by
  induction k with
  | zero => simp [permN]
  | succ k ih =>
    simp only [permN]
    rw [Nat.pow_succ]
    omega
def unpermN (x : Nat) (P : Nat → Nat) : Nat → Nat
  | 0 => 0
  | k+1 => unpermN x P k ||| x / 2 ^ (63 - k) % 2 * 2 ^ (64 - P k)
theorem unpermN_lt (x : Nat) (P : Nat → Nat) (n : Nat) (h : ∀ k, k < n → 1 ≤ P k) (k : Nat) (hk : k ≤ n) : unpermN x P k < 2 ^ 64 := by
  induction k with
  | zero => simp [unpermN]
  | succ k ih =>
    simp only [unpermN]
    refine Nat.or_lt_two_pow (ih (by omega)) ?_
    have h1 := h k (by omega)
    have h2 : 2 ^ (64 - P k) ≤ 2 ^ 63 := Nat.pow_le_pow_right (by decide) (by omega)
    have h3 : x / 2 ^ (63 - k) % 2 * 2 ^ (64 - P k) ≤ 1 * 2 ^ 63 := Nat.mul_le_mul (by omega) h2
    have h4 : (1 : Nat) * 2 ^ 63 < 2 ^ 64 := by decide
    omega
/-- bytes as a number, the first ahead -/
def numN (F : Nat → UInt8) : Nat → Nat
  | 0 => 0
  | k+1 => numN F k * 256 + (F k).toNat
theorem numN_lt (F : Nat → UInt8) (k : Nat) : numN F k < 2 ^ (8 * k) := by
  induction k with
  | zero => simp [numN]
  | succ k ih =>
    simp only [numN]
    have := (F k).toNat_lt
    have e : 2 ^ (8 * (k + 1)) = 2 ^ (8 * k) * 256 := by rw [Nat.mul_add, Nat.pow_add]
    omega
def bytN (x : Nat) : Nat → UInt8 := fun i => UInt8.ofNat (x / 2 ^ (56 - 8 * i))
def turnN (x n : Nat) : Nat := (x * 2 ^ n + x / 2 ^ (28 - n)) % 268435456
/-- the eight boxes: their digits' numbers -/
def boxL : List (List Nat) := [
  [14, 4, 13, 1, 2, 15, 11, 8, 3, 10, 6, 12, 5, 9, 0, 7, 0, 15, 7, 4, 14, 2, 13, 1, 10, 6, 12, 11, 9, 5, 3, 8, 4, 1, 14, 8, 13, 6, 2, 11, 15, 12, 9, 7, 3, 10, 5, 0, 15, 12, 8, 2, 4, 9, 1, 7, 5, 11, 3, 14, 10, 0, 6, 13],
  [15, 1, 8, 14, 6, 11, 3, 4, 9, 7, 2, 13, 12, 0, 5, 10, 3, 13, 4, 7, 15, 2, 8, 14, 12, 0, 1, 10, 6, 9, 11, 5, 0, 14, 7, 11, 10, 4, 13, 1, 5, 8, 12, 6, 9, 3, 2, 15, 13, 8, 10, 1, 3, 15, 4, 2, 11, 6, 7, 12, 0, 5, 14, 9],
  [10, 0, 9, 14, 6, 3, 15, 5, 1, 13, 12, 7, 11, 4, 2, 8, 13, 7, 0, 9, 3, 4, 6, 10, 2, 8, 5, 14, 12, 11, 15, 1, 13, 6, 4, 9, 8, 15, 3, 0, 11, 1, 2, 12, 5, 10, 14, 7, 1, 10, 13, 0, 6, 9, 8, 7, 4, 15, 14, 3, 11, 5, 2, 12],
  [7, 13, 14, 3, 0, 6, 9, 10, 1, 2, 8, 5, 11, 12, 4, 15, 13, 8, 11, 5, 6, 15, 0, 3, 4, 7, 2, 12, 1, 10, 14, 9, 10, 6, 9, 0, 12, 11, 7, 13, 15, 1, 3, 14, 5, 2, 8, 4, 3, 15, 0, 6, 10, 1, 13, 8, 9, 4, 5, 11, 12, 7, 2, 14],
  [2, 12, 4, 1, 7, 10, 11, 6, 8, 5, 3, 15, 13, 0, 14, 9, 14, 11, 2, 12, 4, 7, 13, 1, 5, 0, 15, 10, 3, 9, 8, 6, 4, 2, 1, 11, 10, 13, 7, 8, 15, 9, 12, 5, 6, 3, 0, 14, 11, 8, 12, 7, 1, 14, 2, 13, 6, 15, 0, 9, 10, 4, 5, 3],
  [12, 1, 10, 15, 9, 2, 6, 8, 0, 13, 3, 4, 14, 7, 5, 11, 10, 15, 4, 2, 7, 12, 9, 5, 6, 1, 13, 14, 0, 11, 3, 8, 9, 14, 15, 5, 2, 8, 12, 3, 7, 0, 4, 10, 1, 13, 11, 6, 4, 3, 2, 12, 9, 5, 15, 10, 11, 14, 1, 7, 6, 0, 8, 13],
  [4, 11, 2, 14, 15, 0, 8, 13, 3, 12, 9, 7, 5, 10, 6, 1, 13, 0, 11, 7, 4, 9, 1, 10, 14, 3, 5, 12, 2, 15, 8, 6, 1, 4, 11, 13, 12, 3, 7, 14, 10, 15, 6, 8, 0, 5, 9, 2, 6, 11, 13, 8, 1, 4, 10, 7, 9, 5, 0, 15, 14, 2, 3, 12],
  [13, 2, 8, 4, 6, 15, 11, 1, 10, 9, 3, 14, 5, 0, 12, 7, 1, 15, 13, 8, 10, 3, 7, 4, 12, 5, 6, 11, 0, 14, 9, 2, 7, 11, 4, 1, 9, 12, 14, 2, 0, 6, 10, 13, 15, 3, 5, 8, 2, 1, 14, 7, 4, 10, 8, 13, 15, 12, 9, 0, 3, 5, 6, 11]]
/-- where in its box six bits lead -/
def boxIx (s : Nat) : Nat := (s / 32 * 2 + s % 2) * 16 + s / 2 % 16
def boxN (i s : Nat) : Nat := ((boxL.getD i []).getD (boxIx s) 0)
theorem boxIx_lt : ∀ s, s < 64 → boxIx s < 64 := by decide
theorem boxN_lt : ∀ i, i < 8 → ∀ s, s < 64 → boxN i s < 16 := by decide +kernel
/-- a table -/
def pIP (k : Nat) : Nat := [58, 50, 42, 34, 26, 18, 10, 2, 60, 52, 44, 36, 28, 20, 12, 4, 62, 54, 46, 38, 30, 22, 14, 6, 64, 56, 48, 40, 32, 24, 16, 8, 57, 49, 41, 33, 25, 17, 9, 1, 59, 51, 43, 35, 27, 19, 11, 3, 61, 53, 45, 37, 29, 21, 13, 5, 63, 55, 47, 39, 31, 23, 15, 7].getD k 0
/-- a table -/
def pP (k : Nat) : Nat := [16, 7, 20, 21, 29, 12, 28, 17, 1, 15, 23, 26, 5, 18, 31, 10, 2, 8, 24, 14, 32, 27, 3, 9, 19, 13, 30, 6, 22, 11, 4, 25].getD k 0
/-- a table -/
def pC1 (k : Nat) : Nat := [57, 49, 41, 33, 25, 17, 9, 1, 58, 50, 42, 34, 26, 18, 10, 2, 59, 51, 43, 35, 27, 19, 11, 3, 60, 52, 44, 36, 63, 55, 47, 39, 31, 23, 15, 7, 62, 54, 46, 38, 30, 22, 14, 6, 61, 53, 45, 37, 29, 21, 13, 5, 28, 20, 12, 4].getD k 0
/-- a table -/
def pC2 (k : Nat) : Nat := [14, 17, 11, 24, 1, 5, 3, 28, 15, 6, 21, 10, 23, 19, 12, 4, 26, 8, 16, 7, 27, 20, 13, 2, 41, 52, 31, 37, 47, 55, 30, 40, 51, 45, 33, 48, 44, 49, 39, 56, 34, 53, 46, 42, 50, 36, 29, 32].getD k 0
/-- a hexadecimal digit -/
def hexc (n : Nat) : UInt8 := UInt8.ofNat (if n < 10 then 48 + n else 87 + n)
/-- a box, as the program has it -/
def boxS (i : Nat) : ByteArray := ⟨((boxL.getD i []).map hexc).toArray⟩
theorem boxS_size : ∀ i, i < 8 → (boxS i).size = 64 := by decide +kernel
theorem boxS_byte : ∀ i, i < 8 → ∀ s, s < 64 → (10 ≤ boxN i s → 97 ≤ ((boxS i).data.toList.getD (boxIx s) 0).toNat ∧ ((boxS i).data.toList.getD (boxIx s) 0).toNat = boxN i s + 87) ∧ (boxN i s < 10 → ((boxS i).data.toList.getD (boxIx s) 0).toNat = boxN i s + 48) := by decide +kernel
/-- the table s is P -/
def tblB (s : ByteArray) (P : Nat → Nat) (n : Nat) : Bool :=
  s.size == 2 * n && (List.range n).all fun k => decide (48 ≤ (s.data.toList.getD (2 * k) 0).toNat) && decide ((s.data.toList.getD (2 * k) 0).toNat ≤ 57) && decide (48 ≤ (s.data.toList.getD (2 * k + 1) 0).toNat) && decide ((s.data.toList.getD (2 * k + 1) 0).toNat ≤ 57) && ent s k == P k
theorem permN_congr (x m : Nat) (P Q : Nat → Nat) (n : Nat) (h : ∀ k, k < n → P k = Q k) : permN x m P n = permN x m Q n := by
  induction n with
  | zero => rfl
  | succ n ih => simp only [permN]; rw [ih (fun k hk => h k (by omega)), h n (by omega)]
theorem unpermN_congr (x : Nat) (P Q : Nat → Nat) (n : Nat) (h : ∀ k, k < n → P k = Q k) : unpermN x P n = unpermN x Q n := by
  induction n with
  | zero => rfl
  | succ n ih => simp only [unpermN]; rw [ih (fun k hk => h k (by omega)), h n (by omega)]
/-- a round's function -/
def wideN (half : Nat) : Nat := half % 2 * 2 ^ 33 + (half * 2 + half / 2 ^ 31)
def sixN (w key i : Nat) : Nat := (w / 2 ^ (28 - 4 * i) % 64) ^^^ (key / 2 ^ (42 - 6 * i) % 64)
theorem sixN_lt (w key i : Nat) : sixN w key i < 64 := Nat.xor_lt_two_pow (n := 6) (Nat.mod_lt _ (by decide)) (Nat.mod_lt _ (by decide))
def mixGo (w key : Nat) : Nat → Nat
  | 0 => 0
  | k+1 => mixGo w key k * 16 + boxN k (sixN w key k)
theorem mixGo_lt (w key : Nat) (k : Nat) (hk : k ≤ 8) : mixGo w key k < 2 ^ (4 * k) := by
  induction k with
  | zero => simp [mixGo]
  | succ k ih =>
    simp only [mixGo]
    have := ih (by omega)
    have := boxN_lt k (by omega) _ (sixN_lt w key k)
    have e : 2 ^ (4 * (k + 1)) = 2 ^ (4 * k) * 16 := by rw [Nat.mul_add, Nat.pow_add]
    omega
def mixN (half key : Nat) : Nat := permN (mixGo (wideN half) key 8) 32 pP 32
theorem mixN_lt (half key : Nat) : mixN half key < 2 ^ 32 := permN_lt _ _ _ _
/-- the round keys -/
def shN (k : Nat) : Nat := if k = 0 ∨ k = 1 ∨ k = 8 ∨ k = 15 then 1 else 2
def cdN (x : Nat) : Nat → Nat × Nat
  | 0 => (x / 2 ^ 28, x % 2 ^ 28)
  | k+1 => (turnN (cdN x k).1 (shN k), turnN (cdN x k).2 (shN k))
theorem turnN_lt (x n : Nat) : turnN x n < 268435456 := Nat.mod_lt _ (by decide)
theorem cdN_lt (x : Nat) (hx : x < 2 ^ 56) (k : Nat) : (cdN x k).1 < 268435456 ∧ (cdN x k).2 < 268435456 := by
  cases k with
  | zero => simp only [cdN]; omega
  | succ k => exact ⟨turnN_lt _ _, turnN_lt _ _⟩
def rkN (x k : Nat) : Nat := permN ((cdN x (k + 1)).1 * 2 ^ 28 + (cdN x (k + 1)).2) 56 pC2 48
def keyN (key : Nat → UInt8) : Nat → Nat := rkN (permN (numN key 8) 64 pC1 56)
theorem keyN_lt (key : Nat → UInt8) (k : Nat) : keyN key k < 2 ^ 48 := permN_lt _ _ _ _
/-- the order in which they are taken -/
def ksL (K : Nat → Nat) (back : Bool) : List Nat := (List.range 16).map fun i => K (if back then 15 - i else i)
theorem ksL_back (K : Nat → Nat) (back : Bool) : ksL K (!back) = (ksL K back).reverse := by cases back <;> rfl
end Lb
