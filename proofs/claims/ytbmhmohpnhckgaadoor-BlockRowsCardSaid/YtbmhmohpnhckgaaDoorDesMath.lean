import Derived.Test.YtbmhmohpnhckgaaDoorDesPlain
/- plain laws of DES: what is enciphered and deciphered is what it was -/
namespace Lb
theorem push_bit0 (a b : Nat) : (a * 2 + b % 2).testBit 0 = decide (b % 2 = 1) := by
  rw [Nat.testBit_zero]
  congr 1
  rw [eq_iff_iff]; omega
theorem push_bitS (a b i : Nat) : (a * 2 + b % 2).testBit (i + 1) = a.testBit i := by
  rw [Nat.testBit_succ]
  congr 1; omega
theorem div_bit (x i : Nat) : decide (x / 2 ^ i % 2 = 1) = x.testBit i := (Nat.testBit_eq_decide_div_mod_eq).symm
theorem permN_bit (x size : Nat) (P : Nat → Nat) (n : Nat) : ∀ j, j < n → (permN x size P n).testBit (n - 1 - j) = x.testBit (size - P j) := by
  induction n with
  | zero => intro j h; omega
  | succ n ih =>
    intro j hj
    simp only [permN]
    by_cases e : j = n
    · subst e
      rw [show j + 1 - 1 - j = 0 by omega, push_bit0, div_bit]
    · rw [show n + 1 - 1 - j = (n - 1 - j) + 1 by omega, push_bitS]
      exact ih j (by omega)
theorem bit_shift (b i k : Nat) (hb : b < 2) : (b * 2 ^ k).testBit i = (decide (i = k) && decide (b = 1)) := by
  rw [Nat.testBit_mul_two_pow]
  by_cases h : i = k
  · subst h
    rw [Nat.sub_self, Nat.testBit_zero]
    have : (b % 2 = 1) = (b = 1) := by rw [eq_iff_iff]; omega
    simp [this]
  · by_cases h2 : k ≤ i
    · have h3 : b.testBit (i - k) = false := Nat.testBit_lt_two_pow (Nat.lt_of_lt_of_le hb (by
        have := Nat.pow_le_pow_right (n := 2) (by decide) (show 1 ≤ i - k by omega)
        simpa using this))
      simp [h, h3]
    · simp [h, h2]
theorem unpermN_bit (x : Nat) (P : Nat → Nat) (n : Nat) (hP : ∀ k, k < n → 1 ≤ P k ∧ P k ≤ 64) (hinj : ∀ j k, j < n → k < n → P j = P k → j = k) : ∀ m, m ≤ n → ∀ j, j < n → (unpermN x P m).testBit (64 - P j) = (decide (j < m) && x.testBit (63 - j)) := by
  intro m
  induction m with
  | zero => intro _ j _; simp [unpermN]
  | succ m ih =>
    intro hm j hj
    simp only [unpermN]
    rw [Nat.testBit_or, ih (by omega) j hj, bit_shift _ _ _ (Nat.mod_lt _ (by decide)), div_bit]
    have h1 := hP j hj
    have h2 := hP m (by omega)
    by_cases e : j = m
    · subst e
      simp
    · have h3 : ¬ (64 - P j = 64 - P m) := fun h => e (hinj j m hj (by omega) (by omega))
      have h4 : (j < m + 1) = (j < m) := by rw [eq_iff_iff]; omega
      simp [h3, h4]
/-- a table of 64 places, each once -/
structure Perm64 (P : Nat → Nat) : Prop where
  range : ∀ k, k < 64 → 1 ≤ P k ∧ P k ≤ 64
  inj : ∀ j k, j < 64 → k < 64 → P j = P k → j = k
  surj : ∀ p, 1 ≤ p → p ≤ 64 → ∃ k, k < 64 ∧ P k = p
theorem perm_unperm {P : Nat → Nat} (h : Perm64 P) (y : Nat) (hy : y < 2 ^ 64) : permN (unpermN y P 64) 64 P 64 = y := by
  apply Nat.eq_of_testBit_eq
  intro i
  by_cases hi : i < 64
  · have h1 := permN_bit (unpermN y P 64) 64 P 64 (63 - i) (by omega)
    rw [show 64 - 1 - (63 - i) = i by omega] at h1
    rw [h1, unpermN_bit y P 64 h.range h.inj 64 (Nat.le_refl _) (63 - i) (by omega)]
    rw [show 63 - (63 - i) = i by omega]
    have : 63 - i < 64 := by omega
    simp [this]
  · have h1 : 2 ^ 64 ≤ 2 ^ i := Nat.pow_le_pow_right (by decide) (by omega)
    rw [Nat.testBit_lt_two_pow (Nat.lt_of_lt_of_le (permN_lt _ _ _ _) h1), Nat.testBit_lt_two_pow (Nat.lt_of_lt_of_le hy h1)]
theorem unperm_perm {P : Nat → Nat} (h : Perm64 P) (x : Nat) (hx : x < 2 ^ 64) : unpermN (permN x 64 P 64) P 64 = x := by
  apply Nat.eq_of_testBit_eq
  intro i
  by_cases hi : i < 64
  · obtain ⟨j, hj, hp⟩ := h.surj (64 - i) (by omega) (by omega)
    have h1 := unpermN_bit (permN x 64 P 64) P 64 h.range h.inj 64 (Nat.le_refl _) j hj
    have h2 := permN_bit x 64 P 64 j hj
    rw [show 64 - 1 - j = 63 - j by omega] at h2
    rw [h2, hp, show 64 - (64 - i) = i by omega] at h1
    rw [h1]; simp [hj]
  · have h1 : 2 ^ 64 ≤ 2 ^ i := Nat.pow_le_pow_right (by decide) (by omega)
    rw [Nat.testBit_lt_two_pow (Nat.lt_of_lt_of_le (unpermN_lt _ _ 64 (fun k hk => (h.range k hk).1) 64 (Nat.le_refl _)) h1), Nat.testBit_lt_two_pow (Nat.lt_of_lt_of_le hx h1)]
theorem numN_bytN (x : Nat) (hx : x < 2 ^ 64) : numN (bytN x) 8 = x := by
  simp only [numN, bytN, UInt8.toNat_ofNat']
  omega
theorem bytN_numN (F : Nat → UInt8) (i : Nat) (hi : i < 8) : bytN (numN F 8) i = F i := by
  have h0 := (F 0).toNat_lt
  have h1 := (F 1).toNat_lt
  have h2 := (F 2).toNat_lt
  have h3 := (F 3).toNat_lt
  have h4 := (F 4).toNat_lt
  have h5 := (F 5).toNat_lt
  have h6 := (F 6).toNat_lt
  have h7 := (F 7).toNat_lt
  apply UInt8.toNat_inj.1
  simp only [numN, bytN, UInt8.toNat_ofNat']
  rcases (show i = 0 ∨ i = 1 ∨ i = 2 ∨ i = 3 ∨ i = 4 ∨ i = 5 ∨ i = 6 ∨ i = 7 by omega) with rfl | rfl | rfl | rfl | rfl | rfl | rfl | rfl <;> simp only [Nat.reduceMul, Nat.reduceSub, Nat.reducePow] <;> omega
/-- rounds -/
def feist (f : Nat → Nat → Nat) : List Nat → Nat × Nat → Nat × Nat
  | [], p => p
  | k :: ks, p => feist f ks (p.2, p.1 ^^^ f p.2 k)
theorem feist_snoc (f : Nat → Nat → Nat) (ks : List Nat) (k : Nat) : ∀ p, feist f (ks ++ [k]) p = ((feist f ks p).2, (feist f ks p).1 ^^^ f (feist f ks p).2 k) := by
  induction ks with
  | nil => intro p; rfl
  | cons a ks ih => intro p; exact ih _
theorem feist_back (f : Nat → Nat → Nat) (ks : List Nat) : ∀ p, feist f ks.reverse ((feist f ks p).2, (feist f ks p).1) = (p.2, p.1) := by
  induction ks with
  | nil => intro p; rfl
  | cons k ks ih =>
    intro p
    rw [List.reverse_cons, feist_snoc]
    simp only [feist]
    rw [ih]
    simp [Nat.xor_assoc]
theorem feist_lt (f : Nat → Nat → Nat) (hf : ∀ r k, f r k < 2 ^ 32) (ks : List Nat) : ∀ p : Nat × Nat, p.1 < 2 ^ 32 → p.2 < 2 ^ 32 → (feist f ks p).1 < 2 ^ 32 ∧ (feist f ks p).2 < 2 ^ 32 := by
  induction ks with
  | nil => intro p h1 h2; exact ⟨h1, h2⟩
  | cons k ks ih => intro p h1 h2; exact ih _ h2 (Nat.xor_lt_two_pow h1 (hf _ _))
/-- the block cipher on numbers -/
def desN (f : Nat → Nat → Nat) (P : Nat → Nat) (ks : List Nat) (x : Nat) : Nat :=
  let p := feist f ks (permN x 64 P 64 / 2 ^ 32, permN x 64 P 64 % 2 ^ 32)
  unpermN (p.2 * 2 ^ 32 + p.1) P 64
theorem desN_lt (f : Nat → Nat → Nat) {P : Nat → Nat} (h : Perm64 P) (ks : List Nat) (x : Nat) : desN f P ks x < 2 ^ 64 := unpermN_lt _ _ 64 (fun k hk => (h.range k hk).1) 64 (Nat.le_refl _)
theorem desN_back (f : Nat → Nat → Nat) (hf : ∀ r k, f r k < 2 ^ 32) {P : Nat → Nat} (h : Perm64 P) (ks : List Nat) (x : Nat) (hx : x < 2 ^ 64) : desN f P ks.reverse (desN f P ks x) = x := by
  have h0 := permN_lt x 64 P 64
  obtain ⟨y, hy⟩ : ∃ y, y = permN x 64 P 64 := ⟨_, rfl⟩
  have hl := feist_lt f hf ks (y / 2 ^ 32, y % 2 ^ 32) (by simp only; omega) (by simp only; omega)
  have hb := feist_back f ks (y / 2 ^ 32, y % 2 ^ 32)
  unfold desN
  simp only [← hy]
  generalize feist f ks (y / 2 ^ 32, y % 2 ^ 32) = q at hl hb
  obtain ⟨l, r⟩ := q
  simp only at hl hb ⊢
  rw [perm_unperm h _ (by omega), show (r * 2 ^ 32 + l) / 2 ^ 32 = r by omega, show (r * 2 ^ 32 + l) % 2 ^ 32 = l by omega, hb]
  simp only
  rw [show y / 2 ^ 32 * 2 ^ 32 + y % 2 ^ 32 = y by omega, hy, unperm_perm h x hx]
theorem pIP_perm : Perm64 pIP := by
  have h1 : ∀ k, k < 64 → 1 ≤ pIP k ∧ pIP k ≤ 64 := by decide +kernel
  have h2 : ∀ p, p < 64 → ∃ k, k < 64 ∧ pIP k = p + 1 := by decide +kernel
  have h3 : ∀ j, j < 64 → ∀ k, k < 64 → pIP j = pIP k → j = k := by decide +kernel
  exact ⟨h1, fun j k hj hk h => h3 j hj k hk h, fun p hp hq => by
    obtain ⟨k, hk, e⟩ := h2 (p - 1) (by omega)
    exact ⟨k, hk, by omega⟩⟩
/-- the block cipher -/
def desF (key b : Nat → UInt8) (back : Bool) : Nat → UInt8 := bytN (desN mixN pIP (ksL (keyN key) back) (numN b 8))
theorem numN_congr (F G : Nat → UInt8) (n : Nat) (h : ∀ i, i < n → F i = G i) : numN F n = numN G n := by
  induction n with
  | zero => rfl
  | succ n ih => simp only [numN]; rw [ih (fun i hi => h i (by omega)), h n (by omega)]
theorem desF_back (key b : Nat → UInt8) (back : Bool) (i : Nat) (hi : i < 8) : desF key (desF key b back) (!back) i = b i := by
  unfold desF
  rw [numN_bytN _ (desN_lt _ pIP_perm _ _), ksL_back, desN_back mixN mixN_lt pIP_perm _ _ (by have := numN_lt b 8; simpa using this)]
  exact bytN_numN b i hi
theorem desF_congr (key b c : Nat → UInt8) (back : Bool) (h : ∀ i, i < 8 → b i = c i) : desF key b back = desF key c back := by
  unfold desF
  rw [numN_congr b c 8 h]
end Lb
