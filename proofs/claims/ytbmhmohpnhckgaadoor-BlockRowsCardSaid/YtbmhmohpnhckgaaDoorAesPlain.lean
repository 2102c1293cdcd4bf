import Derived.Test.YtbmhmohpnhckgaaDoorGfPlain
/- plain: the block cipher AES, as the program reckons it; a block is a function of the place -/
namespace Lb
def tab (n : Nat) (F : Nat → UInt8) : List UInt8 := (List.range n).map F
theorem tab_length (n : Nat) (F : Nat → UInt8) : (tab n F).length = n := by simp [tab]
theorem tab_get (n : Nat) (F : Nat → UInt8) (i : Nat) (h : i < n) : (tab n F)[i]? = some (F i) := by
  simp [tab, h]
theorem tab_congr (n : Nat) (F G : Nat → UInt8) (h : ∀ i, i < n → F i = G i) : tab n F = tab n G := by
  unfold tab
  apply List.map_congr_left
  intro a ha
  exact h a (List.mem_range.1 ha)
theorem tab_set (n : Nat) (F : Nat → UInt8) (k : Nat) (x : UInt8) : (tab n F).set k x = tab n (fun i => if i = k then x else F i) := by
  apply List.ext_getElem?
  intro i
  by_cases hi : i < n
  · rw [tab_get _ _ _ hi, List.getElem?_set]
    by_cases e : k = i
    · subst e; simp [tab_length, hi]
    · rw [if_neg e, if_neg (fun h => e h.symm), tab_get _ _ _ hi]
  · rw [List.getElem?_eq_none (by simp [tab_length]; omega), List.getElem?_eq_none (by simp [tab_length]; omega)]
theorem tab_of (l : List UInt8) (n : Nat) (h : l.length = n) : l = tab n (fun i => l.getD i 0) := by
  subst h
  apply List.ext_getElem?
  intro i
  by_cases hi : i < l.length
  · rw [tab_get _ _ _ hi]; simp [hi]
  · rw [List.getElem?_eq_none (by omega), List.getElem?_eq_none (by simp [tab_length]; omega)]
theorem tab_inj (n : Nat) (F G : Nat → UInt8) (h : tab n F = tab n G) (i : Nat) (hi : i < n) : F i = G i := by
  have h1 := tab_get n F i hi
  rw [h, tab_get n G i hi] at h1
  injection h1 with h1; exact h1.symm
abbrev St := Nat → UInt8
/-- so far: the first k places are new -/
def upto (k : Nat) (new old : St) : St := fun i => if i < k then new i else old i
theorem upto_step (n k : Nat) (new old : St) : (tab n (upto k new old)).set k (new k) = tab n (upto (k + 1) new old) := by
  rw [tab_set]
  apply tab_congr
  intro i _
  unfold upto
  by_cases e : i = k
  · subst e; simp
  · rw [if_neg e]
    by_cases h : i < k
    · rw [if_pos h, if_pos (by omega)]
    · rw [if_neg h, if_neg (by omega)]
theorem upto_0 (new old : St) : upto 0 new old = old := by funext i; simp [upto]
theorem upto_all (n : Nat) (new old : St) : tab n (upto n new old) = tab n new := tab_congr _ _ _ fun i hi => by unfold upto; rw [if_pos hi]
theorem upto_at (k : Nat) (new old : St) : upto k new old k = old k := by unfold upto; simp
theorem upto_ge (k i : Nat) (new old : St) (h : k ≤ i) : upto k new old i = old i := by unfold upto; rw [if_neg (by omega)]
def withK (b : St) (w : List UInt8) (r : Nat) : St := fun i => b i ^^^ w[16 * r + i]?.getD 0
def boxesK (b : St) (box : UInt8 → UInt8) : St := fun i => box (b i)
def rowsK (b : St) (times : Nat) : St := fun i => b ((i + 4 * (i % 4) * times) % 16)
def colSum (b : St) (m : St) (i : Nat) : Nat → UInt8
  | 0 => 0
  | k+1 => colSum b m i k ^^^ gmul (m k) (b (i / 4 * 4 + (i + k) % 4))
def colsK (b : St) (m : St) : St := fun i => colSum b m i 4
/-- in the midst of place k -/
def mid (k : Nat) (x : UInt8) (new old : St) : St := fun i => if i = k then x else upto k new old i
theorem mid_start (n k : Nat) (x : UInt8) (new old : St) : (tab n (upto k new old)).set k x = tab n (mid k x new old) := tab_set _ _ _ _
theorem mid_step (n k : Nat) (x y : UInt8) (new old : St) : (tab n (mid k x new old)).set k y = tab n (mid k y new old) := by
  rw [tab_set]
  apply tab_congr
  intro i _
  unfold mid
  by_cases e : i = k
  · rw [if_pos e, if_pos e]
  · rw [if_neg e, if_neg e, if_neg e]
theorem mid_end (n k : Nat) (new old : St) : tab n (mid k (new k) new old) = tab n (upto (k + 1) new old) := by
  rw [← upto_step, mid_start]
theorem mid_at (k : Nat) (x : UInt8) (new old : St) : mid k x new old k = x := by unfold mid; rw [if_pos rfl]
/-- how many rounds a key of n bytes has; 0: it is none -/
def nr (n : Nat) : Nat := if n = 32 then 14 else if n = 24 then 12 else if n = 16 then 10 else 0
/-- the key's words -/
def last4 (l : List UInt8) : St := fun j => l[l.length - 4 + j]?.getD 0
def tStep (nk i : Nat) (t : St) (p : UInt8) : St :=
  if i % nk = 0 then fun j => if j = 0 then gbox (t 1) ^^^ p else gbox (t ((j + 1) % 4))
  else if nk = 8 ∧ i % 8 = 4 then fun j => gbox (t j) else t
def pStep (nk i : Nat) (p : UInt8) : UInt8 := if i % nk = 0 then gmul p 2 else p
def ext (nk : Nat) (t : St) : Nat → List UInt8 → List UInt8
  | 0, l => l
  | k+1, l => ext nk t k l ++ [(ext nk t k l)[(ext nk t k l).length - 4 * nk]?.getD 0 ^^^ t k]
theorem ext_length (nk : Nat) (t : St) (k : Nat) (l : List UInt8) : (ext nk t k l).length = l.length + k := by
  induction k with
  | zero => rfl
  | succ k ih => simp only [ext, List.length_append, ih, List.length_cons, List.length_nil]; omega
def wGo (nk : Nat) : Nat → Nat → List UInt8 → UInt8 → List UInt8
  | 0, _, l, _ => l
  | m+1, i, l, p => wGo nk m (i + 1) (ext nk (tStep nk i (last4 l) p) 4 l) (pStep nk i p)
def keyWords (key : List UInt8) : List UInt8 := wGo (key.length / 4) (4 * (nr key.length + 1) - key.length / 4) (key.length / 4) key 1
/-- the rounds; m are left, the next is number r -/
def mE : St := fun i => [2, 3, 1, 1].getD i 0
def mD : St := fun i => [14, 11, 13, 9].getD i 0
def encGo (w : List UInt8) (n : Nat) : Nat → Nat → St → St
  | 0, _, b => b
  | m+1, r, b => encGo w n m (r + 1) (withK (if r < n then colsK (rowsK (boxesK b gbox) 1) mE else rowsK (boxesK b gbox) 1) w r)
def encK (key : List UInt8) (b : St) : St := encGo (keyWords key) (nr key.length) (nr key.length) 1 (withK b (keyWords key) 0)
/-- from round r down to 1 -/
def decGo (w : List UInt8) (n : Nat) : Nat → St → St
  | 0, b => b
  | r+1, b => decGo w n r (boxesK (rowsK (if r + 1 < n then colsK (withK b w (r + 1)) mD else withK b w (r + 1)) 3) gunbox)
def decK (key : List UInt8) (b : St) : St := withK (decGo (keyWords key) (nr key.length) (nr key.length) b) (keyWords key) 0
theorem wGo_length (nk : Nat) (m : Nat) : ∀ i l p, (wGo nk m i l p).length = l.length + 4 * m := by
  induction m with
  | zero => intro i l p; rfl
  | succ m ih => intro i l p; simp only [wGo]; rw [ih, ext_length]; omega
theorem keyWords_length (key : List UInt8) (nk : Nat) (hk : key.length = 4 * nk) (hn : nk = 4 ∨ nk = 6 ∨ nk = 8) : (keyWords key).length = 16 * (nr key.length + 1) := by
  unfold keyWords
  rw [wGo_length, hk]
  rcases hn with h | h | h <;> subst h <;> rfl
end Lb
