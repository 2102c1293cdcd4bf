/- plain laws of what Do answers -/
import Derived.Test.YtbmhmohpnhckgaaDoorDo5
namespace Go.Proofs.YtbmhmohpnhckgaaDoor
open Go.RowKit Lb
theorem draw_nil (key : List UInt8) (back : Bool) (draws : List UInt8) : drawP [] key back draws = if draws.length < 16 then (none, draws) else (some (draws.take 16), draws.drop 16) := by
  rw [drawP]
  by_cases h : draws.length < 16
  · rw [dif_pos h, if_pos h]
  · rw [dif_neg h, if_neg h]; rfl
theorem ask_nil (key : List UInt8) (back : Bool) (draws x : List UInt8) : askP [] draws key x back = if draws.length < 16 then (none, [], draws) else (some (draws.take 16), [if back then ⟨key, draws.take 16, x⟩ else ⟨key, x, draws.take 16⟩], draws.drop 16) := by
  unfold askP
  rw [show List.find? (hitP key back x) [] = none from rfl, draw_nil]
  by_cases h : draws.length < 16
  · rw [if_pos h, if_pos h]
  · rw [if_neg h, if_neg h]; rfl
theorem hit_same (key x y : List UInt8) (back : Bool) : hitP key back x (if back then ⟨key, y, x⟩ else ⟨key, x, y⟩) = true := by cases back <;> simp [hitP, BRow.from_]
theorem hit_turn (key x y : List UInt8) (back : Bool) : hitP key (!back) y (if back then ⟨key, y, x⟩ else ⟨key, x, y⟩) = true := by cases back <;> simp [hitP, BRow.from_]
theorem to_same (key x y : List UInt8) (back : Bool) : BRow.to_ (if back then ⟨key, y, x⟩ else ⟨key, x, y⟩) back = y := by cases back <;> rfl
theorem to_turn (key x y : List UInt8) (back : Bool) : BRow.to_ (if back then ⟨key, y, x⟩ else ⟨key, x, y⟩) (!back) = x := by cases back <;> rfl
theorem ask_hit1 (r : BRow) (t key x : List UInt8) (back : Bool) (h : hitP key back x r = true) : askP [r] t key x back = (some (r.to_ back), [r], t) := by
  unfold askP
  rw [show List.find? (hitP key back x) [r] = some r by simp [List.find?, h]]
/-- the first block that is asked -/
theorem doP_first (k : Int) (hk : k = 1 ∨ k = 2 ∨ k = 3) (draws key x : List UInt8) (back : Bool) (hx : x.length = sizeK k) :
    (doP k [] draws key x back = (none, [], draws) ∧ k = 3 ∧ draws.length < 16) ∨ ∃ y rows t, doP k [] draws key x back = (some y, rows, t) ∧ doP k rows t key y (!back) = (some x, rows, t) ∧ doP k rows t key x back = (some y, rows, t) ∧ (k = 3 → 16 ≤ draws.length) ∧ rows.length ≤ 1 ∧ t.length ≤ draws.length ∧ (k = 3 → rows = [if back then ⟨key, y, x⟩ else ⟨key, x, y⟩]) := by
  rcases hk with rfl | rfl | rfl
  · refine .inr ⟨aesL key x back, [], draws, rfl, ?_, rfl, fun h => absurd h (by decide), by decide, Nat.le_refl _, fun h => absurd h (by decide)⟩
    have h := aesL_back key x back hx
    show (some (aesL key (aesL key x back) (!back)), ([] : List BRow), draws) = _
    rw [h]
  · refine .inr ⟨tripL key x back, [], draws, rfl, ?_, rfl, fun h => absurd h (by decide), by decide, Nat.le_refl _, fun h => absurd h (by decide)⟩
    have h := tripL_back key x back hx
    show (some (tripL key (tripL key x back) (!back)), ([] : List BRow), draws) = _
    rw [h]
  · have e : ∀ rows t z b, doP 3 rows t key z b = askP rows t key z b := fun _ _ _ _ => rfl
    by_cases h : draws.length < 16
    · exact .inl ⟨by rw [e, ask_nil, if_pos h], rfl, h⟩
    · refine .inr ⟨draws.take 16, _, draws.drop 16, by rw [e, ask_nil, if_neg h], ?_, ?_, fun _ => by omega, by simp, by simp, fun _ => rfl⟩
      · rw [e, ask_hit1 _ _ _ _ _ (hit_turn _ _ _ _), to_turn]
      · rw [e, ask_hit1 _ _ _ _ _ (hit_same _ _ _ _), to_same]
theorem hit_other (key x y z : List UInt8) (back : Bool) (h : x ≠ z) : hitP key back z (if back then ⟨key, y, x⟩ else ⟨key, x, y⟩) = false := by cases back <;> simp [hitP, BRow.from_, h]
theorem taken_same (key x y c : List UInt8) (back : Bool) : takenP [if back then ⟨key, y, x⟩ else ⟨key, x, y⟩] key back c = (y == c) := by cases back <;> simp [takenP, BRow.to_]
/-- what is drawn isn't taken -/
theorem draw_free (rows : List BRow) (key : List UInt8) (back : Bool) : ∀ (n : Nat) (t : List UInt8), t.length ≤ n → ∀ y t', drawP rows key back t = (some y, t') → takenP rows key back y = false := by
  intro n
  induction n with
  | zero =>
    intro t ht y t' h
    rw [drawP, dif_pos (by omega)] at h
    cases h
  | succ n ih =>
    intro t ht y t' h
    rw [drawP] at h
    by_cases hl : t.length < 16
    · rw [dif_pos hl] at h; cases h
    · rw [dif_neg hl] at h
      cases htk : takenP rows key back (t.take 16) with
      | true =>
        rw [htk, if_pos rfl] at h
        exact ih (t.drop 16) (by rw [List.length_drop]; omega) y t' h
      | false =>
        rw [htk] at h
        simp only [Bool.false_eq_true, if_false, Prod.mk.injEq, Option.some.injEq] at h
        rw [← h.1]; exact htk
/-- two blocks of one key -/
theorem doP_two (k : Int) (hk : k = 1 ∨ k = 2 ∨ k = 3) (draws key x z : List UInt8) (back : Bool) (hx : x.length = sizeK k) (hz : z.length = sizeK k) (y : List UInt8) (rows : List BRow) (t : List UInt8) (h : doP k [] draws key x back = (some y, rows, t)) :
    ((doP k rows t key z back).1 = none ∧ k = 3) ∨ ∃ v, (doP k rows t key z back).1 = some v ∧ (y == v) = (x == z) := by
  have one : ∀ (f : List UInt8 → Bool → List UInt8), f (f x back) (!back) = x → f (f z back) (!back) = z → (f x back == f z back) = (x == z) := fun f h1 h2 => by
    rw [Bool.eq_iff_iff, beq_iff_eq, beq_iff_eq]
    exact ⟨fun e => by rw [← h1, ← h2, e], fun e => by rw [e]⟩
  rcases hk with rfl | rfl | rfl
  · have h' : (some (aesL key x back), ([] : List BRow), draws) = (some y, rows, t) := h
    injection h' with h1 h2
    injection h2 with h2 h3
    injection h1 with h1
    subst h1 h2 h3
    exact .inr ⟨_, rfl, one (aesL key) (aesL_back key x back hx) (aesL_back key z back hz)⟩
  · have h' : (some (tripL key x back), ([] : List BRow), draws) = (some y, rows, t) := h
    injection h' with h1 h2
    injection h2 with h2 h3
    injection h1 with h1
    subst h1 h2 h3
    exact .inr ⟨_, rfl, one (tripL key) (tripL_back key x back hx) (tripL_back key z back hz)⟩
  · have e : ∀ rows t z b, doP 3 rows t key z b = askP rows t key z b := fun _ _ _ _ => rfl
    rw [e, ask_nil] at h
    by_cases hl : draws.length < 16
    · rw [if_pos hl] at h; cases h
    · rw [if_neg hl] at h
      injection h with h1 h2
      injection h2 with h2 h3
      injection h1 with h1
      subst h2
      rw [e, h1]
      by_cases hxz : x = z
      · subst hxz
        refine .inr ⟨y, ?_, by simp⟩
        rw [ask_hit1 _ _ _ _ _ (hit_same _ _ _ _), to_same]
      · have hno : List.find? (hitP key back z) [if back = true then ⟨key, y, x⟩ else ⟨key, x, y⟩] = none := by
          simp only [List.find?, hit_other key x y z back hxz]
        unfold askP
        rw [hno]
        cases hd : drawP [if back = true then ⟨key, y, x⟩ else ⟨key, x, y⟩] key back t with
        | mk o t' =>
          cases o with
          | none => exact .inl ⟨rfl, rfl⟩
          | some v =>
            refine .inr ⟨v, rfl, ?_⟩
            have hf := draw_free _ key back t.length t (Nat.le_refl _) v t' hd
            rw [taken_same] at hf
            rw [hf, Eq.comm, beq_eq_false_iff_ne]
            exact hxz
theorem doP_length (k : Int) (rows : List BRow) (tape key x : List UInt8) (back : Bool) : (doP k rows tape key x back).2.2.length ≤ tape.length ∧ (doP k rows tape key x back).2.1.length ≤ rows.length + 1 := by
  have draw_le : ∀ (n : Nat) (t : List UInt8), t.length ≤ n → (drawP rows key back t).2.length ≤ t.length := by
    intro n
    induction n with
    | zero =>
      intro t ht
      rw [drawP, dif_pos (by omega)]
      exact Nat.le_refl _
    | succ n ih =>
      intro t ht
      rw [drawP]
      by_cases hl : t.length < 16
      · rw [dif_pos hl]; exact Nat.le_refl _
      · rw [dif_neg hl]
        split
        · have := ih (t.drop 16) (by rw [List.length_drop]; omega)
          rw [List.length_drop] at this
          omega
        · simp
  unfold doP
  split
  · unfold askP
    split
    · exact ⟨Nat.le_refl _, by simp⟩
    · have h := draw_le tape.length tape (Nat.le_refl _)
      split <;> rename_i hd <;> rw [hd] at h <;> simp <;> exact h
  · exact ⟨Nat.le_refl _, by simp⟩
end Go.Proofs.YtbmhmohpnhckgaaDoor
